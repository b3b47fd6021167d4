/- Gif: the stable sort of whole numbers: short rows, merging. -/
import Derived.Test.YtiiaihiliimcoaaRPA4
import Derived.Test.YtiiaihiliimcoaaRPA7
set_option linter.unusedVariables false
set_option linter.unusedSimpArgs false
namespace Go.Proofs.Ytiiaihiliimcoaa
open Go Go.Vc Go.RowKit Go.Qn
set_option maxRecDepth 100000
structure CmpI (va : Value) (key : Int → Int) (b : Nat) (Q : World → Prop) : Prop where
 go : ∀ (u : World) (x y : Int) (R : Ending → World → Prop), Q u → (∀ (n : Int) w', Ext u w' → (n < 0 ↔ key x < key y) → R (.returned (i64 n)) w') → callV P va [i64 x, i64 y] u R
 kp : ∀ u u', Q u → Chg (· = b) u u' → Q u'
theorem insortI_spec {va : Value} {key : Int → Int} {Q : World → Prop} {w : World} {b n cap a e : Nat} {D : Nat → Int} {R : Ending → World → Prop} (h : Si w b n D) (hQ : Q w) (hC : CmpI va key b Q) (hae : a ≤ e) (hen : e ≤ n) (hn : n ≤ 2 ^ 40)
  (hR : ∀ w' E, Si w' b n E → Chg (· = b) w w' → Rear key D E a e → AscF key E a e → R (.returned (.tuple #[])) w') :
  Calls P F.slices_insertionSortCmpFunc_int #[.slice (some ⟨b, 0, none⟩) n cap, i64 a, i64 e, va] w R := by
 refine calls_slices_insertionSortCmpFunc_int _ _ _ _ _ _ _ _ ?_
 unfold vc_slices_insertionSortCmpFunc_int
 rw [w64 (x := (a : Int) + 1) (by omega) (by omega)]
 refine ⟨fun vs u => ∃ (k : Nat) (E : Nat → Int), vs = [i64 k] ∧ a + 1 ≤ k ∧ (k ≤ e ∨ k = a + 1) ∧ Si u b n E ∧ Chg (· = b) w u ∧ Rear key D E a e ∧ AscF key E a k, fun vs _ => match vs with | [.int _ k] => (e - k).toNat | _ => 0,
  ⟨a + 1, D, by simp, Nat.le_refl _, .inr rfl, h, Chg.refl _ _, Rear.refl _ _ _ _, AscF.short (Nat.le_refl _)⟩, fun k' w1 hI => ?_⟩
 obtain ⟨k, E, hv, hk0, hk1, hS, hCh, hRe, hA⟩ := hI
 obtain rfl : k' = k := by simpa using hv
 refine brB_i (fun hlt => ?_) fun hge => ?_
 ·have hlt : k < e := by simp at hlt; omega
  refine ⟨fun vs u => vs = [] ∧ ∃ E : Nat → Int, Si u b n E ∧ Chg (· = b) w u ∧ Rear key D E a e ∧ AscF key E a (k + 1), ?_, fun w4 hI => ?_⟩
  ·refine ⟨fun vs u => ∃ (j : Nat) (E : Nat → Int), vs = [i64 j] ∧ a ≤ j ∧ j ≤ k ∧ Si u b n E ∧ Chg (· = b) w u ∧ Rear key D E a e ∧ Ins key E a j k, fun vs _ => match vs with | [.int _ j] => j.toNat | _ => 0,
    ⟨k, E, rfl, by omega, Nat.le_refl _, hS, hCh, hRe, Ins.start hA⟩, fun j' w2 hI => ?_⟩
   obtain ⟨j, E2, hv2, hj0, hj1, hS2, hCh2, hRe2, hIn⟩ := hI
   obtain rfl : j' = j := by simpa using hv2
   refine brB_i (fun hgt => ?_) fun hle => ?_
   ·have hgt : a < j := by simp at hgt; omega
    rw [w64 (x := (j : Int) - 1) (by omega) (by omega)]
    have ej : ((j : Int) - 1).toNat = j - 1 := by omega
    have ej' : (j : Int).toNat = j := by omega
    refine hS2.drew.ld (by omega) (by omega) fun e1 => ⟨_, e1, ?_⟩
    refine hS2.drew.ld (by omega) (by omega) fun e1 => ⟨_, e1, ?_⟩
    rw [ej, ej']
    refine hC.go _ (E2 j) (E2 (j - 1)) _ (hC.kp _ _ hQ (chg_dr hCh2)) fun c w3 hE3 hc => ⟨c, rfl, ?_⟩
    have hS3 := (hS2.drew.ext hE3).drew
    have hCh3 := chg_dr (chgb (chg_dr hCh2) hE3.chg)
    refine brB_i (fun hlt => ?_) fun hge => ?_
    ·have hlt : key (E2 j) < key (E2 (j - 1)) := hc.1 (by simpa using hlt)
     refine hS3.ld (by omega) (by omega) fun e1 => ⟨_, e1, ?_⟩
     refine hS3.ld (by omega) (by omega) fun e1 => ⟨_, e1, ?_⟩
     rw [ej, ej']
     refine hS3.st (by omega) (by omega) ?_
     rw [ej']
     have h1 := hS3.put (i := j) (by omega) (E2 (j - 1))
     refine h1.st (i := (j : Int) - 1) (by omega) (by omega) ?_
     rw [ej]
     obtain ⟨h2, h3⟩ := hS3.two (i := j) (j := j - 1) (by omega) (by omega)
     obtain ⟨i, rfl⟩ : ∃ i, j = i + 1 := ⟨j - 1, by omega⟩
     simp only [Nat.add_sub_cancel] at *
     rw [swpI_comm] at h2
     refine ⟨⟨i, _, by simp, by omega, by omega, h2, chgb hCh3 h3, hRe2.trans ((Rear.swp hlt).wide (by omega) (by omega) (by omega)), hIn.step (by omega) (by omega) hlt⟩, ?_⟩
     show (((i + 1 : Nat) : Int) - 1).toNat < ((i + 1 : Nat) : Int).toNat
     omega
    ·have hge : key (E2 (j - 1)) ≤ key (E2 j) := by
      have : ¬ c < 0 := by simpa using hge
      have := mt hc.2 this
      omega
     exact ⟨rfl, E2, hS2.drew.ext hE3, chgb (chg_dr hCh2) hE3.chg, hRe2, hIn.done (.inr ⟨j - 1, by omega, hge⟩)⟩
   ·have hle : j ≤ a := by simp at hle; omega
    exact ⟨rfl, E2, hS2.drew, chg_dr hCh2, hRe2, hIn.done (.inl hle)⟩
  ·obtain ⟨_, E2, h1, h2, h3, h4⟩ := hI
   rw [w64 (x := (k : Int) + 1) (by omega) (by omega)]
   exact ⟨⟨k + 1, E2, by simp, by omega, .inl (by omega), h1, h2, h3, h4⟩, by show ((e : Int) - ((k : Int) + 1)).toNat < ((e : Int) - k).toNat; omega⟩
 ·have hge : e ≤ k := by simp at hge; omega
  exact hR w1 E hS hCh hRe (hA.sub (Nat.le_refl _) hge)
theorem symMergeI_spec {va : Value} {key : Int → Int} {Q : World → Prop} {b n cap : Nat} (hC : CmpI va key b Q) (hn : n ≤ 2 ^ 40) : ∀ (d : Nat) {w : World} {D : Nat → Int} {a m e : Nat} {R : Ending → World → Prop}, e - a ≤ d → a < m → m < e → e ≤ n →
  Si w b n D → Q w → AscF key D a m → AscF key D m e →
  (∀ w' E, Si w' b n E → Chg (· = b) w w' → Rear key D E a e → AscF key E a e → R (.returned (.tuple #[])) w') →
  Calls P F.slices_symMergeCmpFunc_int #[.slice (some ⟨b, 0, none⟩) n cap, i64 a, i64 m, i64 e, va] w R := by
 intro d
 induction d with
 | zero => intro w D a m e R hd h1 h2; omega
 | succ d ih =>
 intro w D a m e R hd ham hme hen hS hQ hL hRt hR
 refine calls_slices_symMergeCmpFunc_int _ _ _ _ _ _ _ _ _ ?_
 unfold vc_slices_symMergeCmpFunc_int
 rw [w64 (x := (m : Int) - a) (by omega) (by omega)]
 refine brB_i (fun h1 => ?_) fun h1 => ?_
 ·-- one on the left
  have h1 : m = a + 1 := by simp at h1; omega
  refine ⟨fun vs u => ∃ i j : Nat, vs = [i64 i, i64 j] ∧ m ≤ i ∧ i ≤ j ∧ j ≤ e ∧ Si u b n D ∧ Chg (· = b) w u ∧ (i = m ∨ key (D (i - 1)) < key (D a)) ∧ (j = e ∨ key (D a) ≤ key (D j)),
   fun vs _ => match vs with | [.int _ i, .int _ j] => (j - i).toNat | _ => 0, ⟨m, e, rfl, Nat.le_refl _, by omega, Nat.le_refl _, hS, Chg.refl _ _, .inl rfl, .inl rfl⟩, fun i' j' w1 hI => ?_⟩
  obtain ⟨i, j, hv, hi, hij, hj, hS1, hC1, hlt, hle⟩ := hI
  obtain ⟨rfl, rfl⟩ : i' = i ∧ j' = j := by simpa using hv
  refine brB_i (fun hij' => ?_) fun hij' => ?_
  ·have hij' : i < j := by simp at hij'; omega
   refine ⟨fun vs u => ∃ x y : Nat, vs = [i64 x, i64 y] ∧ m ≤ x ∧ x ≤ y ∧ y ≤ e ∧ Si u b n D ∧ Chg (· = b) w u ∧ (x = m ∨ key (D (x - 1)) < key (D a)) ∧ (y = e ∨ key (D a) ≤ key (D y)) ∧ y - x < j - i, ?_, fun x' y' w3 hI => ?_⟩
   ·rw [mid64 (by omega) (by omega)]
    have eh : (((i : Int) + j) / 2).toNat = (i + j) / 2 := by omega
    have ea : (a : Int).toNat = a := by omega
    refine hS1.drew.ld (by omega) (by omega) fun e1 => ⟨_, e1, ?_⟩
    refine hS1.drew.ld (by omega) (by omega) fun e1 => ⟨_, e1, ?_⟩
    rw [eh, ea]
    refine hC.go _ (D ((i + j) / 2)) (D a) _ (hC.kp _ _ hQ (chg_dr hC1)) fun c w2 hE2 hc => ⟨c, rfl, ?_⟩
    have hS2 := hS1.drew.ext hE2
    have hC2 := chgb (chg_dr hC1) hE2.chg
    refine brB_i (fun hlt' => ?_) fun hge' => ?_
    ·have hlt' : key (D ((i + j) / 2)) < key (D a) := hc.1 (by simpa using hlt')
     rw [w64 (x := ((i : Int) + j) / 2 + 1) (by omega) (by omega)]
     exact ⟨(i + j) / 2 + 1, j, by simp, by omega, by omega, hj, hS2, hC2, .inr (by simpa using hlt'), hle, by omega⟩
    ·have hge' : key (D a) ≤ key (D ((i + j) / 2)) := by
      have : ¬ c < 0 := by simpa using hge'
      have := mt hc.2 this
      omega
     exact ⟨i, (i + j) / 2, by simp, hi, by omega, by omega, hS2, hC2, hlt, .inr hge', by omega⟩
   ·obtain ⟨x, y, hv, h2, h3, h4, h5, h6, h7, h8, h9⟩ := hI
    obtain ⟨rfl, rfl⟩ : x' = x ∧ y' = y := by simpa using hv
    exact ⟨⟨x, y, rfl, h2, h3, h4, h5, h6, h7, h8⟩, by show ((y : Int) - x).toNat < ((j : Int) - i).toNat; omega⟩
  ·have hij' : i = j := by simp at hij'; omega
   subst hij'
   rw [w64 (x := (i : Int) - 1) (by omega) (by omega)]
   refine ⟨fun vs u => ∃ k : Nat, vs = [i64 k] ∧ a ≤ k ∧ k ≤ i - 1 ∧ Si u b n (rot D a (a + 1) (k + 1)) ∧ Chg (· = b) w u, fun vs _ => match vs with | [.int _ k] => (i - k).toNat | _ => 0,
    ⟨a, rfl, Nat.le_refl _, by omega, by rw [rot_none D (.inr rfl)]; exact hS1, hC1⟩, fun k' w4 hI => ?_⟩
   obtain ⟨k, hv, hk0, hk1, hS4, hC4⟩ := hI
   obtain rfl : k' = k := by simpa using hv
   refine brB_i (fun hlt' => ?_) fun hge' => ?_
   ·have hlt' : k < i - 1 := by simp at hlt'; omega
    rw [w64 (x := (k : Int) + 1) (by omega) (by omega)]
    have ek : ((k : Int) + 1).toNat = k + 1 := by omega
    have ek' : (k : Int).toNat = k := by omega
    refine hS4.drew.ld (by omega) (by omega) fun e1 => ⟨_, e1, ?_⟩
    refine hS4.drew.ld (by omega) (by omega) fun e1 => ⟨_, e1, ?_⟩
    rw [ek, ek']
    refine hS4.drew.st (by omega) (by omega) ?_
    rw [ek']
    have h2 := hS4.drew.put (i := k) (by omega) (rot D a (a + 1) (k + 1) (k + 1))
    refine h2.st (i := (k : Int) + 1) (by omega) (by omega) ?_
    rw [ek]
    obtain ⟨h3, h4⟩ := hS4.drew.two (i := k) (j := k + 1) (by omega) (by omega)
    rw [rot_up D hk0] at h3
    exact ⟨⟨k + 1, by simp, by omega, by omega, h3, chgb (chg_dr hC4) h4⟩, by show ((i : Int) - ((k : Int) + 1)).toNat < ((i : Int) - k).toNat; omega⟩
   ·have hge' : k = i - 1 := by simp at hge'; omega
    subst h1
    rw [show k + 1 = i by omega] at hS4
    have hcut : Cut key D a a (a + 1) i e := ⟨Nat.le_refl _, by omega, hi, hj, by rcases hlt with h | h; exact .inr (.inl h.symm); exact .inr (.inr h), .inl rfl⟩
    obtain ⟨q1, q2⟩ := hcut.all hL hRt (by rcases hle with h | h; exact .inr (.inl h); exact .inr (.inr (by simpa using h))) (.inl rfl)
    exact hR w4 _ hS4 hC4 q1 q2
 rw [w64 (x := (e : Int) - m) (by omega) (by omega)]
 refine brB_i (fun h2 => ?_) fun h2 => ?_
 ·-- one on the right
  have h2 : e = m + 1 := by simp at h2; omega
  refine ⟨fun vs u => ∃ i j : Nat, vs = [i64 i, i64 j] ∧ a ≤ i ∧ i ≤ j ∧ j ≤ m ∧ Si u b n D ∧ Chg (· = b) w u ∧ (i = a ∨ key (D (i - 1)) ≤ key (D m)) ∧ (j = m ∨ key (D m) < key (D j)),
   fun vs _ => match vs with | [.int _ i, .int _ j] => (j - i).toNat | _ => 0, ⟨a, m, rfl, Nat.le_refl _, by omega, Nat.le_refl _, hS, Chg.refl _ _, .inl rfl, .inl rfl⟩, fun i' j' w1 hI => ?_⟩
  obtain ⟨i, j, hv, hi, hij, hj, hS1, hC1, hle, hlt⟩ := hI
  obtain ⟨rfl, rfl⟩ : i' = i ∧ j' = j := by simpa using hv
  refine brB_i (fun hij' => ?_) fun hij' => ?_
  ·have hij' : i < j := by simp at hij'; omega
   refine ⟨fun vs u => ∃ x y : Nat, vs = [i64 x, i64 y] ∧ a ≤ x ∧ x ≤ y ∧ y ≤ m ∧ Si u b n D ∧ Chg (· = b) w u ∧ (x = a ∨ key (D (x - 1)) ≤ key (D m)) ∧ (y = m ∨ key (D m) < key (D y)) ∧ y - x < j - i, ?_, fun x' y' w3 hI => ?_⟩
   ·rw [mid64 (by omega) (by omega)]
    have eh : (((i : Int) + j) / 2).toNat = (i + j) / 2 := by omega
    have em : (m : Int).toNat = m := by omega
    refine hS1.drew.ld (by omega) (by omega) fun e1 => ⟨_, e1, ?_⟩
    refine hS1.drew.ld (by omega) (by omega) fun e1 => ⟨_, e1, ?_⟩
    rw [eh, em]
    refine hC.go _ (D m) (D ((i + j) / 2)) _ (hC.kp _ _ hQ (chg_dr hC1)) fun c w2 hE2 hc => ⟨c, rfl, ?_⟩
    have hS2 := hS1.drew.ext hE2
    have hC2 := chgb (chg_dr hC1) hE2.chg
    refine brB_i (fun hge' => ?_) fun hlt' => ?_
    ·have hge' : key (D ((i + j) / 2)) ≤ key (D m) := by
      have : ¬ c < 0 := by simpa using hge'
      have := mt hc.2 this
      omega
     rw [w64 (x := ((i : Int) + j) / 2 + 1) (by omega) (by omega)]
     exact ⟨(i + j) / 2 + 1, j, by simp, by omega, by omega, hj, hS2, hC2, .inr (by simpa using hge'), hlt, by omega⟩
    ·have hlt' : key (D m) < key (D ((i + j) / 2)) := hc.1 (by simpa using hlt')
     exact ⟨i, (i + j) / 2, by simp, hi, by omega, by omega, hS2, hC2, hle, .inr hlt', by omega⟩
   ·obtain ⟨x, y, hv, h3, h4, h5, h6, h7, h8, h9, h10⟩ := hI
    obtain ⟨rfl, rfl⟩ : x' = x ∧ y' = y := by simpa using hv
    exact ⟨⟨x, y, rfl, h3, h4, h5, h6, h7, h8, h9⟩, by show ((y : Int) - x).toNat < ((j : Int) - i).toNat; omega⟩
  ·have hij' : i = j := by simp at hij'; omega
   subst hij'
   refine ⟨fun vs u => ∃ k : Nat, vs = [i64 k] ∧ i ≤ k ∧ k ≤ m ∧ Si u b n (rot D k m (m + 1)) ∧ Chg (· = b) w u, fun vs _ => match vs with | [.int _ k] => k.toNat | _ => 0,
    ⟨m, rfl, by omega, Nat.le_refl _, by rw [rot_none D (.inl rfl)]; exact hS1, hC1⟩, fun k' w8 hI => ?_⟩
   obtain ⟨k, hv, hk0, hk1, hS8, hC8⟩ := hI
   obtain rfl : k' = k := by simpa using hv
   refine brB_i (fun hgt' => ?_) fun hle' => ?_
   ·have hgt' : i < k := by simp at hgt'; omega
    obtain ⟨k, rfl⟩ : ∃ j, k = j + 1 := ⟨k - 1, by omega⟩
    rw [w64 (x := ((k + 1 : Nat) : Int) - 1) (by omega) (by omega)]
    have ek : (((k + 1 : Nat) : Int) - 1).toNat = k := by omega
    have ek' : ((k + 1 : Nat) : Int).toNat = k + 1 := by omega
    refine hS8.drew.ld (by omega) (by omega) fun e1 => ⟨_, e1, ?_⟩
    refine hS8.drew.ld (by omega) (by omega) fun e1 => ⟨_, e1, ?_⟩
    rw [ek, ek']
    refine hS8.drew.st (by omega) (by omega) ?_
    rw [ek']
    have h3 := hS8.drew.put (i := k + 1) (by omega) (rot D (k + 1) m (m + 1) k)
    refine h3.st (i := ((k + 1 : Nat) : Int) - 1) (by omega) (by omega) ?_
    rw [ek]
    obtain ⟨h4, h5⟩ := hS8.drew.two (i := k + 1) (j := k) (by omega) (by omega)
    rw [rot_down D hk1] at h4
    exact ⟨⟨k, by simp, by omega, by omega, h4, chgb (chg_dr hC8) h5⟩, by show (((k + 1 : Nat) : Int) - 1).toNat < ((k + 1 : Nat) : Int).toNat; omega⟩
   ·have hle' : k = i := by simp at hle'; omega
    subst hle'
    subst h2
    have hcut : Cut key D a k m (m + 1) (m + 1) := ⟨hi, hj, by omega, Nat.le_refl _, by rcases hlt with h | h; exact .inl h; exact .inr (.inr (by simpa using h)), .inr (.inl rfl)⟩
    obtain ⟨q1, q2⟩ := hcut.all hL hRt (.inr (.inl rfl)) (by rcases hle with h | h; exact .inl h; exact .inr (.inr h))
    exact hR w8 _ hS8 hC8 q1 q2
 have h1 : m - a ≠ 1 := by simp at h1; omega
 have h2 : e - m ≠ 1 := by simp at h2; omega
 have hM : ((a : Int) + e) / 2 = (((a + e) / 2 : Nat) : Int) := by omega
 rw [mid64 (x := (a : Int)) (y := e) (by omega) (by omega), hM]
 generalize hMd : (a + e) / 2 = M
 have M0 : a < M := by omega
 have M1 : M < e := by omega
 rw [w64 (x := (M : Int) + m) (by omega) (by omega), w64 (x := (M : Int) + m - e) (by omega) (by omega), w64 (x := (M : Int) + m - 1) (by omega) (by omega)]
 refine ⟨fun vs u => ∃ s0 r0 : Nat, vs = [i64 s0, i64 r0] ∧ u = w ∧ a ≤ s0 ∧ s0 ≤ r0 ∧ (s0 = a ∨ s0 + e = M + m) ∧ M + m ≤ s0 + e ∧ (r0 = m ∨ (r0 = M ∧ M ≤ m)) ∧ r0 ≤ M, ?_, fun s0' r0' w9 hI => ?_⟩
 ·refine brB_i (fun hgt => ?_) fun hle => ?_
  ·have hgt : M < m := by simp at hgt; omega
   exact ⟨M + m - e, M, by simp; omega, rfl, by omega, by omega, .inr (by omega), by omega, .inr ⟨rfl, by omega⟩, Nat.le_refl _⟩
  ·have hle : m ≤ M := by simp at hle; omega
   exact ⟨a, m, rfl, rfl, Nat.le_refl _, by omega, .inl rfl, by omega, .inl rfl, hle⟩
 obtain ⟨s0, r0, hv, rfl, hs1, hs2, hs3, hs4, hr1, hr2⟩ := hI
 obtain ⟨rfl, rfl⟩ : s0' = s0 ∧ r0' = r0 := by simpa using hv
 refine ⟨fun vs u => ∃ s r : Nat, vs = [i64 s, i64 r] ∧ s0 ≤ s ∧ s ≤ r ∧ r ≤ r0 ∧ Si u b n D ∧ Chg (· = b) w9 u ∧ (s = s0 ∨ key (D (s - 1)) ≤ key (D (M + m - s))) ∧ (r = r0 ∨ key (D (M + m - 1 - r)) < key (D r)),
  fun vs _ => match vs with | [.int _ s, .int _ r] => (r - s).toNat | _ => 0, ⟨s0, r0, rfl, Nat.le_refl _, hs2, Nat.le_refl _, hS, Chg.refl _ _, .inl rfl, .inl rfl⟩, fun s' r' w10 hI => ?_⟩
 obtain ⟨s, r, hv, hs, hsr, hr, hS10, hC10, hle, hlt⟩ := hI
 obtain ⟨rfl, rfl⟩ : s' = s ∧ r' = r := by simpa using hv
 refine brB_i (fun hsr' => ?_) fun hsr' => ?_
 ·have hsr' : s < r := by simp at hsr'; omega
  refine ⟨fun vs u => ∃ x y : Nat, vs = [i64 x, i64 y] ∧ s0 ≤ x ∧ x ≤ y ∧ y ≤ r0 ∧ Si u b n D ∧ Chg (· = b) w9 u ∧ (x = s0 ∨ key (D (x - 1)) ≤ key (D (M + m - x))) ∧ (y = r0 ∨ key (D (M + m - 1 - y)) < key (D y)) ∧ y - x < r - s, ?_, fun x' y' w12 hI => ?_⟩
  ·rw [mid64 (by omega) (by omega), w64 (x := (M : Int) + m - 1 - ((s : Int) + r) / 2) (by omega) (by omega)]
   have eh : (((s : Int) + r) / 2).toNat = (s + r) / 2 := by omega
   have em : ((M : Int) + m - 1 - ((s : Int) + r) / 2).toNat = M + m - 1 - (s + r) / 2 := by omega
   refine hS10.drew.ld (by omega) (by omega) fun e1 => ⟨_, e1, ?_⟩
   refine hS10.drew.ld (by omega) (by omega) fun e1 => ⟨_, e1, ?_⟩
   rw [eh, em]
   refine hC.go _ (D (M + m - 1 - (s + r) / 2)) (D ((s + r) / 2)) _ (hC.kp _ _ hQ (chg_dr hC10)) fun c w11 hE11 hc => ⟨c, rfl, ?_⟩
   have hS11 := hS10.drew.ext hE11
   have hC11 := chgb (chg_dr hC10) hE11.chg
   refine brB_i (fun hge' => ?_) fun hlt' => ?_
   ·have hge' : key (D ((s + r) / 2)) ≤ key (D (M + m - 1 - (s + r) / 2)) := by
     have : ¬ c < 0 := by simpa using hge'
     have := mt hc.2 this
     omega
    rw [w64 (x := ((s : Int) + r) / 2 + 1) (by omega) (by omega)]
    exact ⟨(s + r) / 2 + 1, r, by simp, by omega, by omega, hr, hS11, hC11, .inr (by rw [show M + m - ((s + r) / 2 + 1) = M + m - 1 - (s + r) / 2 by omega]; simpa using hge'), hlt, by omega⟩
   ·have hlt' : key (D (M + m - 1 - (s + r) / 2)) < key (D ((s + r) / 2)) := hc.1 (by simpa using hlt')
    exact ⟨s, (s + r) / 2, by simp, hs, by omega, by omega, hS11, hC11, hle, .inr hlt', by omega⟩
  ·obtain ⟨x, y, hv, h3, h4, h5, h6, h7, h8, h9, h10⟩ := hI
   obtain ⟨rfl, rfl⟩ : x' = x ∧ y' = y := by simpa using hv
   exact ⟨⟨x, y, rfl, h3, h4, h5, h6, h7, h8, h9⟩, by show ((y : Int) - x).toNat < ((r : Int) - s).toNat; omega⟩
 have hsr' : s = r := by simp at hsr'; omega
 subst hsr'
 rw [w64 (x := (M : Int) + m - s) (by omega) (by omega)]
 obtain ⟨e', he'⟩ : ∃ e', M + m - s = e' := ⟨_, rfl⟩
 have he2 : (M : Int) + m - s = (e' : Int) := by omega
 rw [he2]
 have hcut : Cut key D a s m e' e := by
  refine ⟨by omega, by omega, by omega, by omega, ?_, ?_⟩
  ·rcases hlt with h | h
   ·rcases hr1 with h' | h'
    ·exact .inl (by omega)
    ·exact .inr (.inl (by omega))
   ·exact .inr (.inr (by rw [show e' - 1 = M + m - 1 - s by omega]; exact h))
  ·rcases hle with h | h
   ·rcases hs3 with h' | h'
    ·exact .inl (by omega)
    ·exact .inr (.inl (by omega))
   ·exact .inr (.inr (by rw [← he']; exact h))
 have esm : s + (e' - m) = M := by have := hcut.me; omega
 obtain ⟨l1, l2, l3, l4⟩ := hcut.lo hL hRt
 rw [esm] at l2 l3
 have c1 := hcut.az; have c2 := hcut.sm; have c3 := hcut.me; have c4 := hcut.eb
 refine ⟨fun vs u => vs = [] ∧ Si u b n (rot D s m e') ∧ Chg (· = b) w9 u, ?_, fun w14 hI => ?_⟩
 ·refine brB_i (fun hb => ?_) fun hb => ?_
  ·have hb : s < m ∧ m < e' := by simp at hb; omega
   exact rotateI_spec hS10 hb.1 hb.2 (by omega) hn fun w' h3 h4 => ⟨rfl, rfl, h3, chgb hC10 h4⟩
  ·have hb : s = m ∨ m = e' := by simp at hb; omega
   refine ⟨rfl, ?_, hC10⟩
   rw [rot_none D (by omega)]; exact hS10
 obtain ⟨_, hS14, hC14⟩ := hI
 refine ⟨fun vs u => vs = [] ∧ ∃ E : Nat → Int, Si u b n E ∧ Chg (· = b) w9 u ∧ Rear key (rot D s m e') E a M ∧ AscF key E a M, ?_, fun w16 hI => ?_⟩
 ·refine brB_i (fun hb => ?_) fun hb => ?_
  ·have hb : a < s ∧ s < M := by simp at hb; omega
   exact ih (by omega) hb.1 hb.2 (by omega) hS14 (hC.kp _ _ hQ hC14) l1 l2 fun w' E h3 h4 h5 h6 => ⟨rfl, rfl, E, h3, chgb hC14 h4, h5, h6⟩
  ·have hb : s = a ∨ s = M := by simp at hb; omega
   refine ⟨rfl, _, hS14, hC14, Rear.refl _ _ _ _, ?_⟩
   rcases hb with hb | hb
   ·rw [← hb]; exact l2
   ·rw [← hb]; exact l1
 obtain ⟨_, E, hS16, hC16, hRe, hA⟩ := hI
 have l3' : AscF key E M e' := l3.congr fun k hk _ => hRe.out k (by omega)
 have l4' : AscF key E e' e := l4.congr fun k hk _ => hRe.out k (by omega)
 refine brB_i (fun hb => ?_) fun hb => ?_
 ·have hb : M < e' ∧ e' < e := by simp at hb; omega
  refine ih (by omega) hb.1 hb.2 hen hS16 (hC.kp _ _ hQ hC16) l3' l4' fun w' G h3 h4 h5 h6 => ⟨rfl, ?_⟩
  have q := hcut.merge (E := E) (F := G) hL hRt (by rw [esm]; exact hRe) (by rw [esm]; exact hA) (by rw [esm]; exact h5) (by rw [esm]; exact h6)
  exact hR w' G h3 (chgb hC16 h4) q.1 q.2
 ·have hb : e' = M ∨ e' = e := by simp at hb; omega
  have hA2 : AscF key E M e := by
   rcases hb with hb | hb
   ·rw [← hb]; exact l4'
   ·rw [← hb]; exact l3'
  have q := hcut.merge (E := E) (F := E) hL hRt (by rw [esm]; exact hRe) (by rw [esm]; exact hA) (by rw [esm]; exact Rear.refl _ _ _ _) (by rw [esm]; exact hA2)
  exact hR w16 E hS16 hC16 q.1 q.2
end Go.Proofs.Ytiiaihiliimcoaa
namespace Go.Proofs.Ytiiaihiliimcoaa
open Go Go.Vc Go.RowKit Go.Qn
set_option maxRecDepth 100000
theorem dvd_gapI {d s a : Nat} (h1 : d ∣ s) (h2 : d ∣ a) (h : s < a) : s + d ≤ a := by
 have := Nat.le_of_dvd (by omega) (Nat.dvd_sub h2 h1)
 omega
def BkI (key : Int → Int) (E : Nat → Int) (z n : Nat) : Prop := ∀ s, z ∣ s → AscF key E s (min (s + z) n)
theorem stableI_spec {va : Value} {key : Int → Int} {Q : World → Prop} {w : World} {b n cap : Nat} {D : Nat → Int} {R : Ending → World → Prop} (h : Si w b n D) (hQ : Q w) (hC : CmpI va key b Q) (hn : n ≤ 2 ^ 40)
  (hR : ∀ w' E, Si w' b n E → Chg (· = b) w w' → Rear key D E 0 n → AscF key E 0 n → R (.returned (.tuple #[])) w') :
  Calls P F.slices_stableCmpFunc_int #[.slice (some ⟨b, 0, none⟩) n cap, i64 n, va] w R := by
 refine calls_slices_stableCmpFunc_int _ _ _ _ _ _ _ ?_
 unfold vc_slices_stableCmpFunc_int
 refine ⟨fun vs u => ∃ (a : Nat) (E : Nat → Int), vs = [i64 a, i64 (a + 20 : Nat)] ∧ a ≤ n ∧ 20 ∣ a ∧ Si u b n E ∧ Chg (· = b) w u ∧ Rear key D E 0 n ∧ (∀ s, 20 ∣ s → s < a → AscF key E s (s + 20)),
  fun vs _ => match vs with | [.int _ a, _] => (n - a).toNat | _ => 0, ⟨0, D, rfl, Nat.zero_le _, Nat.dvd_zero _, h, Chg.refl _ _, Rear.refl _ _ _ _, fun s _ hs => by omega⟩, fun a' b' w1 hI => ?_⟩
 obtain ⟨a, E, hv, ha, hd, hS, hCh, hRe, hA⟩ := hI
 obtain ⟨rfl, rfl⟩ : a' = a ∧ b' = (a + 20 : Nat) := by simpa using hv
 refine brB_i (fun hle => ?_) fun hgt => ?_
 ·have hle : a + 20 ≤ n := by simp at hle; omega
  refine insortI_spec hS (hC.kp _ _ hQ hCh) hC (by omega) hle hn fun w' G h1 h2 h3 h4 => ⟨rfl, ⟨a + 20, G, ?_, hle, by omega, h1, chgb hCh h2, hRe.trans (h3.wide (Nat.zero_le _) hle (by omega)), fun s hs hlt => ?_⟩, ?_⟩
  ·rw [w64 (x := ((a + 20 : Nat) : Int) + 20) (by omega) (by omega)]; simp
  ·rcases Nat.lt_or_ge s a with hsa | hsa
   ·have := dvd_gapI hs hd hsa
    exact (hA s hs hsa).congr fun k _ hk => h3.out k (by omega)
   ·rw [show s = a by omega]; exact h4
  ·show ((n : Int) - ((a + 20 : Nat) : Int)).toNat < ((n : Int) - a).toNat; omega
 have hgt : n < a + 20 := by simp at hgt; omega
 refine insortI_spec hS (hC.kp _ _ hQ hCh) hC ha (Nat.le_refl _) hn fun w3 G h1 h2 h3 h4 => ⟨rfl, ?_⟩
 have hB : BkI key G 20 n := by
  intro s hs
  rcases Nat.lt_or_ge s a with hsa | hsa
  ·have := dvd_gapI hs hd hsa
   rw [show min (s + 20) n = s + 20 by omega]
   exact (hA s hs hsa).congr fun k _ hk => h3.out k (by omega)
  ·exact h4.sub hsa (by omega)
 refine ⟨fun vs u => ∃ (z : Nat) (E : Nat → Int), vs = [i64 z] ∧ 0 < z ∧ z ≤ 2 * n + 20 ∧ Si u b n E ∧ Chg (· = b) w u ∧ Rear key D E 0 n ∧ BkI key E z n, fun vs _ => match vs with | [.int _ z] => (n - z).toNat | _ => 0,
  ⟨20, G, rfl, by omega, by omega, h1, chgb hCh h2, hRe.trans (h3.wide (Nat.zero_le _) (Nat.le_refl _) ha), hB⟩, fun z' w4 hI => ?_⟩
 clear hB h1 h2 h3 h4 hS hCh hRe hA
 obtain ⟨z, E, hv, hz0, hz1, hS, hCh, hRe, hB⟩ := hI
 obtain rfl : z' = z := by simpa using hv
 refine brB_i (fun hlt => ?_) fun hge => ?_
 ·have hlt : z < n := by simp at hlt; omega
  rw [w64 (x := 2 * (z : Int)) (by omega) (by omega), w64 (x := (z : Int) * 2) (by omega) (by omega)]
  refine ⟨fun vs u => vs = [i64 (2 * z : Nat)] ∧ ∃ E : Nat → Int, Si u b n E ∧ Chg (· = b) w u ∧ Rear key D E 0 n ∧ BkI key E (2 * z) n, ?_, fun z2 w8 hI => ?_⟩
  ·refine ⟨fun vs u => ∃ (a : Nat) (E : Nat → Int), vs = [i64 a, i64 (a + 2 * z : Nat)] ∧ a ≤ n ∧ 2 * z ∣ a ∧ Si u b n E ∧ Chg (· = b) w u ∧ Rear key D E 0 n ∧ (∀ s, 2 * z ∣ s → s < a → AscF key E s (s + 2 * z)) ∧ (∀ s, z ∣ s → a ≤ s → AscF key E s (min (s + z) n)),
    fun vs _ => match vs with | [.int _ a, _] => (n - a).toNat | _ => 0, ⟨0, E, by simp, Nat.zero_le _, Nat.dvd_zero _, hS, hCh, hRe, fun s _ hs => by omega, fun s hs _ => hB s hs⟩, fun a' b' w5 hI => ?_⟩
   obtain ⟨a, E5, hv, ha, hd, hS5, hCh5, hRe5, hA5, hB5⟩ := hI
   obtain ⟨rfl, rfl⟩ : a' = a ∧ b' = (a + 2 * z : Nat) := by simpa using hv
   have hza : z ∣ a := Nat.dvd_trans (Nat.dvd_mul_left z 2) hd
   have hza2 : z ∣ a + z := Nat.dvd_add hza (Nat.dvd_refl z)
   rw [w64 (x := (a : Int) + z) (by omega) (by omega)]
   have eaz : (a : Int) + z = ((a + z : Nat) : Int) := by omega
   have L := hB5 a hza (Nat.le_refl _)
   have Rr := hB5 (a + z) hza2 (by omega)
   refine brB_i (fun hle => ?_) fun hgt => ?_
   ·have hle : a + 2 * z ≤ n := by simp at hle; omega
    rw [show min (a + z) n = a + z by omega] at L
    rw [show min (a + z + z) n = a + 2 * z by omega] at Rr
    rw [eaz]
    refine symMergeI_spec hC hn _ (Nat.le_refl _) (by omega) (by omega) hle hS5 (hC.kp _ _ hQ hCh5) L Rr fun w' G h1 h2 h3 h4 => ⟨rfl, ⟨a + 2 * z, G, ?_, hle, Nat.dvd_add hd (Nat.dvd_refl _), h1, chgb hCh5 h2, hRe5.trans (h3.wide (Nat.zero_le _) hle (by omega)), fun s hs hlt => ?_, fun s hs hge => ?_⟩, ?_⟩
    ·rw [w64 (x := ((a + 2 * z : Nat) : Int) + 2 * (z : Int)) (by omega) (by omega)]; simp
    ·rcases Nat.lt_or_ge s a with hsa | hsa
     ·have := dvd_gapI hs hd hsa
      exact (hA5 s hs hsa).congr fun k _ hk => h3.out k (by omega)
     ·have : s = a := by
       rcases Nat.eq_or_lt_of_le hsa with h | h
       ·exact h.symm
       ·have := dvd_gapI hd hs h; omega
      rw [this]; exact h4
    ·exact (hB5 s hs (by omega)).congr fun k hk _ => h3.out k (by omega)
    ·show ((n : Int) - ((a + 2 * z : Nat) : Int)).toNat < ((n : Int) - a).toNat; omega
   ·have hgt : n < a + 2 * z := by simp at hgt; omega
    have ez : (z : Int) * 2 = ((2 * z : Nat) : Int) := by omega
    refine brB_i (fun hlt' => ?_) fun hge' => ?_
    ·have hlt' : a + z < n := by simp at hlt'; omega
     rw [show min (a + z) n = a + z by omega] at L
     rw [show min (a + z + z) n = n by omega] at Rr
     rw [eaz]
     refine symMergeI_spec hC hn _ (Nat.le_refl _) (by omega) (by omega) (Nat.le_refl _) hS5 (hC.kp _ _ hQ hCh5) L Rr fun w' G h1 h2 h3 h4 => ⟨rfl, by rw [ez], G, h1, chgb hCh5 h2, hRe5.trans (h3.wide (Nat.zero_le _) (Nat.le_refl _) (by omega)), fun s hs => ?_⟩
     rcases Nat.lt_or_ge s a with hsa | hsa
     ·have := dvd_gapI hs hd hsa
      rw [show min (s + 2 * z) n = s + 2 * z by omega]
      exact (hA5 s hs hsa).congr fun k _ hk => h3.out k (by omega)
     ·exact h4.sub hsa (by omega)
    ·have hge' : n ≤ a + z := by simp at hge'; omega
     refine ⟨by rw [ez], E5, hS5, hCh5, hRe5, fun s hs => ?_⟩
     rcases Nat.lt_or_ge s a with hsa | hsa
     ·have := dvd_gapI hs hd hsa
      rw [show min (s + 2 * z) n = s + 2 * z by omega]
      exact hA5 s hs hsa
     ·rw [show min (a + z) n = n by omega] at L
      exact L.sub hsa (by omega)
  ·obtain ⟨hv, E8, h1, h2, h3, h4⟩ := hI
   obtain rfl : z2 = (2 * z : Nat) := by simpa using hv
   exact ⟨⟨2 * z, E8, rfl, by omega, by omega, h1, h2, h3, h4⟩, by show ((n : Int) - ((2 * z : Nat) : Int)).toNat < ((n : Int) - z).toNat; omega⟩
 ·have hge : n ≤ z := by simp at hge; omega
  have := hB 0 (Nat.dvd_zero _)
  rw [show min (0 + z) n = n by omega] at this
  exact hR w4 E hS hCh hRe this
def SiL (u : World) (b : Nat) (l : List Int) : Prop := ∃ rest, Cs u b (l.map i64 ++ rest)
theorem segI_getD (l : List Int) : seg (fun i => l.getD i 0) 0 l.length = l := by
 refine List.ext_getElem (by simp [seg_len]) fun i h1 h2 => ?_
 simp [seg, List.getD, h2]
theorem SiL.so {u : World} {b : Nat} {l : List Int} (h : SiL u b l) : Si u b l.length fun i => l.getD i 0 := by
 obtain ⟨r, h⟩ := h; exact ⟨r, by rw [segI_getD]; exact h⟩
theorem SortI_spec {va : Value} {key : Int → Int} {Q : World → Prop} {w : World} {b cap : Nat} {l : List Int} {R : Ending → World → Prop} (h : SiL w b l) (hQ : Q w) (hC : CmpI va key b Q) (hn : l.length ≤ 2 ^ 40)
  (hR : ∀ w', SiL w' b (stab key l) → Chg (· = b) w w' → R (.returned (.tuple #[])) w') :
  Calls P F.slices_SortStableFunc_int #[.slice (some ⟨b, 0, none⟩) l.length cap, va] w R := by
 refine calls_slices_SortStableFunc_int _ _ _ _ _ _ ?_
 unfold vc_slices_SortStableFunc_int
 refine stableI_spec h.so hQ hC hn fun w' E h1 h2 h3 h4 => ⟨rfl, hR w' ?_ h2⟩
 obtain ⟨r, h1⟩ := h1
 have := stab_uniq (key := key) (l := l) (m := seg E 0 l.length) (by have := h3.same; rwa [segI_getD] at this) h4.asc
 exact ⟨r, by rw [← this]; exact h1⟩
end Go.Proofs.Ytiiaihiliimcoaa
namespace Go.Proofs.Ytiiaihiliimcoaa
open Go Go.Vc Go.RowKit Go.Qn
set_option maxRecDepth 100000
def part (bs : List Int) (i n : Nat) : List Int := (bs.drop i).take n
theorem part_length {bs : List Int} {i n : Nat} (h : i + n ≤ bs.length) : (part bs i n).length = n := by simp only [part, List.length_take, List.length_drop]; omega
theorem part_prefix (bs : List Int) (i n : Nat) : bytes (part bs i n) <+: (bytes bs).drop i := by
 simp only [part, bytes, List.map_take, List.map_drop]
 exact List.take_prefix _ _
theorem part_get {bs : List Int} {i n j : Nat} (hj : j < n) : (part bs i n).getD j 0 = bs.getD (i + j) 0 := by
 unfold part
 rw [List.getD_eq_getElem?_getD, List.getElem?_take_of_lt hj, List.getElem?_drop, List.getD_eq_getElem?_getD]
theorem part_bs {bs : List Int} (h : Bs bs) (i n : Nat) : Bs (part bs i n) := fun x hx => h x (List.mem_of_mem_drop (List.mem_of_mem_take hx))
theorem bget {bs : List Int} (h : Bs bs) (i : Nat) : 0 ≤ bs.getD i 0 ∧ bs.getD i 0 ≤ 255 := by
 rw [List.getD_eq_getElem?_getD]
 cases e : bs[i]? with
 | none => simp
 | some x => exact h x (List.mem_of_getElem? e)
def twoM (b : List Int) (k : Nat) : Int := b.getD k 0 + 256 * b.getD (k + 1) 0
theorem twoM_range {b : List Int} (h : Bs b) (k : Nat) : 0 ≤ twoM b k ∧ twoM b k ≤ 65535 := by
 have := bget h k
 have := bget h (k + 1)
 unfold twoM; omega
def palN (f : Int) : Nat := 2 * 2 ^ (f % 8).toNat
theorem palN_range (f : Int) : 2 ≤ palN f ∧ palN f ≤ 256 := by
 have : ∀ n : Nat, n < 8 → 2 ≤ 2 * 2 ^ n ∧ 2 * 2 ^ n ≤ 256 := by decide
 exact this _ (by omega)
def colB (b : List Int) (k i : Nat) : Co := (257 * b.getD (k + 3 * i) 0, 257 * b.getD (k + 3 * i + 1) 0, 257 * b.getD (k + 3 * i + 2) 0, 65535)
def palU (b : List Int) (k n : Nat) : List Co := (List.range n).map (colB b k)
theorem palU_len (b : List Int) (k n : Nat) : (palU b k n).length = n := by simp [palU]
theorem palU_succ (b : List Int) (k n : Nat) : palU b k (n + 1) = palU b k n ++ [colB b k n] := by simp [palU, List.range_succ]
def blkF (b : List Int) : Nat → Nat → Option (List (List Int) × Nat)
 | 0, _ => none
 | f + 1, k => if b.length ≤ k then none
  else if b.getD k 0 = 0 then some ([], k + 1)
  else if b.length < k + 1 + (b.getD k 0).toNat then none
  else match blkF b f (k + 1 + (b.getD k 0).toNat) with
   | none => none
   | some (l, e) => some (part b (k + 1) (b.getD k 0).toNat :: l, e)
def blkM (b : List Int) (k : Nat) : Option (List (List Int) × Nat) := blkF b (b.length + 1) k
theorem blkF_fuel {b : List Int} : ∀ {f g k : Nat}, b.length < k + f → b.length < k + g → blkF b f k = blkF b g k
 | 0, 0, k, _, _ => rfl
 | 0, g + 1, k, h1, h2 => by rw [blkF, blkF, if_pos (by omega)]
 | f + 1, 0, k, h1, h2 => by rw [blkF, blkF, if_pos (by omega)]
 | f + 1, g + 1, k, h1, h2 => by
  rw [blkF, blkF]
  split
  ·rfl
  split
  ·rfl
  split
  ·rfl
  rw [blkF_fuel (f := f) (g := g) (by omega) (by omega)]
theorem blkM_step (b : List Int) (k : Nat) : blkM b k = if b.length ≤ k then none
  else if b.getD k 0 = 0 then some ([], k + 1)
  else if b.length < k + 1 + (b.getD k 0).toNat then none
  else match blkM b (k + 1 + (b.getD k 0).toNat) with
   | none => none
   | some (l, e) => some (part b (k + 1) (b.getD k 0).toNat :: l, e) := by
 show blkF b (b.length + 1) k = _
 rw [blkF]
 split
 ·rfl
 split
 ·rfl
 split
 ·rfl
 rw [show blkF b b.length (k + 1 + (b.getD k 0).toNat) = blkM b (k + 1 + (b.getD k 0).toNat) from blkF_fuel (by omega) (by omega)]
theorem blkF_ok {b : List Int} (hf : Bs b) : ∀ {f k : Nat} {l : List (List Int)} {e : Nat}, blkF b f k = some (l, e) → k < e ∧ e ≤ b.length ∧ (∀ x, x ∈ l → Bs x) ∧ l.flatten.length + k < e
 | 0, k, l, e, h => by cases h
 | f + 1, k, l, e, h => by
  rw [blkF] at h
  split at h
  ·cases h
  split at h
  ·cases h; exact ⟨by omega, by omega, (fun x hx => by cases hx), by simp⟩
  split at h
  ·cases h
  split at h
  ·cases h
  rename_i l' e' h'
  obtain ⟨h1, h2, h3, h4⟩ := blkF_ok hf h'
  cases h
  refine ⟨by omega, h2, fun x hx => ?_, ?_⟩
  ·rcases List.mem_cons.1 hx with rfl | hx
   ·exact part_bs hf _ _
   ·exact h3 x hx
  ·rw [List.flatten_cons, List.length_append, part_length (by omega)]; omega
def extM (b : List Int) (k : Nat) (clear : Int) : Option (Int × Nat) :=
 if b.length ≤ k then none
 else match blkM b (k + 1) with
  | none => none
  | some (l, e) => if b.getD k 0 ≠ 249 then some (clear, e)
   else if (l.getD 0 []).length ≠ 4 then none
   else some (if (l.getD 0 []).getD 0 0 % 2 = 0 then -1 else (l.getD 0 []).getD 3 0, e)
def turnV (y : Int) : Int := if y % 8 = 0 then 0 else if y % 4 = 0 then 1 else if y % 2 = 0 then 2 else 3
def upto (h : Nat) : List Int := (List.range h).map fun n => ((n : Nat) : Int)
def rowsM (h : Nat) (laced : Bool) : List Int := if laced then stab turnV (upto h) else upto h
def setPx (px : List Int) (k : Nat) (c : Co) : List Int := px.take (4 * k) ++ coL c ++ px.drop (4 * k + 4)
theorem setPx_len {px : List Int} {k : Nat} {c : Co} (h : 4 * k + 4 ≤ px.length) : (setPx px k c).length = px.length := by
 simp only [setPx, List.length_append, List.length_take, List.length_drop, coL, List.length_cons, List.length_nil]; omega
def paintF (pal : List Co) (clear : Int) (W x y w : Nat) (rows idx : List Int) : Nat → Nat → List Int → Option (List Int)
 | 0, _, px => some px
 | n + 1, i, px => if (pal.length : Int) ≤ idx.getD i 0 then none
  else paintF pal clear W x y w rows idx n (i + 1) (if idx.getD i 0 = clear then px else setPx px ((y + (rows.getD (i / w) 0).toNat) * W + x + i % w) (pal.getD (idx.getD i 0).toNat zeroC))
def picM (b : List Int) (k : Nat) (W H : Nat) (pal : List Co) (clear : Int) (px : List Int) : Option (List Int) :=
 if b.length < k + 9 then none
 else if twoM b (k + 4) < 1 ∨ twoM b (k + 6) < 1 ∨ (W : Int) < twoM b k + twoM b (k + 4) ∨ (H : Int) < twoM b (k + 2) + twoM b (k + 6) then none
 else if 128 ≤ b.getD (k + 8) 0 ∧ b.length < k + 9 + 3 * palN (b.getD (k + 8) 0) then none
 else
  let pal' := if 128 ≤ b.getD (k + 8) 0 then palU b (k + 9) (palN (b.getD (k + 8) 0)) else pal
  let k' := if 128 ≤ b.getD (k + 8) 0 then k + 9 + 3 * palN (b.getD (k + 8) 0) else k + 9
  if b.length ≤ k' then none
  else match blkM b (k' + 1) with
   | none => none
   | some (l, _) =>
    let g := gifR l.flatten (b.getD k' 0) (twoM b (k + 4) * twoM b (k + 6))
    if g.2 ≠ 0 ∨ (g.1.length : Int) ≠ twoM b (k + 4) * twoM b (k + 6) ∨ pal' = [] then none
    else paintF pal' clear W (twoM b k).toNat (twoM b (k + 2)).toNat (twoM b (k + 4)).toNat (rowsM (twoM b (k + 6)).toNat (decide (64 ≤ b.getD (k + 8) 0 % 128))) g.1 g.1.length 0 px
def stepsF (b : List Int) (W H : Nat) (pal : List Co) : Nat → Nat → Int → Option (List Int)
 | 0, _, _ => none
 | f + 1, k, clear => if b.length ≤ k then none
  else if b.getD k 0 = 33 then (match extM b (k + 1) clear with
   | none => none
   | some (c, e) => stepsF b W H pal f e c)
  else if b.getD k 0 = 44 then picM b (k + 1) W H pal clear (List.replicate (4 * (W * H)) 0)
  else none
def sig87 : List Int := [71, 73, 70, 56, 55, 97]
def sig89 : List Int := [71, 73, 70, 56, 57, 97]
def headOk (b : List Int) : Bool := decide (13 ≤ b.length) && (decide (b.take 6 = sig87) || decide (b.take 6 = sig89)) && decide (1 ≤ twoM b 6) && decide (1 ≤ twoM b 8) && (decide (b.getD 10 0 < 128) || decide (13 + 3 * palN (b.getD 10 0) ≤ b.length))
def decR (b : List Int) (most : Int) : Int × Int × List Int × Int :=
 if 4194304 < b.length then (0, 0, [], 11)
 else if headOk b = false then (0, 0, [], 9)
 else if twoM b 6 > 4096 ∨ twoM b 8 > 4096 ∨ twoM b 6 * twoM b 8 > most ∨ twoM b 6 * twoM b 8 > 65536 then (0, 0, [], 11)
 else match stepsF b (twoM b 6).toNat (twoM b 8).toNat (if 128 ≤ b.getD 10 0 then palU b 13 (palN (b.getD 10 0)) else []) (b.length + 1) (if 128 ≤ b.getD 10 0 then 13 + 3 * palN (b.getD 10 0) else 13) (-1) with
  | none => (0, 0, [], 9)
  | some px => (twoM b 6, twoM b 8, px, 0)
end Go.Proofs.Ytiiaihiliimcoaa
namespace Go.Proofs.Ytiiaihiliimcoaa
open Go Go.Vc Go.RowKit Go.Qn
set_option maxRecDepth 100000
set_option maxHeartbeats 2000000
theorem OwnS.grow {S : Nat → Prop} {w w5 : World} {bs : List Nat} {l : List (Nat × Nat × List Value)} {base : Option Addr} {len cap n sz bytes : Nat} {elem : TypeId} {zero vs fs : List Value} {F : Option Addr → Nat → Nat → World → Prop}
  (h : OwnS S w base len cap sz vs) (hL : Locl bs w w5) (hb : ∀ b, b ∈ bs → w.heap.size ≤ b ∨ ¬ S b) (hS : ∀ i, w.heap.size ≤ i → S i) (hbl : ∀ b, b ∈ blocks l → b ∈ bs) (hz : zero.length = sz) (hn : fs.length = n * sz)
  (hby : (len + n) * bytes ≤ 2 ^ 47) (h62 : len + n < 2 ^ 62)
  (hF : ∀ base' cap' w6, OwnS (fun i => S i ∧ i ∉ bs) w6 base' (len + n) cap' sz (vs ++ fs) → Chg (fun i => S i ∨ i ∈ bs) w w6 → F base' (len + n) cap' w6) :
  appVC w5 l base len cap n sz bytes elem zero fs F := by
 have h1 : OwnS (fun i => S i ∧ i ∉ bs) w base len cap sz vs := OwnS.mono h fun i hi hlt => ⟨hi, fun hm => (hb i hm).elim (fun g => by omega) fun g => g hi⟩
 have h2 := OwnS.chg h1 hL.chg fun b hb _ hm => hb.2 hm
 have hs := hL.size
 refine OwnS.app h2 (fun b hb hs => hs.2 (hbl b hb)) hz hn hby h62 fun base' cap' w6 ho hc => hF base' cap' w6 (ho.mono fun i hi hlt => ?_) ?_
 ·rcases hi with hi | hi
  ·exact hi
  ·exact ⟨hS i (by omega), fun hm => by have := hL.there i hm; omega⟩
 ·exact (hL.chg.mono fun i hi _ => .inr hi).trans hc fun i hi _ => .inl hi.1
theorem wrap_succ {X : Nat} (h : X ≤ 2 ^ 60) : IntKind.i64.wrap ((X : Int) + 1) = ((X + 1 : Nat) : Int) := by rw [w64 (by omega) (by omega)]; omega
abbrev brkG : List PanicEntry := [{ v := .iface 40 (.agg #[]), recovered := false }]
structure GAt (w : World) (N rb : Nat) (b : List Int) (at_ : Nat) : Prop where
 obj : ∃ p c, Cs w rb [.slice p (b.length - at_) c] ∧ b.length - at_ ≤ c ∧ Sl N w p (bytes (b.drop at_))
 lo : N ≤ rb
 le : at_ ≤ b.length
 hN : N ≤ w.heap.size
 room : b.length ≤ 2 ^ 40
 fit : Bs b
section
variable {w w' : World} {N rb at_ : Nat} {b : List Int} {R : Ending → World → Prop}
theorem GAt.lt (h : GAt w N rb b at_) : rb < w.heap.size := by obtain ⟨_, _, h1, _⟩ := h.obj; exact h1.lt
theorem GAt.chg {Z : Nat → Prop} (h : GAt w N rb b at_) (hc : Chg Z w w') (h1 : ¬ Z rb) (h2 : ∀ i, Z i → i < w.heap.size → N ≤ i) : GAt w' N rb b at_ := by
 obtain ⟨p, c, g1, g2, g3⟩ := h.obj
 exact ⟨⟨p, c, g1.chg hc h1, g2, g3.below (hc.below h2 h.hN)⟩, h.lo, h.le, Nat.le_trans h.hN hc.size, h.room, h.fit⟩
theorem GAt.ext (h : GAt w N rb b at_) (hE : Ext w w') : GAt w' N rb b at_ := h.chg (Z := fun _ => False) hE.chg id fun _ h => h.elim
theorem gbytes_spec {n : Nat} (h : GAt w N rb b at_) (hn : n ≤ 2 ^ 40)
  (hok : at_ + n ≤ b.length → ∀ p c w', Chg (· = rb) w w' → GAt w' N rb b (at_ + n) → Sl N w' p (bytes (part b at_ n)) → n ≤ c → R (.returned (.slice p n c)) w')
  (herr : b.length < at_ + n → R (.panicked brkG) w) : Calls P F.gif_reader_bytes #[.pointer (some ⟨rb, 0, none⟩), i64 (n : Nat)] w R := by
 refine calls_gif_reader_bytes _ _ _ _ ?_
 obtain ⟨p, c, g1, g2, g3⟩ := h.obj
 have hle := h.le
 refine nn_i rfl ⟨_, _, _, g1.cell (i := 0) rfl, ?_⟩
 refine brB_i (fun hgt => ⟨⟨_, _, rfl⟩, herr (by have := of_decide_eq_true hgt; omega)⟩) fun hge => ?_
 have hge := of_decide_eq_false hge
 refine nn_i rfl ⟨_, _, _, g1.cell (i := 0) rfl, by omega, by omega, by omega, ?_⟩
 refine nn_i rfl ⟨_, _, _, g1.cell (i := 0) rfl, by omega, by omega, by omega, ?_⟩
 refine nn_i rfl ⟨⟨_, g1.cell (i := 0) rfl⟩, g1.frozen _, ?_⟩
 rw [show (0 : Int).toNat = 0 from rfl, slcBase0, Int.toNat_natCast, Int.toNat_natCast, Nat.sub_zero, Nat.sub_zero]
 have hset := Chg.setCells w ⟨rb, 0, none⟩ [.slice (slcBase p n c 1) (b.length - at_ - n) (c - n)] 0
 have hb : Below N w (setCells w ⟨rb, 0, none⟩ [.slice (slcBase p n c 1) (b.length - at_ - n) (c - n)] 0) := hset.below (fun i hi _ => by have hi : i = rb := hi; have := h.lo; omega) h.hN
 have hdl : (b.drop at_).length = b.length - at_ := List.length_drop
 refine hok (by omega) p c _ hset ⟨⟨slcBase p n c 1, c - n, ?_, ?_, ?_⟩, h.lo, by omega, by rw [show (setCells w ⟨rb, 0, none⟩ [.slice (slcBase p n c 1) (b.length - at_ - n) (c - n)] 0).heap.size = w.heap.size from (setCells_same _ _ _ _).size]; exact h.hN, h.room, h.fit⟩ ?_ (by omega)
 ·have := g1.set1 (off := 0) (v := .slice (slcBase p n c 1) (b.length - at_ - n) (c - n)) (by simp)
  rw [show b.length - (at_ + n) = b.length - at_ - n by omega]
  exact this
 ·omega
 ·refine (g3.part (lo := n) (cap := c) (by rw [bytes_length, hdl]; exact g2) ?_).below hb
  rw [bytes, bytes, ← List.map_drop, List.drop_drop]
  exact List.prefix_refl _
 ·refine (g3.pre ?_).below hb
  rw [part, bytes, bytes, List.map_take]; exact List.take_prefix _ _
theorem gone_spec (h : GAt w N rb b at_)
  (hok : at_ < b.length → ∀ w', Chg (· = rb) w w' → GAt w' N rb b (at_ + 1) → R (.returned (i64 (b.getD at_ 0))) w')
  (herr : b.length ≤ at_ → R (.panicked brkG) w) : Calls P F.gif_reader_one #[.pointer (some ⟨rb, 0, none⟩)] w R := by
 refine calls_gif_reader_one _ _ _ ?_
 refine gbytes_spec (n := 1) h (by omega) (fun hle p c w1 hc1 h1 hs1 _ => .inl ⟨_, _, _, rfl, ?_⟩) fun hlt => .inr ⟨_, rfl, herr (by omega)⟩
 have hx := bget h.fit at_
 have e : (part b at_ 1).getD 0 0 = b.getD at_ 0 := part_get (by omega)
 refine hs1.get (v := u8 (b.getD at_ 0)) (by omega) (by rw [bytes_length, part_length hle]) (by rw [← e]; exact bytes_get (by rw [part_length hle]; simp)) fun a ha => ⟨_, ha, ?_⟩
 rw [w64 (by omega) (by omega)]
 exact hok (by omega) w1 hc1 h1
theorem or16 {a b : Int} (a0 : 0 ≤ a) (a1 : a ≤ 255) (b0 : 0 ≤ b) (b1 : b ≤ 255) : IntKind.i64.wrap (bitsZ .or .i64 (IntKind.i64.wrap a) (shiftZ .shl .i64 (IntKind.i64.wrap b) 8)) = a + 256 * b := by
 rw [show bitsZ .or .i64 (IntKind.i64.wrap a) (shiftZ .shl .i64 (IntKind.i64.wrap b) 8) = bitsZ .or .i64 (shiftZ .shl .i64 (IntKind.i64.wrap b) 8) (IntKind.i64.wrap a) by simp [bitsZ, BitVec.or_comm]]
 rw [w64 (x := a) (by omega) (by omega), w64 (x := b) (by omega) (by omega), shiftZ_shl (by omega) (by show (8 : Int) ≤ 64; omega), show (8 : Int).toNat = 8 from rfl, w64 (x := b * 2 ^ 8) (by omega) (by omega), Int.mul_comm, bitsZ_orAdd b0 (by show _ < 2 ^ 64; omega) a0 (by omega), w64 (by omega) (by omega)]
 omega
theorem gtwo_spec (h : GAt w N rb b at_)
  (hok : at_ + 2 ≤ b.length → ∀ w', Chg (· = rb) w w' → GAt w' N rb b (at_ + 2) → R (.returned (i64 (twoM b at_))) w')
  (herr : b.length < at_ + 2 → R (.panicked brkG) w) : Calls P F.gif_reader_two #[.pointer (some ⟨rb, 0, none⟩)] w R := by
 refine calls_gif_reader_two _ _ _ ?_
 refine gbytes_spec (n := 2) h (by omega) (fun hle p c w1 hc1 h1 hs1 _ => .inl ⟨_, _, _, rfl, ?_⟩) fun hlt => .inr ⟨_, rfl, herr (by omega)⟩
 have hx := bget h.fit at_
 have hy := bget h.fit (at_ + 1)
 have e0 : (part b at_ 2).getD 0 0 = b.getD at_ 0 := part_get (by omega)
 have e1 : (part b at_ 2).getD 1 0 = b.getD (at_ + 1) 0 := part_get (by omega)
 refine hs1.drew.get (v := u8 (b.getD at_ 0)) (by omega) (by rw [bytes_length, part_length hle]) (by rw [← e0]; exact bytes_get (by rw [part_length hle]; simp)) fun a ha => ⟨_, ha, ?_⟩
 refine hs1.drew.get (v := u8 (b.getD (at_ + 1) 0)) (by omega) (by rw [bytes_length, part_length hle]) (by rw [← e1]; exact bytes_get (by rw [part_length hle]; simp)) fun a ha => ⟨_, ha, ?_⟩
 rw [or16 (by omega) (by omega) (by omega) (by omega)]
 exact hok hle _ hc1.drew (h1.ext (Ext.refl w1).drew)
end
end Go.Proofs.Ytiiaihiliimcoaa
namespace Go.Proofs.Ytiiaihiliimcoaa
open Go Go.Vc Go.RowKit Go.Qn
set_option maxRecDepth 100000
set_option maxHeartbeats 2000000
theorem ChunkB_iter {w : World} {fr1 fr2 : Addr} {yl : Nat} {p : Option Addr} {len cap s m : Nat} (J : Nat → World → Prop) {R : Ending → World → Prop} (hs : 1 ≤ s) (hs2 : s ≤ 2 ^ 20) (hm : ∀ k, k < m ↔ s * k < len) (hc : len ≤ cap) (h62 : len ≤ 2 ^ 47)
  (hJ : ∀ k u, J k u → u.cell? fr1 = some (.slice p len cap) ∧ u.cell? fr2 = some (i64 s)) (h0 : J 0 w)
  (hy : ∀ (k : Nat) u, k < m → J k u → YieldAt Fence.wide 0 P yl #[.slice (slcBase p (s * k) (s * k + min s (len - s * k)) 1) (min s (len - s * k)) (min s (len - s * k))] u.drew (Goes (J (k + 1)) R))
  (hend : ∀ u, J m u → R (.returned (.tuple #[])) u) :
  Calls P F.slices_Chunk_byte_fn1 #[.func (.yield yl) #[] #[], .pointer (some fr1), .pointer (some fr2)] w R := by
 refine calls_slices_Chunk_byte_fn1 _ _ _ _ _ ?_
 refine ⟨fun vs w' => match vs with | [.int _ i] => ∃ k : Nat, i = ((s * k : Nat) : Int) ∧ k ≤ m ∧ J k w' | _ => False, fun vs _ => match vs with | [.int _ i] => (len - i).toNat | _ => 0, ⟨0, by simp, Nat.zero_le _, h0⟩, fun i w1 hI => ?_⟩
 obtain ⟨k, rfl, hk, hI⟩ := hI
 obtain ⟨h1, h2⟩ := hJ _ _ hI
 refine ⟨_, _, _, h1, brB_i (fun hlt => ?_) (fun hge => ?_)⟩
 ·have hlt : s * k < len := by have := of_decide_eq_true hlt; omega
  have hkm := (hm k).2 hlt
  have hyy := hy k w1 hkm hI
  have hsucc : s * (k + 1) = s * k + s := Nat.mul_succ s k
  generalize hx : s * k = x at *
  refine ⟨_, h2, _, _, _, h1, by omega, by omega, by omega, _, _, _, h1, ?_⟩
  have em : min ((s : Nat) : Int) (((len : Int).toNat - ((x : Nat) : Int).toNat : Nat) : Int) = ((min s (len - x) : Nat) : Int) := by omega
  rw [em]
  generalize hln : min s (len - x) = ln at *
  rw [w64 (x := ((x : Nat) : Int) + (ln : Nat)) (by omega) (by omega)]
  refine ⟨by omega, by omega, by omega, by omega, by omega, ?_⟩
  rw [show (((x : Nat) : Int) + (ln : Nat)).toNat = x + ln by omega, Int.toNat_natCast, Nat.add_sub_cancel_left]
  refine yield_mono hyy fun e w4 he => ?_
  rcases he with ⟨rfl, he⟩ | ⟨rfl, he⟩
  ·obtain ⟨h3, h4⟩ := hJ _ _ he
   refine ⟨_, rfl, brB_f rfl ⟨_, h4, ?_⟩⟩
   rw [w64 (x := ((x : Nat) : Int) + (s : Nat)) (by omega) (by omega)]
   refine ⟨⟨k + 1, by omega, hkm, he⟩, ?_⟩
   show (len - (((x : Nat) : Int) + (s : Nat))).toNat < (len - ((x : Nat) : Int)).toNat
   omega
  ·exact ⟨_, rfl, brB_t rfl he⟩
 ·have hge : ¬ s * k < len := by have := of_decide_eq_false hge; omega
  have : ¬ k < m := fun h => hge ((hm k).1 h)
  obtain rfl : k = m := by omega
  exact hend w1 hI
theorem and7 : ∀ n, n < 256 → IntKind.i64.wrap (bitsZ .and .i64 ((n : Nat) : Int) 7) = ((n % 8 : Nat) : Int) := by decide +kernel
theorem shl6 : ∀ n, n < 8 → shiftZ .shl .i64 6 ((n : Nat) : Int) = ((3 * (2 * 2 ^ n) : Nat) : Int) := by decide +kernel
theorem wid16 {x : Int} (h0 : 0 ≤ x) (h1 : x ≤ 255) : IntKind.u16.wrap (257 * IntKind.u16.wrap x) = 257 * x := by
 rw [wrap_u (x := x) rfl h0 (by simp [IntKind.bits]; omega), wrap_u rfl (by omega) (by simp [IntKind.bits]; omega)]
theorem gpal_spec {w : World} {N rb at_ : Nat} {b : List Int} {f : Int} {R : Ending → World → Prop} (h : GAt w N rb b at_) (f0 : 0 ≤ f) (f1 : f ≤ 255)
  (hok : at_ + 3 * palN f ≤ b.length → ∀ p c w', Chg (· = rb) w w' → GAt w' N rb b (at_ + 3 * palN f) → OwnS (fun i => w.heap.size ≤ i) w' p (palN f) c 4 (cos (palU b at_ (palN f))) → R (.returned (.slice p (palN f) c)) w')
  (herr : b.length < at_ + 3 * palN f → ∀ w', Ext w w' → R (.panicked brkG) w') : Calls P F.gif_reader_palette #[.pointer (some ⟨rb, 0, none⟩), i64 f] w R := by
 refine calls_gif_reader_palette _ _ _ _ ?_
 obtain ⟨fn, rfl⟩ := Int.eq_ofNat_of_zero_le f0
 have hpn := palN_range (fn : Nat)
 have e7 : IntKind.i64.wrap (bitsZ .and .i64 ((fn : Nat) : Int) 7) = ((fn % 8 : Nat) : Int) := and7 fn (by omega)
 have e6 : shiftZ .shl .i64 6 ((fn % 8 : Nat) : Int) = ((3 * palN (fn : Nat) : Nat) : Int) := by
  rw [shl6 _ (by omega)]
  unfold palN
  rw [show (((fn : Nat) : Int) % 8).toNat = fn % 8 by omega]
 intro k1 hk1
 rw [e7, e6]
 refine ⟨by omega, fun w1 hL1 => ?_⟩
 generalize palN (fn : Nat) = n at *
 have hE1 : Ext w w1 := hL1.ext (by simpa using hk1)
 have ht1 := hL1.there k1 (by simp)
 have hs1 := hE1.size
 have hrb := h.lt
 have hN := h.hN
 refine gbytes_spec (n := 3 * n) (h.ext hE1) (by omega) (fun hle p c w2 hc2 h2 hs2 hnc => .inl ⟨_, _, _, rfl, hc2.keep (by simp; omega), ?_⟩) fun hlt => .inr ⟨_, rfl, herr hlt w1 hE1⟩
 have hz2 := hc2.size
 refine calls_slices_Chunk_byte _ _ _ _ _ _ ?_
 intro b1 v1 hn1 b2 v2 hn2
 have hb1 : b1 = w2.heap.size := hn1.1
 have hb2 : b2 = v1.heap.size := hn2.1
 have hb1s := hn1.size
 have hb2s := hn2.size
 have hE5 : Ext w2 v2 := hn1.ext.trans hn2.ext
 have hc1 : Cs v2 b1 [.slice p (3 * n) c] := (show Cs v1 b1 [.slice p (3 * n) c] from hn1.cs).ext hn2.ext
 have hc2' : Cs v2 b2 [i64 3] := hn2.cs
 refine ⟨_, hc2'.cell (i := 0) rfl, brB_f (by simp) ⟨_, _, _, rfl, hE5.keep _, fun k4 w6 hrf I1 Z1 stI stZ hI0 rule => ?_⟩⟩
 have hs5 := hE5.size
 have hk4 := hrf.eq
 have hs6 := hrf.size
 have hE6 := hrf.ext
 have hv1 := hn2.ext.size
 refine callF_i (by kernel_rfl) ?_
 let T : Nat → Prop := fun i => w2.heap.size ≤ i ∨ i = k1
 let J : Nat → World → Prop := fun k u => ∃ q c', I1 [.slice q k c'] u ∧ OwnS (fun i => w6.heap.size ≤ i) u q k c' 4 (cos (palU b at_ k)) ∧ Chg T w2 u ∧ Cs u b1 [.slice p (3 * n) c] ∧ Cs u b2 [i64 ((3 : Nat) : Int)] ∧ w6.heap.size ≤ u.heap.size
 have hTN : ∀ i, T i → i < w2.heap.size → N ≤ i := fun i hi _ => by
  rcases hi with hi | hi
  ·have := h2.hN; omega
  ·omega
 refine ChunkB_iter J (p := p) (len := 3 * n) (cap := c) (s := 3) (m := n) (by omega) (by omega) (fun k => by omega) hnc (by omega) (fun k u ⟨q, c', j1, j2, j3, j4, j5, j6⟩ => ⟨j4.cell (i := 0) rfl, j5.cell (i := 0) rfl⟩) ?_ (fun k u hk ⟨q, c', j1, j2, j3, j4, j5, j6⟩ => ?_) (fun u ⟨q, c', j1, j2, j3, j4, j5, j6⟩ => ?_)
 ·exact ⟨_, _, hI0, OwnS.nil _ _ _ _, (hE5.trans hE6).chg, hc1.ext hE6, hc2'.ext hE6, Nat.le_refl _⟩
 ·rw [show min 3 (3 * n - 3 * k) = 3 by omega]
  refine rule _ _ _ _ _ _ u.drew _ (stI _ _ _ j1 ((Ext.refl u).drew.keep _)) fun y5 y6 w10 hP10 => ?_
  have hs10 : w10.heap.size = u.heap.size := hP10.size
  have c10 : Chg T w2 w10 := j3.drew.trans hP10.chg fun i hi _ => by have hi : i = k4 := hi; exact .inl (by omega)
  have hsrc : Sl N w10.drew p (bytes (part b at_ (3 * n))) := hs2.below (c10.drew.below hTN h2.hN)
  have hpl : (part b at_ (3 * n)).length = 3 * n := part_length hle
  have hS3 : Sl N w10.drew (slcBase p (3 * k) (3 * k + 3) 1) (bytes (part (part b at_ (3 * n)) (3 * k) 3)) := by
   have h0 : Sl N w10.drew p (bytes ((part b at_ (3 * n)).take (3 * k + 3))) := hsrc.pre (by rw [bytes, bytes, List.map_take]; exact List.take_prefix _ _)
   refine h0.part (by rw [bytes_length, List.length_take]; omega) ?_
   simp only [part, bytes, List.map_take, List.map_drop, List.drop_take]
   rw [show 3 * k + 3 - 3 * k = 3 by omega]
   exact List.prefix_refl _
  have hp3 : (part (part b at_ (3 * n)) (3 * k) 3).length = 3 := part_length (by rw [hpl]; omega)
  have g : ∀ j, j < 3 → (part (part b at_ (3 * n)) (3 * k) 3).getD j 0 = b.getD (at_ + 3 * k + j) 0 := fun j hj => by
   rw [part_get hj, part_get (by omega), Nat.add_assoc]
  have hx0 := bget h.fit (at_ + 3 * k)
  have hx1 := bget h.fit (at_ + 3 * k + 1)
  have hx2 := bget h.fit (at_ + 3 * k + 2)
  refine hS3.get (v := u8 (b.getD (at_ + 3 * k) 0)) (by omega) (by rw [bytes_length, hp3]) (by rw [← Nat.add_zero (at_ + 3 * k), ← g 0 (by omega)]; exact bytes_get (by rw [hp3]; simp)) fun a ha => ⟨_, ha, ?_⟩
  refine hS3.get (v := u8 (b.getD (at_ + 3 * k + 1) 0)) (by omega) (by rw [bytes_length, hp3]) (by rw [← g 1 (by omega)]; exact bytes_get (by rw [hp3]; simp)) fun a ha => ⟨_, ha, ?_⟩
  refine hS3.get (v := u8 (b.getD (at_ + 3 * k + 2) 0)) (by omega) (by rw [bytes_length, hp3]) (by rw [← g 2 (by omega)]; exact bytes_get (by rw [hp3]; simp)) fun a ha => ⟨_, ha, fun k9 hk9 w11 hL11 => ?_⟩
  rw [wid16 hx0.1 hx0.2, wid16 hx1.1 hx1.2, wid16 hx2.1 hx2.2]
  have hk9' : w10.heap.size ≤ k9 := hk9
  have o10' : OwnS (fun i => w6.heap.size ≤ i) w10 q k c' 4 (cos (palU b at_ k)) := OwnS.chg (w := u.drew) j2 hP10.chg fun i hi _ e => by have e : i = k4 := e; omega
  have o10 : OwnS (fun i => w6.heap.size ≤ i) w10.drew q k c' 4 (cos (palU b at_ k)) := o10'
  have hkd : ∀ i, i ∈ [k9, k1] → i = k9 ∨ i = k1 := fun i hi => by simpa using hi
  refine OwnS.grow (fs := co (colB b at_ k)) o10 hL11 (fun i hi => ?_) (fun i hi => by have hi : w10.heap.size ≤ i := hi; omega) (by simp [blocks]) rfl rfl (by omega) (by omega) fun p4 c4 w12 hO12 hc12 w13 hL13 w14 hP14 hI14 => ?_
  ·rcases hkd i hi with rfl | rfl
   ·exact .inl hk9
   ·exact .inr (by omega)
  have hs12 : w10.heap.size ≤ w12.heap.size := hc12.size
  have hs13 := hL13.size
  have hs14 : w14.heap.size = w13.heap.size := hP14.size
  have hcA : Chg T w10.drew w14 := ((hc12.mono (T := T) fun i hi _ => by
   rcases hi with hi | hi
   ·exact .inl (by omega)
   ·rcases hkd i hi with rfl | rfl
    ·exact .inl (by omega)
    ·exact .inr rfl).trans hL13.chg fun i hi _ => by
   rcases hkd i hi with rfl | rfl
   ·exact .inl (by omega)
   ·exact .inr rfl).trans hP14.chg fun i hi _ => by have hi : i = k4 := hi; exact .inl (by omega)
  have cs : ∀ {bb vs}, Cs u bb vs → bb < w6.heap.size → bb ≠ k1 → bb ≠ k4 → Cs w14 bb vs := fun {bb vs} hcs hb1 hb2 hb3 => by
   have q1 := hcs.drew.put hP10 hb3
   have q2 := q1.drew.chg hc12 fun hx => by
    rcases hx with hx | hx
    ·omega
    ·rcases hkd _ hx with e | e <;> omega
   have q3 := q2.chg hL13.chg fun hx => by rcases hkd _ hx with e | e <;> omega
   exact q3.chg hP14.chg fun hx => by have hx : bb = k4 := hx; omega
  refine .inl ⟨rfl, p4, c4, hI14, ?_, c10.drew.trans hcA fun i hi _ => hi, cs j4 (by omega) (by omega) (by omega), cs j5 (by omega) (by omega) (by omega), by omega⟩
  rw [palU_succ, cos_append, cos_one]
  refine OwnS.mono (OwnS.chg (OwnS.chg hO12 hL13.chg fun i hi _ hx => hi.2 hx) hP14.chg fun i hi _ hx => by have hx : i = k4 := hx; have := hi.1; omega) fun i hi _ => hi.1
 ·refine ⟨_, rfl, .inl ⟨q, _, _, j1, fun w19 hP19 w20 hP20 => ?_⟩⟩
  have hs19 := hP19.size
  have c20 : Chg T w2 w20 := (j3.trans hP19.chg fun i hi _ => by have hi : i = k4 := hi; exact .inl (by omega)).trans hP20.chg fun i hi _ => by have hi : i = v2.heap.size := hi; exact .inl (by omega)
  refine hok hle q c' w20 ((hE1.chg.trans hc2 fun i hi _ => hi).trans c20 fun i hi hl => by rcases hi with hi | hi <;> omega) (h2.chg c20 (fun hx => by rcases hx with hx | hx <;> omega) hTN) ?_
  exact OwnS.mono (OwnS.chg (OwnS.chg j2 hP19.chg fun i hi _ hx => by have hx : i = k4 := hx; omega) hP20.chg fun i hi _ hx => by have hx : i = v2.heap.size := hx; omega) fun i hi _ => by omega
end Go.Proofs.Ytiiaihiliimcoaa
namespace Go.Proofs.Ytiiaihiliimcoaa
open Go Go.Vc Go.RowKit Go.Qn
set_option maxRecDepth 100000
set_option maxHeartbeats 2000000
def restM (b : List Int) (k : Nat) (d : List (List Int)) : Option (List (List Int) × Nat) := (blkM b k).map fun r => (d ++ r.1, r.2)
theorem restM_nil (b : List Int) (k : Nat) : restM b k [] = blkM b k := by
 unfold restM
 cases blkM b k with
 | none => rfl
 | some r => rfl
theorem flat_snoc (d : List (List Int)) (x : List Int) : (d ++ [x]).flatten.length = d.flatten.length + x.length := by
 rw [List.flatten_append, List.length_append, show [x].flatten = x by simp]
theorem blk_iter {w : World} {N rb k0 yl : Nat} {b : List Int} {fr : Addr} {R : Ending → World → Prop} (J : List (List Int) → World → Prop) (h : GAt w N rb b k0) (h0 : J [] w)
  (hJ : ∀ d u u', J d u → Chg (· = rb) u u' → J d u') (hfr : ∀ d u, J d u → u.cell? fr = some (.pointer (some ⟨rb, 0, none⟩)))
  (hy : ∀ d x p n c u k, J d u → GAt u N rb b k → Sl N u p (bytes x) → x.length = n → 1 ≤ n → n ≤ 255 → n ≤ c → Bs x → d.flatten.length + n ≤ b.length → d.length + 1 ≤ b.length → YieldAt Fence.wide 0 P yl #[.slice p n c] u fun e u' => e = .returned (.bool true) ∧ J (d ++ [x]) u' ∧ GAt u' N rb b k)
  (hok : ∀ l e u, blkM b k0 = some (l, e) → J l u → GAt u N rb b e → R (.returned (.tuple #[])) u)
  (herr : ∀ d u, blkM b k0 = none → J d u → R (.panicked brkG) u) :
  Calls P F.gif_reader_blocks_fn1 #[.func (.yield yl) #[] #[], .pointer (some fr)] w R := by
 refine calls_gif_reader_blocks_fn1 _ _ _ _ ?_
 refine ⟨_, hfr _ _ h0, ?_⟩
 refine gone_spec h (fun hlt w1 hc1 h1 => .inl ⟨_, rfl, ?_⟩) fun hge => .inr ⟨_, rfl, herr [] w (by rw [blkM_step, if_pos hge]) h0⟩
 refine ⟨fun vs u => ∃ (k : Nat) (d : List (List Int)), vs = [i64 (b.getD k 0)] ∧ k < b.length ∧ GAt u N rb b (k + 1) ∧ J d u ∧ blkM b k0 = restM b k d ∧ d.flatten.length ≤ k ∧ d.length ≤ d.flatten.length,
  fun vs u => match u.cell? ⟨rb, 0, none⟩ with | some (.slice _ n _) => n | _ => 0, ⟨k0, [], rfl, hlt, h1, hJ _ _ _ h0 hc1, (restM_nil b k0).symm, by simp, by simp⟩, fun n2 w2 hI => ?_⟩
 obtain ⟨k, d, hv, hk, hG, hj, hM, hd1, hd2⟩ := hI
 obtain rfl : n2 = b.getD k 0 := by simpa using hv
 have hx := bget h.fit k
 obtain ⟨n, en⟩ : ∃ n : Nat, b.getD k 0 = n := ⟨(b.getD k 0).toNat, by omega⟩
 have hstep := blkM_step b k
 rw [if_neg (by omega)] at hstep
 refine brB_i (fun hgt => ?_) fun hz => ?_
 rotate_left
 ·have hz : b.getD k 0 = 0 := by have := of_decide_eq_false hz; omega
  rw [if_pos hz] at hstep
  exact hok d (k + 1) w2 (by rw [hM, restM, hstep]; simp) hj hG
 have hgt := of_decide_eq_true hgt
 rw [if_neg (by omega)] at hstep
 rw [en] at hstep hgt ⊢
 rw [Int.toNat_natCast] at hstep
 refine ⟨_, hfr _ _ hj, ?_⟩
 refine gbytes_spec (n := n) hG (by omega) (fun hle p c w3 hc3 h3 hs3 hnc => .inl ⟨_, _, _, rfl, ?_⟩) fun hlt' => .inr ⟨_, rfl, herr d w2 (by rw [hM, restM, hstep, if_pos (by omega)]; rfl) hj⟩
 rw [if_neg (by omega)] at hstep
 have hpl : (part b (k + 1) n).length = n := part_length hle
 have hM3 : blkM b k0 = restM b (k + 1 + n) (d ++ [part b (k + 1) n]) := by
  rw [hM, restM, restM, hstep]
  cases blkM b (k + 1 + n) with
  | none => rfl
  | some r => simp
 refine yield_mono (hy d (part b (k + 1) n) p n c w3 (k + 1 + n) (hJ _ _ _ hj hc3) h3 hs3 hpl (by omega) (by omega) hnc (part_bs h.fit _ _) (by omega) (by omega)) fun e w4 he => ?_
 obtain ⟨rfl, hj4, h4⟩ := he
 refine ⟨_, rfl, brB_f rfl ⟨_, hfr _ _ hj4, ?_⟩⟩
 refine gone_spec h4 (fun hlt5 w5 hc5 h5 => .inl ⟨_, rfl, ⟨k + 1 + n, d ++ [part b (k + 1) n], rfl, hlt5, h5, hJ _ _ _ hj4 hc5, hM3, by rw [flat_snoc, hpl]; omega, by rw [flat_snoc, hpl, List.length_append]; show d.length + 1 ≤ _; omega⟩, ?_⟩) fun hge => .inr ⟨_, rfl, herr _ w4 (by rw [hM3, restM, blkM_step, if_pos hge]; rfl) hj4⟩
 obtain ⟨p5, c5, g1, _, _⟩ := h5.obj
 obtain ⟨p2, c2, g2, _, _⟩ := hG.obj
 have e1 := g1.cell (i := 0) rfl
 have e2 := g2.cell (i := 0) rfl
 simp only [e1, e2]
 show b.length - (k + 1 + n + 1) < b.length - (k + 1)
 omega
def Rows (N : Nat) (u : World) (vs : List Value) (d : List (List Int)) : Prop := vs.length = d.length ∧ ∀ i, i < d.length → ∃ p c, vs[i]? = some (.slice p (d.getD i []).length c) ∧ Sl N u p (bytes (d.getD i []))
theorem Rows.below {N : Nat} {u u' : World} {vs : List Value} {d : List (List Int)} (h : Rows N u vs d) (hb : Below N u u') : Rows N u' vs d :=
 ⟨h.1, fun i hi => by obtain ⟨p, c, h1, h2⟩ := h.2 i hi; exact ⟨p, c, h1, h2.below hb⟩⟩
theorem Rows.snoc {N : Nat} {u : World} {vs : List Value} {d : List (List Int)} {x : List Int} {p : Option Addr} {c : Nat} (h : Rows N u vs d) (hs : Sl N u p (bytes x)) : Rows N u (vs ++ [.slice p x.length c]) (d ++ [x]) := by
 refine ⟨by simp [h.1], fun i hi => ?_⟩
 rcases Nat.lt_or_ge i d.length with hlt | hge
 ·obtain ⟨q, e, h1, h2⟩ := h.2 i hlt
  rw [List.getD_eq_getElem?_getD, List.getElem?_append_left hlt, ← List.getD_eq_getElem?_getD]
  exact ⟨q, e, by rw [List.getElem?_append_left (by rw [h.1]; exact hlt)]; exact h1, h2⟩
 ·have : i = d.length := by simp at hi; omega
  subst this
  rw [List.getD_eq_getElem?_getD, List.getElem?_append_right (Nat.le_refl _), Nat.sub_self]
  exact ⟨p, c, by rw [List.getElem?_append_right (by rw [h.1]; exact Nat.le_refl _), h.1, Nat.sub_self]; rfl, hs⟩
theorem and1 : ∀ n, n < 256 → ((IntKind.u8.wrap (bitsZ .and .u8 ((n : Nat) : Int) 1) == 0) = decide (n % 2 = 0)) := by decide +kernel
theorem gext_spec {w : World} {N rb k : Nat} {b : List Int} {clear : Int} {R : Ending → World → Prop} (h : GAt w N rb b k)
  (hok : ∀ c e w', extM b k clear = some (c, e) → Chg (· = rb) w w' → GAt w' N rb b e → R (.returned (i64 c)) w')
  (herr : ∀ w', extM b k clear = none → Chg (· = rb) w w' → R (.panicked brkG) w') : Calls P F.gif_reader_extension #[.pointer (some ⟨rb, 0, none⟩), i64 clear] w R := by
 refine calls_gif_reader_extension _ _ _ _ ?_
 unfold extM at hok herr
 have hrb := h.lt
 refine gone_spec h (fun hlt w1 hc1 h1 => .inl ⟨_, rfl, fun k1 hk1 w2 hL2 => ?_⟩) fun hge => .inr ⟨_, rfl, herr w (by rw [if_pos hge]) (Chg.refl _ _)⟩
 rw [if_neg (by omega)] at hok herr
 have s1 := hc1.size
 have ht1 := hL2.there k1 (by simp)
 have s2 := hL2.size
 have hrb1 := h1.lt
 have hN1 := h1.hN
 have h2 : GAt w2 N rb b (k + 1) := h1.chg hL2.chg (by simp; omega) (by simp; omega)
 refine calls_gif_reader_blocks _ _ _ ?_
 intro kf w3 hn3
 have ekf : kf = w2.heap.size := hn3.1
 have skf := hn3.size
 have s3 := hn3.ext.size
 have hF3 : Cs w3 kf [.pointer (some ⟨rb, 0, none⟩)] := hn3.cs
 refine ⟨_, _, _, rfl, hn3.ext.keep _, fun k2 w4 hrf I1 Z1 stI stZ hI0 rule => ?_⟩
 have ek2 := hrf.eq
 have s4 := hrf.size
 have hE4 := hrf.ext
 have h4 := (h2.ext hn3.ext).ext hE4
 let T : Nat → Prop := fun i => i = rb ∨ i = k1 ∨ i = k2 ∨ w4.heap.size ≤ i
 have hTN : ∀ i, T i → i < w4.heap.size → N ≤ i := fun i hi _ => by
  have := h.lo
  rcases hi with hi | hi | hi | hi <;> omega
 let J : List (List Int) → World → Prop := fun d u => ∃ q c vs, I1 [.slice q d.length c] u ∧ OwnS (fun i => w4.heap.size ≤ i) u q d.length c 1 vs ∧ Rows N u vs d ∧ Chg T w4 u ∧ Cs u kf [.pointer (some ⟨rb, 0, none⟩)]
 have hkR : ∀ i, i ∈ [k2, w3.heap.size, k1] → i ≠ rb := fun i hi => by simp at hi; omega
 have hall : ∀ u u', Chg T w4 u → Put w3.heap.size u u' → Chg (· = rb) w u' := fun u u' hT hP => by
  have c4 : Chg (· = rb) w w4 := ((hc1.trans hL2.chg fun i hi hl => by simp at hi; omega).trans hn3.ext.chg (T := fun _ => False) fun i hi _ => hi.elim).trans hE4.chg (T := fun _ => False) fun i hi _ => hi.elim
  exact (c4.trans hT fun i hi hl => by rcases hi with hi | hi | hi | hi <;> omega).trans hP.chg fun i hi hl => by have hi : i = w3.heap.size := hi; omega
 refine callF_i (by kernel_rfl) ?_
 refine blk_iter J h4 ⟨_, _, [], hI0, OwnS.nil _ _ _ _, ⟨rfl, fun i hi => by simp at hi⟩, Chg.refl _ _, hF3.ext hE4⟩ (fun d u u' ⟨q, c, vs, j1, j2, j3, j4, j5⟩ hc => ?_) (fun d u ⟨q, c, vs, j1, j2, j3, j4, j5⟩ => j5.cell (i := 0) rfl) (fun d x p n c u k' ⟨q, c', vs, j1, j2, j3, j4, j5⟩ hG hs hxn hn1 hn255 hnc hbx hfb hdb => ?_) (fun l e u hM ⟨q, c, vs, j1, j2, j3, j4, j5⟩ hG => ?_) fun d u hM ⟨q, c, vs, j1, j2, j3, j4, j5⟩ => ?_
 ·exact ⟨q, c, vs, stI _ _ _ j1 (hc.keep fun i hi e => hkR i hi e), OwnS.chg j2 hc fun i hi _ e => by have e : i = rb := e; omega, j3.below (hc.below (fun i hi _ => by have hi : i = rb := hi; have := h.lo; omega) (Nat.le_trans h4.hN j4.size)), j4.trans hc fun i hi _ => .inl hi, j5.chg hc (by omega)⟩
 ·refine rule _ _ _ _ _ _ u _ j1 fun y5 y6 w10 hP10 k7 hk7 w11 hL11 => ?_
  have s10 : w10.heap.size = u.heap.size := hP10.size
  have su := j4.size
  have o10 := OwnS.chg j2 hP10.chg fun i hi _ e => by have e : i = k2 := e; omega
  have hkd : ∀ i, i ∈ [k7, k1] → i = k7 ∨ i = k1 := fun i hi => by simpa using hi
  have hroom := h.room
  refine OwnS.grow (fs := [.slice p n c]) o10 hL11 (fun i hi => ?_) (fun i hi => by omega) (by simp [blocks]) rfl rfl (by omega) (by omega) fun p4 c4 w12 hO12 hc12 w13 hL13 w14 hP14 hI14 => ?_
  ·rcases hkd i hi with rfl | rfl
   ·exact .inl hk7
   ·exact .inr (by omega)
  have s12 := hc12.size
  have s13 := hL13.size
  have cA : Chg T u w14 := (((hP10.chg.mono (T := T) fun i hi _ => by have hi : i = k2 := hi; exact .inr (.inr (.inl hi))).trans hc12 fun i hi _ => by
   rcases hi with hi | hi
   ·exact .inr (.inr (.inr hi))
   ·rcases hkd i hi with rfl | rfl
    ·exact .inr (.inr (.inr (by omega)))
    ·exact .inr (.inl rfl)).trans hL13.chg fun i hi _ => by
   rcases hkd i hi with rfl | rfl
   ·exact .inr (.inr (.inr (by omega)))
   ·exact .inr (.inl rfl)).trans hP14.chg fun i hi _ => by have hi : i = k2 := hi; exact .inr (.inr (.inl hi))
  have hbl : Below N u w14 := cA.below (fun i hi hl => by
   have := h.lo
   rcases hi with hi | hi | hi | hi <;> omega) (Nat.le_trans h4.hN su)
  have hz : ∀ i, (i = k2 ∨ (w4.heap.size ≤ i ∨ i ∈ [k7, k1])) → i ≠ rb ∧ i ≠ kf := fun i hi => by
   rcases hi with hi | hi | hi
   ·omega
   ·omega
   ·rcases hkd i hi with rfl | rfl <;> omega
  have cB : Chg (fun i => i = k2 ∨ (w4.heap.size ≤ i ∨ i ∈ [k7, k1])) u w14 := (((hP10.chg.mono fun i hi _ => .inl hi).trans hc12 fun i hi _ => .inr hi).trans hL13.chg fun i hi _ => .inr (.inr hi)).trans hP14.chg fun i hi _ => .inl hi
  refine ⟨rfl, ⟨p4, c4, vs ++ [.slice p n c], by rw [List.length_append]; exact hI14, ?_, ?_, j4.trans cA fun i hi _ => hi, j5.chg cB (fun hx => (hz _ hx).2 rfl)⟩, hG.chg cB (fun hx => (hz _ hx).1 rfl) fun i hi hl => ?_⟩
  ·rw [List.length_append]
   exact OwnS.mono (OwnS.chg (OwnS.chg hO12 hL13.chg fun i hi _ hx => hi.2 hx) hP14.chg fun i hi _ hx => by have hx : i = k2 := hx; have := hi.1; omega) fun i hi _ => hi.1
  ·have := (j3.snoc (c := c) hs).below hbl
   rw [hxn] at this
   exact this
  ·have := h.lo
   rcases hi with hi | hi | hi
   ·omega
   ·omega
   ·rcases hkd i hi with rfl | rfl <;> omega
 ·rw [hM] at hok herr
  simp only at hok herr
  refine .inl ⟨_, rfl, .inl ⟨q, _, _, j1, fun w16 hP16 => ?_⟩⟩
  have s16 : w16.heap.size = u.heap.size := hP16.size
  have su := j4.size
  have c16 : Chg T w4 w16 := j4.trans hP16.chg fun i hi _ => .inr (.inr (.inl hi))
  have hG16 : GAt w16 N rb b e := hG.chg hP16.chg (by show ¬ rb = k2; omega) fun i hi _ => by have hi : i = k2 := hi; have := h.hN; omega
  have o16 := OwnS.chg j2 hP16.chg fun i hi _ e => by have e : i = k2 := e; omega
  have r16 := j3.below (hP16.chg.below (fun i hi _ => by have hi : i = k2 := hi; have := h.hN; omega) (Nat.le_trans h4.hN su))
  have hfin : ∀ w17, Put w3.heap.size w16 w17 → GAt w17 N rb b e := fun w17 hP => hG16.chg hP.chg (by show ¬ rb = w3.heap.size; omega) fun i hi _ => by have hi : i = w3.heap.size := hi; have := h.hN; omega
  refine brB_i (fun hne w17 hP17 => ?_) fun heq => ?_
  ·have hne : b.getD k 0 ≠ 249 := by simpa using hne
   rw [if_pos hne] at hok
   exact hok _ _ w17 rfl (hall _ _ c16 hP17) (hfin w17 hP17)
  have heq : ¬ b.getD k 0 ≠ 249 := by simpa using heq
  rw [if_neg heq] at hok herr
  refine brB_i (fun h0 => ⟨⟨_, _, rfl⟩, fun w18 hP18 => ?_⟩) fun h0 => ?_
  ·have h0 : l.length = 0 := by have := eq_of_beq h0; omega
   have : l = [] := List.length_eq_zero_iff.1 h0
   subst this
   exact herr w18 (if_pos (by simp)) (hall _ _ c16 hP18)
  have h0 : 0 < l.length := by
   rcases Nat.eq_zero_or_pos l.length with e | e
   ·rw [e] at h0; cases h0
   ·exact e
  obtain ⟨p0, c0, g1, g2⟩ := r16.2 0 h0
  have hq : ∀ {F : Addr → Prop}, (∀ a, w16.cell? a = some (.slice p0 (l.getD 0 []).length c0) → F a) → idx q l.length 0 1 F := fun hF => o16.sl.get (i := 0) (len := l.length) (by omega) r16.1 g1 hF
  generalize hx : l.getD 0 [] = x at *
  refine hq fun a ha => ⟨_, _, _, ha, ?_⟩
  refine brB_i (fun hne => ⟨⟨_, _, rfl⟩, fun w19 hP19 => ?_⟩) fun h4' => ?_
  ·have hne : x.length ≠ 4 := fun e => by rw [e] at hne; cases hne
   exact herr w19 (if_pos hne) (hall _ _ c16 hP19)
  have h4' : x.length = 4 := by
   have : ¬ (((x.length : Nat) : Int) != 4) = true := by rw [h4']; exact Bool.noConfusion
   simp at this; omega
  rw [if_neg (by omega)] at hok
  refine hq fun a ha => ⟨_, _, _, ha, ?_⟩
  have hbx : Bs x := by
   have := (blkF_ok h.fit (show blkF b (b.length + 1) (k + 1) = some (l, e) from hM)).2.2.1 x (by rw [← hx, List.getD_eq_getElem?_getD, List.getElem?_eq_getElem h0]; exact List.getElem_mem h0)
   exact this
  have v0 := bget hbx 0
  have v3 := bget hbx 3
  obtain ⟨m, em⟩ : ∃ m : Nat, x.getD 0 0 = m := ⟨(x.getD 0 0).toNat, by omega⟩
  refine g2.get (v := u8 (x.getD 0 0)) (by omega) (by rw [bytes_length]) (bytes_get (show (0 : Int).toNat < x.length by simp; omega)) fun a3 ha3 => ⟨_, ha3, ?_⟩
  rw [em] at v0 hok ⊢
  rw [and1 m (by omega)]
  refine brB_i (fun hev w20 hP20 => ?_) fun hod => ?_
  ·have hev := of_decide_eq_true hev
   rw [if_pos (by omega)] at hok
   exact hok _ _ w20 rfl (hall _ _ c16 hP20) (hfin w20 hP20)
  have hod := of_decide_eq_false hod
  rw [if_neg (by omega)] at hok
  refine hq fun a ha => ⟨_, _, _, ha, ?_⟩
  refine g2.get (v := u8 (x.getD 3 0)) (by omega) (by rw [bytes_length]) (bytes_get (show (3 : Int).toNat < x.length by simp; omega)) fun a5 ha5 => ⟨_, ha5, fun w21 hP21 => ?_⟩
  rw [w64 (by omega) (by omega)]
  exact hok _ _ w21 rfl (hall _ _ c16 hP21) (hfin w21 hP21)
 ·rw [hM] at herr
  simp only at herr
  refine .inr ⟨_, rfl, j4.keep fun i hi hT => ?_, fun w22 hP22 => herr w22 trivial (hall _ _ j4 hP22)⟩
  have : i = w3.heap.size := by simpa using hi
  subst this
  rcases hT with hT | hT | hT | hT <;> omega
end Go.Proofs.Ytiiaihiliimcoaa
namespace Go.Proofs.Ytiiaihiliimcoaa
open Go Go.Vc Go.RowKit Go.Qn
set_option maxRecDepth 100000
set_option maxHeartbeats 2000000
theorem upto_succ (n : Nat) : upto (n + 1) = upto n ++ [((n : Nat) : Int)] := by simp [upto, List.range_succ]
theorem upto_len (n : Nat) : (upto n).length = n := by simp [upto]
theorem rowsM_len (h : Nat) (l : Bool) : (rowsM h l).length = h := by
 unfold rowsM
 split
 ·rw [(stab_perm turnV (upto h)).length_eq, upto_len]
 ·exact upto_len h
theorem rowsM_mem {h : Nat} {l : Bool} {y : Int} (hy : y ∈ rowsM h l) : 0 ≤ y ∧ y < h := by
 have : y ∈ upto h := by
  unfold rowsM at hy
  split at hy
  ·exact (stab_perm turnV (upto h)).mem_iff.1 hy
  ·exact hy
 simp only [upto, List.mem_map, List.mem_range] at this
 obtain ⟨n, h1, rfl⟩ := this
 omega
theorem tm0 {x c : Int} : (x.tmod c == 0) = decide (x % c = 0) := by
 rw [Bool.eq_iff_iff]
 simp only [beq_iff_eq, decide_eq_true_eq]
 exact ⟨fun h => Int.emod_eq_zero_of_dvd (Int.dvd_of_tmod_eq_zero h), fun h => Int.tmod_eq_zero_of_dvd (Int.dvd_of_emod_eq_zero h)⟩
theorem turn_spec {x : Int} {w : World} {R : Ending → World → Prop} (hR : R (.returned (i64 (turnV x))) w) : Calls P F.gif_rows_fn1 #[i64 x] w R := by
 refine calls_gif_rows_fn1 _ _ _ ?_
 unfold vc_gif_rows_fn1
 unfold turnV at hR
 simp only [divZ, tm0]
 refine brB_i (fun h => by rw [if_pos (of_decide_eq_true h)] at hR; exact hR) fun h => ?_
 rw [if_neg (of_decide_eq_false h)] at hR
 refine brB_i (fun h => by rw [if_pos (of_decide_eq_true h)] at hR; exact hR) fun h => ?_
 rw [if_neg (of_decide_eq_false h)] at hR
 refine brB_i (fun h => by rw [if_pos (of_decide_eq_true h)] at hR; exact hR) fun h => ?_
 rw [if_neg (of_decide_eq_false h)] at hR
 exact hR
theorem turn_range (y : Int) : 0 ≤ turnV y ∧ turnV y ≤ 3 := by
 unfold turnV
 split
 ·omega
 split
 ·omega
 split <;> omega
theorem turn_cmp {b k : Nat} (hbk : k ≠ b) : CmpI (.func (.func F.gif_rows_fn2) #[] #[.pointer (some ⟨k, 0, none⟩)]) turnV b (fun u => Cs u k [.func (.func F.gif_rows_fn1) #[] #[]]) := by
 refine ⟨fun u x y R hQ hR => ?_, fun u u' hQ hc => hQ.chg hc hbk⟩
 refine callW_i (by kernel_rfl) ?_
 refine calls_gif_rows_fn2 _ _ _ _ _ ?_
 have rx := turn_range x
 have ry := turn_range y
 refine ⟨_, _, _, hQ.drew.cell (i := 0) rfl, _, _, _, hQ.drew.cell (i := 0) rfl, ?_⟩
 refine callV_i (by kernel_rfl) (turn_spec ⟨_, rfl, Keeps.refl _, ?_⟩)
 refine callV_i (by kernel_rfl) (turn_spec ⟨_, rfl, ?_⟩)
 rw [w64 (by omega) (by omega)]
 exact hR _ _ (Ext.refl u).drew (by omega)
theorem rows_spec {w : World} {h : Nat} {laced : Bool} {R : Ending → World → Prop} (h1 : 1 ≤ h) (h2 : h ≤ 65535)
  (hR : ∀ bb c w', Ext w w' → w.heap.size ≤ bb → SiL w' bb (rowsM h laced) → R (.returned (.slice (some ⟨bb, 0, none⟩) h c)) w') :
  Calls P F.gif_rows #[i64 (h : Nat), .bool laced] w R := by
 refine calls_gif_rows _ _ _ _ ?_
 refine ⟨fun vs u => ∃ (n : Nat) (p : Option Addr) (c : Nat), vs = [.slice p n c, i64 (n : Nat)] ∧ n ≤ h ∧ Ext w u ∧ OwnS (fun i => w.heap.size ≤ i) u p n c 1 ((upto n).map i64), fun vs _ => match vs with | [_, .int _ n] => (h - n).toNat | _ => 0, ⟨0, none, 0, rfl, by omega, Ext.refl w, OwnS.nil _ _ _ _⟩, fun p1 k1 k2 n1 w1 hI => ?_⟩
 obtain ⟨n, p, c, hv, hn, hE1, hO1⟩ := hI
 simp only [List.cons.injEq, Value.slice.injEq, Value.int.injEq, true_and, and_true] at hv
 obtain ⟨⟨rfl, rfl, rfl⟩, rfl⟩ := hv
 have s1 := hE1.size
 refine brB_i (fun hlt k3 hk3 w2 hL2 => ?_) fun hge => ?_
 ·have hlt : k1 < h := by have := of_decide_eq_true hlt; omega
  refine OwnS.grow hO1 hL2 (fun b hb => .inl (by simp at hb; omega)) (fun i hi => by omega) (by simp [blocks]) rfl rfl (by omega) (by omega) fun p' c' w6 hO6 hc6 => ?_
  rw [wrap_succ (by omega)]
  refine ⟨⟨k1 + 1, p', c', rfl, hlt, hE1.step hc6 (fun i hi => by simp at hi; omega), ?_⟩, by show ((h : Int) - ((k1 + 1 : Nat) : Int)).toNat < ((h : Int) - (k1 : Nat)).toNat; omega⟩
  rw [upto_succ, List.map_append]
  exact OwnS.mono hO6 fun i hi _ => hi.1
 have : k1 = h := by have := of_decide_eq_false hge; omega
 subst this
 refine brB_i (fun hl k6 w4 hn4 => ?_) fun hl => ?_
 rotate_left
 ·obtain ⟨q1, q2, q3⟩ := id hO1
  rcases q3 with q3 | ⟨b', rest, q4, q5, q6, q7⟩
  ·omega
  subst q5
  exact hR b' k2 w1 hE1 q4 ⟨rest, by rw [show rowsM k1 laced = upto k1 by unfold rowsM; rw [hl]; rfl]; exact q7⟩
 have e4 : k6 = w1.heap.size := hn4.1
 have s4 := hn4.size
 have hC4 : Cs w4 k6 [.nilFunc] := hn4.cs
 obtain ⟨bb, eb, hb1, hb2⟩ := OwnS.base hO1 (by omega)
 subst eb
 refine ⟨⟨_, hC4.cell (i := 0) rfl⟩, hC4.frozen _, ?_⟩
 have hset := Chg.setCells w4 ⟨k6, 0, none⟩ [.func (.func F.gif_rows_fn1) #[] #[]] 0
 have hC5 : Cs (setCells w4 ⟨k6, 0, none⟩ [.func (.func F.gif_rows_fn1) #[] #[]] 0) k6 [.func (.func F.gif_rows_fn1) #[] #[]] := hC4.set1 (off := 0) (v := .func (.func F.gif_rows_fn1) #[] #[]) (by simp)
 have hO5 := OwnS.chg (OwnS.chg (T := fun _ => False) (OwnS.mono (T := fun i => w.heap.size ≤ i ∧ i < w1.heap.size) hO1 fun i hi hl => ⟨hi, hl⟩) hn4.ext.chg fun _ _ _ h => h) hset fun i hi _ e => by have e : i = k6 := e; omega
 have hlu := upto_len k1
 obtain ⟨q1, q2, q3⟩ := id hO5
 rcases q3 with q3 | ⟨b', rest, q4, q5, q6, q7⟩
 ·omega
 cases q5
 have := SortI_spec (va := .func (.func F.gif_rows_fn2) #[] #[.pointer (some ⟨k6, 0, none⟩)]) (key := turnV) (cap := k2) (l := upto k1) (R := fun e1 w5 => e1 = .returned (.tuple #[]) ∧ R (.returned (.slice (some ⟨bb, 0, none⟩) k1 k2)) w5) ⟨rest, q7⟩ hC5 (turn_cmp (by omega)) (by omega) fun w' hS hc => ⟨rfl, ?_⟩
 ·rw [hlu] at this; exact this
 obtain ⟨rest', hS⟩ := hS
 have hsz : (setCells w4 ⟨k6, 0, none⟩ [.func (.func F.gif_rows_fn1) #[] #[]] 0).heap.size = w4.heap.size := (setCells_same _ _ _ _).size
 have hlen : (stab turnV (upto k1)).length = k1 := by rw [(stab_perm turnV (upto k1)).length_eq, hlu]
 refine hR _ _ w' (((hE1.trans hn4.ext).step hset fun i hi => by have hi : i = k6 := hi; omega).step hc fun i hi => by have hi : i = bb := hi; omega) hb1 ?_
 have er : rowsM k1 laced = stab turnV (upto k1) := by unfold rowsM; rw [hl]; rfl
 exact ⟨rest', by rw [er]; exact hS⟩
end Go.Proofs.Ytiiaihiliimcoaa
namespace Go.Proofs.Ytiiaihiliimcoaa
open Go Go.Vc Go.RowKit Go.Qn
set_option maxRecDepth 100000
set_option maxHeartbeats 2000000
def fl (s f : Int) (n : Nat) : List Int := (upto n).filter fun y => decide (y % s = f)
end Go.Proofs.Ytiiaihiliimcoaa
namespace Go.Proofs.Ytiiaihiliimcoaa
open Go Go.Vc
set_option maxRecDepth 100000
def vc_gif_reader_picture (q1 : Option Addr) (x1 x2 : Int) (sa1 : Option Addr) (sl1 sc1 : Nat) (sa2 : Option Addr) (sl2 sc2 : Nat) (x3 : Int) (w : World) (R : Ending → World → Prop) : Prop :=
 ∀ k1 : Nat,
 w.heap.size ≤ k1 →
 ∀ w1 : World,
 Locl [k1] w w1 →
 Calls P F.gif_reader_two #[.pointer q1] w1 fun e1 w2 =>
 ((∃ n1 : Int,
 (e1 = .returned (.int .i64 n1)) ∧
 Keep [k1] w1 w2 ∧
 Calls P F.gif_reader_two #[.pointer q1] w2 fun e2 w3 =>
 ((∃ n2 : Int,
 (e2 = .returned (.int .i64 n2)) ∧
 Keep [k1] w2 w3 ∧
 Calls P F.gif_reader_two #[.pointer q1] w3 fun e3 w4 =>
 ((∃ n3 : Int,
 (e3 = .returned (.int .i64 n3)) ∧
 Keep [k1] w3 w4 ∧
 Calls P F.gif_reader_two #[.pointer q1] w4 fun e4 w5 =>
 ((∃ n4 : Int,
 (e4 = .returned (.int .i64 n4)) ∧
 Keep [k1] w4 w5 ∧
 Calls P F.gif_reader_one #[.pointer q1] w5 fun e5 w6 =>
 ((∃ n5 : Int,
 (e5 = .returned (.int .i64 n5)) ∧
 Keep [k1] w5 w6 ∧
 brB (decide (n3 < 1) || decide (n4 < 1) || decide (IntKind.i64.wrap (n1 + n3) > x1) || decide (IntKind.i64.wrap (n2 + n4) > x2))
 ((∃ y1 : TypeId,
 ∃ v1 : Value,
 Value.iface 40 (Value.agg #[]) = Value.iface y1 v1) ∧
 R (.panicked [{ v := Value.iface 40 (Value.agg #[]), recovered := false }]) w6)
 (∃ I1 : List Value → World → Prop,
 (brB (IntKind.i64.wrap (bitsZ .and .i64 n5 128) != 0)
 (Calls P F.gif_reader_palette #[.pointer q1, .int .i64 n5] w6 fun e6 w7 =>
 ((∃ p1 : Option Addr,
 ∃ k2 k3 : Nat,
 (e6 = .returned (.slice p1 k2 k3)) ∧
 Keep [k1] w6 w7 ∧
 I1 [.slice p1 k2 k3] w7) ∨
 (∃ l1 : List PanicEntry,
 (e6 = .panicked l1) ∧
 R (.panicked l1) w7)))
 (I1 [.slice sa2 sl2 sc2] w6)) ∧
 ∀ (p2 : Option Addr) (k4 k5 : Nat) (w8 : World),
 (I1 [.slice p2 k4 k5] w8) →
 Calls P F.gif_reader_one #[.pointer q1] w8 fun e7 w9 =>
 ((∃ n6 : Int,
 (e7 = .returned (.int .i64 n6)) ∧
 Keep [k1] w8 w9 ∧
 ∀ k6 : Nat,
 w9.heap.size ≤ k6 →
 ∀ w10 : World,
 Locl [k6, k1] w9 w10 →
 Calls P F.gif_reader_blocks #[.pointer q1] w10 fun e8 w11 =>
 ∃ (y2 : FuncId) (y3 y4 : Array Value),
 (e8 = .returned (.func (Fn.func y2) y3 y4)) ∧
 Keep [k6, k1] w10 w11 ∧
 ∀ (k7 : Nat) (w12 : World),
 (Rf w11 w12 k7) →
 ∀ (I2 : List Value → World → Prop) (Z1 : Exit → List Value → World → Prop),
 (∀ l2 : List Value,
 ∀ w13 w14 : World,
 (I2 l2 w13) →
 (Keep ([k7, w11.heap.size, k6, k1]) w13 w14) →
 I2 l2 w14) →
 (∀ y5 : Exit,
 ∀ (l3 : List Value) (w15 w16 : World),
 (Z1 y5 l3 w15) →
 (Keep ([k7, w11.heap.size, k6, k1]) w15 w16) →
 Z1 y5 l3 w16) →
 (I2 [.slice none 0 0] w12) →
 (∀ p3 : Option Addr,
 ∀ (k8 k9 : Nat) (p4 : Option Addr) (k10 k11 : Nat) (w17 : World) (I3 : Ending → World → Prop),
 (I2 [.slice p3 k8 k9] w17) →
 (∀ y6 : Obj,
 ∀ (y7 : Obj) (w18 : World),
 (Put k7 w17 w18) →
 ∃ l4 : List Value,
 (l4.length = k10 * 1) ∧
 (oneAll l4 = true) ∧
 (CellsAre w18 p4 l4) ∧
 appVC (w18) ([(14, k6, [.slice p3 k8 k9]), (5, k1, [.int .i64 x1, .int .i64 x2, .slice sa1 sl1 sc1])]) (p3) (k8) (k9) (k10) (1) (1) (5) ([.int .u8 0]) (l4) fun p5 k12 k13 w19 =>
 ∀ w20 : World,
 Locl [k6, k1] w19 w20 →
 ∀ w21 : World,
 (Put k7 w20 w21) →
 (I2 [.slice p5 k12 k13] w21) →
 I3 (.returned (.bool true)) w21) →
 YieldAt Fence.wide 0 P (k7) #[.slice p4 k10 k11] (w17) I3) →
 callF P (.func (Fn.func y2) y3 y4) [.func (Fn.yield k7) #[] #[]] w12 fun e9 w22 =>
 ((∃ v2 : Value,
 (e9 = .returned v2) ∧
 ((∃ p6 : Option Addr,
 ∃ k14 k15 : Nat,
 (I2 [.slice p6 k14 k15] w22) ∧
 ∀ w23 : World,
 (Put k7 w22 w23) →
 Calls P F.lzw_GifUnpack #[.slice p6 k14 k15, .int .i64 n6, .int .i64 (IntKind.i64.wrap (n3 * n4))] w23 fun e10 w24 =>
 ∃ (p7 : Option Addr) (k16 k17 : Nat) (n7 : Int),
 (e10 = .returned (.tuple #[.slice p7 k16 k17, .int .i64 n7])) ∧
 Keep [w11.heap.size, k6, k1] w23 w24 ∧
 brB (n7 != 0 || (k16 : Int) != IntKind.i64.wrap (n3 * n4) || (k4 : Int) == 0)
 ((∃ y8 : TypeId,
 ∃ v3 : Value,
 Value.iface 40 (Value.agg #[]) = Value.iface y8 v3) ∧
 ∀ w25 : World,
 (Put (w11.heap.size) w24 w25) →
 R (.panicked [{ v := Value.iface 40 (Value.agg #[]), recovered := false }]) w25)
 (Calls P F.gif_rows #[.int .i64 n4, .bool (IntKind.i64.wrap (bitsZ .and .i64 n5 64) != 0)] w24 fun e11 w26 =>
 ∃ (p8 : Option Addr) (k18 k19 : Nat),
 (e11 = .returned (.slice p8 k18 k19)) ∧
 Keep [w11.heap.size, k6, k1] w24 w26 ∧
 ∃ (I4 : List Value → World → Prop) (m1 : List Value → World → Nat),
 (I4 [.int .i64 0] w26) ∧
 ∀ (n8 : Int) (w27 : World),
 (I4 [.int .i64 n8] w27) →
 brB (decide (n8 < (k18 : Int)))
 (idx (p8) (k18) (n8) (1) fun a1 =>
 ∃ n9 : Int,
 (w27.cell? a1 = some (.int .i64 n9)) ∧
 slcc (p7) (k17) (IntKind.i64.wrap (n8 * n3)) (IntKind.i64.wrap (IntKind.i64.wrap (n8 + 1) * n3)) (1) fun p9 k20 k21 =>
 ∃ (I5 : List Value → World → Prop) (m2 : List Value → World → Nat),
 (I5 [.int .i64 0] w27) ∧
 ∀ (n10 : Int) (w28 : World),
 (I5 [.int .i64 n10] w28) →
 brB (decide (n10 < (k20 : Int)))
 (∃ I6 : List Value → World → Prop,
 (idx (p9) (k20) (n10) (1) fun a2 =>
 ∃ n11 : Int,
 (w28.cell? a2 = some (.int .u8 n11)) ∧
 brB (decide (IntKind.i64.wrap n11 ≥ (k4 : Int)))
 ((∃ y9 : TypeId,
 ∃ v4 : Value,
 Value.iface 40 (Value.agg #[]) = Value.iface y9 v4) ∧
 ∀ w29 : World,
 (Put (w11.heap.size) w28 w29) →
 R (.panicked [{ v := Value.iface 40 (Value.agg #[]), recovered := false }]) w29)
 (idx (p2) (k4) (n11) (4) fun a3 =>
 ∃ n12 n13 n14 n15 : Int,
 (w28.cell? a3 = some (.int .u16 n12)) ∧
 (w28.cell? (a3.add 1) = some (.int .u16 n13)) ∧
 (w28.cell? (a3.add 2) = some (.int .u16 n14)) ∧
 (w28.cell? (a3.add 3) = some (.int .u16 n15)) ∧
 ∀ k22 : Nat,
 w28.heap.size ≤ k22 →
 brB (IntKind.i64.wrap n11 != x3)
 (slcc (sa1) (sc1) (IntKind.i64.wrap (4 * IntKind.i64.wrap (IntKind.i64.wrap (IntKind.i64.wrap (IntKind.i64.wrap (n2 + n9) * x1) + n1) + n10))) ((sl1 : Int)) (1) fun p10 k23 k24 =>
 ∀ w30 : World,
 Locl [k22, k6, k1] w28 w30 →
 ∀ (k25 : Nat) (w31 : World),
 (New w30 (Obj.cells #[.int .u16 n12, .int .u16 n13, .int .u16 n14, .int .u16 n15] 38) k25 w31) →
 ∃ l5 : List Value,
 (l5.length = min 4 k23 * 1) ∧
 (oneAll l5 = true) ∧
 (CellsAre w31 (some { block := k25, off := 0 }) l5) ∧
 (((l5 = []) ∧
 I6 [] w31) ∨
 (∃ a4 : Addr,
 (p10 = some a4) ∧
 (CanSet w31 a4 (l5.length)) ∧
 (¬a4.block ∈ [k22, k6, k1]) ∧
 I6 [] (setCells w31 a4 l5 0))))
 (∀ w32 : World,
 Locl [k22, k6, k1] w28 w32 →
 I6 [] w32))) ∧
 ∀ w33 : World,
 (I6 [] w33) →
 (I5 [.int .i64 (IntKind.i64.wrap (n10 + 1))] w33) ∧
 m2 [.int .i64 (IntKind.i64.wrap (n10 + 1))] w33 < m2 [.int .i64 n10] w28)
 ((I4 [.int .i64 (IntKind.i64.wrap (n8 + 1))] w28) ∧
 m1 [.int .i64 (IntKind.i64.wrap (n8 + 1))] w28 < m1 [.int .i64 n8] w27))
 (∀ w34 : World,
 (Put (w11.heap.size) w27 w34) →
 R (.returned (.tuple #[])) w34))) ∨
 (False))) ∨
 (∃ l6 : List PanicEntry,
 (e9 = .panicked l6) ∧
 Keep [w11.heap.size] w12 w22 ∧
 ∀ w35 : World,
 (Put (w11.heap.size) w22 w35) →
 R (.panicked l6) w35))) ∨
 (∃ l7 : List PanicEntry,
 (e7 = .panicked l7) ∧
 R (.panicked l7) w9)))) ∨
 (∃ l8 : List PanicEntry,
 (e5 = .panicked l8) ∧
 R (.panicked l8) w6))) ∨
 (∃ l9 : List PanicEntry,
 (e4 = .panicked l9) ∧
 R (.panicked l9) w5))) ∨
 (∃ l10 : List PanicEntry,
 (e3 = .panicked l10) ∧
 R (.panicked l10) w4))) ∨
 (∃ l11 : List PanicEntry,
 (e2 = .panicked l11) ∧
 R (.panicked l11) w3))) ∨
 (∃ l12 : List PanicEntry,
 (e1 = .panicked l12) ∧
 R (.panicked l12) w2))
theorem calls_gif_reader_picture (q1 : Option Addr) (x1 x2 : Int) (sa1 : Option Addr) (sl1 sc1 : Nat) (sa2 : Option Addr) (sl2 sc2 : Nat) (x3 : Int) (w : World) (R : Ending → World → Prop) (h : vc_gif_reader_picture q1 x1 x2 sa1 sl1 sc1 sa2 sl2 sc2 x3 w R) : Calls P F.gif_reader_picture #[.pointer q1, .agg #[.int .i64 x1, .int .i64 x2, .slice sa1 sl1 sc1], .slice sa2 sl2 sc2, .int .i64 x3] w R :=
  calls_of_vc (ac := ac_gif_reader_picture) mixed Try.func18 (by kernel_rfl) (cast (by unfold vc_gif_reader_picture FnVc; kernel_rfl) h)
end Go.Proofs.Ytiiaihiliimcoaa
namespace Go.Proofs.Ytiiaihiliimcoaa
open Go Go.Vc Go.RowKit Go.Qn
set_option maxRecDepth 100000
set_option maxHeartbeats 4000000
theorem and128 : ∀ n, n < 256 → ((IntKind.i64.wrap (bitsZ .and .i64 ((n : Nat) : Int) 128) != 0) = decide (128 ≤ n)) := by decide +kernel
theorem and64 : ∀ n, n < 256 → ((IntKind.i64.wrap (bitsZ .and .i64 ((n : Nat) : Int) 64) != 0) = decide (64 ≤ n % 128)) := by decide +kernel
theorem bs_nil : Bs [] := fun x hx => by cases hx
theorem lz_bs {bs : List Int} {up : Bool} {cl w0 early : Nat} {most : Int} (hw1 : 1 ≤ w0) (hw2 : w0 ≤ 12) : ∀ (F : Nat) (s : LS), Inv cl s → s.pos ≤ 8 * bs.length → Bs (lz bs up cl w0 early most F s).1
 | 0, s, _, _ => by simpa [lz] using bs_nil
 | F + 1, s, hi, hp => by
  rw [lz_step]
  have h1 := hi.long
  split
  ·exact bs_nil
  split
  ·exact lz_bs hw1 hw2 F _ (hi.clear hw1 hw2) (by simp only; omega)
  split
  ·exact hi.fit
  split
  ·exact bs_nil
  split
  ·exact bs_nil
  ·rename_i h2 h3 h4 h5 h6
   have nx := hi.nxt (early := early) h3 h4 h5
   exact lz_bs hw1 hw2 F _ nx.inv (by rw [nx.pos]; omega)
theorem gifR_bs {bs : List Int} {size most : Int} (h : Bs bs) : Bs (gifR bs size most).1 := by
 unfold gifR
 split
 ·exact bs_nil
 ·obtain ⟨n, rfl⟩ := Int.eq_ofNat_of_zero_le (show 0 ≤ size by omega)
  have hp := pow8 n (by omega) (by omega)
  have e : (((n : Nat) : Int)).toNat = n := Int.toNat_natCast n
  unfold lzR
  rw [e]
  refine lz_bs (by omega) (by omega) _ _ ⟨hp.2, hp.1, by simp only [initS]; omega, by simp only [initS]; omega, by simp [initS]; omega, rfl, by simp [initS], by simp [initS], fun _ => rfl, by simp [initS, Bs], by simp [initS]⟩ (by simp [initS])
theorem gpic_spec {w : World} {N rb mb k W H : Nat} {b xs : List Int} {pal : List Co} {clear : Int} {pp : Option Addr} {pc : Nat} {SP : Nat → Prop} {R : Ending → World → Prop} (h : GAt w N rb b k) (hb24 : b.length ≤ 2 ^ 24)
  (hm : Cs w mb (px xs)) (hxl : xs.length = 4 * (W * H)) (hW : W ≤ 4096) (hH : H ≤ 4096) (hWH : W * H ≤ 65536) (hmr : mb ≠ rb) (hmN : N ≤ mb)
  (hp : OwnS SP w pp pal.length pc 4 (cos pal)) (hpl : pal.length ≤ 256) (hSP : ∀ i, SP i → N ≤ i ∧ i ≠ rb ∧ i ≠ mb ∧ i < w.heap.size)
  (hok : ∀ xs' w', picM b k W H pal clear xs = some xs' → Chg (fun i => i = rb ∨ i = mb) w w' → Cs w' mb (px xs') → xs'.length = xs.length → R (.returned (.tuple #[])) w')
  (herr : ∀ w', picM b k W H pal clear xs = none → Chg (fun i => i = rb ∨ i = mb) w w' → R (.panicked brkG) w') :
  Calls P F.gif_reader_picture #[.pointer (some ⟨rb, 0, none⟩), .agg #[i64 (W : Nat), i64 (H : Nat), .slice (some ⟨mb, 0, none⟩) (4 * (W * H)) (4 * (W * H))], .slice pp pal.length pc, i64 clear] w R := by
 refine calls_gif_reader_picture _ _ _ _ _ _ _ _ _ _ _ _ ?_
 have hPM := fun (o : Option (List Int)) (h : picM b k W H pal clear xs = o) => h
 unfold picM at hok herr
 have hrb := h.lt
 have hmb := hm.lt
 have hN := h.hN
 intro k1 hk1 w1 hL1
 have hE1 : Ext w w1 := hL1.ext (by simpa using hk1)
 have ht1 := hL1.there k1 (by simp)
 have s1 := hE1.size
 have kp : ∀ {u u' : World}, Chg (· = rb) u u' → Keep [k1] u u' := fun hc => hc.keep (by simp; omega)
 have rm : ∀ {u u' : World}, Chg (· = rb) u u' → Chg (fun i => i = rb ∨ i = mb) u u' := fun hc => hc.mono fun i hi _ => .inl hi
 refine gtwo_spec (h.ext hE1) (fun hA w2 hc2 h2 => .inl ⟨_, rfl, kp hc2, ?_⟩) fun hA => .inr ⟨_, rfl, herr w1 (if_pos (by omega)) hE1.chg⟩
 refine gtwo_spec h2 (fun hB w3 hc3 h3 => .inl ⟨_, rfl, kp hc3, ?_⟩) fun hA => .inr ⟨_, rfl, herr w2 (if_pos (by omega)) (hE1.chg.trans (rm hc2) fun _ h _ => h)⟩
 have c13 := hc2.trans hc3 fun _ h _ => h
 refine gtwo_spec h3 (fun hC w4 hc4 h4 => .inl ⟨_, rfl, kp hc4, ?_⟩) fun hA => .inr ⟨_, rfl, herr w3 (if_pos (by omega)) (hE1.chg.trans (rm c13) fun _ h _ => h)⟩
 have c14 := c13.trans hc4 fun _ h _ => h
 refine gtwo_spec h4 (fun hD w5 hc5 h5 => .inl ⟨_, rfl, kp hc5, ?_⟩) fun hA => .inr ⟨_, rfl, herr w4 (if_pos (by omega)) (hE1.chg.trans (rm c14) fun _ h _ => h)⟩
 have c15 := c14.trans hc5 fun _ h _ => h
 refine gone_spec h5 (fun hE w6 hc6 h6 => .inl ⟨_, rfl, kp hc6, ?_⟩) fun hA => .inr ⟨_, rfl, herr w5 (if_pos (by omega)) (hE1.chg.trans (rm c15) fun _ h _ => h)⟩
 have c16 := c15.trans hc6 fun _ h _ => h
 have d16 : Chg (· = rb) w w6 := (hE1.chg (S := (· = rb))).trans c16 fun _ h _ => h
 rw [if_neg (by omega)] at hok herr
 simp only [show k + 2 + 2 = k + 4 by omega, show k + 2 + 2 + 2 = k + 6 by omega, show k + 2 + 2 + 2 + 2 = k + 8 by omega, show k + 2 + 2 + 2 + 2 + 1 = k + 9 by omega] at h6 ⊢
 have rx := twoM_range h.fit k
 have ry := twoM_range h.fit (k + 2)
 have rw_ := twoM_range h.fit (k + 4)
 have rh := twoM_range h.fit (k + 6)
 obtain ⟨x, ex⟩ : ∃ n : Nat, twoM b k = n := ⟨(twoM b k).toNat, by omega⟩
 obtain ⟨y, ey⟩ : ∃ n : Nat, twoM b (k + 2) = n := ⟨(twoM b (k + 2)).toNat, by omega⟩
 obtain ⟨v, ev⟩ : ∃ n : Nat, twoM b (k + 4) = n := ⟨(twoM b (k + 4)).toNat, by omega⟩
 obtain ⟨g, eg⟩ : ∃ n : Nat, twoM b (k + 6) = n := ⟨(twoM b (k + 6)).toNat, by omega⟩
 have rf := bget h.fit (k + 8)
 obtain ⟨fl_, ef⟩ : ∃ n : Nat, b.getD (k + 8) 0 = n := ⟨(b.getD (k + 8) 0).toNat, by omega⟩
 rw [ex] at rx
 rw [ey] at ry
 rw [ev] at rw_
 rw [eg] at rh
 rw [ef] at rf
 simp only [ex, ey, ev, eg, ef, Int.toNat_natCast] at hok herr ⊢
 rw [w64 (x := (x : Int) + v) (by omega) (by omega), w64 (x := (y : Int) + g) (by omega) (by omega)]
 refine brB_i (fun hbad => ⟨⟨_, _, rfl⟩, herr w6 (if_pos (by simp only [Bool.or_eq_true, decide_eq_true_eq] at hbad; omega)) (rm d16)⟩) fun hgood => ?_
 have hgood : 1 ≤ v ∧ 1 ≤ g ∧ x + v ≤ W ∧ y + g ≤ H := by
  simp only [Bool.or_eq_false_iff, decide_eq_false_iff_not] at hgood; omega
 rw [if_neg (by omega)] at hok herr
 rw [and128 fl_ (by omega)]
 generalize hpal' : (if (128 : Int) ≤ (fl_ : Int) then palU b (k + 9) (palN fl_) else pal) = pal' at hok herr
 generalize hk' : (if (128 : Int) ≤ (fl_ : Int) then k + 9 + 3 * palN fl_ else k + 9) = k' at hok herr
 refine ⟨fun vs u => ∃ (pq : Option Addr) (qc : Nat) (SQ : Nat → Prop), vs = [.slice pq pal'.length qc] ∧ ¬ ((128 : Int) ≤ (fl_ : Int) ∧ b.length < k + 9 + 3 * palN fl_) ∧ Chg (· = rb) w u ∧ w1.heap.size ≤ u.heap.size ∧ GAt u N rb b k' ∧ OwnS SQ u pq pal'.length qc 4 (cos pal') ∧ pal'.length ≤ 256 ∧ (∀ i, SQ i → N ≤ i ∧ i ≠ rb ∧ i ≠ mb ∧ i ≠ k1 ∧ i < u.heap.size), ?_, fun p2 k4 k5 w8 hI => ?_⟩
 ·have s16 := c16.size
  refine brB_i (fun h128 => ?_) fun h128 => ?_
  ·have h128 := of_decide_eq_true h128
   rw [if_pos (by omega)] at hpal' hk'
   subst hpal' hk'
   have hpn := palN_range (fl_ : Nat)
   refine gpal_spec h6 (by omega) (by omega) (fun hle p c w7 hc7 h7 ho7 => .inl ⟨_, _, _, rfl, kp hc7, p, c, fun i => w6.heap.size ≤ i ∧ i < w7.heap.size, ?_, by omega, d16.trans hc7 fun _ h _ => h, by have := hc7.size; omega, h7, ?_, ?_, fun i hi => ?_⟩) fun hlt w7 hE7 => .inr ⟨_, rfl, herr w7 (if_pos ⟨by omega, by omega⟩) ((rm d16).trans hE7.chg fun _ h _ => h)⟩
   ·rw [palU_len]
   ·rw [palU_len]; exact ho7.mono fun i hi hl => ⟨hi, hl⟩
   ·rw [palU_len]; omega
   ·have := d16.size; have := h6.hN; exact ⟨by omega, by omega, by omega, by omega, hi.2⟩
  ·have h128 := of_decide_eq_false h128
   rw [if_neg (by omega)] at hpal' hk'
   subst hpal' hk'
   exact ⟨pp, pc, SP, rfl, by omega, d16, s16, h6, hp.chg d16 fun i hi _ e => (hSP i hi).2.1 e, hpl, fun i hi => by
    have := hSP i hi
    exact ⟨this.1, this.2.1, this.2.2.1, by omega, by omega⟩⟩
 obtain ⟨pq, qc, SQ, hv, hnp, c8, s8, h8, hq8, hql, hSQ⟩ := hI
 have hv := hv.symm
 simp only [List.cons.injEq, Value.slice.injEq, and_true] at hv
 obtain ⟨rfl, rfl, rfl⟩ := hv
 rw [if_neg hnp] at hok herr
 refine gone_spec h8 (fun hlt w9 hc9 h9 => .inl ⟨_, rfl, kp hc9, fun k6 hk6 w10 hL10 => ?_⟩) fun hge => .inr ⟨_, rfl, herr w8 (if_pos hge) (rm c8)⟩
 rw [if_neg (by omega)] at hok herr
 have c9 := c8.trans hc9 fun _ h _ => h
 have s9 := hc9.size
 have s10 := hL10.size
 have t6 := hL10.there k6 (by simp)
 have t1 := hL10.there k1 (by simp)
 have hsz := bget h.fit k'
 have hvg : v * g ≤ W * H := Nat.mul_le_mul (by omega) (by omega)
 have evg : IntKind.i64.wrap (((v : Nat) : Int) * (g : Nat)) = ((v * g : Nat) : Int) := by
  rw [← Int.natCast_mul]; exact w64 (by omega) (by omega)
 rw [evg]
 have evg' : ((v : Nat) : Int) * (g : Nat) = ((v * g : Nat) : Int) := by rw [Int.natCast_mul]
 rw [evg'] at hok herr
 have hkd1 : ∀ {i}, i ∈ [k6, k1] → i = k6 ∨ i = k1 := fun hi => by simpa using hi
 have h10 : GAt w10 N rb b (k' + 1) := h9.chg hL10.chg (fun hx => by rcases hkd1 hx with e | e <;> omega) fun i hi _ => by rcases hkd1 hi with e | e <;> omega
 refine calls_gif_reader_blocks _ _ _ ?_
 intro kf w11 hn11
 have ekf : kf = w10.heap.size := hn11.1
 have skf := hn11.size
 have s11 := hn11.ext.size
 have hF11 : Cs w11 kf [.pointer (some ⟨rb, 0, none⟩)] := hn11.cs
 refine ⟨_, _, _, rfl, hn11.ext.keep _, fun k7 w12 hrf I2 Z1 stI stZ hI0 rule => ?_⟩
 have ek7 := hrf.eq
 have s12 := hrf.size
 have hE12 := hrf.ext
 have h12 := (h10.ext hn11.ext).ext hE12
 let T : Nat → Prop := fun i => i = rb ∨ i = k1 ∨ i = k6 ∨ i = k7 ∨ w12.heap.size ≤ i
 have hTN : ∀ i, T i → N ≤ i := fun i hi => by
  have := h.lo
  rcases hi with hi | hi | hi | hi | hi <;> omega
 let J : List (List Int) → World → Prop := fun d u => ∃ q c, I2 [.slice q d.flatten.length c] u ∧ OwnS (fun i => w12.heap.size ≤ i) u q d.flatten.length c 1 (bytes d.flatten) ∧ Chg T w12 u ∧ Cs u kf [.pointer (some ⟨rb, 0, none⟩)]
 have hkR : ∀ i, i ∈ [k7, w11.heap.size, k6, k1] → i ≠ rb := fun i hi => by simp at hi; omega
 have c12 : Chg (· = rb) w w12 := ((c9.trans hL10.chg fun i hi hl => by rcases hkd1 hi with e | e <;> omega).trans (hn11.ext.chg (S := fun _ => False)) fun i hi _ => hi.elim).trans (hE12.chg (S := fun _ => False)) fun i hi _ => hi.elim
 have s12w := c12.size
 have hmc : ∀ u, Chg T w12 u → Cs u mb (px xs) := fun u hc => (hm.chg c12 (fun e => hmr e)).chg hc fun hx => by rcases hx with e | e | e | e | e <;> omega
 have rmT : ∀ u, Chg T w12 u → Chg (fun i => i = rb ∨ i = mb) w u := fun u hc => (rm c12).trans hc fun i hi hl => by
  rcases hi with e | e | e | e | e
  ·exact .inl e
  all_goals omega
 have putR : ∀ u u', Chg (fun i => i = rb ∨ i = mb) w u → Put w11.heap.size u u' → Chg (fun i => i = rb ∨ i = mb) w u' := fun u u' hc hP => hc.trans hP.chg fun i hi hl => by have hi : i = w11.heap.size := hi; omega
 refine callF_i (by kernel_rfl) ?_
 refine blk_iter J h12 ⟨none, 0, hI0, OwnS.nil _ _ _ _, Chg.refl _ _, hF11.ext hE12⟩ (fun d u u' ⟨q, c, j1, j2, j3, j4⟩ hc => ?_) (fun d u ⟨q, c, j1, j2, j3, j4⟩ => j4.cell (i := 0) rfl) (fun d z p n c u k2 ⟨q, c', j1, j2, j3, j4⟩ hG hs hxn hn1 hn255 hnc hbx hfb hdb => ?_) (fun l e u hM ⟨q, c, j1, j2, j3, j4⟩ hG => ?_) fun d u hM ⟨q, c, j1, j2, j3, j4⟩ => ?_
 ·exact ⟨q, c, stI _ _ _ j1 (hc.keep fun i hi e => hkR i hi e), OwnS.chg j2 hc fun i hi _ e => by have e : i = rb := e; omega, j3.trans hc fun i hi _ => .inl hi, j4.chg hc (by omega)⟩
 ·refine rule _ _ _ _ _ _ u _ j1 fun y5 y6 w18 hP18 => ?_
  have s18 : w18.heap.size = u.heap.size := hP18.size
  have su := j3.size
  have o18 := OwnS.chg j2 hP18.chg fun i hi _ e => by have e : i = k7 := e; omega
  have bl18 : Below N u w18 := hP18.chg.below (fun i hi _ => by have hi : i = k7 := hi; omega) (by omega)
  refine ⟨bytes z, by rw [bytes_length, hxn, Nat.mul_one], bytes_oneAll _, (hs.below bl18).cells, ?_⟩
  refine OwnS.app o18 (fun i hi hS => by simp [blocks] at hi; omega) rfl (by rw [bytes_length, hxn, Nat.mul_one]) (by omega) (by omega) fun p4 c4 w19 hO19 hc19 w20 hL20 w21 hP21 hI21 => ?_
  have s19 := hc19.size
  have s20 := hL20.size
  have hz : ∀ i, (i = k7 ∨ (w12.heap.size ≤ i ∨ i ∈ [k6, k1])) → T i ∧ i ≠ rb ∧ i ≠ kf := fun i hi => by
   rcases hi with hi | hi | hi
   ·exact ⟨.inr (.inr (.inr (.inl hi))), by omega, by omega⟩
   ·exact ⟨.inr (.inr (.inr (.inr hi))), by omega, by omega⟩
   ·rcases hkd1 hi with e | e
    ·exact ⟨.inr (.inr (.inl e)), by omega, by omega⟩
    ·exact ⟨.inr (.inl e), by omega, by omega⟩
  have cB : Chg (fun i => i = k7 ∨ (w12.heap.size ≤ i ∨ i ∈ [k6, k1])) u w21 := (((hP18.chg.mono fun i hi _ => .inl hi).trans hc19 fun i hi _ => .inr (.inl hi)).trans hL20.chg fun i hi _ => .inr (.inr hi)).trans hP21.chg fun i hi _ => .inl hi
  refine ⟨rfl, ⟨p4, c4, by rw [flat_snoc, hxn]; exact hI21, ?_, j3.trans cB fun i hi _ => (hz i hi).1, j4.chg cB fun hx => (hz _ hx).2.2 rfl⟩, hG.chg cB (fun hx => (hz _ hx).2.1 rfl) fun i hi _ => hTN i (hz i hi).1⟩
  rw [flat_snoc, hxn, List.flatten_append, show [z].flatten = z by simp, bytes_append]
  exact OwnS.mono (OwnS.chg (OwnS.chg (OwnS.mono (T := fun i => w12.heap.size ≤ i) hO19 fun i hi _ => hi.elim id fun e => by omega) hL20.chg fun i hi _ hx => by rcases hkd1 hx with e | e <;> omega) hP21.chg fun i hi _ hx => by have hx : i = k7 := hx; omega) fun i hi _ => hi
 ·rw [hM] at hok herr
  simp only at hok herr
  refine .inl ⟨_, rfl, .inl ⟨q, _, _, j1, fun w23 hP23 => ?_⟩⟩
  have s23 : w23.heap.size = u.heap.size := hP23.size
  have su := j3.size
  have c23 : Chg T w12 w23 := j3.trans hP23.chg fun i hi _ => .inr (.inr (.inr (.inl hi)))
  have o23 := OwnS.chg j2 hP23.chg fun i hi _ e => by have e : i = k7 := e; omega
  obtain ⟨b1, b2, b3, b4⟩ := blkF_ok h.fit (show blkF b (b.length + 1) (k' + 1) = some (l, e) from hM)
  have hbl : Bs l.flatten := fun z hz => by
   obtain ⟨m, hm1, hm2⟩ := List.mem_flatten.1 hz
   exact b3 m hm1 z hm2
  refine GifUnpack_spec o23.sl rfl (by omega) hbl (by omega) (by omega) fun p7 k16 k17 w24 hg => ⟨_, _, _, _, rfl, hg.ext.keep _, ?_⟩
  have hk16 := hg.len
  rw [bytes_length] at hk16
  have hgb : Bs (gifR l.flatten (b.getD k' 0) ((v * g : Nat) : Int)).1 := gifR_bs hbl
  generalize gifR l.flatten (b.getD k' 0) ((v * g : Nat) : Int) = gr at *
  subst hk16
  have s24 := hg.ext.size
  have c24 : Chg T w12 w24 := c23.trans (hg.ext.chg (S := fun _ => False)) fun i hi _ => hi.elim
  refine brB_i (fun hbad => ⟨⟨_, _, rfl⟩, fun w25 hP25 => herr w25 (if_pos ?_) (putR _ _ (rmT _ c24) hP25)⟩) fun hgd => ?_
  ·simp only [Bool.or_eq_true, bne_iff_ne, beq_iff_eq] at hbad
   rcases hbad with (hbad | hbad) | hbad
   ·exact .inl hbad
   ·exact .inr (.inl hbad)
   ·exact .inr (.inr (List.length_eq_zero_iff.1 (by omega)))
  have hgd : gr.2 = 0 ∧ gr.1.length = v * g ∧ pal' ≠ [] := by
   simp only [Bool.or_eq_false_iff, bne_eq_false_iff_eq] at hgd
   refine ⟨hgd.1.1, by have := hgd.1.2; omega, fun e => ?_⟩
   rw [e] at hgd
   exact absurd hgd.2 (by simp)
  rw [if_neg (fun hx => by
   rcases hx with hx | hx | hx
   ·exact hx hgd.1
   ·rw [hgd.2.1] at hx; exact hx rfl
   ·exact hgd.2.2 hx)] at hok herr
  rw [and64 fl_ (by omega)]
  refine rows_spec (by omega) (by omega) fun bb cb w26 hE26 hbb hrows => ⟨_, _, _, rfl, hE26.keep _, ?_⟩
  have e64 : decide (64 ≤ fl_ % 128) = decide ((64 : Int) ≤ (fl_ : Int) % 128) := by
   rw [Bool.eq_iff_iff]; simp only [decide_eq_true_eq]; omega
  rw [e64] at hrows
  have hrl := rowsM_len g (decide ((64 : Int) ≤ (fl_ : Int) % 128))
  have hrm := fun y => @rowsM_mem g (decide ((64 : Int) ≤ (fl_ : Int) % 128)) y
  generalize rowsM g (decide ((64 : Int) ≤ (fl_ : Int) % 128)) = rows at *
  have s26 := hE26.size
  have c26 : Chg T w12 w26 := c24.trans (hE26.chg (S := fun _ => False)) fun i hi _ => hi.elim
  have hI24 : OwnS (fun i => w23.heap.size ≤ i ∧ i < w24.heap.size) w26 p7 gr.1.length k17 1 (bytes gr.1) := OwnS.chg (T := fun _ => False) hg.ow.ownS hE26.chg fun _ _ _ h => h
  have hQ26 : OwnS SQ w26 pq pal'.length qc 4 (cos pal') := by
   have c : Chg (fun i => i = rb ∨ i = k1 ∨ w8.heap.size ≤ i) w8 w26 := ((((hc9.mono (T := fun i => i = rb ∨ i = k1 ∨ w8.heap.size ≤ i) fun i hi _ => .inl hi).trans hL10.chg fun i hi _ => by rcases hkd1 hi with e | e; exact .inr (.inr (by omega)); exact .inr (.inl e)).trans (hn11.ext.chg (S := fun _ => False)) fun i hi _ => hi.elim).trans (hE12.chg (S := fun _ => False)) fun i hi _ => hi.elim).trans c26 fun i hi _ => by
    rcases hi with e | e | e | e | e
    ·exact .inl e
    ·exact .inr (.inl e)
    ·exact .inr (.inr (by omega))
    ·exact .inr (.inr (by omega))
    ·exact .inr (.inr (by omega))
   exact OwnS.chg hq8 c fun i hi _ hx => by
    have := hSQ i hi
    rcases hx with e | e | e <;> omega
  have hM26 := hmc w26 c26
  have hbb' : bb < w26.heap.size := by obtain ⟨r, hr⟩ := hrows; exact hr.lt
  let T2 : Nat → Prop := fun i => i = mb ∨ i = k1 ∨ i = k6 ∨ w26.heap.size ≤ i
  let Z : World → List Int → Prop := fun u xs' => xs'.length = xs.length ∧ Cs u mb (px xs') ∧ Chg T2 w26 u
  have zR : ∀ u xs', Z u xs' → SiL u bb rows := fun u xs' hz => by
   obtain ⟨r, hr⟩ := hrows
   exact ⟨r, hr.chg hz.2.2 fun hx => by rcases hx with e | e | e | e <;> omega⟩
  have zI : ∀ u xs', Z u xs' → Sl u.heap.size u p7 (bytes gr.1) := fun u xs' hz => (OwnS.chg hI24 hz.2.2 fun i hi _ hx => by rcases hx with e | e | e | e <;> omega).sl
  have zQ : ∀ u xs', Z u xs' → Sl u.heap.size u pq (cos pal') := fun u xs' hz => (OwnS.chg hQ26 hz.2.2 fun i hi _ hx => by have := hSQ i hi; rcases hx with e | e | e | e <;> omega).sl
  have zF : ∀ u xs', Z u xs' → Chg (fun i => i = rb ∨ i = mb) w u := fun u xs' hz => (rmT _ c26).trans hz.2.2 fun i hi hl => by
   have := c12.size
   rcases hi with e | e | e | e
   ·exact .inr e
   all_goals omega
  have hcap7 := hI24.2.1
  refine ⟨fun vs u => ∃ (i : Nat) (xs' : List Int), vs = [i64 (i : Nat)] ∧ i ≤ g ∧ Z u xs' ∧ paintF pal' clear W x y v rows gr.1 gr.1.length 0 xs = paintF pal' clear W x y v rows gr.1 (gr.1.length - i * v) (i * v) xs',
   fun vs _ => match vs with | [.int _ i] => (g - i : Int).toNat | _ => 0, ⟨0, xs, rfl, by omega, ⟨rfl, hM26, Chg.refl _ _⟩, by rw [Nat.zero_mul]; rfl⟩, fun n8 w27 hI => ?_⟩
  obtain ⟨i, xs1, hv, hi, hz1, hP1⟩ := hI
  obtain rfl : n8 = (i : Nat) := by simpa using hv
  refine brB_i (fun hlt4 => ?_) fun hge4 w34 hP34 => ?_
  rotate_left
  ·have hge4 : i = g := by have := of_decide_eq_false hge4; omega
   subst hge4
   rw [show gr.1.length - i * v = 0 by rw [hgd.2.1, Nat.mul_comm]; omega, paintF] at hP1
   have hcs : Cs w34 mb (px xs1) := hz1.2.1.chg hP34.chg (by show ¬ mb = w11.heap.size; omega)
   exact hok xs1 w34 hP1 (putR _ _ (zF _ _ hz1) hP34) hcs hz1.1
  have hlt4 : i < g := by have := of_decide_eq_true hlt4; omega
  obtain ⟨rr, hr1⟩ := zR _ _ hz1
  have hrow := hrm (rows.getD i 0) (by rw [List.getD_eq_getElem?_getD, List.getElem?_eq_getElem (by omega)]; exact List.getElem_mem _)
  obtain ⟨r, er⟩ : ∃ r : Nat, rows.getD i 0 = r := ⟨(rows.getD i 0).toNat, by omega⟩
  have hcr : w27.cell? ⟨bb, i, none⟩ = some (i64 (r : Nat)) := hr1.cell (by rw [List.getElem?_append_left (by rw [List.length_map]; omega), List.getElem?_map, List.getElem?_eq_getElem (by omega), ← er]; simp [List.getD, show i < rows.length by omega])
  refine idx_i (by omega) (by omega) rfl ?_
  rw [loc_add, Nat.zero_add, Nat.mul_one, Int.toNat_natCast]
  refine ⟨_, hcr, ?_⟩
  have hiv : (i + 1) * v ≤ g * v := Nat.mul_le_mul_right _ (by omega)
  have hiv2 : (i + 1) * v = i * v + v := Nat.succ_mul i v
  have hgv : g * v = v * g := Nat.mul_comm g v
  have hgl := hgd.2.1
  have ei0 : IntKind.i64.wrap (((i : Nat) : Int) * (v : Nat)) = ((i * v : Nat) : Int) := by rw [← Int.natCast_mul]; exact w64 (by omega) (by omega)
  have ei1 : IntKind.i64.wrap (IntKind.i64.wrap (((i : Nat) : Int) + 1) * (v : Nat)) = ((i * v + v : Nat) : Int) := by
   rw [wrap_succ (by omega), ← Int.natCast_mul, hiv2]; exact w64 (by omega) (by omega)
  rw [ei0, ei1]
  have hPb : (y + r) * W + W ≤ W * H := by
   have := Nat.mul_le_mul_right W (show y + r + 1 ≤ H by omega)
   rw [Nat.succ_mul, Nat.mul_comm H W] at this
   exact this
  have hdiv : ∀ j, j < v → (i * v + j) / v = i ∧ (i * v + j) % v = j := fun j hj => by
   rw [Nat.add_comm, Nat.add_mul_div_right _ _ (by omega), Nat.add_mul_mod_self_right, Nat.div_eq_of_lt hj, Nat.mod_eq_of_lt hj, Nat.zero_add]
   exact ⟨rfl, rfl⟩
  generalize hiv0 : i * v = o at *
  refine ⟨by omega, by omega, by omega, ?_⟩
  rw [Int.toNat_natCast, Int.toNat_natCast, Nat.add_sub_cancel_left]
  refine ⟨fun vs u => ∃ (j : Nat) (xs' : List Int), vs = [i64 (j : Nat)] ∧ j ≤ v ∧ Z u xs' ∧ paintF pal' clear W x y v rows gr.1 gr.1.length 0 xs = paintF pal' clear W x y v rows gr.1 (gr.1.length - (o + j)) (o + j) xs',
   fun vs _ => match vs with | [.int _ j] => (v - j : Int).toNat | _ => 0, ⟨0, xs1, rfl, by omega, hz1, by rw [Nat.add_zero]; exact hP1⟩, fun n10 w28 hI => ?_⟩
  obtain ⟨j, xs2, hv, hj, hz2, hP2⟩ := hI
  obtain rfl : n10 = (j : Nat) := by simpa using hv
  refine brB_i (fun hlt5 => ?_) fun hge5 => ?_
  rotate_left
  ·have hge5 : j = v := by have := of_decide_eq_false hge5; omega
   subst hge5
   rw [wrap_succ (by omega)]
   exact ⟨⟨i + 1, xs2, rfl, by omega, hz2, by rw [hiv2]; exact hP2⟩, by show ((g : Int) - ((i + 1 : Nat) : Int)).toNat < ((g : Int) - (i : Nat)).toNat; omega⟩
  have hlt5 : j < v := by have := of_decide_eq_true hlt5; omega
  obtain ⟨hd1, hd2⟩ := hdiv j hlt5
  rw [show gr.1.length - (o + j) = (gr.1.length - (o + (j + 1))) + 1 by omega, paintF, hd1, hd2, er, Int.toNat_natCast] at hP2
  have hgj := bget hgb (o + j)
  obtain ⟨m, em⟩ : ∃ m : Nat, gr.1.getD (o + j) 0 = m := ⟨(gr.1.getD (o + j) 0).toNat, by omega⟩
  rw [em, Int.toNat_natCast] at hP2
  rw [em] at hgj
  have hSp : Sl w28.heap.size w28 (slcBase p7 o k17 1) (bytes (part gr.1 o v)) := (zI _ _ hz2).part (by rw [bytes_length]; exact hcap7) (part_prefix _ _ _)
  have hpl2 : (part gr.1 o v).length = v := part_length (by omega)
  refine ⟨fun _ u => ∃ xs', Z u xs' ∧ paintF pal' clear W x y v rows gr.1 gr.1.length 0 xs = paintF pal' clear W x y v rows gr.1 (gr.1.length - (o + (j + 1))) (o + (j + 1)) xs', ?_, fun w33 hI => ?_⟩
  rotate_left
  ·obtain ⟨xs', hz, hP⟩ := hI
   rw [wrap_succ (by omega)]
   exact ⟨⟨j + 1, xs', rfl, by omega, hz, hP⟩, by show ((v : Int) - ((j + 1 : Nat) : Int)).toNat < ((v : Int) - (j : Nat)).toNat; omega⟩
  refine hSp.get (v := u8 (m : Nat)) (by omega) (by rw [bytes_length, hpl2]) (by rw [Int.toNat_natCast, ← em, ← part_get (n := v) hlt5]; exact bytes_get (by omega)) fun a2 ha2 => ⟨_, ha2, ?_⟩
  rw [w64 (x := ((m : Nat) : Int)) (by omega) (by omega)]
  refine brB_i (fun hbig => ⟨⟨_, _, rfl⟩, fun w29 hP29 => ?_⟩) fun hsml => ?_
  ·have hbig := of_decide_eq_true hbig
   rw [if_pos (by omega)] at hP2
   exact herr w29 hP2 (putR _ _ (zF _ _ hz2) hP29)
  have hsml : m < pal'.length := by have := of_decide_eq_false hsml; omega
  rw [if_neg (by omega)] at hP2
  refine cos_elem (zQ _ _ hz2) rfl (by omega) (by omega) fun a3 q1 q2 q3 q4 => ⟨_, _, _, _, q1, q2, q3, q4, fun k22 hk22 => ?_⟩
  rw [Int.toNat_natCast]
  generalize pal'.getD m zeroC = col at *
  have s28 := hz2.2.2.size
  have hkd2 : ∀ {i}, i ∈ [k22, k6, k1] → T2 i ∧ i ≠ mb := fun {i} hi => by
   have : i = k22 ∨ i = k6 ∨ i = k1 := by simpa using hi
   rcases this with e | e | e
   ·exact ⟨.inr (.inr (.inr (by omega))), by omega⟩
   ·exact ⟨.inr (.inr (.inl e)), by omega⟩
   ·exact ⟨.inr (.inl e), by omega⟩
  refine brB_i (fun hne => ?_) fun heq w32 hL32 => ?_
  rotate_left
  ·have heq : (m : Int) = clear := by simpa using heq
   rw [if_pos heq] at hP2
   exact ⟨xs2, ⟨hz2.1, hz2.2.1.chg hL32.chg (fun hx => (hkd2 hx).2 rfl), hz2.2.2.trans hL32.chg fun i hi _ => (hkd2 hi).1⟩, hP2⟩
  have hne : ¬ (m : Int) = clear := by simpa using hne
  rw [if_neg hne] at hP2
  have hyr : (y + r) * W ≤ W * H := by omega
  have ea : IntKind.i64.wrap (((y : Nat) : Int) + ((r : Nat) : Int)) = ((y + r : Nat) : Int) := by rw [w64 (by omega) (by omega)]; omega
  have eb : IntKind.i64.wrap (((y + r : Nat) : Int) * (W : Nat)) = (((y + r) * W : Nat) : Int) := by rw [← Int.natCast_mul]; exact w64 (by omega) (by omega)
  rw [ea, eb]
  generalize (y + r) * W = Pw at *
  rw [w64 (x := ((Pw : Nat) : Int) + (x : Nat)) (by omega) (by omega), w64 (x := ((Pw : Nat) : Int) + (x : Nat) + (j : Nat)) (by omega) (by omega), w64 (x := 4 * (((Pw : Nat) : Int) + (x : Nat) + (j : Nat))) (by omega) (by omega)]
  have eo : (4 * (((Pw : Nat) : Int) + (x : Nat) + (j : Nat))).toNat = 4 * (Pw + x + j) := by omega
  refine ⟨by omega, by omega, by omega, ?_⟩
  rw [eo, Int.toNat_natCast]
  intro w30 hL30 k25 w31 hn31
  have hC30 : Cs w30 mb (px xs2) := hz2.2.1.chg hL30.chg fun hx => (hkd2 hx).2 rfl
  have hC31 : Cs w31 mb (px xs2) := hC30.ext hn31.ext
  have h25 : Cs w31 k25 (co col) := hn31.cs
  have c31 : Chg T2 w26 w31 := (hz2.2.2.trans hL30.chg fun i hi _ => (hkd2 hi).1).trans (hn31.ext.chg (S := fun _ => False)) fun i hi _ => hi.elim
  have hl4 : 4 * (Pw + x + j) + 4 ≤ (px xs2).length := by rw [px_length, hz2.1, hxl]; omega
  have emin : min 4 (4 * (W * H) - 4 * (Pw + x + j)) * 1 = 4 := by omega
  refine ⟨co col, by rw [emin]; rfl, rfl, (h25.sl (off := 0) (by simp) h25.lt).cells, .inr ⟨⟨mb, 4 * (Pw + x + j), none⟩, ?_, hC31.canSet (by rw [show (co col).length = 4 from rfl]; exact hl4), fun hx => (hkd2 hx).2 rfl, ?_⟩⟩
  ·unfold slcBase
   rw [if_neg (by omega), Option.map_some, loc_add, Nat.zero_add, Nat.mul_one]
  ·refine ⟨setPx xs2 (Pw + x + j) col, ⟨by rw [setPx_len (by rw [hz2.1, hxl]; omega), hz2.1], ?_, c31.trans (Chg.setCells _ _ _ _ :) fun i hi _ => .inl hi⟩, hP2⟩
   have := hC31.set (off := 4 * (Pw + x + j)) (us := co col) (by rw [show (co col).length = 4 from rfl]; exact hl4)
   have e : px (setPx xs2 (Pw + x + j) col) = (px xs2).take (4 * (Pw + x + j)) ++ co col ++ (px xs2).drop (4 * (Pw + x + j) + 4) := by
    simp [px, setPx, coL, co, List.map_take, List.map_drop]
   rw [e]
   exact this
 ·rw [hM] at herr
  simp only at herr
  refine .inr ⟨_, rfl, j3.keep fun i hi hT => ?_, fun w22 hP22 => herr w22 trivial (putR _ _ (rmT _ j3) hP22)⟩
  have : i = w11.heap.size := by simpa using hi
  subst this
  rcases hT with hT | hT | hT | hT | hT <;> omega
end Go.Proofs.Ytiiaihiliimcoaa
namespace Go.Proofs.Ytiiaihiliimcoaa
open Go Go.Vc
set_option maxRecDepth 100000
def vc_gif_Decode (sa1 : Option Addr) (sl1 sc1 : Nat) (x1 : Int) (w : World) (R : Ending → World → Prop) : Prop :=
 ∀ (k1 : Nat) (w1 : World),
 (New w (Obj.cells #[.int .i64 0, .int .i64 0, .slice none 0 0] 26) k1 w1) →
 ∀ (k2 : Nat) (w2 : World),
 (New w1 (Obj.cells #[.int .i64 0] 27) k2 w2) →
 brB (decide ((sl1 : Int) > 4194304))
 ((∃ v1 : Value,
 w2.cell? { block := k1, off := 0 } = some v1) ∧
 (w2.frozen? { block := k1, off := 0 } = false) ∧
 (∃ v2 : Value,
 w2.cell? { block := k1, off := 1 } = some v2) ∧
 (w2.frozen? { block := k1, off := 1 } = false) ∧
 (∃ v3 : Value,
 w2.cell? { block := k1, off := 2 } = some v3) ∧
 (w2.frozen? { block := k1, off := 2 } = false) ∧
 (∃ v4 : Value,
 (setCells w2 { block := k1, off := 0 } [.int .i64 0, .int .i64 0, .slice none 0 0] 0).cell? { block := k2, off := 0 } = some v4) ∧
 ((setCells w2 { block := k1, off := 0 } [.int .i64 0, .int .i64 0, .slice none 0 0] 0).frozen? { block := k2, off := 0 } = false) ∧
 ∃ (n1 n2 : Int) (p1 : Option Addr) (k3 k4 : Nat),
 ((setCells (setCells w2 { block := k1, off := 0 } [.int .i64 0, .int .i64 0, .slice none 0 0] 0) { block := k2, off := 0 } [.int .i64 11] 0).cell? { block := k1, off := 0 } = some (.int .i64 n1)) ∧
 ((setCells (setCells w2 { block := k1, off := 0 } [.int .i64 0, .int .i64 0, .slice none 0 0] 0) { block := k2, off := 0 } [.int .i64 11] 0).cell? { block := k1, off := 1 } = some (.int .i64 n2)) ∧
 ((setCells (setCells w2 { block := k1, off := 0 } [.int .i64 0, .int .i64 0, .slice none 0 0] 0) { block := k2, off := 0 } [.int .i64 11] 0).cell? { block := k1, off := 2 } = some (.slice p1 k3 k4)) ∧
 ∃ n3 : Int,
 ((setCells (setCells w2 { block := k1, off := 0 } [.int .i64 0, .int .i64 0, .slice none 0 0] 0) { block := k2, off := 0 } [.int .i64 11] 0).cell? { block := k2, off := 0 } = some (.int .i64 n3)) ∧
 R (.returned (.tuple #[.agg #[.int .i64 n1, .int .i64 n2, .slice p1 k3 k4], .int .i64 n3])) (setCells (setCells w2 { block := k1, off := 0 } [.int .i64 0, .int .i64 0, .slice none 0 0] 0) { block := k2, off := 0 } [.int .i64 11] 0))
 (∀ k5 : Nat,
 ∀ w3 : World,
 (New w2 (Obj.cells #[.slice sa1 sl1 sc1] 43) k5 w3) →
 ∃ I1 : List Value → World → Prop,
 (Calls P F.gif_reader_bytes #[.pointer (some { block := k5, off := 0 }), .int .i64 6] w3 fun e1 w4 =>
 ((∃ p2 : Option Addr,
 ∃ k6 k7 : Nat,
 (e1 = .returned (.slice p2 k6 k7)) ∧
 ∃ l1 : List Int,
 (l1.length = k6) ∧
 (CellsAre w4 p2 (List.map (.int .u8) l1)) ∧
 brB (!decide (bstrOf l1 = { data := #[71, 73, 70, 56, 55, 97] }))
 (brB (!decide (bstrOf l1 = { data := #[71, 73, 70, 56, 57, 97] }))
 ((∃ y1 : TypeId,
 ∃ v5 : Value,
 Value.iface 40 (Value.agg #[]) = Value.iface y1 v5) ∧
 ∃ v6 : Value,
 (([{ v := Value.iface 40 (Value.agg #[]), recovered := false }] : List PanicEntry) = [{ v := v6, recovered := false }]) ∧
 CallsOff P F.gif_Decode_fn1 [.pointer (some { block := k1, off := 0 }), .pointer (some { block := k2, off := 0 })] (v6) (w4) fun e2 w5 =>
 (∃ v7 : Value,
 e2 = .returned v7) ∧
 ∃ (n4 n5 : Int) (p3 : Option Addr) (k8 k9 : Nat),
 (w5.cell? { block := k1, off := 0 } = some (.int .i64 n4)) ∧
 (w5.cell? { block := k1, off := 1 } = some (.int .i64 n5)) ∧
 (w5.cell? { block := k1, off := 2 } = some (.slice p3 k8 k9)) ∧
 ∃ n6 : Int,
 (w5.cell? { block := k2, off := 0 } = some (.int .i64 n6)) ∧
 R (.returned (.tuple #[.agg #[.int .i64 n4, .int .i64 n5, .slice p3 k8 k9], .int .i64 n6])) w5)
 (I1 [] w4))
 (I1 [] w4)) ∨
 (∃ l2 : List PanicEntry,
 (e1 = .panicked l2) ∧
 ∃ v8 : Value,
 (l2 = [{ v := v8, recovered := false }]) ∧
 CallsOff P F.gif_Decode_fn1 [.pointer (some { block := k1, off := 0 }), .pointer (some { block := k2, off := 0 })] (v8) (w4) fun e3 w6 =>
 (∃ v9 : Value,
 e3 = .returned v9) ∧
 ∃ (n7 n8 : Int) (p4 : Option Addr) (k10 k11 : Nat),
 (w6.cell? { block := k1, off := 0 } = some (.int .i64 n7)) ∧
 (w6.cell? { block := k1, off := 1 } = some (.int .i64 n8)) ∧
 (w6.cell? { block := k1, off := 2 } = some (.slice p4 k10 k11)) ∧
 ∃ n9 : Int,
 (w6.cell? { block := k2, off := 0 } = some (.int .i64 n9)) ∧
 R (.returned (.tuple #[.agg #[.int .i64 n7, .int .i64 n8, .slice p4 k10 k11], .int .i64 n9])) w6))) ∧
 ∀ w7 : World,
 (I1 [] w7) →
 Calls P F.gif_reader_two #[.pointer (some { block := k5, off := 0 })] w7 fun e4 w8 =>
 ((∃ n10 : Int,
 (e4 = .returned (.int .i64 n10)) ∧
 Calls P F.gif_reader_two #[.pointer (some { block := k5, off := 0 })] w8 fun e5 w9 =>
 ((∃ n11 : Int,
 (e5 = .returned (.int .i64 n11)) ∧
 Calls P F.gif_reader_one #[.pointer (some { block := k5, off := 0 })] w9 fun e6 w10 =>
 ((∃ n12 : Int,
 (e6 = .returned (.int .i64 n12)) ∧
 Calls P F.gif_reader_bytes #[.pointer (some { block := k5, off := 0 }), .int .i64 2] w10 fun e7 w11 =>
 ((∃ p5 : Option Addr,
 ∃ k12 k13 : Nat,
 (e7 = .returned (.slice p5 k12 k13)) ∧
 brB (decide (n10 < 1) || decide (n11 < 1))
 ((∃ y2 : TypeId,
 ∃ v10 : Value,
 Value.iface 40 (Value.agg #[]) = Value.iface y2 v10) ∧
 ∃ v11 : Value,
 (([{ v := Value.iface 40 (Value.agg #[]), recovered := false }] : List PanicEntry) = [{ v := v11, recovered := false }]) ∧
 CallsOff P F.gif_Decode_fn1 [.pointer (some { block := k1, off := 0 }), .pointer (some { block := k2, off := 0 })] (v11) (w11) fun e8 w12 =>
 (∃ v12 : Value,
 e8 = .returned v12) ∧
 ∃ (n13 n14 : Int) (p6 : Option Addr) (k14 k15 : Nat),
 (w12.cell? { block := k1, off := 0 } = some (.int .i64 n13)) ∧
 (w12.cell? { block := k1, off := 1 } = some (.int .i64 n14)) ∧
 (w12.cell? { block := k1, off := 2 } = some (.slice p6 k14 k15)) ∧
 ∃ n15 : Int,
 (w12.cell? { block := k2, off := 0 } = some (.int .i64 n15)) ∧
 R (.returned (.tuple #[.agg #[.int .i64 n13, .int .i64 n14, .slice p6 k14 k15], .int .i64 n15])) w12)
 (∃ I2 : List Value → World → Prop,
 (brB (IntKind.i64.wrap (bitsZ .and .i64 n12 128) != 0)
 (Calls P F.gif_reader_palette #[.pointer (some { block := k5, off := 0 }), .int .i64 n12] w11 fun e9 w13 =>
 ((∃ p7 : Option Addr,
 ∃ k16 k17 : Nat,
 (e9 = .returned (.slice p7 k16 k17)) ∧
 I2 [.slice p7 k16 k17] w13) ∨
 (∃ l3 : List PanicEntry,
 (e9 = .panicked l3) ∧
 ∃ v13 : Value,
 (l3 = [{ v := v13, recovered := false }]) ∧
 CallsOff P F.gif_Decode_fn1 [.pointer (some { block := k1, off := 0 }), .pointer (some { block := k2, off := 0 })] (v13) (w13) fun e10 w14 =>
 (∃ v14 : Value,
 e10 = .returned v14) ∧
 ∃ (n16 n17 : Int) (p8 : Option Addr) (k18 k19 : Nat),
 (w14.cell? { block := k1, off := 0 } = some (.int .i64 n16)) ∧
 (w14.cell? { block := k1, off := 1 } = some (.int .i64 n17)) ∧
 (w14.cell? { block := k1, off := 2 } = some (.slice p8 k18 k19)) ∧
 ∃ n18 : Int,
 (w14.cell? { block := k2, off := 0 } = some (.int .i64 n18)) ∧
 R (.returned (.tuple #[.agg #[.int .i64 n16, .int .i64 n17, .slice p8 k18 k19], .int .i64 n18])) w14)))
 (I2 [.slice none 0 0] w11)) ∧
 ∀ (p9 : Option Addr) (k20 k21 : Nat) (w15 : World),
 (I2 [.slice p9 k20 k21] w15) →
 brB (decide (max n10 n11 > 4096) || decide (IntKind.i64.wrap (n10 * n11) > min x1 65536))
 ((∃ v15 : Value,
 w15.cell? { block := k1, off := 0 } = some v15) ∧
 (w15.frozen? { block := k1, off := 0 } = false) ∧
 (∃ v16 : Value,
 w15.cell? { block := k1, off := 1 } = some v16) ∧
 (w15.frozen? { block := k1, off := 1 } = false) ∧
 (∃ v17 : Value,
 w15.cell? { block := k1, off := 2 } = some v17) ∧
 (w15.frozen? { block := k1, off := 2 } = false) ∧
 (∃ v18 : Value,
 (setCells w15 { block := k1, off := 0 } [.int .i64 0, .int .i64 0, .slice none 0 0] 0).cell? { block := k2, off := 0 } = some v18) ∧
 ((setCells w15 { block := k1, off := 0 } [.int .i64 0, .int .i64 0, .slice none 0 0] 0).frozen? { block := k2, off := 0 } = false) ∧
 CallsOff P F.gif_Decode_fn1 [.pointer (some { block := k1, off := 0 }), .pointer (some { block := k2, off := 0 })] (Value.nilIface) (setCells (setCells w15 { block := k1, off := 0 } [.int .i64 0, .int .i64 0, .slice none 0 0] 0) { block := k2, off := 0 } [.int .i64 11] 0) fun e11 w16 =>
 (∃ v19 : Value,
 e11 = .returned v19) ∧
 ∃ (n19 n20 : Int) (p10 : Option Addr) (k22 k23 : Nat),
 (w16.cell? { block := k1, off := 0 } = some (.int .i64 n19)) ∧
 (w16.cell? { block := k1, off := 1 } = some (.int .i64 n20)) ∧
 (w16.cell? { block := k1, off := 2 } = some (.slice p10 k22 k23)) ∧
 ∃ n21 : Int,
 (w16.cell? { block := k2, off := 0 } = some (.int .i64 n21)) ∧
 R (.returned (.tuple #[.agg #[.int .i64 n19, .int .i64 n20, .slice p10 k22 k23], .int .i64 n21])) w16)
 ((0 ≤ IntKind.i64.wrap (IntKind.i64.wrap (4 * n10) * n11)) ∧
 (IntKind.i64.wrap (IntKind.i64.wrap (4 * n10) * n11) ≤ IntKind.i64.wrap (IntKind.i64.wrap (4 * n10) * n11)) ∧
 (IntKind.i64.wrap (IntKind.i64.wrap (4 * n10) * n11) * 2 ≤ 281474976710656) ∧
 (IntKind.i64.wrap (IntKind.i64.wrap (4 * n10) * n11) < 4611686018427387904) ∧
 ∀ (k24 : Nat) (w17 : World),
 (New w15 (Obj.cells (mkCells [.int .u16 0] (IntKind.i64.wrap (IntKind.i64.wrap (4 * n10) * n11)).toNat) 38) k24 w17) →
 (∃ v20 : Value,
 w17.cell? { block := k1, off := 0 } = some v20) ∧
 (w17.frozen? { block := k1, off := 0 } = false) ∧
 (∃ v21 : Value,
 w17.cell? { block := k1, off := 1 } = some v21) ∧
 (w17.frozen? { block := k1, off := 1 } = false) ∧
 (∃ v22 : Value,
 w17.cell? { block := k1, off := 2 } = some v22) ∧
 (w17.frozen? { block := k1, off := 2 } = false) ∧
 ∃ (I3 : List Value → World → Prop) (m1 : List Value → World → Nat),
 (I3 [.int .i64 (-1)] (setCells w17 { block := k1, off := 0 } [.int .i64 n10, .int .i64 n11, .slice (some { block := k24, off := 0 }) (IntKind.i64.wrap (IntKind.i64.wrap (4 * n10) * n11)).toNat (IntKind.i64.wrap (IntKind.i64.wrap (4 * n10) * n11)).toNat] 0)) ∧
 ∀ (n22 : Int) (w18 : World),
 (I3 [.int .i64 n22] w18) →
 Calls P F.gif_reader_one #[.pointer (some { block := k5, off := 0 })] w18 fun e12 w19 =>
 ((∃ n23 : Int,
 (e12 = .returned (.int .i64 n23)) ∧
 brB (n23 == 33)
 (Calls P F.gif_reader_extension #[.pointer (some { block := k5, off := 0 }), .int .i64 n22] w19 fun e13 w20 =>
 ((∃ n24 : Int,
 (e13 = .returned (.int .i64 n24)) ∧
 (I3 [.int .i64 n24] w20) ∧
 m1 [.int .i64 n24] w20 < m1 [.int .i64 n22] w18) ∨
 (∃ l4 : List PanicEntry,
 (e13 = .panicked l4) ∧
 ∃ v23 : Value,
 (l4 = [{ v := v23, recovered := false }]) ∧
 CallsOff P F.gif_Decode_fn1 [.pointer (some { block := k1, off := 0 }), .pointer (some { block := k2, off := 0 })] (v23) (w20) fun e14 w21 =>
 (∃ v24 : Value,
 e14 = .returned v24) ∧
 ∃ (n25 n26 : Int) (p11 : Option Addr) (k25 k26 : Nat),
 (w21.cell? { block := k1, off := 0 } = some (.int .i64 n25)) ∧
 (w21.cell? { block := k1, off := 1 } = some (.int .i64 n26)) ∧
 (w21.cell? { block := k1, off := 2 } = some (.slice p11 k25 k26)) ∧
 ∃ n27 : Int,
 (w21.cell? { block := k2, off := 0 } = some (.int .i64 n27)) ∧
 R (.returned (.tuple #[.agg #[.int .i64 n25, .int .i64 n26, .slice p11 k25 k26], .int .i64 n27])) w21)))
 (brB (n23 == 44)
 (∃ n28 : Int,
 ∃ (n29 : Int) (p12 : Option Addr) (k27 k28 : Nat),
 (w19.cell? { block := k1, off := 0 } = some (.int .i64 n28)) ∧
 (w19.cell? { block := k1, off := 1 } = some (.int .i64 n29)) ∧
 (w19.cell? { block := k1, off := 2 } = some (.slice p12 k27 k28)) ∧
 Calls P F.gif_reader_picture #[.pointer (some { block := k5, off := 0 }), .agg #[.int .i64 n28, .int .i64 n29, .slice p12 k27 k28], .slice p9 k20 k21, .int .i64 n22] w19 fun e15 w22 =>
 (((e15 = .returned (.tuple #[])) ∧
 ∃ (n30 n31 : Int) (p13 : Option Addr) (k29 k30 : Nat),
 (w22.cell? { block := k1, off := 0 } = some (.int .i64 n30)) ∧
 (w22.cell? { block := k1, off := 1 } = some (.int .i64 n31)) ∧
 (w22.cell? { block := k1, off := 2 } = some (.slice p13 k29 k30)) ∧
 (∃ v25 : Value,
 w22.cell? { block := k1, off := 0 } = some v25) ∧
 (w22.frozen? { block := k1, off := 0 } = false) ∧
 (∃ v26 : Value,
 w22.cell? { block := k1, off := 1 } = some v26) ∧
 (w22.frozen? { block := k1, off := 1 } = false) ∧
 (∃ v27 : Value,
 w22.cell? { block := k1, off := 2 } = some v27) ∧
 (w22.frozen? { block := k1, off := 2 } = false) ∧
 (∃ v28 : Value,
 (setCells w22 { block := k1, off := 0 } [.int .i64 n30, .int .i64 n31, .slice p13 k29 k30] 0).cell? { block := k2, off := 0 } = some v28) ∧
 ((setCells w22 { block := k1, off := 0 } [.int .i64 n30, .int .i64 n31, .slice p13 k29 k30] 0).frozen? { block := k2, off := 0 } = false) ∧
 CallsOff P F.gif_Decode_fn1 [.pointer (some { block := k1, off := 0 }), .pointer (some { block := k2, off := 0 })] (Value.nilIface) (setCells (setCells w22 { block := k1, off := 0 } [.int .i64 n30, .int .i64 n31, .slice p13 k29 k30] 0) { block := k2, off := 0 } [.int .i64 0] 0) fun e16 w23 =>
 (∃ v29 : Value,
 e16 = .returned v29) ∧
 ∃ (n32 n33 : Int) (p14 : Option Addr) (k31 k32 : Nat),
 (w23.cell? { block := k1, off := 0 } = some (.int .i64 n32)) ∧
 (w23.cell? { block := k1, off := 1 } = some (.int .i64 n33)) ∧
 (w23.cell? { block := k1, off := 2 } = some (.slice p14 k31 k32)) ∧
 ∃ n34 : Int,
 (w23.cell? { block := k2, off := 0 } = some (.int .i64 n34)) ∧
 R (.returned (.tuple #[.agg #[.int .i64 n32, .int .i64 n33, .slice p14 k31 k32], .int .i64 n34])) w23) ∨
 (∃ l5 : List PanicEntry,
 (e15 = .panicked l5) ∧
 ∃ v30 : Value,
 (l5 = [{ v := v30, recovered := false }]) ∧
 CallsOff P F.gif_Decode_fn1 [.pointer (some { block := k1, off := 0 }), .pointer (some { block := k2, off := 0 })] (v30) (w22) fun e17 w24 =>
 (∃ v31 : Value,
 e17 = .returned v31) ∧
 ∃ (n35 n36 : Int) (p15 : Option Addr) (k33 k34 : Nat),
 (w24.cell? { block := k1, off := 0 } = some (.int .i64 n35)) ∧
 (w24.cell? { block := k1, off := 1 } = some (.int .i64 n36)) ∧
 (w24.cell? { block := k1, off := 2 } = some (.slice p15 k33 k34)) ∧
 ∃ n37 : Int,
 (w24.cell? { block := k2, off := 0 } = some (.int .i64 n37)) ∧
 R (.returned (.tuple #[.agg #[.int .i64 n35, .int .i64 n36, .slice p15 k33 k34], .int .i64 n37])) w24)))
 ((∃ y3 : TypeId,
 ∃ v32 : Value,
 Value.iface 40 (Value.agg #[]) = Value.iface y3 v32) ∧
 ∃ v33 : Value,
 (([{ v := Value.iface 40 (Value.agg #[]), recovered := false }] : List PanicEntry) = [{ v := v33, recovered := false }]) ∧
 CallsOff P F.gif_Decode_fn1 [.pointer (some { block := k1, off := 0 }), .pointer (some { block := k2, off := 0 })] (v33) (w19) fun e18 w25 =>
 (∃ v34 : Value,
 e18 = .returned v34) ∧
 ∃ (n38 n39 : Int) (p16 : Option Addr) (k35 k36 : Nat),
 (w25.cell? { block := k1, off := 0 } = some (.int .i64 n38)) ∧
 (w25.cell? { block := k1, off := 1 } = some (.int .i64 n39)) ∧
 (w25.cell? { block := k1, off := 2 } = some (.slice p16 k35 k36)) ∧
 ∃ n40 : Int,
 (w25.cell? { block := k2, off := 0 } = some (.int .i64 n40)) ∧
 R (.returned (.tuple #[.agg #[.int .i64 n38, .int .i64 n39, .slice p16 k35 k36], .int .i64 n40])) w25))) ∨
 (∃ l6 : List PanicEntry,
 (e12 = .panicked l6) ∧
 ∃ v35 : Value,
 (l6 = [{ v := v35, recovered := false }]) ∧
 CallsOff P F.gif_Decode_fn1 [.pointer (some { block := k1, off := 0 }), .pointer (some { block := k2, off := 0 })] (v35) (w19) fun e19 w26 =>
 (∃ v36 : Value,
 e19 = .returned v36) ∧
 ∃ (n41 n42 : Int) (p17 : Option Addr) (k37 k38 : Nat),
 (w26.cell? { block := k1, off := 0 } = some (.int .i64 n41)) ∧
 (w26.cell? { block := k1, off := 1 } = some (.int .i64 n42)) ∧
 (w26.cell? { block := k1, off := 2 } = some (.slice p17 k37 k38)) ∧
 ∃ n43 : Int,
 (w26.cell? { block := k2, off := 0 } = some (.int .i64 n43)) ∧
 R (.returned (.tuple #[.agg #[.int .i64 n41, .int .i64 n42, .slice p17 k37 k38], .int .i64 n43])) w26))))) ∨
 (∃ l7 : List PanicEntry,
 (e7 = .panicked l7) ∧
 ∃ v37 : Value,
 (l7 = [{ v := v37, recovered := false }]) ∧
 CallsOff P F.gif_Decode_fn1 [.pointer (some { block := k1, off := 0 }), .pointer (some { block := k2, off := 0 })] (v37) (w11) fun e20 w27 =>
 (∃ v38 : Value,
 e20 = .returned v38) ∧
 ∃ (n44 n45 : Int) (p18 : Option Addr) (k39 k40 : Nat),
 (w27.cell? { block := k1, off := 0 } = some (.int .i64 n44)) ∧
 (w27.cell? { block := k1, off := 1 } = some (.int .i64 n45)) ∧
 (w27.cell? { block := k1, off := 2 } = some (.slice p18 k39 k40)) ∧
 ∃ n46 : Int,
 (w27.cell? { block := k2, off := 0 } = some (.int .i64 n46)) ∧
 R (.returned (.tuple #[.agg #[.int .i64 n44, .int .i64 n45, .slice p18 k39 k40], .int .i64 n46])) w27))) ∨
 (∃ l8 : List PanicEntry,
 (e6 = .panicked l8) ∧
 ∃ v39 : Value,
 (l8 = [{ v := v39, recovered := false }]) ∧
 CallsOff P F.gif_Decode_fn1 [.pointer (some { block := k1, off := 0 }), .pointer (some { block := k2, off := 0 })] (v39) (w10) fun e21 w28 =>
 (∃ v40 : Value,
 e21 = .returned v40) ∧
 ∃ (n47 n48 : Int) (p19 : Option Addr) (k41 k42 : Nat),
 (w28.cell? { block := k1, off := 0 } = some (.int .i64 n47)) ∧
 (w28.cell? { block := k1, off := 1 } = some (.int .i64 n48)) ∧
 (w28.cell? { block := k1, off := 2 } = some (.slice p19 k41 k42)) ∧
 ∃ n49 : Int,
 (w28.cell? { block := k2, off := 0 } = some (.int .i64 n49)) ∧
 R (.returned (.tuple #[.agg #[.int .i64 n47, .int .i64 n48, .slice p19 k41 k42], .int .i64 n49])) w28))) ∨
 (∃ l9 : List PanicEntry,
 (e5 = .panicked l9) ∧
 ∃ v41 : Value,
 (l9 = [{ v := v41, recovered := false }]) ∧
 CallsOff P F.gif_Decode_fn1 [.pointer (some { block := k1, off := 0 }), .pointer (some { block := k2, off := 0 })] (v41) (w9) fun e22 w29 =>
 (∃ v42 : Value,
 e22 = .returned v42) ∧
 ∃ (n50 n51 : Int) (p20 : Option Addr) (k43 k44 : Nat),
 (w29.cell? { block := k1, off := 0 } = some (.int .i64 n50)) ∧
 (w29.cell? { block := k1, off := 1 } = some (.int .i64 n51)) ∧
 (w29.cell? { block := k1, off := 2 } = some (.slice p20 k43 k44)) ∧
 ∃ n52 : Int,
 (w29.cell? { block := k2, off := 0 } = some (.int .i64 n52)) ∧
 R (.returned (.tuple #[.agg #[.int .i64 n50, .int .i64 n51, .slice p20 k43 k44], .int .i64 n52])) w29))) ∨
 (∃ l10 : List PanicEntry,
 (e4 = .panicked l10) ∧
 ∃ v43 : Value,
 (l10 = [{ v := v43, recovered := false }]) ∧
 CallsOff P F.gif_Decode_fn1 [.pointer (some { block := k1, off := 0 }), .pointer (some { block := k2, off := 0 })] (v43) (w8) fun e23 w30 =>
 (∃ v44 : Value,
 e23 = .returned v44) ∧
 ∃ (n53 n54 : Int) (p21 : Option Addr) (k45 k46 : Nat),
 (w30.cell? { block := k1, off := 0 } = some (.int .i64 n53)) ∧
 (w30.cell? { block := k1, off := 1 } = some (.int .i64 n54)) ∧
 (w30.cell? { block := k1, off := 2 } = some (.slice p21 k45 k46)) ∧
 ∃ n55 : Int,
 (w30.cell? { block := k2, off := 0 } = some (.int .i64 n55)) ∧
 R (.returned (.tuple #[.agg #[.int .i64 n53, .int .i64 n54, .slice p21 k45 k46], .int .i64 n55])) w30)))
theorem calls_gif_Decode (sa1 : Option Addr) (sl1 sc1 : Nat) (x1 : Int) (w : World) (R : Ending → World → Prop) (h : vc_gif_Decode sa1 sl1 sc1 x1 w R) : Calls P F.gif_Decode #[.slice sa1 sl1 sc1, .int .i64 x1] w R :=
 calls_of_vcD (fn := Try.f5) (ac := ac_gif_Decode) (args := [.slice sa1 sl1 sc1, .int .i64 x1]) mixed Try.func5 (by kernel_rfl) (cast (by unfold vc_gif_Decode FnVcD; kernel_rfl) h)
end Go.Proofs.Ytiiaihiliimcoaa
namespace Go.Proofs.Ytiiaihiliimcoaa
open Go Go.Vc Go.RowKit Go.Qn
set_option maxRecDepth 100000
set_option maxHeartbeats 4000000
theorem bstr_list (xs : List Int) : ∀ acc : ByteArray, (xs.foldl (fun r n => r.push (UInt8.ofNat n.toNat)) acc).data.toList = acc.data.toList ++ xs.map fun n => UInt8.ofNat n.toNat := by
 induction xs with
 | nil => intro acc; simp
 | cons x xs ih => intro acc; rw [List.foldl_cons, ih]; simp [ByteArray.push]
theorem bstr_inj {xs ys : List Int} (hx : Bs xs) (hy : Bs ys) (h : bstrOf xs = bstrOf ys) : xs = ys := by
 have h1 := congrArg (fun b : ByteArray => b.data.toList) h
 simp only [bstrOf, bstr_list] at h1
 have h2 := List.append_cancel_left h1
 clear h h1
 induction xs generalizing ys with
 | nil => cases ys with
  | nil => rfl
  | cons y ys => cases h2
 | cons x xs ih => cases ys with
  | nil => cases h2
  | cons y ys =>
   simp only [List.map_cons, List.cons.injEq] at h2
   have a := hx x (by simp)
   have b := hy y (by simp)
   have e := congrArg UInt8.toNat h2.1
   simp only [UInt8.toNat_ofNat'] at e
   have : x = y := by omega
   rw [this, ih (fun z hz => hx z (List.mem_cons_of_mem _ hz)) (fun z hz => hy z (List.mem_cons_of_mem _ hz)) h2.2]
theorem s87 : (⟨#[71, 73, 70, 56, 55, 97]⟩ : ByteArray) = bstrOf sig87 := by decide +kernel
theorem s89 : (⟨#[71, 73, 70, 56, 57, 97]⟩ : ByteArray) = bstrOf sig89 := by decide +kernel
theorem bs87 : Bs sig87 := by unfold Bs sig87; decide
theorem bs89 : Bs sig89 := by unfold Bs sig89; decide
theorem bstr87 {xs : List Int} (h : Bs xs) : decide (bstrOf xs = ⟨#[71, 73, 70, 56, 55, 97]⟩) = decide (xs = sig87) := by
 rw [Bool.eq_iff_iff]; simp only [decide_eq_true_eq]; rw [s87]
 exact ⟨fun e => bstr_inj h bs87 e, fun e => by rw [e]⟩
theorem bstr89 {xs : List Int} (h : Bs xs) : decide (bstrOf xs = ⟨#[71, 73, 70, 56, 57, 97]⟩) = decide (xs = sig89) := by
 rw [Bool.eq_iff_iff]; simp only [decide_eq_true_eq]; rw [s89]
 exact ⟨fun e => bstr_inj h bs89 e, fun e => by rw [e]⟩
theorem mk0 (n : Nat) : (mkCells [u16 0] n).toList = px (List.replicate n 0) := by
 simp [mkCells, px, Nat.mod_one, Array.toList_map, Array.toList_range]
 rw [List.map_const', List.length_range]
theorem off_brkG {k1 k2 : Nat} {x y z v : Value} {w : World} {R : Ending → World → Prop} (h12 : k1 ≠ k2) (h1 : Cs w k1 [x, y, z]) (h2 : Cs w k2 [v])
  (hR : ∀ w', Chg (fun i => i = k1 ∨ i = k2 ∨ w.heap.size ≤ i) w w' → Cs w' k1 [i64 0, i64 0, .slice none 0 0] → Cs w' k2 [i64 9] → R (.returned (.tuple #[])) w') :
  CallsOff P F.gif_Decode_fn1 [.pointer (some ⟨k1, 0, none⟩), .pointer (some ⟨k2, 0, none⟩)] (.iface 40 (.agg #[])) w R := by
 refine off_gif_Decode_fn1 _ _ _ _ _ ?_
 have l1 := h1.lt
 have l2 := h2.lt
 refine ⟨fun _ u => Chg (fun i => i = k1 ∨ i = k2 ∨ w.heap.size ≤ i) w u ∧ Cs u k1 [i64 0, i64 0, .slice none 0 0] ∧ Cs u k2 [i64 9], ⟨rfl, brB_f rfl (.inl ⟨rfl, fun k hk w1 hL1 => ?_⟩)⟩, fun w2 hI => hR w2 hI.1 hI.2.1 hI.2.2⟩
 have q1 := h1.locl hL1 (by simp; omega)
 have q2 := h2.locl hL1 (by simp; omega)
 have c1 := Chg.setCells w1 ⟨k1, 0, none⟩ [i64 0, i64 0, .slice none 0 0] 0
 have s1 : Cs _ k1 [i64 0, i64 0, .slice none 0 0] := q1.set (off := 0) (us := [i64 0, i64 0, .slice none 0 0]) (by simp)
 have s2 := q2.chg c1 (fun e => h12 (show k2 = k1 from e).symm)
 have c2 := Chg.setCells (setCells w1 ⟨k1, 0, none⟩ [i64 0, i64 0, .slice none 0 0] 0) ⟨k2, 0, none⟩ [i64 9] 0
 have t2 : Cs _ k2 [i64 9] := s2.set1 (off := 0) (v := i64 9) (by simp)
 have t1 := s1.chg c2 (fun e => h12 e)
 have z1 : Chg (fun i => i = k1 ∨ i = k2 ∨ w.heap.size ≤ i) w w1 := hL1.chg.mono fun i hi _ => by
  have : i = k := by simpa using hi
  omega
 exact ⟨⟨_, q1.cell (i := 0) rfl⟩, q1.frozen _, ⟨_, q1.cell (i := 1) rfl⟩, q1.frozen _, ⟨_, q1.cell (i := 2) rfl⟩, q1.frozen _, by simp; omega, ⟨_, s2.cell (i := 0) rfl⟩, s2.frozen _, by simp; omega, (z1.trans c1 fun i hi _ => .inl hi).trans c2 fun i hi _ => .inr (.inl hi), t1, t2⟩
theorem off_nilG {fr1 fr2 : Addr} {w : World} {R : Ending → World → Prop} (hR : R (.returned (.tuple #[])) w) : CallsOff P F.gif_Decode_fn1 [.pointer (some fr1), .pointer (some fr2)] .nilIface w R := by
 refine off_gif_Decode_fn1 _ _ _ _ _ ?_
 exact ⟨fun _ u => u = w, ⟨rfl, brB_t rfl rfl⟩, fun w2 hI => by subst hI; exact hR⟩
theorem gDecode_spec {N : Nat} {w : World} {base : Option Addr} {len cap : Nat} {b : List Int} {most : Int} {R : Ending → World → Prop} (h : Sl N w base (bytes b)) (hl : len = b.length) (hcp : len ≤ cap) (hf : Bs b)
  (hR : ∀ p c w', Ext w w' → OwnS (fun i => w.heap.size ≤ i) w' p (decR b most).2.2.1.length c 1 (px (decR b most).2.2.1) → R (.returned (.tuple #[.agg #[i64 (decR b most).1, i64 (decR b most).2.1, .slice p (decR b most).2.2.1.length c], i64 (decR b most).2.2.2])) w') :
  Calls P F.gif_Decode #[.slice base len cap, i64 most] w R := by
 refine calls_gif_Decode _ _ _ _ _ _ ?_
 intro k1 w1 hn1 k2 w2 hn2
 have e1 := hn1.1
 have e2 := hn2.1
 have s1 := hn1.size
 have s2 := hn2.size
 have s2' := hn2.ext.size
 have hE2 := hn1.ext.trans hn2.ext
 have C1 : Cs w2 k1 [i64 0, i64 0, .slice none 0 0] := (show Cs w1 k1 [i64 0, i64 0, .slice none 0 0] from hn1.cs).ext hn2.ext
 have C2 : Cs w2 k2 [i64 0] := hn2.cs
 have wr : ∀ {u : World} {x y z v : Value} (a c d e : Value), Cs u k1 [x, y, z] → Cs u k2 [v] → Cs (setCells (setCells u ⟨k1, 0, none⟩ [a, c, d] 0) ⟨k2, 0, none⟩ [e] 0) k1 [a, c, d] ∧ Cs (setCells (setCells u ⟨k1, 0, none⟩ [a, c, d] 0) ⟨k2, 0, none⟩ [e] 0) k2 [e] ∧
   Cs (setCells u ⟨k1, 0, none⟩ [a, c, d] 0) k2 [v] ∧ Chg (fun i => i = k1 ∨ i = k2) u (setCells (setCells u ⟨k1, 0, none⟩ [a, c, d] 0) ⟨k2, 0, none⟩ [e] 0) := fun {u x y z v} a c d e q1 q2 => by
  have c1 := Chg.setCells u ⟨k1, 0, none⟩ [a, c, d] 0
  have s1 : Cs _ k1 [a, c, d] := q1.set (off := 0) (us := [a, c, d]) (by simp)
  have s2 := q2.chg c1 (fun e => by have e : k2 = k1 := e; omega)
  have c2 := Chg.setCells (setCells u ⟨k1, 0, none⟩ [a, c, d] 0) ⟨k2, 0, none⟩ [e] 0
  have t2 : Cs _ k2 [e] := s2.set1 (off := 0) (v := e) (by simp)
  exact ⟨s1.chg c2 (fun e => by have e : k1 = k2 := e; omega), t2, s2, (c1.mono fun i hi _ => .inl hi).trans c2 fun i hi _ => .inr hi⟩
 refine brB_i (fun hbig => ?_) fun hbig k5 w3 hn3 => ?_
 ·have hbig : 4194304 < b.length := by have := of_decide_eq_true hbig; omega
  have hd : decR b most = (0, 0, [], 11) := by unfold decR; rw [if_pos hbig]
  rw [hd] at hR
  obtain ⟨t1, t2, t3, t4⟩ := wr (i64 0) (i64 0) (.slice none 0 0) (i64 11) C1 C2
  exact ⟨⟨_, C1.cell (i := 0) rfl⟩, C1.frozen _, ⟨_, C1.cell (i := 1) rfl⟩, C1.frozen _, ⟨_, C1.cell (i := 2) rfl⟩, C1.frozen _, ⟨_, t3.cell (i := 0) rfl⟩, t3.frozen _, _, _, _, _, _, t1.cell (i := 0) rfl, t1.cell (i := 1) rfl, t1.cell (i := 2) rfl, _, t2.cell (i := 0) rfl,
   hR none 0 _ (hE2.step t4 fun i hi => by omega) (OwnS.nil _ _ _ _)⟩
 have hbig : ¬ 4194304 < b.length := by have := of_decide_eq_false hbig; omega
 have e5 := hn3.1
 have s3 := hn3.size
 have s3' := hn3.ext.size
 have hE3 := hE2.trans hn3.ext
 have hE3s := hE3.size
 have hG3 : GAt w3 w.heap.size k5 b 0 := ⟨⟨base, cap, by rw [Nat.sub_zero, ← hl]; exact hn3.cs, by omega, by rw [List.drop_zero]; exact (Sl.up h).ext hE3⟩, by omega, by omega, hE3s, by omega, hf⟩
 let Q : World → Prop := fun u => Ext w u ∧ Cs u k1 [i64 0, i64 0, .slice none 0 0] ∧ Cs u k2 [i64 0] ∧ w3.heap.size ≤ u.heap.size
 have qs : ∀ {u u'}, Q u → Chg (· = k5) u u' → Q u' := fun hq hc => ⟨hq.1.step hc fun i hi => by have hi : i = k5 := hi; omega, hq.2.1.chg hc (by omega), hq.2.2.1.chg hc (by omega), Nat.le_trans hq.2.2.2 hc.size⟩
 have qe : ∀ {u u'}, Q u → Ext u u' → Q u' := fun hq hE => ⟨hq.1.trans hE, hq.2.1.ext hE, hq.2.2.1.ext hE, Nat.le_trans hq.2.2.2 hE.size⟩
 have hQ3 : Q w3 := ⟨hE3, C1.ext hn3.ext, C2.ext hn3.ext, Nat.le_refl _⟩
 have bad : ∀ {x y z v : Value} (u : World), decR b most = (0, 0, [], 9) → Ext w u → Cs u k1 [x, y, z] → Cs u k2 [v] →
   ∃ v8 : Value, brkG = [{ v := v8, recovered := false }] ∧ CallsOff P F.gif_Decode_fn1 [.pointer (some ⟨k1, 0, none⟩), .pointer (some ⟨k2, 0, none⟩)] v8 u fun e3 w6 => (∃ v9 : Value, e3 = .returned v9) ∧
    ∃ (n7 n8 : Int) (p4 : Option Addr) (k10 k11 : Nat), w6.cell? ⟨k1, 0, none⟩ = some (i64 n7) ∧ w6.cell? ⟨k1, 1, none⟩ = some (i64 n8) ∧ w6.cell? ⟨k1, 2, none⟩ = some (.slice p4 k10 k11) ∧ ∃ n9 : Int, w6.cell? ⟨k2, 0, none⟩ = some (i64 n9) ∧
     R (.returned (.tuple #[.agg #[i64 n7, i64 n8, .slice p4 k10 k11], i64 n9])) w6 := fun {x y z v} u hd hE q1 q2 => by
  refine ⟨_, rfl, off_brkG (by omega) q1 q2 fun w' hc g1 g2 => ⟨⟨_, rfl⟩, _, _, _, _, _, g1.cell (i := 0) rfl, g1.cell (i := 1) rfl, g1.cell (i := 2) rfl, _, g2.cell (i := 0) rfl, ?_⟩⟩
  rw [hd] at hR
  exact hR none 0 w' (hE.step hc fun i hi => by have := hE.size; omega) (OwnS.nil _ _ _ _)
 have badQ : ∀ (u : World), decR b most = (0, 0, [], 9) → Q u → _ := fun u hd hq => bad u hd hq.1 hq.2.1 hq.2.2.1
 have hdH : ¬ (headOk b = true) → decR b most = (0, 0, [], 9) := fun hh => by
  unfold decR
  rw [if_neg hbig, if_pos (by simpa using hh)]
 have hH : headOk b = true ↔ 13 ≤ b.length ∧ (b.take 6 = sig87 ∨ b.take 6 = sig89) ∧ 1 ≤ twoM b 6 ∧ 1 ≤ twoM b 8 ∧ (b.getD 10 0 < 128 ∨ 13 + 3 * palN (b.getD 10 0) ≤ b.length) := by
  unfold headOk
  simp only [Bool.and_eq_true, Bool.or_eq_true, decide_eq_true_eq]
  exact ⟨fun ⟨⟨⟨⟨a, b⟩, c⟩, d⟩, e⟩ => ⟨a, b, c, d, e⟩, fun ⟨a, b, c, d, e⟩ => ⟨⟨⟨⟨a, b⟩, c⟩, d⟩, e⟩⟩
 have short : b.length < 13 → decR b most = (0, 0, [], 9) := fun hs => hdH fun hh => by have := (hH.1 hh).1; omega
 refine ⟨fun _ u => Q u ∧ GAt u w.heap.size k5 b 6 ∧ (b.take 6 = sig87 ∨ b.take 6 = sig89), ?_, fun w7 hI => ?_⟩
 ·refine gbytes_spec (n := 6) hG3 (by omega) (fun hle p c w4 hc4 h4 hs4 _ => .inl ⟨_, _, _, rfl, part b 0 6, part_length hle, hs4.cells, ?_⟩) fun hlt => .inr ⟨_, rfl, badQ w3 (short (by omega)) hQ3⟩
  have ep : part b 0 6 = b.take 6 := by unfold part; rw [List.drop_zero]
  rw [bstr87 (part_bs hf _ _), bstr89 (part_bs hf _ _), ep]
  refine brB_i (fun h87 => ?_) fun h87 => ⟨qs hQ3 hc4, h4, .inl (by simpa using h87)⟩
  refine brB_i (fun h89 => ⟨⟨_, _, rfl⟩, badQ w4 (hdH fun hh => ?_) (qs hQ3 hc4)⟩) fun h89 => ⟨qs hQ3 hc4, h4, .inr (by simpa using h89)⟩
  have n87 : b.take 6 ≠ sig87 := by simpa using h87
  have n89 : b.take 6 ≠ sig89 := by simpa using h89
  rcases (hH.1 hh).2.1 with e | e
  ·exact n87 e
  ·exact n89 e
 obtain ⟨hQ7, h7, hsig⟩ := hI
 refine gtwo_spec h7 (fun hA w8 hc8 h8 => .inl ⟨_, rfl, ?_⟩) fun hA => .inr ⟨_, rfl, badQ w7 (short (by omega)) hQ7⟩
 have hQ8 := qs hQ7 hc8
 refine gtwo_spec h8 (fun hB w9 hc9 h9 => .inl ⟨_, rfl, ?_⟩) fun hA => .inr ⟨_, rfl, badQ w8 (short (by omega)) hQ8⟩
 have hQ9 := qs hQ8 hc9
 refine gone_spec h9 (fun hC w10 hc10 h10 => .inl ⟨_, rfl, ?_⟩) fun hA => .inr ⟨_, rfl, badQ w9 (short (by omega)) hQ9⟩
 have hQ10 := qs hQ9 hc10
 refine gbytes_spec (n := 2) h10 (by omega) (fun hle p c w11 hc11 h11 hs11 _ => .inl ⟨_, _, _, rfl, ?_⟩) fun hlt => .inr ⟨_, rfl, badQ w10 (short (by omega)) hQ10⟩
 have hQ11 := qs hQ10 hc11
 simp only [show (6 : Nat) + 2 = 8 from rfl, show (8 : Nat) + 2 = 10 from rfl, show (10 : Nat) + 1 = 11 from rfl, show (11 : Nat) + 2 = 13 from rfl] at h11 hle ⊢
 have rw_ := twoM_range hf 6
 have rh := twoM_range hf 8
 have rf := bget hf 10
 obtain ⟨W, eW⟩ : ∃ n : Nat, twoM b 6 = n := ⟨(twoM b 6).toNat, by omega⟩
 obtain ⟨H, eH⟩ : ∃ n : Nat, twoM b 8 = n := ⟨(twoM b 8).toNat, by omega⟩
 obtain ⟨f, ef⟩ : ∃ n : Nat, b.getD 10 0 = n := ⟨(b.getD 10 0).toNat, by omega⟩
 rw [eW, eH, ef] at hH
 rw [eW] at rw_
 rw [eH] at rh
 rw [ef] at rf
 rw [eW, eH, ef]
 refine brB_i (fun hz => ⟨⟨_, _, rfl⟩, badQ w11 (hdH fun hh => ?_) hQ11⟩) fun hz => ?_
 ·have h1 := (hH.1 hh).2.2.1
  have h2 := (hH.1 hh).2.2.2.1
  simp only [Bool.or_eq_true, decide_eq_true_eq] at hz
  omega
 have hz : 1 ≤ W ∧ 1 ≤ H := by simp only [Bool.or_eq_false_iff, decide_eq_false_iff_not] at hz; omega
 rw [and128 f (by omega)]
 refine ⟨fun vs u => ∃ (pq : Option Addr) (qc : Nat) (SQ : Nat → Prop), vs = [.slice pq (if (128 : Int) ≤ (f : Int) then palU b 13 (palN f) else []).length qc] ∧ headOk b = true ∧ Q u ∧ w3.heap.size ≤ u.heap.size ∧ GAt u w.heap.size k5 b (if (128 : Int) ≤ (f : Int) then 13 + 3 * palN f else 13) ∧
   OwnS SQ u pq (if (128 : Int) ≤ (f : Int) then palU b 13 (palN f) else []).length qc 4 (cos (if (128 : Int) ≤ (f : Int) then palU b 13 (palN f) else [])) ∧ (∀ i, SQ i → w3.heap.size ≤ i ∧ i < u.heap.size), ?_, fun p9 k20 k21 w15 hI => ?_⟩
 ·have hs11' : w3.heap.size ≤ w11.heap.size := hQ11.2.2.2
  refine brB_i (fun h128 => ?_) fun h128 => ?_
  ·have h128 := of_decide_eq_true h128
   rw [if_pos (show (128 : Int) ≤ (f : Int) by omega), if_pos (show (128 : Int) ≤ (f : Int) by omega)]
   refine gpal_spec h11 (by omega) (by omega) (fun hle2 p c w13 hc13 h13 ho13 => .inl ⟨_, _, _, rfl, p, c, fun i => w11.heap.size ≤ i ∧ i < w13.heap.size, by rw [palU_len], hH.2 ⟨hle, hsig, by omega, by omega, .inr hle2⟩, qs hQ11 hc13, by have := hc13.size; omega, h13, by rw [palU_len]; exact ho13.mono fun i hi hl => ⟨hi, hl⟩, fun i hi => ⟨by omega, hi.2⟩⟩) fun hlt w13 hE13 => .inr ⟨_, rfl, badQ w13 (hdH fun hh => ?_) (qe hQ11 hE13)⟩
   have := (hH.1 hh).2.2.2.2
   omega
  ·have h128 := of_decide_eq_false h128
   rw [if_neg (show ¬ (128 : Int) ≤ (f : Int) by omega), if_neg (show ¬ (128 : Int) ≤ (f : Int) by omega)]
   exact ⟨none, 0, fun _ => False, rfl, hH.2 ⟨hle, hsig, by omega, by omega, .inl (by omega)⟩, hQ11, hs11', h11, OwnS.nil _ _ _ _, fun i hi => hi.elim⟩
 obtain ⟨pq, qc, SQ, hv, hhead, hQ15, s15, h15, hq15, hSQ⟩ := hI
 have hpl : (if (128 : Int) ≤ (f : Int) then palU b 13 (palN f) else []).length ≤ 256 := by
  split
  ·rw [palU_len]; exact (palN_range _).2
  ·simp
 have hdM : decR b most = (if (W : Int) > 4096 ∨ (H : Int) > 4096 ∨ (W : Int) * H > most ∨ (W : Int) * H > 65536 then (0, 0, [], 11)
   else match stepsF b W H (if (128 : Int) ≤ (f : Int) then palU b 13 (palN f) else []) (b.length + 1) (if (128 : Int) ≤ (f : Int) then 13 + 3 * palN f else 13) (-1) with
    | none => (0, 0, [], 9)
    | some px => ((W : Int), (H : Int), px, 0) : Int × Int × List Int × Int) := by
  unfold decR
  rw [if_neg hbig, if_neg (by rw [hhead]; exact Bool.noConfusion), eW, eH, ef]
  rfl
 generalize (if (128 : Int) ≤ (f : Int) then palU b 13 (palN f) else []) = pal at *
 generalize (if (128 : Int) ≤ (f : Int) then 13 + 3 * palN f else 13) = k0 at *
 have hv := hv.symm
 simp only [List.cons.injEq, Value.slice.injEq, and_true] at hv
 obtain ⟨rfl, rfl, rfl⟩ := hv
 obtain ⟨hE15, D1, D2, _⟩ := id hQ15
 have hWH65 : W * H ≤ 65535 * 65535 := Nat.mul_le_mul (by omega) (by omega)
 have eWH : ((W : Nat) : Int) * (H : Nat) = ((W * H : Nat) : Int) := by rw [Int.natCast_mul]
 rw [eWH] at hdM ⊢
 rw [w64 (x := ((W * H : Nat) : Int)) (by omega) (by omega)]
 refine brB_i (fun hgr => ?_) fun hgr => ?_
 ·have hgr : (W : Int) > 4096 ∨ (H : Int) > 4096 ∨ ((W * H : Nat) : Int) > most ∨ ((W * H : Nat) : Int) > 65536 := by
   simp only [Bool.or_eq_true, decide_eq_true_eq] at hgr; omega
  rw [if_pos hgr] at hdM
  rw [hdM] at hR
  obtain ⟨t1, t2, t3, t4⟩ := wr (i64 0) (i64 0) (.slice none 0 0) (i64 11) D1 D2
  exact ⟨⟨_, D1.cell (i := 0) rfl⟩, D1.frozen _, ⟨_, D1.cell (i := 1) rfl⟩, D1.frozen _, ⟨_, D1.cell (i := 2) rfl⟩, D1.frozen _, ⟨_, t3.cell (i := 0) rfl⟩, t3.frozen _, off_nilG ⟨⟨_, rfl⟩, _, _, _, _, _, t1.cell (i := 0) rfl, t1.cell (i := 1) rfl, t1.cell (i := 2) rfl, _, t2.cell (i := 0) rfl,
   hR none 0 _ (hE15.step t4 fun i hi => by omega) (OwnS.nil _ _ _ _)⟩⟩
 have hgr : ¬ ((W : Int) > 4096 ∨ (H : Int) > 4096 ∨ ((W * H : Nat) : Int) > most ∨ ((W * H : Nat) : Int) > 65536) := fun hx => by
  have : (decide (max (W : Int) H > 4096) || decide (((W * H : Nat) : Int) > min most 65536)) = true := by
   simp only [Bool.or_eq_true, decide_eq_true_eq]; omega
  rw [this] at hgr; cases hgr
 rw [if_neg hgr] at hdM
 have hWH : W * H ≤ 65536 ∧ W ≤ 4096 ∧ H ≤ 4096 := by omega
 have e4 : IntKind.i64.wrap (IntKind.i64.wrap (4 * (W : Int)) * (H : Nat)) = ((4 * (W * H) : Nat) : Int) := by
  rw [w64 (x := 4 * (W : Int)) (by omega) (by omega)]
  have : 4 * (W : Int) * (H : Nat) = ((4 * (W * H) : Nat) : Int) := by push_cast; exact Int.mul_assoc ..
  rw [this]; exact w64 (by omega) (by omega)
 rw [e4]
 refine ⟨by omega, by omega, by omega, by omega, fun k24 w17 hn17 => ?_⟩
 rw [Int.toNat_natCast] at hn17 ⊢
 have e24 := hn17.1
 have s24 := hn17.size
 have s17 := hn17.ext.size
 have C24 : Cs w17 k24 (px (List.replicate (4 * (W * H)) 0)) := by have := hn17.cs; rwa [mk0] at this
 have F1 := D1.ext hn17.ext
 have F2 := D2.ext hn17.ext
 refine ⟨⟨_, F1.cell (i := 0) rfl⟩, F1.frozen _, ⟨_, F1.cell (i := 1) rfl⟩, F1.frozen _, ⟨_, F1.cell (i := 2) rfl⟩, F1.frozen _, ?_⟩
 have c18 := Chg.setCells w17 ⟨k1, 0, none⟩ [i64 (W : Nat), i64 (H : Nat), .slice (some ⟨k24, 0, none⟩) (4 * (W * H)) (4 * (W * H))] 0
 have G1 : Cs _ k1 [i64 (W : Nat), i64 (H : Nat), .slice (some ⟨k24, 0, none⟩) (4 * (W * H)) (4 * (W * H))] := F1.set (off := 0) (us := [i64 (W : Nat), i64 (H : Nat), .slice (some ⟨k24, 0, none⟩) (4 * (W * H)) (4 * (W * H))]) (by simp)
 have G2 := F2.chg c18 (fun e => by have e : k2 = k1 := e; omega)
 have G24 := C24.chg c18 (fun e => by have e : k24 = k1 := e; omega)
 have h18 := (h15.ext hn17.ext).chg c18 (fun e => by have e : k5 = k1 := e; omega) fun i hi _ => by have hi : i = k1 := hi; omega
 have hE17 := hE15.trans hn17.ext
 have hE18 := hE17.step c18 fun i hi => by have hi : i = k1 := hi; omega
 have q18 := OwnS.chg (OwnS.chg (T := fun _ => False) hq15 hn17.ext.chg fun _ _ _ h => h) c18 fun i hi _ e => by have e : i = k1 := e; have := hSQ i hi; omega
 generalize hu18 : setCells w17 ⟨k1, 0, none⟩ [i64 (W : Nat), i64 (H : Nat), .slice (some ⟨k24, 0, none⟩) (4 * (W * H)) (4 * (W * H))] 0 = w18 at *
 have s18 := c18.size
 generalize hSM : stepsF b W H pal (b.length + 1) k0 (-1) = SM at hdM
 let QQ : World → Prop := fun u => Ext w u ∧ w18.heap.size ≤ u.heap.size ∧ Cs u k1 [i64 (W : Nat), i64 (H : Nat), .slice (some ⟨k24, 0, none⟩) (4 * (W * H)) (4 * (W * H))] ∧ Cs u k2 [i64 0] ∧ Cs u k24 (px (List.replicate (4 * (W * H)) 0)) ∧ OwnS SQ u pq pal.length qc 4 (cos pal)
 have qqs : ∀ {u u'}, QQ u → Chg (· = k5) u u' → QQ u' := fun hq hc => ⟨hq.1.step hc fun i hi => by have hi : i = k5 := hi; omega, Nat.le_trans hq.2.1 hc.size, hq.2.2.1.chg hc (by omega), hq.2.2.2.1.chg hc (by omega), hq.2.2.2.2.1.chg hc (by omega), OwnS.chg hq.2.2.2.2.2 hc fun i hi _ e => by have e : i = k5 := e; have := hSQ i hi; omega⟩
 have badM : SM = none → ∀ u, QQ u → _ := fun hn u hq => bad u (by rw [hdM, hn]) hq.1 hq.2.2.1 hq.2.2.2.1
 refine ⟨fun vs u => ∃ (clear : Int) (k f : Nat), vs = [i64 clear] ∧ GAt u w.heap.size k5 b k ∧ QQ u ∧ SM = stepsF b W H pal f k clear ∧ b.length < k + f,
  fun vs u => match u.cell? ⟨k5, 0, none⟩ with | some (.slice _ n _) => n | _ => 0, ⟨-1, k0, b.length + 1, rfl, h18, ⟨hE18, Nat.le_refl _, G1, G2, G24, q18⟩, hSM.symm, by omega⟩, fun n22 w19' hI => ?_⟩
 obtain ⟨clear, k, f0, hv, hG, hQ, hS, hf0⟩ := hI
 obtain rfl : n22 = clear := by simpa using hv
 have hle := hG.le
 obtain ⟨f', rfl⟩ : ∃ f', f0 = f' + 1 := ⟨f0 - 1, by omega⟩
 rw [stepsF] at hS
 refine gone_spec hG (fun hlt w19 hc19 h19 => .inl ⟨_, rfl, ?_⟩) fun hge => .inr ⟨_, rfl, badM (by rw [hS, if_pos hge]) w19' hQ⟩
 rw [if_neg (by omega)] at hS
 have hQ19 := qqs hQ hc19
 refine brB_i (fun h33 => ?_) fun h33 => ?_
 ·have h33 : b.getD k 0 = 33 := eq_of_beq h33
  rw [if_pos h33] at hS
  refine gext_spec h19 (fun c e w20 hX hc20 h20 => .inl ⟨_, rfl, ⟨c, e, f', rfl, h20, qqs hQ19 hc20, ?_, ?_⟩, ?_⟩) fun w20 hX hc20 => .inr ⟨_, rfl, badM (by rw [hS, hX]) w20 (qqs hQ19 hc20)⟩
  ·rw [hS, hX]
  ·have : k + 1 < e := by
    unfold extM at hX
    split at hX
    ·cases hX
    split at hX
    ·cases hX
    rename_i l e' hB
    have := (blkF_ok hf (show blkF b (b.length + 1) (k + 1 + 1) = some (l, e') from hB)).1
    split at hX
    ·cases hX; omega
    split at hX
    ·cases hX
    ·cases hX; omega
   omega
  ·have hlt2 : k + 1 < e ∧ e ≤ b.length := by
    unfold extM at hX
    split at hX
    ·cases hX
    split at hX
    ·cases hX
    rename_i l e' hB
    have := blkF_ok hf (show blkF b (b.length + 1) (k + 1 + 1) = some (l, e') from hB)
    split at hX
    ·cases hX; omega
    split at hX
    ·cases hX
    ·cases hX; omega
   obtain ⟨p5, c5, g1, _, _⟩ := h20.obj
   obtain ⟨p2, c2, g2, _, _⟩ := hG.obj
   have x1 := g1.cell (i := 0) rfl
   have x2 := g2.cell (i := 0) rfl
   simp only [x1, x2]
   omega
 have h33 : ¬ b.getD k 0 = 33 := fun e => by rw [e] at h33; cases h33
 rw [if_neg h33] at hS
 refine brB_i (fun h44 => ?_) fun h44 => ?_
 rotate_left
 ·have h44 : ¬ b.getD k 0 = 44 := fun e => by rw [e] at h44; cases h44
  rw [if_neg h44] at hS
  exact ⟨⟨_, _, rfl⟩, badM hS w19 hQ19⟩
 have h44 : b.getD k 0 = 44 := eq_of_beq h44
 rw [if_pos h44] at hS
 obtain ⟨qE, qz, q1, q2, q24, qq⟩ := id hQ19
 refine ⟨_, _, _, _, _, q1.cell (i := 0) rfl, q1.cell (i := 1) rfl, q1.cell (i := 2) rfl, ?_⟩
 have chgR : ∀ {u : World}, Chg (fun i => i = k5 ∨ i = k24) w19 u → Ext w u ∧ Cs u k1 [i64 (W : Nat), i64 (H : Nat), .slice (some ⟨k24, 0, none⟩) (4 * (W * H)) (4 * (W * H))] ∧ Cs u k2 [i64 0] := fun hc =>
  ⟨qE.step hc fun i hi => by rcases hi with e | e <;> omega, q1.chg hc fun hx => by rcases hx with e | e <;> omega, q2.chg hc fun hx => by rcases hx with e | e <;> omega⟩
 refine gpic_spec (xs := List.replicate (4 * (W * H)) 0) h19 (by omega) q24 (by simp) (by omega) (by omega) (by omega) (by omega) (by omega) qq hpl (fun i hi => by have := hSQ i hi; exact ⟨by omega, by omega, by omega, by omega⟩) (fun xs' w22 hX hc22 h22 hxl => .inl ⟨rfl, ?_⟩) fun w22 hX hc22 => .inr ⟨_, rfl, ?_⟩
 ·obtain ⟨g0, g1, g2⟩ := chgR hc22
  have hdO : decR b most = ((W : Int), (H : Int), xs', 0) := by rw [hdM, hS, hX]
  obtain ⟨t1, t2, t3, t4⟩ := wr (i64 (W : Nat)) (i64 (H : Nat)) (.slice (some ⟨k24, 0, none⟩) (4 * (W * H)) (4 * (W * H))) (i64 0) g1 g2
  refine ⟨_, _, _, _, _, g1.cell (i := 0) rfl, g1.cell (i := 1) rfl, g1.cell (i := 2) rfl, ⟨_, g1.cell (i := 0) rfl⟩, g1.frozen _, ⟨_, g1.cell (i := 1) rfl⟩, g1.frozen _, ⟨_, g1.cell (i := 2) rfl⟩, g1.frozen _, ⟨_, t3.cell (i := 0) rfl⟩, t3.frozen _, off_nilG ⟨⟨_, rfl⟩, _, _, _, _, _, t1.cell (i := 0) rfl, t1.cell (i := 1) rfl, t1.cell (i := 2) rfl, _, t2.cell (i := 0) rfl, ?_⟩⟩
  rw [hdO] at hR
  rw [List.length_replicate] at hxl
  have hcs := h22.chg t4 fun hx => by rcases hx with e | e <;> omega
  have := hR (some ⟨k24, 0, none⟩) (4 * (W * H)) _ (g0.step t4 fun i hi => by rcases hi with e | e <;> omega) (by
   show OwnS _ _ _ xs'.length _ _ (px xs')
   rw [hxl]
   exact ⟨by rw [px_length, hxl, Nat.mul_one], Nat.le_refl _, .inr ⟨k24, [], by show w.heap.size ≤ k24; omega, rfl, by rw [px_length, hxl]; simp, by rw [List.append_nil]; exact hcs⟩⟩)
  simp only [hxl] at this
  exact this
 ·obtain ⟨g0, g1, g2⟩ := chgR hc22
  exact bad w22 (by rw [hdM, hS, hX]) g0 g1 g2
end Go.Proofs.Ytiiaihiliimcoaa
namespace Go.Proofs.Ytiiaihiliimcoaa
open Go Go.Vc Go.RowKit Go.Qn
set_option maxRecDepth 100000
set_option maxHeartbeats 4000000
section
variable {N : Nat} {w : World} {base : Option Addr} {len cap k : Nat} {b : List Int} {R : Ending → World → Prop}
theorem Sl.byte (h : Sl N w base (bytes b)) (hl : len = b.length) {i : Int} {j : Nat} (hi : i = j) (hj : j < b.length) {F : Addr → Prop} (hF : ∀ a, w.cell? a = some (u8 (b.getD j 0)) → F a) : idx base len i 1 F := by
 subst hi
 exact h.get (by omega) (by rw [bytes_length]; omega) (by rw [Int.toNat_natCast]; exact bytes_get hj) hF
end
end Go.Proofs.Ytiiaihiliimcoaa
namespace Go.Proofs.Ytiiaihiliimcoaa
open Go Go.Vc Go.RowKit Go.Qn
set_option maxRecDepth 100000
def goneU (xs : List Int) (n : Nat) : Bool := (List.range n).any fun i => decide (xs.getD (4 * i + 3) 0 < 32768)
theorem goneU_succ (xs : List Int) (n : Nat) : goneU xs (n + 1) = (goneU xs n || decide (xs.getD (4 * n + 3) 0 < 32768)) := by simp [goneU, List.range_succ]
def goneM (xs : List Int) : Bool := goneU xs (xs.length / 4)
def pal0G (W H : Int) (xs : List Int) : List Co := (palR W H xs (if goneM xs then 255 else 256)).1
def palG (W H : Int) (xs : List Int) : List Co := if goneM xs then pal0G W H xs ++ [zeroC] else pal0G W H xs
def idxU (W H : Int) (xs : List Int) (n : Nat) : List Int :=
 (List.range (appR W H xs (palG W H xs)).2.2.2.1.length).map fun i => if i < n ∧ (appR W H xs (pal0G W H xs)).2.2.2.2 = 0 ∧ 32768 ≤ xs.getD (4 * i + 3) 0 then (appR W H xs (pal0G W H xs)).2.2.2.1.getD i 0 else (appR W H xs (palG W H xs)).2.2.2.1.getD i 0
def idxG (W H : Int) (xs : List Int) : List Int := if goneM xs then idxU W H xs (appR W H xs (palG W H xs)).2.2.2.1.length else (appR W H xs (palG W H xs)).2.2.2.1
def sizeG (n : Nat) : Nat := if n ≤ 2 then 1 else if n ≤ 4 then 2 else if n ≤ 8 then 3 else if n ≤ 16 then 4 else if n ≤ 32 then 5 else if n ≤ 64 then 6 else if n ≤ 128 then 7 else 8
def two2 (v : Int) : List Int := [v % 256, v / 256 % 256]
def entG (pal : List Co) (n : Nat) : List Int := ((List.range n).map fun i =>
 let c := if i < pal.length ∧ (pal.getD i zeroC).2.2.2 ≠ 0 then pal.getD i zeroC else pal.getD 0 zeroC
 [c.1 / 256 % 256, c.2.1 / 256 % 256, c.2.2.1 / 256 % 256]).flatten
def subU (bs : List Int) (n : Nat) : List Int := ((List.range n).map fun k => (((min 255 (bs.length - 255 * k) : Nat) : Int)) :: part bs (255 * k) (min 255 (bs.length - 255 * k))).flatten
def subG (bs : List Int) : List Int := subU bs ((bs.length + 254) / 255)
def headG (W H : Int) (xs : List Int) : List Int :=
 sig89 ++ two2 W ++ two2 H ++ [((127 + sizeG (palG W H xs).length : Nat) : Int), 0, 0] ++ entG (palG W H xs) (2 ^ sizeG (palG W H xs).length) ++ (if goneM xs then [33, 249, 4, 1, 0, 0, (((palG W H xs).length - 1 : Nat) : Int), 0] else []) ++ [44, 0, 0, 0, 0] ++ two2 W ++ two2 H
def encG (W H : Int) (xs : List Int) : List Int :=
 headG W H xs ++ [0, ((max (sizeG (palG W H xs).length) 2 : Nat) : Int)] ++ subG (gifPackR (idxG W H xs) ((max (sizeG (palG W H xs).length) 2 : Nat) : Int)).1 ++ [0, 59]
def encR (W H : Int) (xs : List Int) : List Int × Int := if good W H xs then (encG W H xs, 0) else ([], 6)
end Go.Proofs.Ytiiaihiliimcoaa
namespace Go.Proofs.Ytiiaihiliimcoaa
open Go Go.Vc Go.RowKit Go.Qn
set_option maxRecDepth 100000
set_option maxHeartbeats 2000000
theorem OwnS.grow' {S : Nat → Prop} {w w5 : World} {bs : List Nat} {l : List (Nat × Nat × List Value)} {base : Option Addr} {len cap n sz bytes : Nat} {elem : TypeId} {zero vs fs : List Value} {F : Option Addr → Nat → Nat → World → Prop}
  (h : OwnS S w base len cap sz vs) (hL : Locl bs w w5) (hb : ∀ b, b ∈ bs → w.heap.size ≤ b ∨ ¬ S b) (hS : ∀ i, w.heap.size ≤ i → S i) (hbl : ∀ b, b ∈ blocks l → b ∈ bs) (hz : zero.length = sz) (hn : fs.length = n * sz)
  (hby : (len + n) * bytes ≤ 2 ^ 47) (h62 : len + n < 2 ^ 62)
  (hF : ∀ base' cap' w6, OwnS (fun i => S i ∧ i ∉ bs) w6 base' (len + n) cap' sz (vs ++ fs) → Chg (fun i => S i ∨ i ∈ bs) w w6 → w5.heap.size ≤ w6.heap.size → F base' (len + n) cap' w6) :
  appVC w5 l base len cap n sz bytes elem zero fs F := by
 have h1 : OwnS (fun i => S i ∧ i ∉ bs) w base len cap sz vs := OwnS.mono h fun i hi hlt => ⟨hi, fun hm => (hb i hm).elim (fun g => by omega) fun g => g hi⟩
 have h2 := OwnS.chg h1 hL.chg fun b hb _ hm => hb.2 hm
 have hs := hL.size
 refine OwnS.app h2 (fun b hb hs => hs.2 (hbl b hb)) hz hn hby h62 fun base' cap' w6 ho hc => hF base' cap' w6 (ho.mono fun i hi hlt => ?_) ?_ hc.size
 ·rcases hi with hi | hi
  ·exact hi
  ·exact ⟨hS i (by omega), fun hm => by have := hL.there i hm; omega⟩
 ·exact (hL.chg.mono fun i hi _ => .inr hi).trans hc fun i hi _ => .inl hi.1
structure EAt (u : World) (T : Nat → Prop) (kb : Nat) (out : List Int) : Prop where
 obj : ∃ p c, Cs u kb [.slice p out.length c] ∧ OwnS T u p out.length c 1 (bytes out)
 ne : ¬ T kb
theorem EAt.chg {u u' : World} {T Z : Nat → Prop} {kb : Nat} {out : List Int} (h : EAt u T kb out) (hc : Chg Z u u') (h1 : ¬ Z kb) (h2 : ∀ b, T b → b < u.heap.size → ¬ Z b) : EAt u' T kb out := by
 obtain ⟨p, c, g1, g2⟩ := h.obj
 exact ⟨⟨p, c, g1.chg hc h1, g2.chg hc h2⟩, h.ne⟩
theorem EAt.ext {u u' : World} {T : Nat → Prop} {kb : Nat} {out : List Int} (h : EAt u T kb out) (hE : Ext u u') : EAt u' T kb out := h.chg (Z := fun _ => False) hE.chg id fun _ _ _ h => h
theorem EAt.lim {u : World} {T T' : Nat → Prop} {kb : Nat} {out : List Int} (h : EAt u T kb out) (h1 : ∀ b, T b → b < u.heap.size → T' b) (h2 : ¬ T' kb) : EAt u T' kb out := by
 obtain ⟨p, c, g1, g2⟩ := h.obj
 exact ⟨⟨p, c, g1, g2.mono h1⟩, h2⟩
theorem EAt.app {u u5 : World} {T : Nat → Prop} {kb : Nat} {out ys : List Int} {ls : List Nat} {l : List (Nat × Nat × List Value)} {n : Nat} {p : Option Addr} {c : Nat} {F : Option Addr → Nat → Nat → World → Prop}
  (hp : Cs u kb [.slice p out.length c]) (ho : OwnS T u p out.length c 1 (bytes out)) (hne : ¬ T kb) (hnew : ∀ b, u.heap.size ≤ b → T b) (hL : Locl ls u u5) (hb : ∀ b, b ∈ ls → u.heap.size ≤ b ∨ ¬ T b) (hkb : kb ∉ ls) (hbl : ∀ b, b ∈ blocks l → b ∈ ls) (hn : ys.length = n) (hsz : out.length + n ≤ 2 ^ 40)
  (hF : ∀ p' c' w6, (∃ v, w6.cell? ⟨kb, 0, none⟩ = some v) → w6.frozen? ⟨kb, 0, none⟩ = false → Chg (fun i => T i ∨ i ∈ ls) u w6 → w6.heap.size = (setCells w6 ⟨kb, 0, none⟩ [.slice p' (out ++ ys).length c'] 0).heap.size → EAt (setCells w6 ⟨kb, 0, none⟩ [.slice p' (out ++ ys).length c'] 0) (fun i => T i ∧ i ∉ ls) kb (out ++ ys) →
   Chg (fun i => i = kb ∨ T i ∨ i ∈ ls) u (setCells w6 ⟨kb, 0, none⟩ [.slice p' (out ++ ys).length c'] 0) → u5.heap.size ≤ w6.heap.size → F p' (out ++ ys).length c' w6) :
  appVC u5 l p out.length c n 1 1 5 [u8 0] (bytes ys) F := by
 subst hn
 refine OwnS.grow' ho hL hb hnew hbl rfl (by rw [bytes_length, Nat.mul_one]) (by omega) (by omega) fun p' c' w6 hO6 hc6 hs56 => ?_
 have hC6 := hp.chg hc6 fun hx => hx.elim hne hkb
 have hset := Chg.setCells w6 ⟨kb, 0, none⟩ [.slice p' (out ++ ys).length c'] 0
 have hC7 : Cs (setCells w6 ⟨kb, 0, none⟩ [.slice p' (out ++ ys).length c'] 0) kb [.slice p' (out ++ ys).length c'] := hC6.set1 (off := 0) (v := .slice p' (out ++ ys).length c') (by simp)
 have hO7 : OwnS (fun i => T i ∧ i ∉ ls) w6 p' (out ++ ys).length c' 1 (bytes (out ++ ys)) := by rw [List.length_append, bytes_append]; exact hO6
 have := hF p' c' w6 ⟨_, hC6.cell (i := 0) rfl⟩ (hC6.frozen _) hc6 (setCells_same _ _ _ _).size.symm ⟨⟨p', c', hC7, OwnS.chg hO7 hset fun i hi _ e => hne (by have e : i = kb := e; rw [← e]; exact hi.1)⟩, fun h => hne h.1⟩ ((hc6.mono fun i hi _ => .inr hi).trans hset fun i hi _ => .inl hi) hs56
 rwa [List.length_append] at this
theorem two_bytes {x : Int} (h0 : 0 ≤ x) (h1 : x ≤ 65535) : [u8 (IntKind.u8.wrap x), u8 (IntKind.u8.wrap (shiftZ .shr .i64 x 8))] = bytes (two2 x) := by
 have hm : ∀ y : Int, IntKind.u8.wrap y = y % 256 := fun y => by rw [IntKind.wrap]; simp [IntKind.signed, IntKind.bits]
 rw [shiftZ_shr h0 (by omega) (by simp [IntKind.bits]), hm, hm]
 rfl
theorem etwo_spec {u : World} {T : Nat → Prop} {kb : Nat} {out : List Int} {x : Int} {R : Ending → World → Prop} (h : EAt u T kb out) (hkb : kb < u.heap.size) (hnew : ∀ b, u.heap.size ≤ b → T b) (h0 : 0 ≤ x) (h1 : x ≤ 65535) (hsz : out.length + 2 ≤ 2 ^ 40)
  (hR : ∀ u', EAt u' T kb (out ++ two2 x) → Chg (fun i => i = kb ∨ T i) u u' → R (.returned (.tuple #[])) u') : Calls P F.gif_Encode_fn1 #[i64 x, .pointer (some ⟨kb, 0, none⟩)] u R := by
 refine calls_gif_Encode_fn1 _ _ _ _ ?_
 obtain ⟨p, c, g1, g2⟩ := h.obj
 refine ⟨_, _, _, g1.cell (i := 0) rfl, fun k3 hk3 w1 hL1 => ?_⟩
 rw [two_bytes h0 h1]
 refine EAt.app (ys := two2 x) g1 g2 h.ne hnew hL1 (fun b hb => .inl (by simp at hb; omega)) (by simp; omega) (by simp [blocks]) rfl hsz fun p' c' w6 hcell hfro hc6 hs6 hX hc _ => ⟨hcell, hfro, by simp; omega, hR _ (hX.lim (fun b hb _ => hb.1) h.ne) (hc.mono fun i hi _ => ?_)⟩
 rcases hi with hi | hi | hi
 ·exact .inl hi
 ·exact .inr hi
 ·have : i = k3 := by simpa using hi
  exact .inr (hnew i (by omega))
theorem app_full {N : Nat} {w : World} {l : List (Nat × Nat × List Value)} {base : Option Addr} {len n sz bytes : Nat} {elem : TypeId} {zero vs fs : List Value} {F : Option Addr → Nat → Nat → World → Prop}
  (h : Sl N w base vs) (h1 : len * sz = vs.length) (h0 : 0 < n) (hz : zero.length = sz) (hn : fs.length = n * sz) (hby : (len + n) * bytes ≤ 2 ^ 47) (h62 : len + n < 2 ^ 62)
  (hF : ∀ base' cap' w', OwnS (fun i => w.heap.size ≤ i) w' base' (len + n) cap' sz (vs ++ fs) → Ext w w' → F base' (len + n) cap' w') :
  appVC w l base len len n sz bytes elem zero fs F := by
 refine ⟨fun hle => by omega, fun hgt => ⟨hby, h62, vs, h1.symm, h.cells, fun cap' b w' hc' hnew => ?_⟩⟩
 have hex : Ext w w' := (Ext.refl w).drew.trans hnew.ext
 refine hF _ _ _ ?_ hex
 have := New.own (N := w.heap.size) (M := w'.heap.size) (vs := vs ++ fs) (len := len + n) (cap := cap') (sz := sz) hnew (by simp) (by rw [Nat.add_mul, List.length_append]; omega) ?_ hc' (by exact Nat.le_refl _) (Nat.le_refl _)
 ·exact this.ownS.mono fun i hi _ => hi.1
 ·simp only [List.size_toArray, List.length_append, Array.length_toList, mkCells_length, hz]
  rw [Nat.sub_mul, Nat.add_mul]
  have : (len + n) * sz ≤ cap' * sz := Nat.mul_le_mul_right _ hc'
  rw [Nat.add_mul] at this
  omega
theorem etwo_first {N : Nat} {u : World} {kb : Nat} {out : List Int} {p : Option Addr} {x : Int} {R : Ending → World → Prop} (g1 : Cs u kb [.slice p out.length out.length]) (hs : Sl N u p (bytes out)) (h0 : 0 ≤ x) (h1 : x ≤ 65535) (hsz : out.length + 2 ≤ 2 ^ 40)
  (hR : ∀ u', EAt u' (fun i => u.heap.size ≤ i) kb (out ++ two2 x) → Chg (fun i => i = kb ∨ u.heap.size ≤ i) u u' → R (.returned (.tuple #[])) u') : Calls P F.gif_Encode_fn1 #[i64 x, .pointer (some ⟨kb, 0, none⟩)] u R := by
 refine calls_gif_Encode_fn1 _ _ _ _ ?_
 have hkb := g1.lt
 refine ⟨_, _, _, g1.cell (i := 0) rfl, fun k3 hk3 w1 hL1 => ?_⟩
 rw [two_bytes h0 h1]
 have hE1 : Ext u w1 := hL1.ext (by simpa using hk3)
 have t3 := hL1.there k3 (by simp)
 have s1 := hE1.size
 refine app_full (hs.ext hE1) (by rw [bytes_length]; omega) (by omega) rfl (by rw [bytes_length]; rfl) (by omega) (by omega) fun p' c' w2 hO2 hE2 => ?_
 have hE12 := hE1.trans hE2
 have hC2 := g1.ext hE12
 have hset := Chg.setCells w2 ⟨kb, 0, none⟩ [.slice p' (out.length + 2) c'] 0
 refine ⟨⟨_, hC2.cell (i := 0) rfl⟩, hC2.frozen _, by simp; omega, hR _ ⟨⟨p', c', ?_, ?_⟩, by omega⟩ ((hE12.chg (S := fun i => i = kb ∨ u.heap.size ≤ i)).trans hset fun i hi _ => .inl hi)⟩
 ·have := hC2.set1 (off := 0) (v := .slice p' (out.length + 2) c') (by simp)
  rw [List.length_append]
  exact this
 ·rw [List.length_append, bytes_append]
  exact OwnS.mono (OwnS.chg hO2 hset fun i hi _ e => by have e : i = kb := e; omega) fun i hi _ => by omega
end Go.Proofs.Ytiiaihiliimcoaa
