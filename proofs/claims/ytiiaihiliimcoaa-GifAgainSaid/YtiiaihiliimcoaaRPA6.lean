/- Quant: the stable sort of colours: short rows, merging, all of it. -/
import Derived.Test.YtiiaihiliimcoaaRPA4
import Derived.Test.YtiiaihiliimcoaaRPA5
set_option linter.unusedVariables false
set_option linter.unusedSimpArgs false
namespace Go.Proofs.Ytiiaihiliimcoaa
open Go Go.Vc Go.RowKit Go.Qn
set_option maxRecDepth 100000
structure Cmp (va : Value) (key : Co → Int) (b : Nat) (Q : World → Prop) : Prop where
 go : ∀ (u : World) (x y : Co) (R : Ending → World → Prop), Q u → (∀ (n : Int) w', Ext u w' → (n < 0 ↔ key x < key y) → R (.returned (i64 n)) w') → callV P va [.agg (co x).toArray, .agg (co y).toArray] u R
 kp : ∀ u u', Q u → Chg (· = b) u u' → Q u'
theorem mid64 {x y : Int} (h0 : 0 ≤ x + y) (h1 : x + y < 2 ^ 60) : IntKind.i64.wrap (shiftZ BinOp.shr IntKind.u64 (IntKind.u64.wrap (IntKind.i64.wrap (x + y))) 1) = (x + y) / 2 := by
 rw [w64 (x := x + y) (by omega) (by omega), wu64 (by omega) (by omega), shiftZ_shr (by omega) (by omega) (by simp [IntKind.bits]), show (2 : Int) ^ (Int.toNat 1) = 2 from rfl, w64 (by omega) (by omega)]
theorem insort_spec {va : Value} {key : Co → Int} {Q : World → Prop} {w : World} {b n cap a e : Nat} {D : Nat → Co} {R : Ending → World → Prop} (h : So w b n D) (hQ : Q w) (hC : Cmp va key b Q) (hae : a ≤ e) (hen : e ≤ n) (hn : n ≤ 2 ^ 40)
  (hR : ∀ w' E, So w' b n E → Chg (· = b) w w' → Rear key D E a e → AscF key E a e → R (.returned (.tuple #[])) w') :
  Calls P F.slices_insertionSortCmpFunc_api_Color #[.slice (some ⟨b, 0, none⟩) n cap, i64 a, i64 e, va] w R := by
 refine calls_slices_insertionSortCmpFunc_api_Color _ _ _ _ _ _ _ _ ?_
 unfold vc_slices_insertionSortCmpFunc_api_Color
 rw [w64 (x := (a : Int) + 1) (by omega) (by omega)]
 refine ⟨fun vs u => ∃ (k : Nat) (E : Nat → Co), vs = [i64 k] ∧ a + 1 ≤ k ∧ (k ≤ e ∨ k = a + 1) ∧ So u b n E ∧ Chg (· = b) w u ∧ Rear key D E a e ∧ AscF key E a k, fun vs _ => match vs with | [.int _ k] => (e - k).toNat | _ => 0,
  ⟨a + 1, D, by simp, Nat.le_refl _, .inr rfl, h, Chg.refl _ _, Rear.refl _ _ _ _, AscF.short (Nat.le_refl _)⟩, fun k' w1 hI => ?_⟩
 obtain ⟨k, E, hv, hk0, hk1, hS, hCh, hRe, hA⟩ := hI
 obtain rfl : k' = k := by simpa using hv
 refine brB_i (fun hlt => ?_) fun hge => ?_
 ·have hlt : k < e := by simp at hlt; omega
  refine ⟨fun vs u => vs = [] ∧ ∃ E : Nat → Co, So u b n E ∧ Chg (· = b) w u ∧ Rear key D E a e ∧ AscF key E a (k + 1), ?_, fun w4 hI => ?_⟩
  ·refine ⟨fun vs u => ∃ (j : Nat) (E : Nat → Co), vs = [i64 j] ∧ a ≤ j ∧ j ≤ k ∧ So u b n E ∧ Chg (· = b) w u ∧ Rear key D E a e ∧ Ins key E a j k, fun vs _ => match vs with | [.int _ j] => j.toNat | _ => 0,
    ⟨k, E, rfl, by omega, Nat.le_refl _, hS, hCh, hRe, Ins.start hA⟩, fun j' w2 hI => ?_⟩
   obtain ⟨j, E2, hv2, hj0, hj1, hS2, hCh2, hRe2, hIn⟩ := hI
   obtain rfl : j' = j := by simpa using hv2
   refine brB_i (fun hgt => ?_) fun hle => ?_
   ·have hgt : a < j := by simp at hgt; omega
    rw [w64 (x := (j : Int) - 1) (by omega) (by omega)]
    have ej : ((j : Int) - 1).toNat = j - 1 := by omega
    have ej' : (j : Int).toNat = j := by omega
    refine hS2.drew.ld (by omega) (by omega) fun e1 e2 e3 e4 => ⟨_, _, _, _, e1, e2, e3, e4, ?_⟩
    refine hS2.drew.ld (by omega) (by omega) fun e1 e2 e3 e4 => ⟨_, _, _, _, e1, e2, e3, e4, ?_⟩
    rw [ej, ej']
    refine hC.go _ (E2 j) (E2 (j - 1)) _ (hC.kp _ _ hQ (chg_dr hCh2)) fun c w3 hE3 hc => ⟨c, rfl, ?_⟩
    have hS3 := (hS2.drew.ext hE3).drew
    have hCh3 := chg_dr (chgb (chg_dr hCh2) hE3.chg)
    refine brB_i (fun hlt => ?_) fun hge => ?_
    ·have hlt : key (E2 j) < key (E2 (j - 1)) := hc.1 (by simpa using hlt)
     refine hS3.ld (by omega) (by omega) fun e1 e2 e3 e4 => ⟨_, _, _, _, e1, e2, e3, e4, ?_⟩
     refine hS3.ld (by omega) (by omega) fun e1 e2 e3 e4 => ⟨_, _, _, _, e1, e2, e3, e4, ?_⟩
     rw [ej, ej']
     refine hS3.st (by omega) (by omega) ?_
     rw [ej']
     have h1 := hS3.put (i := j) (by omega) (E2 (j - 1))
     refine h1.st (i := (j : Int) - 1) (by omega) (by omega) ?_
     rw [ej]
     obtain ⟨h2, h3⟩ := hS3.two (i := j) (j := j - 1) (by omega) (by omega)
     obtain ⟨i, rfl⟩ : ∃ i, j = i + 1 := ⟨j - 1, by omega⟩
     simp only [Nat.add_sub_cancel] at *
     rw [swp_comm] at h2
     refine ⟨⟨i, _, by simp, by omega, by omega, h2, chgb hCh3 h3, hRe2.trans ((Rear.swp hlt).wide (by omega) (by omega) (by omega)), hIn.step (by omega) (by omega) hlt⟩, ?_⟩
     show (((i + 1 : Nat) : Int) - 1).toNat < ((i + 1 : Nat) : Int).toNat
     omega
    ·have hge : key (E2 (j - 1)) ≤ key (E2 j) := by
      have : ¬ c < 0 := by simpa using hge
      have := mt hc.2 this
      omega
     exact ⟨rfl, E2, hS2.drew.ext hE3, chgb (chg_dr hCh2) hE3.chg, hRe2, hIn.done (.inr ⟨j - 1, by omega, hge⟩)⟩
   ·have hle : j ≤ a := by simp at hle; omega
    exact ⟨rfl, E2, hS2.drew, chg_dr hCh2, hRe2, hIn.done (.inl hle)⟩
  ·obtain ⟨_, E2, h1, h2, h3, h4⟩ := hI
   rw [w64 (x := (k : Int) + 1) (by omega) (by omega)]
   exact ⟨⟨k + 1, E2, by simp, by omega, .inl (by omega), h1, h2, h3, h4⟩, by show ((e : Int) - ((k : Int) + 1)).toNat < ((e : Int) - k).toNat; omega⟩
 ·have hge : e ≤ k := by simp at hge; omega
  exact hR w1 E hS hCh hRe (hA.sub (Nat.le_refl _) hge)
theorem symMerge_spec {va : Value} {key : Co → Int} {Q : World → Prop} {b n cap : Nat} (hC : Cmp va key b Q) (hn : n ≤ 2 ^ 40) : ∀ (d : Nat) {w : World} {D : Nat → Co} {a m e : Nat} {R : Ending → World → Prop}, e - a ≤ d → a < m → m < e → e ≤ n →
  So w b n D → Q w → AscF key D a m → AscF key D m e →
  (∀ w' E, So w' b n E → Chg (· = b) w w' → Rear key D E a e → AscF key E a e → R (.returned (.tuple #[])) w') →
  Calls P F.slices_symMergeCmpFunc_api_Color #[.slice (some ⟨b, 0, none⟩) n cap, i64 a, i64 m, i64 e, va] w R := by
 intro d
 induction d with
 | zero => intro w D a m e R hd h1 h2; omega
 | succ d ih =>
 intro w D a m e R hd ham hme hen hS hQ hL hRt hR
 refine calls_slices_symMergeCmpFunc_api_Color _ _ _ _ _ _ _ _ _ ?_
 unfold vc_slices_symMergeCmpFunc_api_Color
 rw [w64 (x := (m : Int) - a) (by omega) (by omega)]
 refine brB_i (fun h1 => ?_) fun h1 => ?_
 ·-- one on the left
  have h1 : m = a + 1 := by simp at h1; omega
  refine ⟨fun vs u => ∃ i j : Nat, vs = [i64 i, i64 j] ∧ m ≤ i ∧ i ≤ j ∧ j ≤ e ∧ So u b n D ∧ Chg (· = b) w u ∧ (i = m ∨ key (D (i - 1)) < key (D a)) ∧ (j = e ∨ key (D a) ≤ key (D j)),
   fun vs _ => match vs with | [.int _ i, .int _ j] => (j - i).toNat | _ => 0, ⟨m, e, rfl, Nat.le_refl _, by omega, Nat.le_refl _, hS, Chg.refl _ _, .inl rfl, .inl rfl⟩, fun i' j' w1 hI => ?_⟩
  obtain ⟨i, j, hv, hi, hij, hj, hS1, hC1, hlt, hle⟩ := hI
  obtain ⟨rfl, rfl⟩ : i' = i ∧ j' = j := by simpa using hv
  refine brB_i (fun hij' => ?_) fun hij' => ?_
  ·have hij' : i < j := by simp at hij'; omega
   refine ⟨fun vs u => ∃ x y : Nat, vs = [i64 x, i64 y] ∧ m ≤ x ∧ x ≤ y ∧ y ≤ e ∧ So u b n D ∧ Chg (· = b) w u ∧ (x = m ∨ key (D (x - 1)) < key (D a)) ∧ (y = e ∨ key (D a) ≤ key (D y)) ∧ y - x < j - i, ?_, fun x' y' w3 hI => ?_⟩
   ·rw [mid64 (by omega) (by omega)]
    have eh : (((i : Int) + j) / 2).toNat = (i + j) / 2 := by omega
    have ea : (a : Int).toNat = a := by omega
    refine hS1.drew.ld (by omega) (by omega) fun e1 e2 e3 e4 => ⟨_, _, _, _, e1, e2, e3, e4, ?_⟩
    refine hS1.drew.ld (by omega) (by omega) fun e1 e2 e3 e4 => ⟨_, _, _, _, e1, e2, e3, e4, ?_⟩
    rw [eh, ea]
    refine hC.go _ (D ((i + j) / 2)) (D a) _ (hC.kp _ _ hQ (chg_dr hC1)) fun c w2 hE2 hc => ⟨c, rfl, ?_⟩
    have hS2 := hS1.drew.ext hE2
    have hC2 := chgb (chg_dr hC1) hE2.chg
    refine brB_i (fun hlt' => ?_) fun hge' => ?_
    ·have hlt' : key (D ((i + j) / 2)) < key (D a) := hc.1 (by simpa using hlt')
     rw [w64 (x := ((i : Int) + j) / 2 + 1) (by omega) (by omega)]
     exact ⟨(i + j) / 2 + 1, j, by simp, by omega, by omega, hj, hS2, hC2, .inr (by simpa using hlt'), hle, by omega⟩
    ·have hge' : key (D a) ≤ key (D ((i + j) / 2)) := by
      have : ¬ c < 0 := by simpa using hge'
      have := mt hc.2 this
      omega
     exact ⟨i, (i + j) / 2, by simp, hi, by omega, by omega, hS2, hC2, hlt, .inr hge', by omega⟩
   ·obtain ⟨x, y, hv, h2, h3, h4, h5, h6, h7, h8, h9⟩ := hI
    obtain ⟨rfl, rfl⟩ : x' = x ∧ y' = y := by simpa using hv
    exact ⟨⟨x, y, rfl, h2, h3, h4, h5, h6, h7, h8⟩, by show ((y : Int) - x).toNat < ((j : Int) - i).toNat; omega⟩
  ·have hij' : i = j := by simp at hij'; omega
   subst hij'
   rw [w64 (x := (i : Int) - 1) (by omega) (by omega)]
   refine ⟨fun vs u => ∃ k : Nat, vs = [i64 k] ∧ a ≤ k ∧ k ≤ i - 1 ∧ So u b n (rot D a (a + 1) (k + 1)) ∧ Chg (· = b) w u, fun vs _ => match vs with | [.int _ k] => (i - k).toNat | _ => 0,
    ⟨a, rfl, Nat.le_refl _, by omega, by rw [rot_none D (.inr rfl)]; exact hS1, hC1⟩, fun k' w4 hI => ?_⟩
   obtain ⟨k, hv, hk0, hk1, hS4, hC4⟩ := hI
   obtain rfl : k' = k := by simpa using hv
   refine brB_i (fun hlt' => ?_) fun hge' => ?_
   ·have hlt' : k < i - 1 := by simp at hlt'; omega
    rw [w64 (x := (k : Int) + 1) (by omega) (by omega)]
    have ek : ((k : Int) + 1).toNat = k + 1 := by omega
    have ek' : (k : Int).toNat = k := by omega
    refine hS4.drew.ld (by omega) (by omega) fun e1 e2 e3 e4 => ⟨_, _, _, _, e1, e2, e3, e4, ?_⟩
    refine hS4.drew.ld (by omega) (by omega) fun e1 e2 e3 e4 => ⟨_, _, _, _, e1, e2, e3, e4, ?_⟩
    rw [ek, ek']
    refine hS4.drew.st (by omega) (by omega) ?_
    rw [ek']
    have h2 := hS4.drew.put (i := k) (by omega) (rot D a (a + 1) (k + 1) (k + 1))
    refine h2.st (i := (k : Int) + 1) (by omega) (by omega) ?_
    rw [ek]
    obtain ⟨h3, h4⟩ := hS4.drew.two (i := k) (j := k + 1) (by omega) (by omega)
    rw [rot_up D hk0] at h3
    exact ⟨⟨k + 1, by simp, by omega, by omega, h3, chgb (chg_dr hC4) h4⟩, by show ((i : Int) - ((k : Int) + 1)).toNat < ((i : Int) - k).toNat; omega⟩
   ·have hge' : k = i - 1 := by simp at hge'; omega
    subst h1
    rw [show k + 1 = i by omega] at hS4
    have hcut : Cut key D a a (a + 1) i e := ⟨Nat.le_refl _, by omega, hi, hj, by rcases hlt with h | h; exact .inr (.inl h.symm); exact .inr (.inr h), .inl rfl⟩
    obtain ⟨q1, q2⟩ := hcut.all hL hRt (by rcases hle with h | h; exact .inr (.inl h); exact .inr (.inr (by simpa using h))) (.inl rfl)
    exact hR w4 _ hS4 hC4 q1 q2
 rw [w64 (x := (e : Int) - m) (by omega) (by omega)]
 refine brB_i (fun h2 => ?_) fun h2 => ?_
 ·-- one on the right
  have h2 : e = m + 1 := by simp at h2; omega
  refine ⟨fun vs u => ∃ i j : Nat, vs = [i64 i, i64 j] ∧ a ≤ i ∧ i ≤ j ∧ j ≤ m ∧ So u b n D ∧ Chg (· = b) w u ∧ (i = a ∨ key (D (i - 1)) ≤ key (D m)) ∧ (j = m ∨ key (D m) < key (D j)),
   fun vs _ => match vs with | [.int _ i, .int _ j] => (j - i).toNat | _ => 0, ⟨a, m, rfl, Nat.le_refl _, by omega, Nat.le_refl _, hS, Chg.refl _ _, .inl rfl, .inl rfl⟩, fun i' j' w1 hI => ?_⟩
  obtain ⟨i, j, hv, hi, hij, hj, hS1, hC1, hle, hlt⟩ := hI
  obtain ⟨rfl, rfl⟩ : i' = i ∧ j' = j := by simpa using hv
  refine brB_i (fun hij' => ?_) fun hij' => ?_
  ·have hij' : i < j := by simp at hij'; omega
   refine ⟨fun vs u => ∃ x y : Nat, vs = [i64 x, i64 y] ∧ a ≤ x ∧ x ≤ y ∧ y ≤ m ∧ So u b n D ∧ Chg (· = b) w u ∧ (x = a ∨ key (D (x - 1)) ≤ key (D m)) ∧ (y = m ∨ key (D m) < key (D y)) ∧ y - x < j - i, ?_, fun x' y' w3 hI => ?_⟩
   ·rw [mid64 (by omega) (by omega)]
    have eh : (((i : Int) + j) / 2).toNat = (i + j) / 2 := by omega
    have em : (m : Int).toNat = m := by omega
    refine hS1.drew.ld (by omega) (by omega) fun e1 e2 e3 e4 => ⟨_, _, _, _, e1, e2, e3, e4, ?_⟩
    refine hS1.drew.ld (by omega) (by omega) fun e1 e2 e3 e4 => ⟨_, _, _, _, e1, e2, e3, e4, ?_⟩
    rw [eh, em]
    refine hC.go _ (D m) (D ((i + j) / 2)) _ (hC.kp _ _ hQ (chg_dr hC1)) fun c w2 hE2 hc => ⟨c, rfl, ?_⟩
    have hS2 := hS1.drew.ext hE2
    have hC2 := chgb (chg_dr hC1) hE2.chg
    refine brB_i (fun hge' => ?_) fun hlt' => ?_
    ·have hge' : key (D ((i + j) / 2)) ≤ key (D m) := by
      have : ¬ c < 0 := by simpa using hge'
      have := mt hc.2 this
      omega
     rw [w64 (x := ((i : Int) + j) / 2 + 1) (by omega) (by omega)]
     exact ⟨(i + j) / 2 + 1, j, by simp, by omega, by omega, hj, hS2, hC2, .inr (by simpa using hge'), hlt, by omega⟩
    ·have hlt' : key (D m) < key (D ((i + j) / 2)) := hc.1 (by simpa using hlt')
     exact ⟨i, (i + j) / 2, by simp, hi, by omega, by omega, hS2, hC2, hle, .inr hlt', by omega⟩
   ·obtain ⟨x, y, hv, h3, h4, h5, h6, h7, h8, h9, h10⟩ := hI
    obtain ⟨rfl, rfl⟩ : x' = x ∧ y' = y := by simpa using hv
    exact ⟨⟨x, y, rfl, h3, h4, h5, h6, h7, h8, h9⟩, by show ((y : Int) - x).toNat < ((j : Int) - i).toNat; omega⟩
  ·have hij' : i = j := by simp at hij'; omega
   subst hij'
   refine ⟨fun vs u => ∃ k : Nat, vs = [i64 k] ∧ i ≤ k ∧ k ≤ m ∧ So u b n (rot D k m (m + 1)) ∧ Chg (· = b) w u, fun vs _ => match vs with | [.int _ k] => k.toNat | _ => 0,
    ⟨m, rfl, by omega, Nat.le_refl _, by rw [rot_none D (.inl rfl)]; exact hS1, hC1⟩, fun k' w8 hI => ?_⟩
   obtain ⟨k, hv, hk0, hk1, hS8, hC8⟩ := hI
   obtain rfl : k' = k := by simpa using hv
   refine brB_i (fun hgt' => ?_) fun hle' => ?_
   ·have hgt' : i < k := by simp at hgt'; omega
    obtain ⟨k, rfl⟩ : ∃ j, k = j + 1 := ⟨k - 1, by omega⟩
    rw [w64 (x := ((k + 1 : Nat) : Int) - 1) (by omega) (by omega)]
    have ek : (((k + 1 : Nat) : Int) - 1).toNat = k := by omega
    have ek' : ((k + 1 : Nat) : Int).toNat = k + 1 := by omega
    refine hS8.drew.ld (by omega) (by omega) fun e1 e2 e3 e4 => ⟨_, _, _, _, e1, e2, e3, e4, ?_⟩
    refine hS8.drew.ld (by omega) (by omega) fun e1 e2 e3 e4 => ⟨_, _, _, _, e1, e2, e3, e4, ?_⟩
    rw [ek, ek']
    refine hS8.drew.st (by omega) (by omega) ?_
    rw [ek']
    have h3 := hS8.drew.put (i := k + 1) (by omega) (rot D (k + 1) m (m + 1) k)
    refine h3.st (i := ((k + 1 : Nat) : Int) - 1) (by omega) (by omega) ?_
    rw [ek]
    obtain ⟨h4, h5⟩ := hS8.drew.two (i := k + 1) (j := k) (by omega) (by omega)
    rw [rot_down D hk1] at h4
    exact ⟨⟨k, by simp, by omega, by omega, h4, chgb (chg_dr hC8) h5⟩, by show (((k + 1 : Nat) : Int) - 1).toNat < ((k + 1 : Nat) : Int).toNat; omega⟩
   ·have hle' : k = i := by simp at hle'; omega
    subst hle'
    subst h2
    have hcut : Cut key D a k m (m + 1) (m + 1) := ⟨hi, hj, by omega, Nat.le_refl _, by rcases hlt with h | h; exact .inl h; exact .inr (.inr (by simpa using h)), .inr (.inl rfl)⟩
    obtain ⟨q1, q2⟩ := hcut.all hL hRt (.inr (.inl rfl)) (by rcases hle with h | h; exact .inl h; exact .inr (.inr h))
    exact hR w8 _ hS8 hC8 q1 q2
 have h1 : m - a ≠ 1 := by simp at h1; omega
 have h2 : e - m ≠ 1 := by simp at h2; omega
 have hM : ((a : Int) + e) / 2 = (((a + e) / 2 : Nat) : Int) := by omega
 rw [mid64 (x := (a : Int)) (y := e) (by omega) (by omega), hM]
 generalize hMd : (a + e) / 2 = M
 have M0 : a < M := by omega
 have M1 : M < e := by omega
 rw [w64 (x := (M : Int) + m) (by omega) (by omega), w64 (x := (M : Int) + m - e) (by omega) (by omega), w64 (x := (M : Int) + m - 1) (by omega) (by omega)]
 refine ⟨fun vs u => ∃ s0 r0 : Nat, vs = [i64 s0, i64 r0] ∧ u = w ∧ a ≤ s0 ∧ s0 ≤ r0 ∧ (s0 = a ∨ s0 + e = M + m) ∧ M + m ≤ s0 + e ∧ (r0 = m ∨ (r0 = M ∧ M ≤ m)) ∧ r0 ≤ M, ?_, fun s0' r0' w9 hI => ?_⟩
 ·refine brB_i (fun hgt => ?_) fun hle => ?_
  ·have hgt : M < m := by simp at hgt; omega
   exact ⟨M + m - e, M, by simp; omega, rfl, by omega, by omega, .inr (by omega), by omega, .inr ⟨rfl, by omega⟩, Nat.le_refl _⟩
  ·have hle : m ≤ M := by simp at hle; omega
   exact ⟨a, m, rfl, rfl, Nat.le_refl _, by omega, .inl rfl, by omega, .inl rfl, hle⟩
 obtain ⟨s0, r0, hv, rfl, hs1, hs2, hs3, hs4, hr1, hr2⟩ := hI
 obtain ⟨rfl, rfl⟩ : s0' = s0 ∧ r0' = r0 := by simpa using hv
 refine ⟨fun vs u => ∃ s r : Nat, vs = [i64 s, i64 r] ∧ s0 ≤ s ∧ s ≤ r ∧ r ≤ r0 ∧ So u b n D ∧ Chg (· = b) w9 u ∧ (s = s0 ∨ key (D (s - 1)) ≤ key (D (M + m - s))) ∧ (r = r0 ∨ key (D (M + m - 1 - r)) < key (D r)),
  fun vs _ => match vs with | [.int _ s, .int _ r] => (r - s).toNat | _ => 0, ⟨s0, r0, rfl, Nat.le_refl _, hs2, Nat.le_refl _, hS, Chg.refl _ _, .inl rfl, .inl rfl⟩, fun s' r' w10 hI => ?_⟩
 obtain ⟨s, r, hv, hs, hsr, hr, hS10, hC10, hle, hlt⟩ := hI
 obtain ⟨rfl, rfl⟩ : s' = s ∧ r' = r := by simpa using hv
 refine brB_i (fun hsr' => ?_) fun hsr' => ?_
 ·have hsr' : s < r := by simp at hsr'; omega
  refine ⟨fun vs u => ∃ x y : Nat, vs = [i64 x, i64 y] ∧ s0 ≤ x ∧ x ≤ y ∧ y ≤ r0 ∧ So u b n D ∧ Chg (· = b) w9 u ∧ (x = s0 ∨ key (D (x - 1)) ≤ key (D (M + m - x))) ∧ (y = r0 ∨ key (D (M + m - 1 - y)) < key (D y)) ∧ y - x < r - s, ?_, fun x' y' w12 hI => ?_⟩
  ·rw [mid64 (by omega) (by omega), w64 (x := (M : Int) + m - 1 - ((s : Int) + r) / 2) (by omega) (by omega)]
   have eh : (((s : Int) + r) / 2).toNat = (s + r) / 2 := by omega
   have em : ((M : Int) + m - 1 - ((s : Int) + r) / 2).toNat = M + m - 1 - (s + r) / 2 := by omega
   refine hS10.drew.ld (by omega) (by omega) fun e1 e2 e3 e4 => ⟨_, _, _, _, e1, e2, e3, e4, ?_⟩
   refine hS10.drew.ld (by omega) (by omega) fun e1 e2 e3 e4 => ⟨_, _, _, _, e1, e2, e3, e4, ?_⟩
   rw [eh, em]
   refine hC.go _ (D (M + m - 1 - (s + r) / 2)) (D ((s + r) / 2)) _ (hC.kp _ _ hQ (chg_dr hC10)) fun c w11 hE11 hc => ⟨c, rfl, ?_⟩
   have hS11 := hS10.drew.ext hE11
   have hC11 := chgb (chg_dr hC10) hE11.chg
   refine brB_i (fun hge' => ?_) fun hlt' => ?_
   ·have hge' : key (D ((s + r) / 2)) ≤ key (D (M + m - 1 - (s + r) / 2)) := by
     have : ¬ c < 0 := by simpa using hge'
     have := mt hc.2 this
     omega
    rw [w64 (x := ((s : Int) + r) / 2 + 1) (by omega) (by omega)]
    exact ⟨(s + r) / 2 + 1, r, by simp, by omega, by omega, hr, hS11, hC11, .inr (by rw [show M + m - ((s + r) / 2 + 1) = M + m - 1 - (s + r) / 2 by omega]; simpa using hge'), hlt, by omega⟩
   ·have hlt' : key (D (M + m - 1 - (s + r) / 2)) < key (D ((s + r) / 2)) := hc.1 (by simpa using hlt')
    exact ⟨s, (s + r) / 2, by simp, hs, by omega, by omega, hS11, hC11, hle, .inr hlt', by omega⟩
  ·obtain ⟨x, y, hv, h3, h4, h5, h6, h7, h8, h9, h10⟩ := hI
   obtain ⟨rfl, rfl⟩ : x' = x ∧ y' = y := by simpa using hv
   exact ⟨⟨x, y, rfl, h3, h4, h5, h6, h7, h8, h9⟩, by show ((y : Int) - x).toNat < ((r : Int) - s).toNat; omega⟩
 have hsr' : s = r := by simp at hsr'; omega
 subst hsr'
 rw [w64 (x := (M : Int) + m - s) (by omega) (by omega)]
 obtain ⟨e', he'⟩ : ∃ e', M + m - s = e' := ⟨_, rfl⟩
 have he2 : (M : Int) + m - s = (e' : Int) := by omega
 rw [he2]
 have hcut : Cut key D a s m e' e := by
  refine ⟨by omega, by omega, by omega, by omega, ?_, ?_⟩
  ·rcases hlt with h | h
   ·rcases hr1 with h' | h'
    ·exact .inl (by omega)
    ·exact .inr (.inl (by omega))
   ·exact .inr (.inr (by rw [show e' - 1 = M + m - 1 - s by omega]; exact h))
  ·rcases hle with h | h
   ·rcases hs3 with h' | h'
    ·exact .inl (by omega)
    ·exact .inr (.inl (by omega))
   ·exact .inr (.inr (by rw [← he']; exact h))
 have esm : s + (e' - m) = M := by have := hcut.me; omega
 obtain ⟨l1, l2, l3, l4⟩ := hcut.lo hL hRt
 rw [esm] at l2 l3
 have c1 := hcut.az; have c2 := hcut.sm; have c3 := hcut.me; have c4 := hcut.eb
 refine ⟨fun vs u => vs = [] ∧ So u b n (rot D s m e') ∧ Chg (· = b) w9 u, ?_, fun w14 hI => ?_⟩
 ·refine brB_i (fun hb => ?_) fun hb => ?_
  ·have hb : s < m ∧ m < e' := by simp at hb; omega
   exact rotate_spec hS10 hb.1 hb.2 (by omega) hn fun w' h3 h4 => ⟨rfl, rfl, h3, chgb hC10 h4⟩
  ·have hb : s = m ∨ m = e' := by simp at hb; omega
   refine ⟨rfl, ?_, hC10⟩
   rw [rot_none D (by omega)]; exact hS10
 obtain ⟨_, hS14, hC14⟩ := hI
 refine ⟨fun vs u => vs = [] ∧ ∃ E : Nat → Co, So u b n E ∧ Chg (· = b) w9 u ∧ Rear key (rot D s m e') E a M ∧ AscF key E a M, ?_, fun w16 hI => ?_⟩
 ·refine brB_i (fun hb => ?_) fun hb => ?_
  ·have hb : a < s ∧ s < M := by simp at hb; omega
   exact ih (by omega) hb.1 hb.2 (by omega) hS14 (hC.kp _ _ hQ hC14) l1 l2 fun w' E h3 h4 h5 h6 => ⟨rfl, rfl, E, h3, chgb hC14 h4, h5, h6⟩
  ·have hb : s = a ∨ s = M := by simp at hb; omega
   refine ⟨rfl, _, hS14, hC14, Rear.refl _ _ _ _, ?_⟩
   rcases hb with hb | hb
   ·rw [← hb]; exact l2
   ·rw [← hb]; exact l1
 obtain ⟨_, E, hS16, hC16, hRe, hA⟩ := hI
 have l3' : AscF key E M e' := l3.congr fun k hk _ => hRe.out k (by omega)
 have l4' : AscF key E e' e := l4.congr fun k hk _ => hRe.out k (by omega)
 refine brB_i (fun hb => ?_) fun hb => ?_
 ·have hb : M < e' ∧ e' < e := by simp at hb; omega
  refine ih (by omega) hb.1 hb.2 hen hS16 (hC.kp _ _ hQ hC16) l3' l4' fun w' G h3 h4 h5 h6 => ⟨rfl, ?_⟩
  have q := hcut.merge (E := E) (F := G) hL hRt (by rw [esm]; exact hRe) (by rw [esm]; exact hA) (by rw [esm]; exact h5) (by rw [esm]; exact h6)
  exact hR w' G h3 (chgb hC16 h4) q.1 q.2
 ·have hb : e' = M ∨ e' = e := by simp at hb; omega
  have hA2 : AscF key E M e := by
   rcases hb with hb | hb
   ·rw [← hb]; exact l4'
   ·rw [← hb]; exact l3'
  have q := hcut.merge (E := E) (F := E) hL hRt (by rw [esm]; exact hRe) (by rw [esm]; exact hA) (by rw [esm]; exact Rear.refl _ _ _ _) (by rw [esm]; exact hA2)
  exact hR w16 E hS16 hC16 q.1 q.2
end Go.Proofs.Ytiiaihiliimcoaa
namespace Go.Proofs.Ytiiaihiliimcoaa
open Go Go.Vc Go.RowKit Go.Qn
set_option maxRecDepth 100000
theorem dvd_gap {d s a : Nat} (h1 : d ∣ s) (h2 : d ∣ a) (h : s < a) : s + d ≤ a := by
 have := Nat.le_of_dvd (by omega) (Nat.dvd_sub h2 h1)
 omega
def Bk (key : Co → Int) (E : Nat → Co) (z n : Nat) : Prop := ∀ s, z ∣ s → AscF key E s (min (s + z) n)
theorem stable_spec {va : Value} {key : Co → Int} {Q : World → Prop} {w : World} {b n cap : Nat} {D : Nat → Co} {R : Ending → World → Prop} (h : So w b n D) (hQ : Q w) (hC : Cmp va key b Q) (hn : n ≤ 2 ^ 40)
  (hR : ∀ w' E, So w' b n E → Chg (· = b) w w' → Rear key D E 0 n → AscF key E 0 n → R (.returned (.tuple #[])) w') :
  Calls P F.slices_stableCmpFunc_api_Color #[.slice (some ⟨b, 0, none⟩) n cap, i64 n, va] w R := by
 refine calls_slices_stableCmpFunc_api_Color _ _ _ _ _ _ _ ?_
 unfold vc_slices_stableCmpFunc_api_Color
 refine ⟨fun vs u => ∃ (a : Nat) (E : Nat → Co), vs = [i64 a, i64 (a + 20 : Nat)] ∧ a ≤ n ∧ 20 ∣ a ∧ So u b n E ∧ Chg (· = b) w u ∧ Rear key D E 0 n ∧ (∀ s, 20 ∣ s → s < a → AscF key E s (s + 20)),
  fun vs _ => match vs with | [.int _ a, _] => (n - a).toNat | _ => 0, ⟨0, D, rfl, Nat.zero_le _, Nat.dvd_zero _, h, Chg.refl _ _, Rear.refl _ _ _ _, fun s _ hs => by omega⟩, fun a' b' w1 hI => ?_⟩
 obtain ⟨a, E, hv, ha, hd, hS, hCh, hRe, hA⟩ := hI
 obtain ⟨rfl, rfl⟩ : a' = a ∧ b' = (a + 20 : Nat) := by simpa using hv
 refine brB_i (fun hle => ?_) fun hgt => ?_
 ·have hle : a + 20 ≤ n := by simp at hle; omega
  refine insort_spec hS (hC.kp _ _ hQ hCh) hC (by omega) hle hn fun w' G h1 h2 h3 h4 => ⟨rfl, ⟨a + 20, G, ?_, hle, by omega, h1, chgb hCh h2, hRe.trans (h3.wide (Nat.zero_le _) hle (by omega)), fun s hs hlt => ?_⟩, ?_⟩
  ·rw [w64 (x := ((a + 20 : Nat) : Int) + 20) (by omega) (by omega)]; simp
  ·rcases Nat.lt_or_ge s a with hsa | hsa
   ·have := dvd_gap hs hd hsa
    exact (hA s hs hsa).congr fun k _ hk => h3.out k (by omega)
   ·rw [show s = a by omega]; exact h4
  ·show ((n : Int) - ((a + 20 : Nat) : Int)).toNat < ((n : Int) - a).toNat; omega
 have hgt : n < a + 20 := by simp at hgt; omega
 refine insort_spec hS (hC.kp _ _ hQ hCh) hC ha (Nat.le_refl _) hn fun w3 G h1 h2 h3 h4 => ⟨rfl, ?_⟩
 have hB : Bk key G 20 n := by
  intro s hs
  rcases Nat.lt_or_ge s a with hsa | hsa
  ·have := dvd_gap hs hd hsa
   rw [show min (s + 20) n = s + 20 by omega]
   exact (hA s hs hsa).congr fun k _ hk => h3.out k (by omega)
  ·exact h4.sub hsa (by omega)
 refine ⟨fun vs u => ∃ (z : Nat) (E : Nat → Co), vs = [i64 z] ∧ 0 < z ∧ z ≤ 2 * n + 20 ∧ So u b n E ∧ Chg (· = b) w u ∧ Rear key D E 0 n ∧ Bk key E z n, fun vs _ => match vs with | [.int _ z] => (n - z).toNat | _ => 0,
  ⟨20, G, rfl, by omega, by omega, h1, chgb hCh h2, hRe.trans (h3.wide (Nat.zero_le _) (Nat.le_refl _) ha), hB⟩, fun z' w4 hI => ?_⟩
 clear hB h1 h2 h3 h4 hS hCh hRe hA
 obtain ⟨z, E, hv, hz0, hz1, hS, hCh, hRe, hB⟩ := hI
 obtain rfl : z' = z := by simpa using hv
 refine brB_i (fun hlt => ?_) fun hge => ?_
 ·have hlt : z < n := by simp at hlt; omega
  rw [w64 (x := 2 * (z : Int)) (by omega) (by omega), w64 (x := (z : Int) * 2) (by omega) (by omega)]
  refine ⟨fun vs u => vs = [i64 (2 * z : Nat)] ∧ ∃ E : Nat → Co, So u b n E ∧ Chg (· = b) w u ∧ Rear key D E 0 n ∧ Bk key E (2 * z) n, ?_, fun z2 w8 hI => ?_⟩
  ·refine ⟨fun vs u => ∃ (a : Nat) (E : Nat → Co), vs = [i64 a, i64 (a + 2 * z : Nat)] ∧ a ≤ n ∧ 2 * z ∣ a ∧ So u b n E ∧ Chg (· = b) w u ∧ Rear key D E 0 n ∧ (∀ s, 2 * z ∣ s → s < a → AscF key E s (s + 2 * z)) ∧ (∀ s, z ∣ s → a ≤ s → AscF key E s (min (s + z) n)),
    fun vs _ => match vs with | [.int _ a, _] => (n - a).toNat | _ => 0, ⟨0, E, by simp, Nat.zero_le _, Nat.dvd_zero _, hS, hCh, hRe, fun s _ hs => by omega, fun s hs _ => hB s hs⟩, fun a' b' w5 hI => ?_⟩
   obtain ⟨a, E5, hv, ha, hd, hS5, hCh5, hRe5, hA5, hB5⟩ := hI
   obtain ⟨rfl, rfl⟩ : a' = a ∧ b' = (a + 2 * z : Nat) := by simpa using hv
   have hza : z ∣ a := Nat.dvd_trans (Nat.dvd_mul_left z 2) hd
   have hza2 : z ∣ a + z := Nat.dvd_add hza (Nat.dvd_refl z)
   rw [w64 (x := (a : Int) + z) (by omega) (by omega)]
   have eaz : (a : Int) + z = ((a + z : Nat) : Int) := by omega
   have L := hB5 a hza (Nat.le_refl _)
   have Rr := hB5 (a + z) hza2 (by omega)
   refine brB_i (fun hle => ?_) fun hgt => ?_
   ·have hle : a + 2 * z ≤ n := by simp at hle; omega
    rw [show min (a + z) n = a + z by omega] at L
    rw [show min (a + z + z) n = a + 2 * z by omega] at Rr
    rw [eaz]
    refine symMerge_spec hC hn _ (Nat.le_refl _) (by omega) (by omega) hle hS5 (hC.kp _ _ hQ hCh5) L Rr fun w' G h1 h2 h3 h4 => ⟨rfl, ⟨a + 2 * z, G, ?_, hle, Nat.dvd_add hd (Nat.dvd_refl _), h1, chgb hCh5 h2, hRe5.trans (h3.wide (Nat.zero_le _) hle (by omega)), fun s hs hlt => ?_, fun s hs hge => ?_⟩, ?_⟩
    ·rw [w64 (x := ((a + 2 * z : Nat) : Int) + 2 * (z : Int)) (by omega) (by omega)]; simp
    ·rcases Nat.lt_or_ge s a with hsa | hsa
     ·have := dvd_gap hs hd hsa
      exact (hA5 s hs hsa).congr fun k _ hk => h3.out k (by omega)
     ·have : s = a := by
       rcases Nat.eq_or_lt_of_le hsa with h | h
       ·exact h.symm
       ·have := dvd_gap hd hs h; omega
      rw [this]; exact h4
    ·exact (hB5 s hs (by omega)).congr fun k hk _ => h3.out k (by omega)
    ·show ((n : Int) - ((a + 2 * z : Nat) : Int)).toNat < ((n : Int) - a).toNat; omega
   ·have hgt : n < a + 2 * z := by simp at hgt; omega
    have ez : (z : Int) * 2 = ((2 * z : Nat) : Int) := by omega
    refine brB_i (fun hlt' => ?_) fun hge' => ?_
    ·have hlt' : a + z < n := by simp at hlt'; omega
     rw [show min (a + z) n = a + z by omega] at L
     rw [show min (a + z + z) n = n by omega] at Rr
     rw [eaz]
     refine symMerge_spec hC hn _ (Nat.le_refl _) (by omega) (by omega) (Nat.le_refl _) hS5 (hC.kp _ _ hQ hCh5) L Rr fun w' G h1 h2 h3 h4 => ⟨rfl, by rw [ez], G, h1, chgb hCh5 h2, hRe5.trans (h3.wide (Nat.zero_le _) (Nat.le_refl _) (by omega)), fun s hs => ?_⟩
     rcases Nat.lt_or_ge s a with hsa | hsa
     ·have := dvd_gap hs hd hsa
      rw [show min (s + 2 * z) n = s + 2 * z by omega]
      exact (hA5 s hs hsa).congr fun k _ hk => h3.out k (by omega)
     ·exact h4.sub hsa (by omega)
    ·have hge' : n ≤ a + z := by simp at hge'; omega
     refine ⟨by rw [ez], E5, hS5, hCh5, hRe5, fun s hs => ?_⟩
     rcases Nat.lt_or_ge s a with hsa | hsa
     ·have := dvd_gap hs hd hsa
      rw [show min (s + 2 * z) n = s + 2 * z by omega]
      exact hA5 s hs hsa
     ·rw [show min (a + z) n = n by omega] at L
      exact L.sub hsa (by omega)
  ·obtain ⟨hv, E8, h1, h2, h3, h4⟩ := hI
   obtain rfl : z2 = (2 * z : Nat) := by simpa using hv
   exact ⟨⟨2 * z, E8, rfl, by omega, by omega, h1, h2, h3, h4⟩, by show ((n : Int) - ((2 * z : Nat) : Int)).toNat < ((n : Int) - z).toNat; omega⟩
 ·have hge : n ≤ z := by simp at hge; omega
  have := hB 0 (Nat.dvd_zero _)
  rw [show min (0 + z) n = n by omega] at this
  exact hR w4 E hS hCh hRe this
def SoL (u : World) (b : Nat) (l : List Co) : Prop := ∃ rest, Cs u b (cos l ++ rest)
theorem seg_getD (l : List Co) : seg (fun i => l.getD i zeroC) 0 l.length = l := by
 refine List.ext_getElem (by simp [seg_len]) fun i h1 h2 => ?_
 simp [seg, List.getD, h2]
theorem SoL.so {u : World} {b : Nat} {l : List Co} (h : SoL u b l) : So u b l.length fun i => l.getD i zeroC := by
 obtain ⟨r, h⟩ := h; exact ⟨r, by rw [seg_getD]; exact h⟩
theorem Sort_spec {va : Value} {key : Co → Int} {Q : World → Prop} {w : World} {b cap : Nat} {l : List Co} {R : Ending → World → Prop} (h : SoL w b l) (hQ : Q w) (hC : Cmp va key b Q) (hn : l.length ≤ 2 ^ 40)
  (hR : ∀ w', SoL w' b (stab key l) → Chg (· = b) w w' → R (.returned (.tuple #[])) w') :
  Calls P F.slices_SortStableFunc_api_Color #[.slice (some ⟨b, 0, none⟩) l.length cap, va] w R := by
 refine calls_slices_SortStableFunc_api_Color _ _ _ _ _ _ ?_
 unfold vc_slices_SortStableFunc_api_Color
 refine stable_spec h.so hQ hC hn fun w' E h1 h2 h3 h4 => ⟨rfl, hR w' ?_ h2⟩
 obtain ⟨r, h1⟩ := h1
 have := stab_uniq (key := key) (l := l) (m := seg E 0 l.length) (by have := h3.same; rwa [seg_getD] at this) h4.asc
 exact ⟨r, by rw [← this]; exact h1⟩
end Go.Proofs.Ytiiaihiliimcoaa
namespace Go.Proofs.Ytiiaihiliimcoaa
open Go Go.Vc Go.RowKit Go.Qn
set_option maxRecDepth 100000
def ax (k : Nat) (c : Co) : Int := IntKind.i64.wrap ([c.1, c.2.1, c.2.2.1].getD k 0)
theorem axis_spec {w : World} {c : Co} {k : Nat} {R : Ending → World → Prop} (hk : k < 3) (hR : ∀ w', Ext w w' → R (.returned (i64 (ax k c))) w') : Calls P F.quant_axis #[.agg (co c).toArray, i64 k] w R := by
 refine calls_quant_axis _ _ _ _ _ _ _ ?_
 intro k1 hk1
 refine ⟨by omega, by omega, ax k c, ?_, fun w1 hL => hR w1 (hL.ext (by simpa using hk1))⟩
 rcases k with _ | _ | _ | k
 ·rfl
 ·rfl
 ·rfl
 ·omega
theorem isNaN_spec {w : World} {x : Int} {R : Ending → World → Prop} (hR : R (.returned (.bool false)) w) : Calls P F.cmp_isNaN_int #[i64 x] w R := by
 refine calls_cmp_isNaN_int _ _ _ ?_
 unfold vc_cmp_isNaN_int
 simpa using hR
theorem Compare_spec {w : World} {x y : Int} {R : Ending → World → Prop} (hR : ∀ n : Int, (n < 0 ↔ x < y) → (0 < n ↔ y < x) → R (.returned (i64 n)) w) : Calls P F.cmp_Compare_int #[i64 x, i64 y] w R := by
 refine calls_cmp_Compare_int _ _ _ _ ?_
 unfold vc_cmp_Compare_int
 refine isNaN_spec ⟨_, rfl, isNaN_spec ⟨_, rfl, brB_f rfl (brB_f rfl (brB_i (fun h => ?_) fun h => brB_i (fun h' => ?_) fun h' => ?_))⟩⟩
 ·have h : x < y := by simpa using h
  exact hR (-1) (by omega) (by omega)
 ·have h : ¬ x < y := by simpa using h
  have h' : y < x := by simpa using h'
  exact hR 1 (by omega) (by omega)
 ·have h : ¬ x < y := by simpa using h
  have h' : ¬ y < x := by simpa using h'
  exact hR 0 (by omega) (by omega)
structure Cmp2 (va : Value) (key : Co → Int) (b : Nat) (Q : World → Prop) : Prop where
 go : ∀ (u : World) (x y : Co) (R : Ending → World → Prop), Q u → (∀ (n : Int) w', Ext u w' → (n < 0 ↔ key x < key y) → (0 < n ↔ key y < key x) → R (.returned (i64 n)) w') → callV P va [.agg (co x).toArray, .agg (co y).toArray] u R
 kp : ∀ u u', Q u → Chg (· = b) u u' → Q u'
theorem Cmp2.cmp {va : Value} {key : Co → Int} {b : Nat} {Q : World → Prop} (h : Cmp2 va key b Q) : Cmp va key b Q := ⟨fun u x y R hQ hR => h.go u x y R hQ fun n w' hE h1 _ => hR n w' hE h1, h.kp⟩
theorem fn2_cmp {kk k b : Nat} (hk : k < 3) (hb : kk ≠ b) : Cmp2 (.func (.func F.quant_Palette_fn2) #[] #[.pointer (some ⟨kk, 0, none⟩)]) (ax k) b fun u => Cs u kk [i64 k] := by
 refine ⟨fun u x y R hQ hR => callW_i (by kernel_rfl) ?_, fun u u' hQ hC => hQ.chg hC hb⟩
 refine calls_quant_Palette_fn2 _ _ _ _ _ _ _ _ _ _ _ ?_
 intro k1 hk1 k2 hk2 w1 hL1
 have hE1 : Ext u w1 := hL1.ext (by simp; omega)
 have h1 := (hQ.ext hE1).cell (i := 0) rfl
 refine ⟨_, h1, _, h1, ?_⟩
 refine axis_spec (c := x) hk fun w2 hE2 => ⟨_, rfl, hE2.keep _, hE2.keeps, axis_spec (c := y) hk fun w3 hE3 => ⟨_, rfl, hE3.keep _, Compare_spec fun n h1 h2 => ⟨n, rfl, (Ext.refl _).keep _, hR n w3 ((hE1.trans hE2).trans hE3) h1 h2⟩⟩⟩
theorem lfn_cmp {kk k b : Nat} (hk : k < 3) (hb : kk ≠ b) : Cmp2 (.func (.func F.quant_longest_fn1) #[] #[.pointer (some ⟨kk, 0, none⟩)]) (ax k) b fun u => Cs u kk [i64 k] := by
 refine ⟨fun u x y R hQ hR => callW_i (by kernel_rfl) ?_, fun u u' hQ hC => hQ.chg hC hb⟩
 refine calls_quant_longest_fn1 _ _ _ _ _ _ _ _ _ _ _ ?_
 intro k1 hk1 k2 hk2 w1 hL1
 have hE1 : Ext u w1 := hL1.ext (by simp; omega)
 have h1 := (hQ.ext hE1).cell (i := 0) rfl
 refine ⟨_, h1, _, h1, ?_⟩
 refine axis_spec (c := x) hk fun w2 hE2 => ⟨_, rfl, hE2.keep _, hE2.keeps, axis_spec (c := y) hk fun w3 hE3 => ⟨_, rfl, hE3.keep _, Compare_spec fun n h1 h2 => ⟨n, rfl, (Ext.refl _).keep _, hR n w3 ((hE1.trans hE2).trans hE3) h1 h2⟩⟩⟩
def hiN (k : Nat) (l : List Co) : Nat → Int
 | 0 => ax k (l.getD 0 zeroC)
 | n + 1 => max (hiN k l n) (ax k (l.getD (n + 1) zeroC))
def loN (k : Nat) (l : List Co) : Nat → Int
 | 0 => ax k (l.getD 0 zeroC)
 | n + 1 => min (loN k l n) (ax k (l.getD (n + 1) zeroC))
theorem Max_spec {N : Nat} {w : World} {p : Option Addr} {len cap k b : Nat} {l : List Co} {va : Value} {Q : World → Prop} {R : Ending → World → Prop} (h : Sl N w p (cos l)) (hl : l.length = len) (h0 : 0 < len) (h62 : len ≤ 2 ^ 40)
  (hQ : Q w) (hC : Cmp2 va (ax k) b Q) (hR : ∀ c w', Ext w w' → ax k c = hiN k l (len - 1) → R (.returned (.agg (co c).toArray)) w') :
  Calls P F.slices_MaxFunc_api_Color #[.slice p len cap, va] w R := by
 refine calls_slices_MaxFunc_api_Color _ _ _ _ _ _ ?_
 intro k1 hk1
 refine brB_f (by simp; omega) ?_
 refine cos_elem h hl (by omega) (by omega) fun a e1 e2 e3 e4 w2 hL2 => ?_
 have hE2 : Ext w w2 := hL2.ext (by simpa using hk1)
 refine ⟨_, _, _, _, hE2.cell e1, hE2.cell e2, hE2.cell e3, hE2.cell e4, fun k2 hk2 => ?_⟩
 refine ⟨fun vs u => ∃ (i : Nat) (c : Co), vs = i64 (i + 1 : Nat) :: co c ∧ i < len ∧ Ext w u ∧ ax k c = hiN k l i, fun vs _ => match vs with | .int _ n :: _ => (len - n).toNat | _ => 0,
  fun w3 hL => ⟨0, l.getD 0 zeroC, rfl, h0, hE2.step hL.chg (by simp; have := hE2.size; omega), rfl⟩, fun n5 n6 n7 n8 n9 w4 hI => ?_⟩
 obtain ⟨i, c, hv, hi, hE4, hc⟩ := hI
 obtain ⟨rfl, rfl⟩ : n5 = (i + 1 : Nat) ∧ c = (n6, n7, n8, n9) := by
  simp only [co, List.cons.injEq, Value.int.injEq, true_and, and_true] at hv
  obtain ⟨h1, h2, h3, h4, h5⟩ := hv
  exact ⟨h1, by rw [h2, h3, h4, h5]⟩
 have hkk : ∀ b, b ∈ [k2, k1] → w.heap.size ≤ b := by simp; have := hE2.size; omega
 refine brB_i (fun hlt => ?_) fun hge => ?_
 ·have hlt : i + 1 < len := by simp at hlt; omega
  refine ⟨fun vs u => ∃ c : Co, vs = co c ∧ Ext w u ∧ ax k c = hiN k l (i + 1), ?_, fun m1 m2 m3 m4 w7 hI => ?_⟩
  ·have ei : ((i + 1 : Nat) : Int).toNat = i + 1 := by omega
   refine cos_elem (h.ext hE4).drew hl (by omega) (by omega) fun a e1 e2 e3 e4 => ⟨_, _, _, _, e1, e2, e3, e4, ?_⟩
   rw [ei]
   refine hC.go _ (l.getD (i + 1) zeroC) (n6, n7, n8, n9) _ (hC.kp _ _ hQ hE4.drew.chg) fun n w5 hE5 hn1 hn2 => ⟨n, rfl, hE5.keep _, ?_⟩
   have hE5' := hE4.drew.trans hE5
   refine brB_i (fun hgt => ?_) fun hle => ?_
   ·have hgt := hn2.1 (by simpa using hgt)
    refine cos_elem (h.ext hE5') hl (by omega) (by omega) fun a e1 e2 e3 e4 => ⟨_, _, _, _, e1, e2, e3, e4, fun w6 hL6 => ⟨l.getD (i + 1) zeroC, by rw [ei]; rfl, hE5'.step hL6.chg hkk, ?_⟩⟩
    rw [hiN]; omega
   ·have hle : ¬ (0 < n) := by simpa using hle
    have := mt hn2.2 hle
    exact ⟨(n6, n7, n8, n9), rfl, hE5', by rw [hiN]; omega⟩
  ·obtain ⟨c', hv, hE7, hc'⟩ := hI
   obtain rfl : c' = (m1, m2, m3, m4) := by
    simp only [co, List.cons.injEq, Value.int.injEq, true_and, and_true] at hv
    obtain ⟨h1, h2, h3, h4⟩ := hv
    rw [h1, h2, h3, h4]
   rw [w64 (x := ((i + 1 : Nat) : Int) + 1) (by omega) (by omega)]
   exact ⟨⟨i + 1, _, by simp [co], hlt, hE7, hc'⟩, by show ((len : Int) - (((i + 1 : Nat) : Int) + 1)).toNat < ((len : Int) - ((i + 1 : Nat) : Int)).toNat; omega⟩
 ·have hge : len = i + 1 := by simp at hge; omega
  exact fun w8 hL8 => hR (n6, n7, n8, n9) w8 (hE4.step hL8.chg hkk) (by rw [hc, hge]; rfl)
theorem Min_spec {N : Nat} {w : World} {p : Option Addr} {len cap k b : Nat} {l : List Co} {va : Value} {Q : World → Prop} {R : Ending → World → Prop} (h : Sl N w p (cos l)) (hl : l.length = len) (h0 : 0 < len) (h62 : len ≤ 2 ^ 40)
  (hQ : Q w) (hC : Cmp2 va (ax k) b Q) (hR : ∀ c w', Ext w w' → ax k c = loN k l (len - 1) → R (.returned (.agg (co c).toArray)) w') :
  Calls P F.slices_MinFunc_api_Color #[.slice p len cap, va] w R := by
 refine calls_slices_MinFunc_api_Color _ _ _ _ _ _ ?_
 intro k1 hk1
 refine brB_f (by simp; omega) ?_
 refine cos_elem h hl (by omega) (by omega) fun a e1 e2 e3 e4 w2 hL2 => ?_
 have hE2 : Ext w w2 := hL2.ext (by simpa using hk1)
 refine ⟨_, _, _, _, hE2.cell e1, hE2.cell e2, hE2.cell e3, hE2.cell e4, fun k2 hk2 => ?_⟩
 refine ⟨fun vs u => ∃ (i : Nat) (c : Co), vs = i64 (i + 1 : Nat) :: co c ∧ i < len ∧ Ext w u ∧ ax k c = loN k l i, fun vs _ => match vs with | .int _ n :: _ => (len - n).toNat | _ => 0,
  fun w3 hL => ⟨0, l.getD 0 zeroC, rfl, h0, hE2.step hL.chg (by simp; have := hE2.size; omega), rfl⟩, fun n5 n6 n7 n8 n9 w4 hI => ?_⟩
 obtain ⟨i, c, hv, hi, hE4, hc⟩ := hI
 obtain ⟨rfl, rfl⟩ : n5 = (i + 1 : Nat) ∧ c = (n6, n7, n8, n9) := by
  simp only [co, List.cons.injEq, Value.int.injEq, true_and, and_true] at hv
  obtain ⟨h1, h2, h3, h4, h5⟩ := hv
  exact ⟨h1, by rw [h2, h3, h4, h5]⟩
 have hkk : ∀ b, b ∈ [k2, k1] → w.heap.size ≤ b := by simp; have := hE2.size; omega
 refine brB_i (fun hlt => ?_) fun hge => ?_
 ·have hlt : i + 1 < len := by simp at hlt; omega
  refine ⟨fun vs u => ∃ c : Co, vs = co c ∧ Ext w u ∧ ax k c = loN k l (i + 1), ?_, fun m1 m2 m3 m4 w7 hI => ?_⟩
  ·have ei : ((i + 1 : Nat) : Int).toNat = i + 1 := by omega
   refine cos_elem (h.ext hE4).drew hl (by omega) (by omega) fun a e1 e2 e3 e4 => ⟨_, _, _, _, e1, e2, e3, e4, ?_⟩
   rw [ei]
   refine hC.go _ (l.getD (i + 1) zeroC) (n6, n7, n8, n9) _ (hC.kp _ _ hQ hE4.drew.chg) fun n w5 hE5 hn1 hn2 => ⟨n, rfl, hE5.keep _, ?_⟩
   have hE5' := hE4.drew.trans hE5
   refine brB_i (fun hgt => ?_) fun hle => ?_
   ·have hgt := hn1.1 (by simpa using hgt)
    refine cos_elem (h.ext hE5') hl (by omega) (by omega) fun a e1 e2 e3 e4 => ⟨_, _, _, _, e1, e2, e3, e4, fun w6 hL6 => ⟨l.getD (i + 1) zeroC, by rw [ei]; rfl, hE5'.step hL6.chg hkk, ?_⟩⟩
    rw [loN]; omega
   ·have hle : ¬ (n < 0) := by simpa using hle
    have := mt hn1.2 hle
    exact ⟨(n6, n7, n8, n9), rfl, hE5', by rw [loN]; omega⟩
  ·obtain ⟨c', hv, hE7, hc'⟩ := hI
   obtain rfl : c' = (m1, m2, m3, m4) := by
    simp only [co, List.cons.injEq, Value.int.injEq, true_and, and_true] at hv
    obtain ⟨h1, h2, h3, h4⟩ := hv
    rw [h1, h2, h3, h4]
   rw [w64 (x := ((i + 1 : Nat) : Int) + 1) (by omega) (by omega)]
   exact ⟨⟨i + 1, _, by simp [co], hlt, hE7, hc'⟩, by show ((len : Int) - (((i + 1 : Nat) : Int) + 1)).toNat < ((len : Int) - ((i + 1 : Nat) : Int)).toNat; omega⟩
 ·have hge : len = i + 1 := by simp at hge; omega
  exact fun w8 hL8 => hR (n6, n7, n8, n9) w8 (hE4.step hL8.chg hkk) (by rw [hc, hge]; rfl)
def spr (l : List Co) (k : Nat) : Int := IntKind.i64.wrap (hiN k l (l.length - 1) - loN k l (l.length - 1))
def lgs (l : List Co) : Nat → Int × Nat
 | 0 => (-1, 0)
 | k + 1 => if spr l k > (lgs l k).1 then (spr l k, k) else lgs l k
def lgV (l : List Co) : Nat := (lgs l 3).2
theorem lgs_lt (l : List Co) : ∀ k, (lgs l k).2 < max 1 k
 | 0 => by simp [lgs]
 | k + 1 => by
  have := lgs_lt l k
  unfold lgs
  split
  ·show k < _; omega
  ·omega
theorem lgV_lt (l : List Co) : lgV l < 3 := by have := lgs_lt l 3; unfold lgV; omega
theorem longest_spec {N : Nat} {w : World} {p : Option Addr} {len cap : Nat} {l : List Co} {R : Ending → World → Prop} (h : Sl N w p (cos l)) (hl : l.length = len) (h0 : 0 < len) (h62 : len ≤ 2 ^ 40)
  (hR : ∀ w', Ext w w' → R (.returned (i64 (lgV l))) w') : Calls P F.quant_longest #[.slice p len cap] w R := by
 refine calls_quant_longest _ _ _ _ _ ?_
 unfold vc_quant_longest
 refine ⟨fun vs u => ∃ k : Nat, vs = [i64 (lgs l k).1, i64 (lgs l k).2, i64 k] ∧ k ≤ 3 ∧ Ext w u, fun vs _ => match vs with | [_, _, .int _ k] => (3 - k).toNat | _ => 0, ⟨0, rfl, by omega, Ext.refl _⟩, fun n1 n2 n3 w1 hI => ?_⟩
 obtain ⟨k, hv, hk, hE⟩ := hI
 obtain ⟨rfl, rfl, rfl⟩ : n1 = (lgs l k).1 ∧ n2 = (lgs l k).2 ∧ n3 = k := by simpa using hv
 refine brB_i (fun hlt => ?_) fun hge => ?_
 ·have hlt : k < 3 := by simp at hlt; omega
  refine ⟨fun vs u => vs = [i64 (lgs l (k + 1)).1, i64 (lgs l (k + 1)).2] ∧ Ext w u, fun k1 w2 hn => ?_, fun n17 n18 w7 hI => ?_⟩
  ·have hc0 := hn.cs
   have hset := hc0.set1 (off := 0) (v := i64 k) (by simp)
   have hcell := hset.drew.cell (i := 0) rfl
   have hE2 : Ext w1 (setCells w2 ⟨k1, 0, none⟩ [i64 k] 0) := hn.ext.step (Chg.setCells w2 ⟨k1, 0, none⟩ [i64 k] 0) fun i hi => by
    have : i = k1 := hi
    rw [this, hn.1]; exact Nat.le_refl _
   have hEa := (hE.trans hE2).drew
   have hlc := lfn_cmp (k := k) (kk := k1) (b := k1 + 1) hlt (by omega)
   refine ⟨⟨_, hc0.cell (i := 0) rfl⟩, hc0.frozen 0, _, hcell, _, hcell, ?_⟩
   refine Max_spec (k := k) (h.ext hEa) hl h0 h62 (hset.drew) hlc fun c w3 hE3 hc => ⟨_, _, _, _, rfl, hE3.keeps, ?_⟩
   refine axis_spec (c := c) hlt fun w4 hE4 => ⟨_, rfl, hE4.keeps, ?_⟩
   have hEb := (hEa.trans hE3).trans hE4
   have hs4 := ((hset.drew).ext hE3).ext hE4
   refine Min_spec (k := k) (h.ext hEb) hl h0 h62 hs4 hlc fun d w5 hE5 hd => ⟨_, _, _, _, rfl, hE5.keeps, ?_⟩
   refine axis_spec (c := d) hlt fun w6 hE6 => ⟨_, rfl, ?_⟩
   have hEc := (hEb.trans hE5).trans hE6
   have hs6 := (hs4.ext hE5).ext hE6
   have hsp : IntKind.i64.wrap (ax k c - ax k d) = spr l k := by unfold spr; rw [hc, hd, hl]
   rw [hsp]
   refine brB_i (fun hgt => ?_) fun hle => ?_
   ·have hgt : spr l k > (lgs l k).1 := by simpa using hgt
    refine ⟨_, hs6.drew.cell (i := 0) rfl, ?_, hEc.drew⟩
    rw [lgs, if_pos hgt]
   ·have hle : ¬ spr l k > (lgs l k).1 := by simpa using hle
    refine ⟨?_, hEc⟩
    rw [lgs, if_neg hle]
  ·obtain ⟨hv, hE7⟩ := hI
   obtain ⟨rfl, rfl⟩ : n17 = (lgs l (k + 1)).1 ∧ n18 = (lgs l (k + 1)).2 := by simpa using hv
   rw [w64 (x := (k : Int) + 1) (by omega) (by omega)]
   exact ⟨⟨k + 1, by simp, by omega, hE7⟩, by show (3 - ((k : Int) + 1)).toNat < (3 - (k : Int)).toNat; omega⟩
 ·have hge : k = 3 := by simp at hge; omega
  subst hge
  exact hR w1 hE
end Go.Proofs.Ytiiaihiliimcoaa
namespace Go.Proofs.Ytiiaihiliimcoaa
open Go Go.Vc Go.RowKit Go.Qn
set_option maxRecDepth 100000
theorem locl_set {u : World} {b i : Nat} {vs : List Value} (hb : b < u.heap.size) : Locl [b] u (setCells u ⟨b, i, none⟩ vs 0) := by
 have h := Chg.setCells u ⟨b, i, none⟩ vs 0
 have hs := (setCells_same vs u ⟨b, i, none⟩ 0).size
 exact ⟨h.os, h.tape, h.output, h.size, fun k hk hn => h.block k hk (by simpa using hn), fun k hk => by simp at hk; rw [hk, hs]; exact hb⟩
theorem Delete_spec {w : World} {b cap i : Nat} {vs rest : List Value} {R : Ending → World → Prop} (h : Cs w b (vs ++ rest)) (hc : cap = vs.length + rest.length) (hi : i < vs.length) (hone : oneAll vs = true) (h62 : vs.length ≤ 2 ^ 40)
  (hR : ∀ w', Cs w' b (vs.eraseIdx i ++ (.slice none 0 0 :: rest)) → Chg (· = b) w w' → R (.returned (.slice (some ⟨b, 0, none⟩) (vs.length - 1) cap)) w') :
  Calls P F.slices_Delete_api_Color #[.slice (some ⟨b, 0, none⟩) vs.length cap, i64 i, i64 ((i : Int) + 1)] w R := by
 refine calls_slices_Delete_api_Color _ _ _ _ _ _ _ ?_
 unfold vc_slices_Delete_api_Color
 refine ⟨by omega, by omega, ⟨by omega, by omega, by omega, brB_f (by simp; omega) ⟨by omega, by omega, by omega, ⟨by omega, by omega, by omega, ?_⟩⟩⟩⟩
 refine ⟨vs.drop (i + 1), by rw [List.length_drop]; omega, by simp only [oneAll, List.all_eq_true] at hone ⊢; exact fun x hx => hone x (List.mem_of_mem_drop hx), ?_, ?_⟩
 ·have hs : Sl (b + 1) w.drew (some ⟨b, 0, none⟩) vs := h.drew.sl (off := 0) (by simp) (Nat.lt_succ_self b)
  have := (hs.part (lo := ((i : Int) + 1).toNat) (cap := cap) (us := vs.drop (i + 1)) (by omega) (by rw [show ((i : Int) + 1).toNat = i + 1 by omega]; exact List.prefix_refl _)).cells
  exact this
 have e0 : slcBase (some ⟨b, 0, none⟩) (0 : Int).toNat cap 1 = some ⟨b, 0, none⟩ := slcBase0
 rw [e0]
 refine ⟨fun hle => .inr ⟨_, rfl, ?_, ?_⟩, fun hgt => by omega⟩
 ·rw [loc_add]
  exact h.drew.canSet (by rw [List.length_append, List.length_drop]; omega)
 ·simp only [notIn]
  rw [loc_add, show 0 + ((i : Int).toNat - (0 : Int).toNat) * 1 = i by omega]
  have hset := h.drew.set (off := i) (us := vs.drop (i + 1)) (by rw [List.length_append, List.length_drop]; omega)
  obtain ⟨x, hx⟩ : ∃ x, (vs ++ rest).drop (i + (vs.drop (i + 1)).length) = x :: rest := by
   rw [List.length_drop, List.drop_append, show i + (vs.length - (i + 1)) = vs.length - 1 by omega, show vs.length - 1 - vs.length = 0 by omega, List.drop_eq_getElem_cons (by omega : vs.length - 1 < vs.length)]
   exact ⟨vs[vs.length - 1]'(by omega), by rw [show vs.length - 1 + 1 = vs.length by omega]; simp⟩
  rw [hx, List.take_append_of_le_length (by omega)] at hset
  have eA : vs.take i ++ vs.drop (i + 1) = vs.eraseIdx i := (List.eraseIdx_eq_take_drop_succ ..).symm
  rw [eA] at hset
  have lA : (vs.eraseIdx i).length = vs.length - 1 := by rw [List.length_eraseIdx]; simp [hi]
  refine ⟨by omega, by omega, by omega, .inr ⟨by omega, ⟨b, vs.length - 1, none⟩, ?_, ?_, ?_⟩⟩
  ·unfold slcBase
   rw [if_neg (by omega)]
   simp only [Option.map_some, loc_add]
   congr 2; omega
  ·intro j hj
   rw [rep_length] at hj
   have hj0 : j = 0 := by
    have : (List.length [Value.slice none 0 0]) = 1 := rfl
    simp [Value.cells] at hj; omega
   subst hj0
   rw [add_zero']
   exact ⟨⟨x, hset.cell (by rw [List.getElem?_append_right (by omega), lA]; simp)⟩, hset.frozen _⟩
  ·have e1 : ((vs.length : Nat) : Int).toNat - ((((i : Int).toNat - (0 : Int).toNat) + (((vs.length : Nat) : Int).toNat - ((i : Int) + 1).toNat) : Nat) : Int).toNat = 1 := by omega
   rw [e1]
   have e2 : (i : Int).toNat - (0 : Int).toNat + (((vs.length : Nat) : Int).toNat - ((i : Int) + 1).toNat) = vs.length - 1 := by omega
   rw [e2]
   have hs2 := hset.set1 (off := vs.length - 1) (v := .slice none 0 0) (by rw [List.length_append, lA]; simp)
   rw [List.set_append_right _ _ (by omega), lA, show vs.length - 1 - (vs.length - 1) = 0 by omega, List.set_cons_zero] at hs2
   refine hR _ hs2 ?_
   exact chgb (chg_dr (Chg.refl _ w)) (chgb (Chg.setCells _ ⟨b, i, none⟩ _ 0 :) (Chg.setCells _ ⟨b, vs.length - 1, none⟩ _ 0 :))
structure Bx where
 p : Option Addr
 n : Nat
 c : Nat
 l : List Co
def Bx.v (t : Bx) : Value := .slice t.p t.n t.c
structure Box (u : World) (bl : List Nat) (t : Bx) : Prop where
 len : t.l.length = t.n
 cap : t.n ≤ t.c
 cs : ∃ b off xs, b ∈ bl ∧ t.p = some ⟨b, off, none⟩ ∧ Cs u b xs ∧ cos t.l <+: xs.drop off
theorem Box.keep {u u' : World} {bl : List Nat} {t : Bx} (h : Box u bl t) (k : Keep bl u u') : Box u' bl t := by
 obtain ⟨b, off, xs, h1, h2, h3, h4⟩ := h.cs
 exact ⟨h.len, h.cap, b, off, xs, h1, h2, h3.keep k h1, h4⟩
theorem Box.mono {u : World} {bl bl' : List Nat} {t : Bx} (h : Box u bl t) (hb : ∀ b, b ∈ bl → b ∈ bl') : Box u bl' t := by
 obtain ⟨b, off, xs, h1, h2, h3, h4⟩ := h.cs
 exact ⟨h.len, h.cap, b, off, xs, hb b h1, h2, h3, h4⟩
theorem Box.sl {u : World} {bl : List Nat} {t : Bx} (h : Box u bl t) : Sl u.heap.size u t.p (cos t.l) := by
 obtain ⟨b, off, xs, h1, h2, h3, h4⟩ := h.cs
 rw [h2]; exact h3.sl h4 h3.lt
structure Bag (w0 u : World) (lo bl : List Nat) (kb : Nat) (T : List Bx) : Prop where
 own : ∃ s c, Cs u kb [.slice s T.length c, .func (.func F.quant_Palette_fn1) #[] #[]] ∧ Fg (lo ++ kb :: bl) w0 u 1 s T.length c (T.map Bx.v)
 nlo : kb ∉ lo
 nbl : kb ∉ bl
 box : ∀ t, t ∈ T → Box u bl t
theorem Bag.ext {w0 u u' : World} {lo bl : List Nat} {kb : Nat} {T : List Bx} (h : Bag w0 u lo bl kb T) (hE : Ext u u') : Bag w0 u' lo bl kb T := by
 obtain ⟨s, c, h1, h2⟩ := h.own
 exact ⟨⟨s, c, h1.ext hE, h2.step hE⟩, h.nlo, h.nbl, fun t ht => (h.box t ht).keep (hE.keep _)⟩
theorem Bag.avs {w0 u : World} {lo bl : List Nat} {kb : Nat} {T : List Bx} (h : Bag w0 u lo bl kb T) : ∀ b, b ∈ lo ++ kb :: bl → w0.heap.size ≤ b ∧ b < u.heap.size := by
 obtain ⟨s, c, h1, h2⟩ := h.own; exact h2.avs
theorem Bag.ex {w0 u : World} {lo bl : List Nat} {kb : Nat} {T : List Bx} (h : Bag w0 u lo bl kb T) : Ext w0 u := by
 obtain ⟨s, c, h1, h2⟩ := h.own; exact h2.ext
theorem Bag.more {w0 u u' : World} {lo bl : List Nat} {kb b : Nat} {T : List Bx} (h : Bag w0 u lo bl kb T) (hE : Ext u u') (h0 : u.heap.size ≤ b) (h1 : b < u'.heap.size) : Bag w0 u' lo (b :: bl) kb T := by
 have ha := h.avs
 obtain ⟨s, c, hc, hf⟩ := h.own
 have hL : Locl [b] u u' := ⟨hE.os, hE.tape, hE.output, hE.size, fun k hk _ => hE.block k hk, fun k hk => by simp at hk; rw [hk]; exact h1⟩
 have hk := ha kb (by simp)
 refine ⟨⟨s, c, hc.ext hE, (hf.push hL (by simp; omega)).mono fun x hx => ?_⟩, h.nlo, fun hm => ?_, fun t ht => ((h.box t ht).keep (hE.keep _)).mono fun x hx => List.mem_cons_of_mem _ hx⟩
 ·simp only [List.mem_append, List.mem_cons] at hx ⊢
  rcases hx with h | h | h | h <;> simp [h]
 ·rcases List.mem_cons.1 hm with e | e
  ·omega
  ·exact h.nbl e
theorem bv_oneAll (T : List Bx) : oneAll (T.map Bx.v) = true := by
 simp only [oneAll, List.all_map]
 exact List.all_eq_true.2 fun t _ => rfl
theorem put_spec {w0 w : World} {lo bl : List Nat} {kb : Nat} {T : List Bx} {t : Bx} {R : Ending → World → Prop} (h : Bag w0 w lo bl kb T) (hb : Box w bl t) (hsz : T.length ≤ 2 ^ 20)
  (hR : ∀ w', Bag w0 w' lo bl kb (T ++ [t]) → Keep (lo ++ bl) w w' → w.heap.size ≤ w'.heap.size → R (.returned (.tuple #[])) w') :
  Calls P F.quant_bag_api_Color_put #[.pointer (some ⟨kb, 0, none⟩), t.v] w R := by
 refine calls_quant_bag_api_Color_put _ _ _ _ _ _ ?_
 obtain ⟨s, c, hc, hf⟩ := h.own
 refine ⟨s, T.length, c, hc.cell (i := 0) rfl, fun k3 hk3 w1 hL1 => ?_⟩
 have hkl := hc.lt
 have hf1 := hf.push hL1 (by simp; omega)
 have hc1 := hc.locl hL1 (by simp; omega)
 refine hf1.app' (by simp [blocks]) rfl rfl (by omega) (by omega) fun p2 c2 w2 hf2 hk2 hs2 => ?_
 have hc2 := hc1.keep hk2 (by simp)
 refine ⟨⟨_, hc2.cell (i := 0) rfl⟩, hc2.frozen _, by simp; omega, ?_⟩
 have hset := hc2.set1 (off := 0) (v := .slice p2 (T.length + 1) c2) (by simp)
 have hL2 := locl_set (u := w2) (b := kb) (i := 0) (vs := [.slice p2 (T.length + 1) c2]) hc2.lt
 have hkp : Keep (lo ++ bl) w (setCells w2 ⟨kb, 0, none⟩ [.slice p2 (T.length + 1) c2] 0) := by
  have ha := h.avs
  refine Keep.trans (hL1.keep fun b hb hlt => by simp; omega) (Keep.trans (b := w2) (fun b hb hlt => hk2 b (by simp at hb ⊢; rcases hb with hb | hb <;> simp [hb]) hlt) (hL2.keep fun b hb _ => ?_))
  simp only [List.mem_singleton]
  intro e
  subst e
  rcases List.mem_append.1 hb with hb | hb
  ·exact h.nlo hb
  ·exact h.nbl hb
 refine hR _ ⟨⟨p2, c2, ?_, ?_⟩, h.nlo, h.nbl, fun x hx => ?_⟩ hkp (by have := hL1.size; have := hL2.size; omega)
 ·rw [List.length_append]; exact hset
 ·have := (hf2.push hL2 (by simp)).mono (bs := lo ++ kb :: bl) fun b hb => List.mem_append_right _ (List.mem_append_right _ hb)
  rw [List.length_append, List.map_append]
  exact this
 ·have hx' : Box w bl x := by
   rcases List.mem_append.1 hx with hx | hx
   ·exact h.box x hx
   ·simp at hx; rw [hx]; exact hb
  exact hx'.keep fun b hb hlt => hkp b (List.mem_append_right _ hb) hlt
def mxi (L : List Nat) : Nat → Nat
 | 0 => 0
 | i + 1 => if L.getD i 0 > L.getD (mxi L i) 0 then i else mxi L i
theorem mxi_lt (L : List Nat) : ∀ i, mxi L i < max 1 i
 | 0 => by simp [mxi]
 | i + 1 => by
  have := mxi_lt L i
  unfold mxi
  split <;> omega
theorem weight_spec {w : World} {p : Option Addr} {n c : Nat} {R : Ending → World → Prop} (hR : R (.returned (i64 n)) w) : callV P (.func (.func F.quant_Palette_fn1) #[] #[]) [.slice p n c] w R := by
 refine callW_i (by kernel_rfl) ?_
 refine calls_quant_Palette_fn1 _ _ _ _ _ ?_
 exact hR
theorem take_spec {w0 w : World} {lo bl : List Nat} {kb : Nat} {T : List Bx} {R : Ending → World → Prop} (h : Bag w0 w lo bl kb T) (hT : 0 < T.length) (hsz : T.length ≤ 2 ^ 20)
  (hR : ∀ w' t, T[mxi (T.map Bx.n) T.length]? = some t → Bag w0 w' lo bl kb (T.eraseIdx (mxi (T.map Bx.n) T.length)) → Keep (lo ++ bl) w w' → w.heap.size ≤ w'.heap.size → R (.returned t.v) w') :
  Calls P F.quant_bag_api_Color_take #[.pointer (some ⟨kb, 0, none⟩)] w R := by
 refine calls_quant_bag_api_Color_take _ _ _ ?_
 obtain ⟨s0, c0, hc0, hf0⟩ := h.own
 refine ⟨s0, T.length, c0, hc0.cell (i := 0) rfl, ?_⟩
 have hget : ∀ (u : World) (s : Option Addr) (c i : Nat) (F : Addr → Prop), Fg (lo ++ kb :: bl) w0 u 1 s T.length c (T.map Bx.v) → (hi : i < T.length) → (∀ a : Addr, u.cell? a = some (T[i]).v → F a) → idx s T.length (i : Int) 1 F := by
  intro u s c i F hf hi hF
  exact hf.sl.get (i := (i : Int)) (by omega) (by simp) (v := (T[i]).v) (by simp [hi]) hF
 have hn : ∀ i, (hi : i < T.length) → (T[i]).n = (T.map Bx.n).getD i 0 := fun i hi => by simp [List.getD, hi]
 refine ⟨fun vs u => ∃ i : Nat, vs = [i64 (mxi (T.map Bx.n) i), i64 i] ∧ i ≤ T.length ∧ Ext w u, fun vs _ => match vs with | [_, .int _ i] => (T.length - i).toNat | _ => 0, ⟨0, rfl, Nat.zero_le _, Ext.refl _⟩, fun n1 n2 w1 hI => ?_⟩
 obtain ⟨i, hv, hi, hE⟩ := hI
 obtain ⟨rfl, rfl⟩ : n1 = mxi (T.map Bx.n) i ∧ n2 = i := by simpa using hv
 have hm := mxi_lt (T.map Bx.n) i
 refine brB_i (fun hlt => ?_) fun hge => ?_
 ·have hlt : i < T.length := by simp at hlt; omega
  refine ⟨fun vs u => vs = [i64 (mxi (T.map Bx.n) (i + 1))] ∧ Ext w u, ?_, fun n5 w4 hI => ?_⟩
  ·have hB := (h.ext hE).ext (Ext.refl w1).drew
   have hc1 := (hc0.ext hE).drew
   have hf1 := (hf0.step hE).dr
   refine ⟨_, _, _, hc1.cell (i := 1) rfl, _, _, _, hc1.cell (i := 0) rfl, hget _ _ _ i _ hf1 hlt fun a1 ha1 => ⟨_, _, _, ha1, ?_⟩⟩
   refine ⟨_, _, _, hc1.cell (i := 1) rfl, _, _, _, hc1.cell (i := 0) rfl, hget _ _ _ (mxi (T.map Bx.n) i) _ hf1 (by omega) fun a2 ha2 => ⟨_, _, _, ha2, ?_⟩⟩
   refine weight_spec ⟨_, rfl, Keeps.refl _, weight_spec ⟨_, rfl, ?_⟩⟩
   rw [hn i hlt, hn (mxi (T.map Bx.n) i) (by omega)]
   refine brB_i (fun hgt => ?_) fun hle => ?_
   ·have hgt : (T.map Bx.n).getD i 0 > (T.map Bx.n).getD (mxi (T.map Bx.n) i) 0 := by
     have := of_decide_eq_true hgt; omega
    exact ⟨by rw [mxi, if_pos hgt], hE.drew⟩
   ·have hle : ¬ (T.map Bx.n).getD i 0 > (T.map Bx.n).getD (mxi (T.map Bx.n) i) 0 := by
     have := of_decide_eq_false hle; omega
    exact ⟨by rw [mxi, if_neg hle], hE.drew⟩
  ·obtain ⟨hv, hE4⟩ := hI
   obtain rfl : n5 = mxi (T.map Bx.n) (i + 1) := by simpa using hv
   rw [w64 (x := (i : Int) + 1) (by omega) (by omega)]
   exact ⟨⟨i + 1, by simp, by omega, hE4⟩, by show ((T.length : Int) - ((i : Int) + 1)).toNat < ((T.length : Int) - i).toNat; omega⟩
 ·have hge : i = T.length := by simp at hge; omega
  subst hge
  generalize hat : mxi (T.map Bx.n) T.length = at_ at *
  have hat2 : at_ < T.length := by omega
  have hc1 := hc0.ext hE
  have hf1 := hf0.step hE
  refine ⟨_, _, _, hc1.cell (i := 0) rfl, hget _ _ _ at_ _ hf1 hat2 fun a1 ha1 => ⟨_, _, _, ha1, _, _, _, hc1.cell (i := 0) rfl, ?_⟩⟩
  rw [w64 (x := (at_ : Int) + 1) (by omega) (by omega)]
  obtain ⟨S, hS1, hS2, ho⟩ := hf1.own
  obtain ⟨⟨o1, o2, o3⟩, hbd⟩ := ho
  rcases o3 with o3 | ⟨b, rest, hSb, rfl, o4, o5⟩
  ·omega
  have hl : (T.map Bx.v).length = T.length := by simp
  have hbn : ∀ x, x ∈ lo ++ kb :: bl → x ≠ b := fun x hx e => hS2 x hx (e ▸ hSb)
  have hD := Delete_spec (w := w1) (b := b) (cap := c0) (i := at_) (vs := T.map Bx.v) (rest := rest) (R := fun e w5 => ∃ (p9 : Option Addr) (k17 k18 : Nat), e = .returned (.slice p9 k17 k18) ∧ (∃ v1, w5.cell? ⟨kb, 0, none⟩ = some v1) ∧ (w5.frozen? ⟨kb, 0, none⟩ = false) ∧ R (.returned (T[at_]).v) (setCells w5 ⟨kb, 0, none⟩ [.slice p9 k17 k18] 0)) o5 (by omega) (by omega) (bv_oneAll T) (by omega) fun w5 hcs hch => ?_
  ·rw [hl] at hD; exact hD
  have hkp5 : Keep (lo ++ kb :: bl) w1 w5 := hch.keep fun x hx e => hbn x hx e
  have hc5 := hc1.keep hkp5 (by simp)
  refine ⟨_, _, _, rfl, ⟨_, hc5.cell (i := 0) rfl⟩, hc5.frozen _, ?_⟩
  have hTe : (T.eraseIdx at_).length = T.length - 1 := by rw [List.length_eraseIdx]; simp [hat2]
  have hf5 : Fg (lo ++ kb :: bl) w0 w5 1 (some ⟨b, 0, none⟩) (T.eraseIdx at_).length c0 ((T.eraseIdx at_).map Bx.v) := by
   have hs5 := hch.size
   refine ⟨hf1.ext.step hch fun x hx => ?_, ⟨S, hS1, hS2, ⟨⟨by simp, by omega, .inr ⟨b, .slice none 0 0 :: rest, hSb, rfl, ?_, ?_⟩⟩, fun x hx => by have := hbd x hx; omega⟩⟩, fun x hx => ?_⟩
   ·have hx : x = b := hx
    rw [hx]; exact hS1 b hSb
   ·simp only [List.length_map, List.length_cons, hTe]; omega
   ·have e : (T.map Bx.v).eraseIdx at_ = (T.eraseIdx at_).map Bx.v := by rw [List.eraseIdx_eq_take_drop_succ, List.eraseIdx_eq_take_drop_succ]; simp
    rw [← e]; exact hcs
   ·have := hf1.avs x hx; omega
  have hset := hc5.set1 (off := 0) (v := .slice (some ⟨b, 0, none⟩) ((T.map Bx.v).length - 1) c0) (by simp)
  have hL := locl_set (u := w5) (b := kb) (i := 0) (vs := [.slice (some ⟨b, 0, none⟩) ((T.map Bx.v).length - 1) c0]) hc5.lt
  have hkp : Keep (lo ++ bl) w (setCells w5 ⟨kb, 0, none⟩ [.slice (some ⟨b, 0, none⟩) ((T.map Bx.v).length - 1) c0] 0) := by
   refine Keep.trans (hE.keep _) (Keep.trans (b := w5) (fun x hx hlt => hkp5 x (by simp at hx ⊢; rcases hx with hx | hx <;> simp [hx]) hlt) (hL.keep fun x hx _ => ?_))
   simp only [List.mem_singleton]
   intro e
   subst e
   rcases List.mem_append.1 hx with hx | hx
   ·exact h.nlo hx
   ·exact h.nbl hx
  refine hR _ (T[at_]) (List.getElem?_eq_getElem hat2) ⟨⟨some ⟨b, 0, none⟩, c0, ?_, (hf5.push hL (by simp)).mono fun x hx => List.mem_append_right _ hx⟩, h.nlo, h.nbl, fun x hx => ?_⟩ hkp (by have := hE.size; have := hch.size; have := hL.size; omega)
  ·rw [hTe, ← hl]; exact hset
  ·exact (h.box x (List.mem_of_mem_eraseIdx hx)).keep fun y hy hlt => hkp y (List.mem_append_right _ hy) hlt
end Go.Proofs.Ytiiaihiliimcoaa
namespace Go.Proofs.Ytiiaihiliimcoaa
open Go Go.Vc Go.RowKit Go.Qn
set_option maxRecDepth 100000
def Byt (x : Int) : Prop := 0 ≤ x ∧ x ≤ 65535
def CoOk (c : Co) : Prop := Byt c.1 ∧ Byt c.2.1 ∧ Byt c.2.2.1 ∧ Byt c.2.2.2
def PxOk (xs : List Int) : Prop := ∀ x, x ∈ xs → Byt x
theorem getD_ok {xs : List Int} (h : PxOk xs) (i : Nat) : Byt (xs.getD i 0) := by
 rcases Nat.lt_or_ge i xs.length with h' | h'
 ·have e : xs.getD i 0 = xs[i] := by simp [List.getD, h']
  rw [e]; exact h _ (List.getElem_mem h')
 ·have e : xs.getD i 0 = 0 := by simp [List.getD, h']
  rw [e]; exact ⟨by omega, by omega⟩
theorem colAt_ok {xs : List Int} (h : PxOk xs) (k : Nat) : CoOk (colAt xs k) := ⟨getD_ok h _, getD_ok h _, getD_ok h _, getD_ok h _⟩
def clearC (c : Co) : Bool := decide (c.2.2.2 < 32768)
def eightC (c : Co) : Co := (roundV c.1, roundV c.2.1, roundV c.2.2.1, 65535)
theorem round257 {v : Int} (h : Byt v) : roundV v = 257 * dnV v 255 := by
 have := dnV_range h.1 h.2 (most := 255) (by omega)
 unfold roundV upV
 omega
theorem round_ok {v : Int} (h : Byt v) : Byt (roundV v) := by
 have := dnV_range h.1 h.2 (most := 255) (by omega)
 rw [round257 h]; exact ⟨by omega, by omega⟩
theorem eight_ok {c : Co} (h : CoOk c) : CoOk (eightC c) := ⟨round_ok h.1, round_ok h.2.1, round_ok h.2.2.1, by show 0 ≤ (65535 : Int); omega, by show (65535 : Int) ≤ 65535; omega⟩
theorem clear_spec {w : World} {c : Co} {R : Ending → World → Prop} (hR : ∀ w', Ext w w' → R (.returned (.bool (clearC c))) w') : Calls P F.quant_clear #[.agg (co c).toArray] w R := by
 refine calls_quant_clear _ _ _ _ _ _ ?_
 intro k1 hk1 w1 hL
 exact hR w1 (hL.ext (by simpa using hk1))
theorem efn_spec {w : World} {v : Int} {R : Ending → World → Prop} (h : Byt v) (hR : R (.returned (u16 (roundV v))) w) : Calls P F.quant_eight_fn1 #[u16 v] w R := by
 refine calls_quant_eight_fn1 _ _ _ ?_
 unfold vc_quant_eight_fn1
 refine Down_spec h.1 h.2 ⟨_, _, rfl, ?_⟩
 have := dnV_range h.1 h.2 (most := 255) (by omega)
 rw [w64 (x := 257 * dnV v 255) (by omega) (by omega), wu16 (by omega) (by omega), ← round257 h]
 exact hR
theorem eight_spec {w : World} {c : Co} {R : Ending → World → Prop} (h : CoOk c) (hR : ∀ w', Ext w w' → R (.returned (.agg (co (eightC c)).toArray)) w') : Calls P F.quant_eight #[.agg (co c).toArray] w R := by
 refine calls_quant_eight _ _ _ _ _ _ ?_
 intro k1 hk1 k2 hk2 w1 hL1
 have hb : ∀ b, b ∈ [k2, k1] → w.heap.size ≤ b := by simp; omega
 have hE1 := hL1.ext hb
 refine efn_spec h.1 ⟨_, rfl, (Ext.refl _).keep _, Keeps.refl _, efn_spec h.2.1 ⟨_, rfl, (Ext.refl _).keep _, Keeps.refl _, efn_spec h.2.2.1 ⟨_, rfl, (Ext.refl _).keep _, fun w5 hL5 => ?_⟩⟩⟩
 exact hR w5 (hE1.step hL5.chg hb)
def allN (l : List Co) : Nat → List Co
 | 0 => []
 | n + 1 => if clearC (l.getD n zeroC) then allN l n else addC (allN l n) (eightC (l.getD n zeroC))
theorem allN_length (l : List Co) : ∀ n, (allN l n).length ≤ n
 | 0 => by simp [allN]
 | n + 1 => by
  have := allN_length l n
  unfold allN
  split
  ·omega
  ·have := addC_length (allN l n) (eightC (l.getD n zeroC)); omega
def cutB (B : List (List Co)) : List (List Co) :=
 let j := mxi (B.map List.length) B.length
 let l := B.getD j []
 let s := stab (ax (lgV l)) l
 B.eraseIdx j ++ [s.take (l.length / 2), s.drop (l.length / 2)]
def spN (A : List Co) : Nat → List (List Co)
 | 0 => [A]
 | i + 1 => cutB (spN A i)
def midC (l : List Co) : Co := l.getD (l.length / 2) zeroC
def palV (A : List Co) (most : Int) : List Co := if (A.length : Int) ≤ most then A else (spN A (most.toNat - 1)).map midC
def palR (W H : Int) (xs : List Int) (most : Int) : List Co × Int :=
 if good W H xs then (if most < 1 ∨ 256 < most then ([], 2) else (palV (allN (distX xs (W * H).toNat) (distX xs (W * H).toNat).length) most, 0)) else ([], 6)
theorem distX_ok {xs : List Int} (h : PxOk xs) : ∀ n c, c ∈ distX xs n → CoOk c
 | 0, c, hc => by cases hc
 | n + 1, c, hc => by
  rw [distX_succ] at hc
  unfold addC at hc
  split at hc
  ·exact distX_ok h n c hc
  ·rcases List.mem_append.1 hc with hc | hc
   ·exact distX_ok h n c hc
   ·simp at hc; rw [hc]; exact colAt_ok h n
theorem stab_len (key : Co → Int) (l : List Co) : (stab key l).length = l.length := (stab_perm key l).length_eq
theorem sum_erase : ∀ (L : List Nat) (j : Nat), (h : j < L.length) → (L.eraseIdx j).sum + L[j] = L.sum
 | [], j, h => by simp at h
 | a :: L, 0, h => by simp [Nat.add_comm]
 | a :: L, j + 1, h => by
  have := sum_erase L j (by simpa using h)
  simp only [List.eraseIdx_cons_succ, List.sum_cons, List.getElem_cons_succ]; omega
theorem mxi_max (L : List Nat) : ∀ i j, j < i → L.getD j 0 ≤ L.getD (mxi L i) 0
 | 0, j, h => by omega
 | i + 1, j, h => by
  unfold mxi
  split
  ·rename_i hg
   rcases Nat.lt_or_ge j i with h' | h'
   ·have := mxi_max L i j h'; omega
   ·rw [show j = i by omega]; exact Nat.le_refl _
  ·rename_i hg
   rcases Nat.lt_or_ge j i with h' | h'
   ·exact mxi_max L i j h'
   ·rw [show j = i by omega]; omega
theorem sum_le_one : ∀ (L : List Nat), (∀ j, j < L.length → L.getD j 0 ≤ 1) → L.sum ≤ L.length
 | [], _ => by simp
 | a :: L, h => by
  have h0 := h 0 (by simp)
  have := sum_le_one L fun j hj => by simpa using h (j + 1) (by simpa using hj)
  simp at h0
  simp only [List.sum_cons, List.length_cons]; omega
structure BxOk (A : List Co) (B : List (List Co)) (n : Nat) : Prop where
 len : B.length = n
 sum : (B.map List.length).sum = A.length
 ne : ∀ l, l ∈ B → l ≠ []
theorem BxOk.big {A : List Co} {B : List (List Co)} {n : Nat} (h : BxOk A B n) (hn : n < A.length) (h0 : 0 < n) : mxi (B.map List.length) B.length < B.length ∧ 2 ≤ (B.getD (mxi (B.map List.length) B.length) []).length := by
 have hm := mxi_lt (B.map List.length) B.length
 have hl := h.len
 have hlt : mxi (B.map List.length) B.length < B.length := by omega
 refine ⟨hlt, ?_⟩
 rcases Nat.lt_or_ge 1 (B.getD (mxi (B.map List.length) B.length) []).length with h' | h'
 ·exact h'
 ·exfalso
  have e : (B.map List.length).getD (mxi (B.map List.length) B.length) 0 = (B.getD (mxi (B.map List.length) B.length) []).length := by simp [List.getD, hlt]
  have := sum_le_one (B.map List.length) fun j hj => by
   have := mxi_max (B.map List.length) B.length j (by simpa using hj)
   omega
  rw [h.sum, List.length_map] at this
  omega
theorem BxOk.cut {A : List Co} {B : List (List Co)} {n : Nat} (h : BxOk A B n) (hn : n < A.length) (h0 : 0 < n) : BxOk A (cutB B) (n + 1) := by
 obtain ⟨hj, h2⟩ := h.big hn h0
 unfold cutB
 generalize hjj : mxi (B.map List.length) B.length = j at *
 have eg : B.getD j [] = B[j] := by simp [List.getD, hj]
 simp only [eg] at h2 ⊢
 have hl := h.len
 refine ⟨?_, ?_, fun l hl => ?_⟩
 ·rw [List.length_append, List.length_eraseIdx]; simp [hj]; omega
 ·have := sum_erase (B.map List.length) j (by simpa using hj)
  rw [h.sum] at this
  simp only [List.map_append, List.sum_append, List.map_cons, List.map_nil, List.sum_cons, List.sum_nil, List.length_take, List.length_drop, stab_len]
  have e2 : (B.eraseIdx j).map List.length = (B.map List.length).eraseIdx j := by rw [List.eraseIdx_eq_take_drop_succ, List.eraseIdx_eq_take_drop_succ]; simp
  rw [e2]
  simp only [List.getElem_map] at this
  omega
 ·rcases List.mem_append.1 hl with hl | hl
  ·exact h.ne l (List.mem_of_mem_eraseIdx hl)
  ·simp only [List.mem_cons, List.not_mem_nil, or_false] at hl
   intro e
   rcases hl with hl | hl
   ·have := congrArg List.length hl; rw [e, List.length_take, stab_len] at this; simp at this; omega
   ·have := congrArg List.length hl; rw [e, List.length_drop, stab_len] at this; simp at this; omega
theorem spN_ok {A : List Co} : ∀ i, i < A.length → BxOk A (spN A i) (i + 1)
 | 0, h => ⟨rfl, by simp [spN], fun l hl => by simp [spN] at hl; rw [hl]; intro e; rw [e] at h; simp at h⟩
 | i + 1, h => (spN_ok i (by omega)).cut h (by omega)
end Go.Proofs.Ytiiaihiliimcoaa
namespace Go.Proofs.Ytiiaihiliimcoaa
open Go Go.Vc Go.RowKit Go.Qn
set_option maxRecDepth 100000
set_option maxHeartbeats 4000000
theorem locl_here {w : World} {bs : List Nat} (h : ∀ b, b ∈ bs → b < w.heap.size) : Locl bs w w := ⟨rfl, rfl, rfl, Nat.le_refl _, fun _ _ _ => rfl, h⟩
theorem Cs.all {w : World} {b : Nat} {l : List Co} {rest : List Value} (h : Cs w b (cos l ++ rest)) : Sl w.heap.size w (some ⟨b, 0, none⟩) (cos l) := h.sl (off := 0) (by simp) h.lt
theorem getD_mem {l : List Co} {i : Nat} (h : i < l.length) : l.getD i zeroC ∈ l := by simp [List.getD, h]
theorem cut_boxes {T : List Bx} {t t1 t2 : Bx} {B : List (List Co)} (hB : T.map Bx.l = B) (hlen : ∀ t, t ∈ T → t.l.length = t.n) (ht : T[mxi (T.map Bx.n) T.length]? = some t)
  (h1 : t1.l = (stab (ax (lgV t.l)) t.l).take (t.l.length / 2)) (h2 : t2.l = (stab (ax (lgV t.l)) t.l).drop (t.l.length / 2)) :
  (T.eraseIdx (mxi (T.map Bx.n) T.length) ++ [t1] ++ [t2]).map Bx.l = cutB B := by
 have en : T.map Bx.n = B.map List.length := by
  rw [← hB, List.map_map]
  exact List.map_congr_left fun t ht => (hlen t ht).symm
 have el : T.length = B.length := by rw [← hB]; simp
 rw [en, el] at ht ⊢
 unfold cutB
 have eg : B.getD (mxi (B.map List.length) B.length) [] = t.l := by
  rw [← hB, List.getD, List.getElem?_map, hB, ht]; rfl
 simp only [eg, List.map_append, List.map_cons, List.map_nil, h1, h2]
 have e2 : (T.eraseIdx (mxi (B.map List.length) B.length)).map Bx.l = B.eraseIdx (mxi (B.map List.length) B.length) := by
  rw [← hB, List.eraseIdx_eq_take_drop_succ, List.eraseIdx_eq_take_drop_succ]; simp
 rw [e2]; simp
theorem Palette_spec {w : World} {p : Option Addr} {len cap : Nat} {W H most : Int} {xs : List Int} {R : Ending → World → Prop} (h : Img w p len xs) (hc : len ≤ cap) (hok : PxOk xs)
  (hR : ∀ p' c' w', Fg [] w w' 4 p' (palR W H xs most).1.length c' (cos (palR W H xs most).1) → R (.returned (.tuple #[.slice p' (palR W H xs most).1.length c', i64 (palR W H xs most).2])) w') :
  Calls P F.quant_Palette #[.agg #[i64 W, i64 H, .slice p len cap], i64 most] w R := by
 refine calls_quant_Palette _ _ _ _ _ _ _ _ ?_
 intro k1 hk1 w1 hL1
 have hE1 : Ext w w1 := hL1.ext (by simpa using hk1)
 have ht1 := hL1.there k1 (by simp)
 refine good_spec h.len fun w2 hE2 => ⟨_, rfl, hE2.keep _, ?_⟩
 have hE12 := hE1.trans hE2
 have hs2 := hE2.size
 refine brB_i (fun hb => ?_) fun hb => ?_
 ·have hb : good W H xs = false := by simpa using hb
  rw [palR, if_neg (by simp [hb])] at hR
  exact hR none 0 w2 (Fg.nil hE12 4)
 have hb : good W H xs = true := by simpa using hb
 refine brB_i (fun hm => ?_) fun hm k2 w3 hn3 => ?_
 ·have hm : most < 1 ∨ 256 < most := by simpa using hm
  rw [palR, if_pos hb, if_pos hm] at hR
  exact hR none 0 w2 (Fg.nil hE12 4)
 have hm : ¬ (most < 1 ∨ 256 < most) := by
  intro hx
  rcases hx with hx | hx <;> simp [hx] at hm
 rw [palR, if_pos hb, if_neg hm] at hR
 have hs12 := hE12.size
 have hk2 : w2.heap.size = k2 := hn3.1.symm
 have hk2' := hn3.size
 have hE3 := hE12.trans hn3.ext
 have hs3 := hn3.ext.size
 have hd : distR W H xs = distX xs (W * H).toNat := by rw [distR, if_pos hb]
 refine Distinct_spec ((h.ext hE12).ext hn3.ext) hc fun p1 c1 w4 hfD => ⟨_, _, _, rfl, hfD.ext.keep _, ?_⟩
 rw [hd] at hfD ⊢
 obtain ⟨hg, hxl⟩ := good_iff.1 hb
 obtain ⟨g1, g2, g3, g4, g5⟩ := gfits_iff.1 hg
 have hpos : 0 < W * H := Int.mul_pos (by omega) (by omega)
 have hLk := distX_ok hok (W * H).toNat
 have hL1' : 0 < (distX xs (W * H).toNat).length := by
  obtain ⟨n, hn⟩ : ∃ n, (W * H).toNat = n + 1 := ⟨(W * H).toNat - 1, by omega⟩
  rw [hn]
  exact List.length_pos_of_mem (distX_mem xs n)
 have hL2' := distX_length xs (W * H).toNat
 generalize distX xs (W * H).toNat = L at *
 have hE4 := hE3.trans hfD.ext
 have hs4 := hfD.ext.size
 obtain ⟨_, hcc, hx⟩ := hfD.ow
 rcases hx with hx | ⟨bD, rest, hb0, hb1, rfl, _, hcD⟩
 ·omega
 refine ⟨fun vs u => ∃ (q : Option Addr) (c n : Nat), vs = [.slice q (allN L n).length c, i64 n] ∧ n ≤ L.length ∧ Fg [k1, k2, bD] w u 4 q (allN L n).length c (cos (allN L n)) ∧ Cs u bD (cos L ++ rest) ∧ Mp kdC u k2 (kvC (allN L n)),
  fun vs _ => match vs with | [_, .int _ n] => (L.length - n).toNat | _ => 0, ⟨none, 0, 0, rfl, Nat.zero_le _, ?_, hcD, (hn3.mp kdC).same (hfD.ext.block k2 hk2')⟩, fun q5 l5 c5 n5 w5 hI => ?_⟩
 ·exact Fg.nil' hE4 (locl_here (by simp; omega)) (by simp; omega) 4
 obtain ⟨q, c, n, hv, hn, hf, hcs, hmp⟩ := hI
 obtain ⟨rfl, rfl, rfl, rfl⟩ : q5 = q ∧ l5 = (allN L n).length ∧ c5 = c ∧ n5 = n := by simpa [and_assoc] using hv
 have hk5 := hf.avs
 have hall := allN_length L n
 have hk51 := (hk5 k1 (by simp)).2
 have hk52 := (hk5 k2 (by simp)).2
 have hk53 := (hk5 bD (by simp)).2
 refine brB_i (fun hlt => ?_) fun hge => ?_
 ·have hlt : n < L.length := by simp at hlt; omega
  have hco := hLk _ (getD_mem hlt)
  refine ⟨fun vs u => ∃ (q : Option Addr) (c : Nat), vs = [.slice q (allN L (n + 1)).length c] ∧ Fg [k1, k2, bD] w u 4 q (allN L (n + 1)).length c (cos (allN L (n + 1))) ∧ Cs u bD (cos L ++ rest) ∧ Mp kdC u k2 (kvC (allN L (n + 1))), ?_, fun q' l' c' w15 hI => ?_⟩
  ·refine cos_elem (Cs.all hcs) rfl (by omega) (by omega) fun a e1 e2 e3 e4 => ⟨_, _, _, _, e1, e2, e3, e4, fun k7 hk7 w6 hL6 => ?_⟩
   have en : (n : Int).toNat = n := by omega
   rw [en]
   have hf6 := (hf.push hL6 (by simp; omega)).mono (bs := [k7, k1, k2, bD]) (by simp)
   have hcs6 := hcs.locl hL6 (by simp; omega)
   have hm6 := hmp.same (hL6.block k2 hk52 (by simp; omega))
   have hs6 := hL6.size
   refine clear_spec (c := L.getD n zeroC) fun w7 hE7 => ⟨_, rfl, hE7.keep _, ?_⟩
   have hf7 := hf6.step hE7
   have hcs7 := hcs6.ext hE7
   have hm7 := hm6.same (hE7.block k2 (by omega))
   have hs7 := hE7.size
   refine brB_i (fun hcl => ?_) fun hcl => ?_
   ·have e : allN L (n + 1) = allN L n := by rw [allN, if_pos hcl]
    rw [e]
    exact ⟨_, _, rfl, hf7.mono (by simp), hcs7, hm7⟩
   have e : allN L (n + 1) = addC (allN L n) (eightC (L.getD n zeroC)) := by rw [allN, if_neg (by rw [hcl]; exact Bool.false_ne_true)]
   rw [e]
   refine eight_spec hco fun w8 hE8 => ⟨_, _, _, _, rfl, hE8.keep _, fun w9 hL9 => ?_⟩
   have hs8 := hE8.size
   have hs9 := hL9.size
   have hf9 := ((hf7.step hE8).push hL9 (by simp)).mono (bs := [k7, k1, k2, bD]) (by simp)
   have hcs9 := (hcs7.ext hE8).locl hL9 (by simp; omega)
   have hm9 := (hm7.same (hE8.block k2 (by omega))).same (hL9.block k2 (by omega) (by simp; omega))
   refine ⟨_, hm9, _, mgot_co (eightC (L.getD n zeroC)) (allN L n), fun k8 hk8 => ?_⟩
   refine brB_i (fun hnew w10 hL10 => ?_) fun hold w14 hL14 => ?_
   ·have hnew : eightC (L.getD n zeroC) ∉ allN L n := by simpa using hnew
    have hs10 := hL10.size
    have hf10 := (hf9.push hL10 (by simp; omega)).mono (bs := [k8, k7, k1, k2, bD]) (by simp)
    have hcs10 := hcs9.locl hL10 (by simp; omega)
    have hm10 := hm9.same (hL10.block k2 (by omega) (by simp; omega))
    refine ⟨_, hm10, fun w11 hP11 hm11 k9 hk9 w12 hL12 => ?_⟩
    have hm11' : Mp kdC w11 k2 (kvC (allN L n ++ [eightC (L.getD n zeroC)])) := by
     rw [← mput_co _ _ hnew]; exact hm11
    have hs11 : w11.heap.size = w10.heap.size := hP11.size
    have hf11 := (hf10.push (hP11.locl (by omega)) (by simp)).mono (bs := [k8, k7, k1, k2, bD]) (by simp)
    have hcs11 := hcs10.put hP11 (by omega)
    have hs12' := hL12.size
    have hf12 := (hf11.push hL12 (by simp; omega)).mono (bs := [k9, k8, k7, k1, k2, bD]) (by simp)
    have hcs12 := hcs11.locl hL12 (by simp; omega)
    have hm12 := hm11'.same (hL12.block k2 (by omega) (by simp; omega))
    refine hf12.app' (by simp [blocks]) rfl rfl (by omega) (by omega) fun p' c' w13 hf13 hk13 _ => ?_
    rw [addC_new hnew]
    refine ⟨p', c', by simp, ?_, hcs12.keep hk13 (by simp), hm12.same (hk13 k2 (by simp) (by omega)).2⟩
    rw [cos_append, cos_one, List.length_append]
    exact hf13.mono (by simp)
   ·have hold : eightC (L.getD n zeroC) ∈ allN L n := by simpa using hold
    rw [addC_old hold]
    exact ⟨_, _, rfl, (hf9.push hL14 (by simp; omega)).mono (by simp), hcs9.locl hL14 (by simp; omega), hm9.same (hL14.block k2 (by omega) (by simp; omega))⟩
  ·obtain ⟨q2, c2, hv, h1, h2, h3⟩ := hI
   obtain ⟨rfl, rfl, rfl⟩ : q' = q2 ∧ l' = (allN L (n + 1)).length ∧ c' = c2 := by simpa using hv
   rw [w64 (x := (n : Int) + 1) (by omega) (by omega)]
   exact ⟨⟨_, _, n + 1, by simp, hlt, h1, h2, h3⟩, by show ((L.length : Int) - ((n : Int) + 1)).toNat < ((L.length : Int) - n).toNat; omega⟩
 have hge : n = L.length := by simp at hge; omega
 subst hge
 generalize hA : allN L L.length = A at *
 refine brB_i (fun hfew => ?_) fun hmany k14 w16 hn16 => ?_
 ·have hfew : (A.length : Int) ≤ most := by simpa using hfew
  rw [palV, if_pos hfew] at hR
  exact hR _ _ w5 hf.weak
 have hmany : most < A.length := by simpa using hmany
 rw [palV, if_neg (by omega)] at hR
 obtain ⟨m, hm0⟩ : ∃ m : Nat, most = (m + 1 : Nat) := ⟨most.toNat - 1, by omega⟩
 subst hm0
 rw [show ((m + 1 : Nat) : Int).toNat - 1 = m by omega] at hR
 have hmA : m + 1 < A.length := by omega
 obtain ⟨SA, hSA1, hSA2, ⟨_, hcc5, hx⟩, hSAb⟩ := hf.own
 rcases hx with hx | ⟨bA, restA, hbA, rfl, _, hcA⟩
 ·omega
 have hbA0 := hSA1 bA hbA
 have hbA1 := hSAb bA hbA
 have hkA : k1 ≠ bA := fun e => hSA2 k1 (by simp) (e ▸ hbA)
 have hk14 : k14 = w5.heap.size := hn16.1
 have hk14' := hn16.size
 have hE5 := hf.ext
 have hE16 := hE5.trans hn16.ext
 have hs16 := hn16.ext.size
 have hs5 := hE5.size
 have hB16 : Bag w w16 [k1] [bA] k14 [] := by
  refine ⟨⟨none, 0, hn16.cs, Fg.nil' hE16 (locl_here (by simp; omega)) (by simp; omega) 1⟩, by simp; omega, by simp; omega, fun t ht => by cases ht⟩
 refine put_spec (t := ⟨some ⟨bA, 0, none⟩, A.length, c5, A⟩) hB16 ⟨rfl, hcc5, bA, 0, _, by simp, rfl, hcA.ext hn16.ext, by simp⟩ (by simp) fun w17 hB17 hkp17 hs17 => ⟨rfl, fun b hb hlt => hkp17 b (by simp at hb ⊢; simp [hb]) hlt, ?_⟩
 refine ⟨fun vs u => vs = [] ∧ ∃ (T : List Bx) (bl : List Nat) (i : Nat), Bag w u [k1] bl k14 T ∧ T.map Bx.l = spN A i ∧ i ≤ m ∧ k1 ∉ bl, fun _ u => match u.cell? ⟨k14, 0, none⟩ with | some (.slice _ n _) => m + 1 - n | _ => 0,
  ⟨rfl, _, [bA], 0, hB17, rfl, Nat.zero_le _, by simpa using hkA⟩, fun w18 hI => ?_⟩
 obtain ⟨_, T, bl, i, hB, hT, hi, hk1b⟩ := hI
 have hTl : T.length = i + 1 := by
  have := congrArg List.length hT
  rw [List.length_map, (spN_ok i (by omega)).len] at this
  exact this
 obtain ⟨s0, c0, hcs0, hf0⟩ := hB.own
 have hcell0 := hcs0.cell (i := 0) rfl
 refine ⟨_, _, _, hcell0, ?_⟩
 have hlens : ∀ t, t ∈ T → t.l.length = t.n := fun t ht => (hB.box t ht).len
 refine brB_i (fun hlt => ?_) fun hge => ?_
 ·have hlt : T.length < m + 1 := by simp at hlt; omega
  refine take_spec hB (by omega) (by omega) fun w19 t ht hB19 hkp19 hs19 => ⟨_, _, _, rfl, fun b hb hlt => hkp19 b (by simp at hb ⊢; simp [hb]) hlt, ?_⟩
  have htm : t ∈ T := List.mem_of_getElem? ht
  have hbt := (hB.box t htm).keep fun b hb hlt => hkp19 b (List.mem_append_right _ hb) hlt
  obtain ⟨hbig1, hbig2⟩ := (spN_ok (A := A) i (by omega)).big (by omega) (by omega)
  have e1 : T.map Bx.n = (spN A i).map List.length := by
   rw [← hT, List.map_map]
   exact List.map_congr_left fun t ht => (hlens t ht).symm
  have e2 : T.length = (spN A i).length := by rw [← hT]; simp
  have htl : (spN A i).getD (mxi ((spN A i).map List.length) (spN A i).length) [] = t.l := by
   rw [List.getD, ← e1, ← e2, ← hT, List.getElem?_map, ht]; rfl
  rw [htl] at hbig2
  have hsum : t.l.length ≤ A.length := by
   have h1 := sum_erase ((spN A i).map List.length) (mxi ((spN A i).map List.length) (spN A i).length) (by simpa using hbig1)
   rw [(spN_ok (A := A) i (by omega)).sum] at h1
   have h2 : ((spN A i).map List.length)[mxi ((spN A i).map List.length) (spN A i).length]'(by simpa using hbig1) = t.l.length := by
    rw [← htl]; simp [List.getD, hbig1]
   omega
  have hnl := hbt.len
  have hAl : A.length ≤ 65536 := by omega
  refine longest_spec hbt.sl hnl (by omega) (by omega) fun w20 hE20 => ⟨_, rfl, hE20.keep _, fun k19 w21 hn21 => ?_⟩
  have hk19 : k19 = w20.heap.size := hn21.1
  have hk19' := hn21.size
  have hs20 := hE20.size
  have hc21 := hn21.cs
  have ha19 := hB19.avs
  have hk119 := (ha19 k1 (by simp)).2
  have hk1419 := (ha19 k14 (by simp)).2
  have hc22 := hc21.set1 (off := 0) (v := i64 (lgV t.l)) (by simp)
  refine ⟨⟨_, hc21.cell (i := 0) rfl⟩, hc21.frozen 0, by simp; omega, ?_⟩
  have hEs : Ext w20 (setCells w21 ⟨k19, 0, none⟩ [i64 (lgV t.l)] 0) := hn21.ext.step (Chg.setCells w21 ⟨k19, 0, none⟩ _ 0) fun j hj => by
   have : j = k19 := hj
   omega
  generalize setCells w21 ⟨k19, 0, none⟩ [i64 (lgV t.l)] 0 = ws at *
  have hss := hEs.size
  have hE19s := hE20.trans hEs
  refine Clones_spec (hbt.sl.ext hE19s) hnl.symm (by omega) fun p7 c7 w22 hE22 ho => ⟨_, _, _, rfl, hE22.keep _, ?_⟩
  obtain ⟨_, hcc7, hx⟩ := ho
  rcases hx with hx | ⟨b7, rest7, hb70, hb71, rfl, _, hc7⟩
  ·omega
  have hQ22 : Cs w22 k19 [i64 (lgV t.l)] := hc22.ext hE22
  have hkn : k19 ≠ b7 := by
   have := hc22.lt
   omega
  rw [← hnl]
  refine Sort_spec (key := ax (lgV t.l)) (Q := fun u => Cs u k19 [i64 (lgV t.l)]) ⟨rest7, hc7⟩ hQ22 (fn2_cmp (lgV_lt t.l) hkn).cmp (by omega) fun w23 hS23 hC23 => ⟨rfl, hC23.keep (by simp; omega), ?_⟩
  have hE1923 : Ext w19 w23 := (hE19s.trans hE22).step hC23 fun j hj => by
   have : j = b7 := hj
   omega
  have hs22 := hE22.size
  have hs23 := hC23.size
  have hB23 := hB19.more hE1923 (b := b7) (by omega) (by omega)
  obtain ⟨rest23, hc23⟩ := hS23
  generalize hSt : stab (ax (lgV t.l)) t.l = S at *
  have hSl : S.length = t.l.length := by rw [← hSt, stab_len]
  rw [show divZ .quo .i64 ((t.l.length : Nat) : Int) 2 = ((t.l.length / 2 : Nat) : Int) by
   rw [quoN (by omega) (by omega) (by omega)]; omega]
  generalize hhalf : t.l.length / 2 = hf2 at *
  refine ⟨by omega, by omega, by omega, ?_⟩
  have ep8 : slcBase (some ⟨b7, 0, none⟩) (0 : Int).toNat c7 4 = some ⟨b7, 0, none⟩ := slcBase0
  rw [ep8, show ((hf2 : Nat) : Int).toNat - (0 : Int).toNat = hf2 by omega, show c7 - (0 : Int).toNat = c7 by omega]
  refine put_spec (t := ⟨some ⟨b7, 0, none⟩, hf2, c7, S.take hf2⟩) hB23 ⟨by show (S.take hf2).length = hf2; rw [List.length_take]; omega, by show hf2 ≤ c7; omega, b7, 0, _, by simp, rfl, hc23, ?_⟩ (by rw [List.length_eraseIdx]; split <;> omega) fun w24 hB24 hkp24 hs24 => ⟨rfl, fun b hb hlt => hkp24 b (by simp at hb ⊢; simp [hb]) hlt, ?_⟩
  ·show cos (S.take hf2) <+: (cos S ++ rest23).drop 0
   refine ⟨cos (S.drop hf2) ++ rest23, ?_⟩
   rw [← List.append_assoc, ← cos_append, List.take_append_drop, List.drop_zero]
  refine ⟨by omega, by omega, by omega, ?_⟩
  have ep9 : slcBase (some ⟨b7, 0, none⟩) ((hf2 : Nat) : Int).toNat c7 4 = some ⟨b7, hf2 * 4, none⟩ := by
   unfold slcBase
   rw [if_neg (by omega)]
   simp only [Option.map_some, loc_add]
   congr 2; omega
  rw [ep9, show ((t.l.length : Nat) : Int).toNat - ((hf2 : Nat) : Int).toNat = t.l.length - hf2 by omega, show c7 - ((hf2 : Nat) : Int).toNat = c7 - hf2 by omega]
  have hc24 : Cs w24 b7 (cos S ++ rest23) := hc23.keep (fun b hb hlt => hkp24 b (List.mem_append_right _ hb) hlt) (by simp)
  refine put_spec (t := ⟨some ⟨b7, hf2 * 4, none⟩, t.l.length - hf2, c7 - hf2, S.drop hf2⟩) hB24 ⟨by show (S.drop hf2).length = t.l.length - hf2; rw [List.length_drop]; omega, by show t.l.length - hf2 ≤ c7 - hf2; omega, b7, hf2 * 4, _, by simp, rfl, hc24, ?_⟩ (by rw [List.length_append, List.length_eraseIdx]; split <;> simp <;> omega) fun w25 hB25 hkp25 hs25 => ⟨rfl, fun b hb hlt => hkp25 b (by simp at hb ⊢; simp [hb]) hlt, ?_, ?_⟩
  ·show cos (S.drop hf2) <+: (cos S ++ rest23).drop (hf2 * 4)
   refine ⟨rest23, ?_⟩
   have : cos S = cos (S.take hf2) ++ cos (S.drop hf2) := by rw [← cos_append, List.take_append_drop]
   rw [this, List.append_assoc, List.drop_left' (by rw [cos_length, List.length_take]; omega)]
  ·refine ⟨rfl, _, _, i + 1, hB25, ?_, by omega, by simp only [List.mem_cons, not_or]; exact ⟨by omega, hk1b⟩⟩
   rw [cut_boxes hT hlens ht (by rw [hSt, hhalf]) (by rw [hSt, hhalf])]; rfl
  ·obtain ⟨s25, c25, hcs25, _⟩ := hB25.own
   have hcell25 := hcs25.cell (i := 0) rfl
   simp only [hcell0, hcell25]
   rw [List.length_append, List.length_append, List.length_eraseIdx]
   have : mxi (T.map Bx.n) T.length < T.length := by rw [e1, e2]; exact hbig1
   rw [if_pos this]
   simp; omega
 ·have hge : T.length = m + 1 := by simp at hge; omega
  have him : i = m := by omega
  subst him
  refine ⟨_, _, _, hcell0, ?_⟩
  obtain ⟨S0, hS1, hS2, ho⟩ := hf0.own
  obtain ⟨⟨o1, o2, o3⟩, hbd⟩ := ho
  rcases o3 with o3 | ⟨bi, resti, hSb, rfl, o4, o5⟩
  ·omega
  have ha18 := hB.avs
  have hbi := hS1 bi hSb
  have hbi' := hbd bi hSb
  have hout : (spN A i).map midC = T.map fun t => midC t.l := by rw [← hT, List.map_map]; rfl
  rw [hout] at hR
  refine ⟨fun vs u => ∃ (q : Option Addr) (c n : Nat), vs = [.slice q n c, i64 n] ∧ n ≤ T.length ∧ Fg (k1 :: bi :: bl) w u 4 q n c (cos ((T.take n).map fun t => midC t.l)) ∧ Cs u bi (T.map Bx.v ++ resti) ∧ ∀ t, t ∈ T → Box u bl t,
   fun vs _ => match vs with | [_, .int _ n] => (T.length - n).toNat | _ => 0, ⟨none, 0, 0, rfl, Nat.zero_le _, ?_, o5, hB.box⟩, fun q26 l26 c26 n26 w26 hI => ?_⟩
  ·have hall : ∀ b, b ∈ k1 :: bi :: bl → w.heap.size ≤ b ∧ b < w18.heap.size := fun b hb => by
    rcases List.mem_cons.1 hb with rfl | hb
    ·exact ha18 _ (by simp)
    ·rcases List.mem_cons.1 hb with rfl | hb
     ·exact ⟨hbi, hbi'⟩
     ·exact ha18 _ (by simp [hb])
   exact Fg.nil' hB.ex (locl_here fun b hb => (hall b hb).2) (fun b hb => (hall b hb).1) 4
  obtain ⟨q, c2, n, hv, hn, hf26, hc26, hbx⟩ := hI
  obtain ⟨rfl, h26, rfl, rfl⟩ : q26 = q ∧ l26 = n ∧ c26 = c2 ∧ n26 = n := by simpa [and_assoc] using hv
  have h26' := h26.symm
  subst h26'
  refine brB_i (fun hlt => ?_) fun hge2 => ?_
  ·have hlt : n < T.length := by simp at hlt; omega
   have hsl : Sl w26.heap.size w26 (some ⟨bi, 0, none⟩) (T.map Bx.v) := hc26.sl (off := 0) (by simp) hc26.lt
   refine hsl.get (i := (n : Int)) (by omega) (by simp) (v := (T[n]).v) (by simp [hlt]) fun a ha => ⟨_, _, _, ha, ?_⟩
   have hbn := hbx _ (List.getElem_mem hlt)
   have hnl := hbn.len
   have hne := (spN_ok (A := A) i (by omega)).ne (T[n]).l (by rw [← hT]; exact List.mem_map_of_mem (List.getElem_mem hlt))
   have hpos2 : 0 < (T[n]).l.length := List.length_pos_iff.2 hne
   have hle2 : (T[n]).l.length ≤ 2 ^ 60 := by
    have h1 := (spN_ok (A := A) i (by omega)).sum
    have h2 := sum_erase ((spN A i).map List.length) n (by rw [← hT]; simpa using hlt)
    have h3 : ((spN A i).map List.length)[n]'(by rw [← hT]; simpa using hlt) = (T[n]).l.length := by simp [← hT]
    omega
   rw [show divZ .quo .i64 (((T[n]).n : Nat) : Int) 2 = (((T[n]).l.length / 2 : Nat) : Int) by
    rw [quoN (by omega) (by omega) (by omega)]; omega]
   refine cos_elem hbn.sl hnl (by omega) (by omega) fun a e1 e2 e3 e4 => ⟨_, _, _, _, e1, e2, e3, e4, fun k32 hk32 w27 hL27 => ?_⟩
   have en : (((T[n]).l.length / 2 : Nat) : Int).toNat = (T[n]).l.length / 2 := by omega
   rw [en]
   have ha26 := hf26.avs
   have hf27 := (hf26.push hL27 (by simp; omega)).mono (bs := k32 :: k1 :: bi :: bl) (by simp)
   have hkk : k1 ≠ bi ∧ k1 ∉ bl := ⟨fun e => hS2 k1 (by simp) (e ▸ hSb), hk1b⟩
   ·have hc27 := hc26.locl hL27 (by have := (ha26 bi (by simp)).2; simp; omega)
    have hk27 : Keep (bi :: bl) w26 w27 := hL27.keep fun b hb hlt => by
     simp only [List.mem_cons, List.not_mem_nil, or_false, not_or]
     refine ⟨by omega, fun e => ?_⟩
     subst e
     rcases List.mem_cons.1 hb with e | e
     ·exact hkk.1 e
     ·exact hkk.2 e
    refine hf27.app' (by simp [blocks]) rfl rfl (by omega) (by omega) fun p' c' w28 hf28 hk28 _ => ?_
    rw [w64 (x := (n : Int) + 1) (by omega) (by omega)]
    refine ⟨⟨p', c', n + 1, by simp, hlt, ?_, hc27.keep hk28 (by simp), fun t ht => ((hbx t ht).keep fun b hb hlt => hk27 b (by simp [hb]) hlt).keep fun b hb hlt => hk28 b (by simp [hb]) hlt⟩, by show ((T.length : Int) - ((n : Int) + 1)).toNat < ((T.length : Int) - n).toNat; omega⟩
    rw [List.take_succ_eq_append_getElem hlt, List.map_append, cos_append]
    exact hf28.mono (fun b hb => List.mem_cons_of_mem _ hb)
  ·have hge2 : n = T.length := by simp at hge2; omega
   subst hge2
   rw [List.take_length] at hf26
   have := hR q26 c26 w26 (by rw [List.length_map]; exact hf26.weak)
   rw [List.length_map] at this
   exact this
end Go.Proofs.Ytiiaihiliimcoaa
namespace Go.Proofs.Ytiiaihiliimcoaa
open Go Go.Vc Go.RowKit Go.Qn
set_option maxRecDepth 100000
abbrev wr (x : Int) : Int := IntKind.i64.wrap x
def farV (p c : Co) : Int := wr (wr (wr (wr (wr p.1 - wr c.1) * wr (wr p.1 - wr c.1)) + wr (wr (wr p.2.1 - wr c.2.1) * wr (wr p.2.1 - wr c.2.1))) + wr (wr (wr p.2.2.1 - wr c.2.2.1) * wr (wr p.2.2.1 - wr c.2.2.1)))
def nearN (l : List Co) (c : Co) : Nat → Int
 | 0 => -1
 | n + 1 => if nearN l c n < 0 then n else if farV (l.getD n zeroC) c < farV (l.getD (nearN l c n).toNat zeroC) c then n else nearN l c n
def nearV (l : List Co) (c : Co) : Int := nearN l c l.length
theorem nearN_range (l : List Co) (c : Co) : ∀ n, -1 ≤ nearN l c n ∧ nearN l c n < n ∧ (0 < n → 0 ≤ nearN l c n)
 | 0 => by simp [nearN]
 | n + 1 => by
  have := nearN_range l c n
  unfold nearN
  split
  ·omega
  ·split <;> omega
theorem Nearest_spec {N : Nat} {w : World} {p : Option Addr} {len cap : Nat} {l : List Co} {c : Co} {R : Ending → World → Prop} (h : Sl N w p (cos l)) (hl : l.length = len) (h62 : len ≤ 2 ^ 40)
  (hR : ∀ w', Ext w w' → R (.returned (i64 (nearV l c))) w') : Calls P F.tones_Nearest #[.slice p len cap, .agg (co c).toArray] w R := by
 refine calls_tones_Nearest _ _ _ _ _ _ _ _ _ ?_
 intro k1 hk1
 refine ⟨fun vs u => ∃ (n : Nat) (best : Int), vs = [i64 (nearN l c n), i64 best, i64 n] ∧ n ≤ len ∧ Ext w u ∧ (0 < n → best = farV (l.getD (nearN l c n).toNat zeroC) c),
  fun vs _ => match vs with | [_, _, .int _ n] => (len - n).toNat | _ => 0, fun w1 hL => ⟨0, 0, rfl, Nat.zero_le _, hL.ext (by simpa using hk1), by omega⟩, fun n1 n2 n3 w2 hI => ?_⟩
 obtain ⟨n, best, hv, hn, hE, hbest⟩ := hI
 obtain ⟨rfl, rfl, rfl⟩ : n1 = nearN l c n ∧ n2 = best ∧ n3 = n := by simpa using hv
 have hr := nearN_range l c n
 have hs := hE.size
 refine brB_i (fun hlt => ?_) fun hge => ?_
 ·have hlt : n < len := by simp at hlt; omega
  refine ⟨fun vs u => ∃ b : Int, vs = [i64 (nearN l c (n + 1)), i64 b] ∧ Ext w u ∧ b = farV (l.getD (nearN l c (n + 1)).toNat zeroC) c, ?_, fun n8 n9 w5 hI => ?_⟩
  ·refine cos_elem (h.ext hE) hl (by omega) (by omega) fun a e1 e2 e3 e4 => ⟨_, _, _, _, e1, e2, e3, e4, fun k2 hk2 => ?_⟩
   have en : (n : Int).toNat = n := by omega
   rw [en]
   have hkk : ∀ b, b ∈ [k2, k1] → w.heap.size ≤ b := by simp; omega
   have hfar : ∀ x : Int, x = farV (l.getD n zeroC) c → x = farV (l.getD n zeroC) c := fun _ h => h
   refine brB_i (fun hb => ?_) fun hb => ?_
   ·intro w3 hL3
    have hb : nearN l c n < 0 ∨ farV (l.getD n zeroC) c < n2 := by
     rcases Bool.or_eq_true_iff.1 hb with hb | hb
     ·exact .inl (of_decide_eq_true hb)
     ·exact .inr (of_decide_eq_true hb)
    have e : nearN l c (n + 1) = n := by
     unfold nearN
     split
     ·rfl
     ·rename_i h0
      rw [if_pos]
      rcases hb with hb | hb
      ·omega
      ·rw [← hbest (by omega)]; exact hb
    exact ⟨farV (l.getD n zeroC) c, by rw [e]; rfl, hE.step hL3.chg hkk, by rw [e, en]⟩
   ·intro w4 hL4
    have hb : ¬ nearN l c n < 0 ∧ ¬ farV (l.getD n zeroC) c < n2 := by
     rw [Bool.or_eq_false_iff] at hb
     exact ⟨of_decide_eq_false hb.1, of_decide_eq_false hb.2⟩
    have e : nearN l c (n + 1) = nearN l c n := by
     rw [nearN, if_neg hb.1, if_neg]
     rw [← hbest (by omega)]; exact hb.2
    exact ⟨_, by rw [e], hE.step hL4.chg hkk, by rw [e]; exact hbest (by omega)⟩
  ·obtain ⟨b, hv, hE5, hb⟩ := hI
   obtain ⟨rfl, rfl⟩ : n8 = nearN l c (n + 1) ∧ n9 = b := by simpa using hv
   rw [w64 (x := (n : Int) + 1) (by omega) (by omega)]
   exact ⟨⟨n + 1, _, by simp, by omega, hE5, fun _ => hb⟩, by show ((len : Int) - ((n : Int) + 1)).toNat < ((len : Int) - n).toNat; omega⟩
 ·have hge : n = len := by simp at hge; omega
  have := hR w2 hE
  unfold nearV at this
  rw [hl] at this
  rw [hge]; exact this
theorem Far_spec {w : World} {x y : Co} {R : Ending → World → Prop} (hR : ∀ w', Ext w w' → R (.returned (i64 (farV x y))) w') : Calls P F.ref08_Far #[.agg (co x).toArray, .agg (co y).toArray] w R := by
 refine calls_ref08_Far _ _ _ _ _ _ _ _ _ _ ?_
 intro k1 hk1 k2 hk2 w1 hL
 exact hR w1 (hL.ext (by simp; omega))
theorem rNearest_spec {N : Nat} {w : World} {p : Option Addr} {len cap : Nat} {l : List Co} {c : Co} {R : Ending → World → Prop} (h : Sl N w p (cos l)) (hl : l.length = len) (h62 : len ≤ 2 ^ 40)
  (hR : ∀ w', Ext w w' → R (.returned (i64 (nearV l c))) w') : Calls P F.ref08_Nearest #[.slice p len cap, .agg (co c).toArray] w R := by
 refine calls_ref08_Nearest _ _ _ _ _ _ _ _ _ ?_
 intro k1 hk1
 refine ⟨fun vs u => ∃ n : Nat, vs = [i64 (nearN l c n), i64 n] ∧ n ≤ len ∧ Ext w u, fun vs _ => match vs with | [_, .int _ n] => (len - n).toNat | _ => 0, fun w1 hL => ⟨0, rfl, Nat.zero_le _, hL.ext (by simpa using hk1)⟩, fun n1 n2 w2 hI => ?_⟩
 obtain ⟨n, hv, hn, hE⟩ := hI
 obtain ⟨rfl, rfl⟩ : n1 = nearN l c n ∧ n2 = n := by simpa using hv
 have hr := nearN_range l c n
 refine brB_i (fun hlt => ?_) fun hge => ?_
 ·have hlt : n < len := by simp at hlt; omega
  refine ⟨fun vs u => vs = [i64 (nearN l c (n + 1))] ∧ Ext w u, ?_, fun n13 w5 hI => ?_⟩
  ·refine brB_i (fun h0 => ?_) fun h0 => ?_
   ·have h0 : nearN l c n < 0 := of_decide_eq_true h0
    exact ⟨by rw [nearN, if_pos h0], hE.drew⟩
   ·have h0 : ¬ nearN l c n < 0 := of_decide_eq_false h0
    refine cos_elem (h.ext hE).drew hl (by omega) (by omega) fun a e1 e2 e3 e4 => ⟨_, _, _, _, e1, e2, e3, e4, ?_⟩
    refine cos_elem (h.ext hE).drew hl (by omega) (by omega) fun a e1 e2 e3 e4 => ⟨_, _, _, _, e1, e2, e3, e4, ?_⟩
    have en : (n : Int).toNat = n := by omega
    rw [en]
    refine Far_spec (x := l.getD n zeroC) (y := c) fun w3 hE3 => ⟨_, rfl, hE3.keep _, hE3.keeps, Far_spec (x := l.getD (nearN l c n).toNat zeroC) (y := c) fun w4 hE4 => ⟨_, rfl, hE4.keep _, ?_⟩⟩
    have hE' := (hE.drew.trans hE3).trans hE4
    refine brB_i (fun hf => ?_) fun hf => ?_
    ·exact ⟨by rw [nearN, if_neg h0, if_pos (of_decide_eq_true hf)], hE'⟩
    ·exact ⟨by rw [nearN, if_neg h0, if_neg (of_decide_eq_false hf)], hE'⟩
  ·obtain ⟨hv, hE5⟩ := hI
   obtain rfl : n13 = nearN l c (n + 1) := by simpa using hv
   rw [w64 (x := (n : Int) + 1) (by omega) (by omega)]
   exact ⟨⟨n + 1, by simp, by omega, hE5⟩, by show ((len : Int) - ((n : Int) + 1)).toNat < ((len : Int) - n).toNat; omega⟩
 ·have hge : n = len := by simp at hge; omega
  have := hR w2 hE
  unfold nearV at this
  rw [hl] at this
  rw [hge]; exact this
theorem rClear_spec {w : World} {c : Co} {R : Ending → World → Prop} (hR : ∀ w', Ext w w' → R (.returned (.bool (clearC c))) w') : Calls P F.ref14_Clear #[.agg (co c).toArray] w R := by
 refine calls_ref14_Clear _ _ _ _ _ _ ?_
 intro k1 hk1 w1 hL
 exact hR w1 (hL.ext (by simpa using hk1))
theorem rEight_spec {w : World} {c : Co} {R : Ending → World → Prop} (h : CoOk c) (hR : ∀ w', Ext w w' → R (.returned (.agg (co (eightC c)).toArray)) w') : Calls P F.ref14_Eight #[.agg (co c).toArray] w R := by
 refine calls_ref14_Eight _ _ _ _ _ _ ?_
 intro k1 hk1 k2 hk2 w1 hL1
 have hb : ∀ b, b ∈ [k2, k1] → w.heap.size ≤ b := by simp; omega
 have hE1 := hL1.ext hb
 refine Round_spec h.1.1 h.1.2 ⟨_, rfl, (Ext.refl _).keep _, Keeps.refl _, Round_spec h.2.1.1 h.2.1.2 ⟨_, rfl, (Ext.refl _).keep _, Keeps.refl _, Round_spec h.2.2.1.1 h.2.2.1.2 ⟨_, rfl, (Ext.refl _).keep _, fun w5 hL5 => ?_⟩⟩⟩
 exact hR w5 (hE1.step hL5.chg hb)
def NoneIs (l : List Co) (i : Nat) (v : Int) : Prop :=
 (v = -1 ∧ ∀ j, i ≤ j → j < l.length → (l.getD j zeroC).2.2.2 ≠ 0) ∨ ∃ k : Nat, i ≤ k ∧ k < l.length ∧ v = k ∧ (l.getD k zeroC).2.2.2 = 0 ∧ ∀ j, i ≤ j → j < k → (l.getD j zeroC).2.2.2 ≠ 0
theorem NoneIs.uniq {l : List Co} {i : Nat} {u v : Int} (h : NoneIs l i u) (k : NoneIs l i v) : u = v := by
 rcases h with ⟨h1, h2⟩ | ⟨x, h1, h2, h3, h4, h5⟩ <;> rcases k with ⟨k1, k2⟩ | ⟨y, k1, k2, k3, k4, k5⟩
 ·omega
 ·exact absurd k4 (h2 y k1 k2)
 ·exact absurd h4 (k2 x h1 h2)
 ·rcases Nat.lt_trichotomy x y with g | g | g
  ·exact absurd h4 (k5 x h1 g)
  ·omega
  ·exact absurd k4 (h5 y k1 g)
def noneF (l : List Co) : Nat → Int
 | 0 => -1
 | n + 1 => if (l.getD (l.length - (n + 1)) zeroC).2.2.2 = 0 then ((l.length - (n + 1) : Nat) : Int) else noneF l n
def noneV (l : List Co) : Int := noneF l l.length
theorem noneF_is (l : List Co) : ∀ n, n ≤ l.length → NoneIs l (l.length - n) (noneF l n)
 | 0, _ => .inl ⟨rfl, fun j h1 h2 => by omega⟩
 | n + 1, h => by
  unfold noneF
  split
  ·rename_i h0
   exact .inr ⟨l.length - (n + 1), Nat.le_refl _, by omega, rfl, h0, fun j h1 h2 => by omega⟩
  ·rename_i h0
   have step : ∀ j, l.length - (n + 1) ≤ j → l.length - n ≤ j ∨ j = l.length - (n + 1) := fun j hj => by omega
   rcases noneF_is l n (by omega) with ⟨h1, h2⟩ | ⟨k, h1, h2, h3, h4, h5⟩
   ·refine .inl ⟨h1, fun j hj hlt => ?_⟩
    rcases step j hj with g | g
    ·exact h2 j g hlt
    ·rw [g]; exact h0
   ·refine .inr ⟨k, by omega, h2, h3, h4, fun j hj hlt => ?_⟩
    rcases step j hj with g | g
    ·exact h5 j g hlt
    ·rw [g]; exact h0
theorem noneV_is (l : List Co) : NoneIs l 0 (noneV l) := by
 have := noneF_is l l.length (Nat.le_refl _)
 rwa [Nat.sub_self] at this
theorem noneV_range (l : List Co) : -1 ≤ noneV l ∧ noneV l < l.length := by
 rcases noneV_is l with ⟨h, _⟩ | ⟨k, _, h1, h2, _⟩ <;> omega
theorem Index_spec {N : Nat} {w : World} {p : Option Addr} {len cap : Nat} {l : List Co} {R : Ending → World → Prop} (h : Sl N w p (cos l)) (hl : l.length = len) (h62 : len ≤ 2 ^ 40)
  (hR : ∀ w', Ext w w' → R (.returned (i64 (noneV l))) w') : Calls P F.slices_IndexFunc_api_Color #[.slice p len cap, .func (.func F.quant_Apply_fn1) #[] #[]] w R := by
 refine calls_slices_IndexFunc_api_Color _ _ _ _ _ _ ?_
 unfold vc_slices_IndexFunc_api_Color
 refine ⟨fun vs u => ∃ n : Nat, vs = [i64 n] ∧ n ≤ len ∧ Ext w u ∧ ∀ j, j < n → (l.getD j zeroC).2.2.2 ≠ 0, fun vs _ => match vs with | [.int _ n] => (len - n).toNat | _ => 0, ⟨0, rfl, Nat.zero_le _, Ext.refl _, fun j hj => by omega⟩, fun n1 w1 hI => ?_⟩
 obtain ⟨n, hv, hn, hE, hj⟩ := hI
 obtain rfl : n1 = n := by simpa using hv
 refine brB_i (fun hlt => ?_) fun hge => ?_
 ·have hlt : n < len := by simp at hlt; omega
  refine cos_elem (h.ext hE) hl (by omega) (by omega) fun a e1 e2 e3 e4 => ⟨_, _, _, _, e1, e2, e3, e4, ?_⟩
  have en : (n : Int).toNat = n := by omega
  rw [en]
  refine callW_i (by kernel_rfl) ?_
  refine calls_quant_Apply_fn1 _ _ _ _ _ _ ?_
  intro k1 hk1 w2 hL
  have hE2 := hE.step hL.chg (by simp; have := hE.size; omega)
  refine ⟨_, rfl, brB_i (fun hb => ?_) fun hb => ?_⟩
  ·have hb : (l.getD n zeroC).2.2.2 = 0 := eq_of_beq hb
   have := (noneV_is l).uniq (.inr ⟨n, Nat.zero_le _, by omega, rfl, hb, fun j _ h => hj j h⟩ : NoneIs l 0 n)
   rw [← this]; exact hR w2 hE2
  ·have hb : (l.getD n zeroC).2.2.2 ≠ 0 := by
    intro e
    rw [e] at hb
    exact absurd hb (by simp)
   rw [w64 (x := (n : Int) + 1) (by omega) (by omega)]
   refine ⟨⟨n + 1, by simp, by omega, hE2, fun j hjn => ?_⟩, by show ((len : Int) - ((n : Int) + 1)).toNat < ((len : Int) - n).toNat; omega⟩
   rcases Nat.lt_or_ge j n with g | g
   ·exact hj j g
   ·rw [show j = n by omega]; exact hb
 ·have hge : n = len := by simp at hge; omega
  have := (noneV_is l).uniq (.inl ⟨rfl, fun j _ h => hj j (by omega)⟩ : NoneIs l 0 (-1))
  rw [← this]; exact hR w1 hE
end Go.Proofs.Ytiiaihiliimcoaa
namespace Go.Proofs.Ytiiaihiliimcoaa
open Go Go.Vc Go.RowKit Go.Qn
set_option maxRecDepth 100000
set_option maxHeartbeats 4000000
abbrev u8 (n : Int) : Value := .int .u8 n
def bytes (xs : List Int) : List Value := xs.map u8
theorem bytes_length (xs : List Int) : (bytes xs).length = xs.length := by simp [bytes]
theorem bytes_get {xs : List Int} {i : Nat} (h : i < xs.length) : (bytes xs)[i]? = some (u8 (xs.getD i 0)) := by simp [bytes, List.getD, h]
theorem bytes_append (xs ys : List Int) : bytes (xs ++ ys) = bytes xs ++ bytes ys := by simp [bytes]
theorem bytes_oneAll (xs : List Int) : oneAll (bytes xs) = true := by simp [oneAll, bytes, Value.oneCell']
def kvI (pal ms : List Co) : List (Value × Value) := ms.map fun c => (.agg (co c).toArray, i64 (nearV pal c))
theorem mfind_kvI (pal : List Co) (c : Co) : ∀ ms : List Co, mfind (.agg (co c).toArray) (kvI pal ms) = if c ∈ ms then some (i64 (nearV pal c)) else none
 | [] => rfl
 | d :: ms => by
  have ih := mfind_kvI pal c ms
  show (match keyEq (.agg (co c).toArray) (.agg (co d).toArray) with | true => some (i64 (nearV pal d)) | false => mfind (.agg (co c).toArray) (kvI pal ms)) = _
  rw [keyEq_co]
  by_cases h : c = d
  ·subst h; simp
  ·simp [h, ih]
theorem mgot_kvI (pal : List Co) (c : Co) (ms : List Co) : mgot (kvI pal ms) (.agg (co c).toArray) (i64 0) = (i64 (if c ∈ ms then nearV pal c else 0), decide (c ∈ ms)) := by
 unfold mgot; rw [mfind_kvI]
 by_cases h : c ∈ ms <;> simp [h]
theorem mput_kvI (pal : List Co) (c : Co) : ∀ ms : List Co, c ∉ ms → mput (.agg (co c).toArray) (i64 (nearV pal c)) (kvI pal ms) = kvI pal (ms ++ [c])
 | [], _ => rfl
 | d :: ms, h => by
  have ih := mput_kvI pal c ms (fun hm => h (by simp [hm]))
  show (match keyEq (.agg (co c).toArray) (.agg (co d).toArray) with | true => ((Value.agg (co c).toArray, i64 (nearV pal c)) :: kvI pal ms) | false => (Value.agg (co d).toArray, i64 (nearV pal d)) :: mput (.agg (co c).toArray) (i64 (nearV pal c)) (kvI pal ms)) = (Value.agg (co d).toArray, i64 (nearV pal d)) :: kvI pal (ms ++ [c])
  rw [keyEq_co]
  have : c ≠ d := fun e => h (by simp [e])
  simp [this, ih]
def idxV (pal : List Co) (c : Co) : Int := IntKind.u8.wrap (if noneV pal < 0 ∨ clearC c = false then nearV pal (eightC c) else noneV pal)
def appR (W H : Int) (xs : List Int) (pal : List Co) : Int × Int × List Co × List Int × Int :=
 if good W H xs then (if pal.length < 1 ∨ 256 < pal.length then (0, 0, [], [], 2) else (W, H, pal, (colsOf xs (W * H).toNat).map (idxV pal), 0)) else (0, 0, [], [], 6)
structure Pald (w w' : World) (p : Option Addr) (n c : Nat) (pal : List Co) (q : Option Addr) (m d : Nat) (ix : List Int) : Prop where
 ext : Ext w w'
 two : ∃ S1 S2 : Nat → Prop, (∀ i, S1 i → w.heap.size ≤ i) ∧ (∀ i, S2 i → w.heap.size ≤ i) ∧ (∀ i, S1 i → ¬ S2 i) ∧ OwB S1 w' p n c 4 (cos pal) ∧ OwB S2 w' q m d 1 (bytes ix)
theorem Pald.nil {w w' : World} (h : Ext w w') : Pald w w' none 0 0 [] none 0 0 [] := ⟨h, fun _ => False, fun _ => False, fun _ h => h.elim, fun _ h => h.elim, fun _ h => h.elim, OwB.nil _ _ _, OwB.nil _ _ _⟩
structure Ap (w u : World) (lo : List Nat) (kb bP gb cb mb : Nat) (g : Option Addr) (W H : Int) (l pal : List Co) (rest : List Value) (ms : List Co) (q : Option Addr) (k c : Nat) (ix : List Int) : Prop where
 fg : Fg (lo ++ [kb, bP, gb, cb, mb]) w u 1 q k c (bytes ix)
 it : Cs u kb [.pointer g]
 pl : Cs u bP (cos pal ++ rest)
 gr : GridC u g gb cb W H l
 mp : Mp kdC u mb (kvI pal ms)
 dj : ∀ b, b ∈ lo → b ≠ kb ∧ b ≠ bP ∧ b ≠ gb ∧ b ≠ cb ∧ b ≠ mb
 dm : mb ≠ kb ∧ mb ≠ bP ∧ mb ≠ gb ∧ mb ≠ cb
section
variable {w u u' : World} {lo : List Nat} {kb bP gb cb mb : Nat} {g : Option Addr} {W H : Int} {l pal : List Co} {rest : List Value} {ms : List Co} {q : Option Addr} {k c : Nat} {ix : List Int}
theorem Ap.there (h : Ap w u lo kb bP gb cb mb g W H l pal rest ms q k c ix) : ∀ b, b ∈ lo ++ [kb, bP, gb, cb, mb] → b < u.heap.size := fun b hb => (h.fg.avs b hb).2
theorem Ap.five (h : Ap w u lo kb bP gb cb mb g W H l pal rest ms q k c ix) : kb < u.heap.size ∧ bP < u.heap.size ∧ gb < u.heap.size ∧ cb < u.heap.size ∧ mb < u.heap.size :=
 ⟨h.there kb (by simp), h.there bP (by simp), h.there gb (by simp), h.there cb (by simp), h.there mb (by simp)⟩
theorem Ap.locl {bs : List Nat} (h : Ap w u lo kb bP gb cb mb g W H l pal rest ms q k c ix) (hL : Locl bs u u') (hb : ∀ b, b ∈ bs → b ∈ lo ∨ u.heap.size ≤ b) : Ap w u' (bs ++ lo) kb bP gb cb mb g W H l pal rest ms q k c ix := by
 obtain ⟨f1, f2, f3, f4, f5⟩ := h.five
 have hd : ∀ b, b ∈ bs → b ≠ kb ∧ b ≠ bP ∧ b ≠ gb ∧ b ≠ cb ∧ b ≠ mb := fun b hm => by
  rcases hb b hm with hx | hx
  ·exact h.dj b hx
  ·omega
 refine ⟨?_, h.it.locl hL fun hm => (hd _ hm).1 rfl, h.pl.locl hL fun hm => (hd _ hm).2.1 rfl, h.gr.chg hL.chg (fun hm => (hd _ hm).2.2.1 rfl) (fun hm => (hd _ hm).2.2.2.1 rfl), h.mp.same (hL.block mb f5 fun hm => (hd _ hm).2.2.2.2 rfl), fun b hm => ?_, h.dm⟩
 ·rw [List.append_assoc]
  exact h.fg.push hL fun b hm => (hb b hm).imp (List.mem_append_left _) id
 ·rcases List.mem_append.1 hm with hm | hm
  ·exact hd b hm
  ·exact h.dj b hm
theorem Ap.mono {lo' : List Nat} (h : Ap w u lo kb bP gb cb mb g W H l pal rest ms q k c ix) (hl : ∀ b, b ∈ lo' → b ∈ lo) : Ap w u lo' kb bP gb cb mb g W H l pal rest ms q k c ix :=
 ⟨h.fg.mono fun b hb => by rcases List.mem_append.1 hb with hb | hb; exact List.mem_append_left _ (hl b hb); exact List.mem_append_right _ hb, h.it, h.pl, h.gr, h.mp, fun b hb => h.dj b (hl b hb), h.dm⟩
theorem Ap.ext (h : Ap w u lo kb bP gb cb mb g W H l pal rest ms q k c ix) (hE : Ext u u') : Ap w u' lo kb bP gb cb mb g W H l pal rest ms q k c ix :=
 ⟨h.fg.step hE, h.it.ext hE, h.pl.ext hE, h.gr.ext hE, h.mp.same (hE.block mb h.five.2.2.2.2), h.dj, h.dm⟩
theorem Ap.put {D : Nat} (h : Ap w u lo kb bP gb cb mb g W H l pal rest ms q k c ix) (hP : Put D u u') (hD : D ∈ lo) : Ap w u' lo kb bP gb cb mb g W H l pal rest ms q k c ix :=
 (h.locl (hP.locl (h.there D (List.mem_append_left _ hD))) fun b hb => by simp at hb; rw [hb]; exact .inl hD).mono fun b hb => List.mem_append_right _ hb
theorem Ap.map {ms' : List Co} (h : Ap w u lo kb bP gb cb mb g W H l pal rest ms q k c ix) (hP : Put mb u u') (hm : Mp kdC u' mb (kvI pal ms')) : Ap w u' lo kb bP gb cb mb g W H l pal rest ms' q k c ix := by
 obtain ⟨d1, d2, d3, d4⟩ := h.dm
 refine ⟨(h.fg.push (hP.locl h.five.2.2.2.2) (by simp)).mono fun b hb => List.mem_append_right _ hb, h.it.put hP (Ne.symm d1), h.pl.put hP (Ne.symm d2), h.gr.chg hP.chg (fun e => d3 (by exact e.symm)) (fun e => d4 (by exact e.symm)), hm, h.dj, h.dm⟩
end
end Go.Proofs.Ytiiaihiliimcoaa
namespace Go.Proofs.Ytiiaihiliimcoaa
open Go Go.Vc
set_option maxRecDepth 100000
def vc_quant_Apply (x1 x2 : Int) (sa1 : Option Addr) (sl1 sc1 : Nat) (sa2 : Option Addr) (sl2 sc2 : Nat) (w : World) (R : Ending → World → Prop) : Prop :=
 ∀ k1 : Nat,
 w.heap.size ≤ k1 →
 ∀ k2 : Nat,
 w.heap.size ≤ k2 →
 ∀ k3 : Nat,
 w.heap.size ≤ k3 →
 ∀ w1 : World,
 Locl [k3, k2, k1] w w1 →
 Calls P F.raster_Grid #[.agg #[.int .i64 x1, .int .i64 x2, .slice sa1 sl1 sc1]] w1 fun e1 w2 =>
 ∃ (p1 : Option Addr) (n1 : Int),
 (e1 = .returned (.tuple #[.pointer p1, .int .i64 n1])) ∧
 Keep [k3, k2, k1] w1 w2 ∧
 brB (n1 != 0)
 (∀ w3 : World,
 Locl [k3, k2, k1] w2 w3 →
 R (.returned (.tuple #[.agg #[.int .i64 0, .int .i64 0, .slice none 0 0, .slice none 0 0], .int .i64 n1])) w3)
 (brB (decide ((sl2 : Int) < 1) || decide ((sl2 : Int) > 256))
 (∀ w4 : World,
 Locl [k3, k2, k1] w2 w4 →
 R (.returned (.tuple #[.agg #[.int .i64 0, .int .i64 0, .slice none 0 0, .slice none 0 0], .int .i64 2])) w4)
 (Calls P F.slices_IndexFunc_api_Color #[.slice sa2 sl2 sc2, .func (Fn.func 49) #[] #[]] w2 fun e2 w5 =>
 ∃ n2 : Int,
 (e2 = .returned (.int .i64 n2)) ∧
 Keep [k3, k2, k1] w2 w5 ∧
 ∀ k4 : Nat,
 w5.heap.size ≤ k4 →
 ∀ w6 : World,
 Locl [k4, k3, k2, k1] w5 w6 →
 ∀ (k5 : Nat) (w7 : World),
 (New w6 (Obj.map #[] 0) k5 w7) →
 ∀ k6 : Nat,
 w7.heap.size ≤ k6 →
 ∃ I1 : List Value → World → Prop,
 ((∀ w8 : World,
 Locl [k6, k4, k3, k2, k1] w7 w8 →
 Calls P F.slices_Clone_api_Color #[.slice sa2 sl2 sc2] w8 fun e3 w9 =>
 ∃ (p2 : Option Addr) (k7 k8 : Nat),
 (e3 = .returned (.slice p2 k7 k8)) ∧
 Keep [k6, k4, k3, k2, k1] w8 w9 ∧
 (Keeps w8 w9) ∧
 ∀ k9 : Nat,
 w9.heap.size ≤ k9 →
 ∀ w10 : World,
 Locl [k9, k6, k4, k3, k2, k1] w9 w10 →
 I1 [.pointer (some { block := k9, off := 0 }), .int .i64 x1, .int .i64 x2, .slice p2 k7 k8, .slice none 0 0] w10) ∧
 ∀ k10 : Nat,
 w7.heap.size ≤ k10 →
 ∀ w11 : World,
 Locl [k10, k6, k4, k3, k2, k1] w7 w11 →
 Calls P F.slices_Clone_api_Color #[.slice sa2 sl2 sc2] w11 fun e4 w12 =>
 ∃ (p3 : Option Addr) (k11 k12 : Nat),
 (e4 = .returned (.slice p3 k11 k12)) ∧
 Keep [k10, k6, k4, k3, k2, k1] w11 w12 ∧
 (Keeps w11 w12) ∧
 ∀ w13 : World,
 Locl [k10, k6, k4, k3, k2, k1] w12 w13 →
 I1 [.pointer (some { block := k10, off := 0 }), .int .i64 x1, .int .i64 x2, .slice p3 k11 k12, .slice none 0 0] w13) ∧
 ∀ (k13 : Nat) (n3 n4 : Int) (p4 : Option Addr) (k14 k15 : Nat) (p5 : Option Addr) (k16 k17 : Nat) (w14 : World),
 (I1 [.pointer (some { block := k13, off := 0 }), .int .i64 n3, .int .i64 n4, .slice p4 k14 k15, .slice p5 k16 k17] w14) →
 Calls P F.grid_Grid_api_Color_All #[.pointer p1] w14 fun e5 w15 =>
 ∃ (y1 : FuncId) (y2 y3 : Array Value),
 (e5 = .returned (.func (Fn.func y1) y2 y3)) ∧
 Keep [k13, k6, k4, k3, k2, k1] w14 w15 ∧
 ∀ (k18 : Nat) (w16 : World),
 (Rf w15 w16 k18) →
 ∀ (I2 : List Value → World → Prop) (Z1 : Exit → List Value → World → Prop),
 (∀ l1 : List Value,
 ∀ w17 w18 : World,
 (I2 l1 w17) →
 (Keep ([k18, w15.heap.size, k13, k6, k4, k3, k2, k1]) w17 w18) →
 I2 l1 w18) →
 (∀ y4 : Exit,
 ∀ (l2 : List Value) (w19 w20 : World),
 (Z1 y4 l2 w19) →
 (Keep ([k18, w15.heap.size, k13, k6, k4, k3, k2, k1]) w19 w20) →
 Z1 y4 l2 w20) →
 (I2 [.int .i64 n3, .int .i64 n4, .slice p4 k14 k15, .slice p5 k16 k17] w16) →
 (∀ n5 : Int,
 ∀ (n6 : Int) (p6 : Option Addr) (k19 k20 : Nat) (p7 : Option Addr) (k21 k22 : Nat) (n7 n8 n9 n10 n11 n12 : Int) (w21 : World) (I3 : Ending → World → Prop),
 (I2 [.int .i64 n5, .int .i64 n6, .slice p6 k19 k20, .slice p7 k21 k22] w21) →
 (∀ y5 : Obj,
 ∀ (y6 : Obj) (k23 : Nat),
 w21.heap.size ≤ k23 →
 ∀ w22 : World,
 Locl [k23, k13, k6, k4, k3, k2, k1] w21 w22 →
 ∀ w23 : World,
 (Put k18 w22 w23) →
 ∃ I4 : List Value → World → Prop,
 (brB (decide (n2 < 0))
 (Calls P F.quant_eight #[.agg #[.int .u16 n9, .int .u16 n10, .int .u16 n11, .int .u16 n12]] w23 fun e6 w24 =>
 ∃ n13 n14 n15 n16 : Int,
 (e6 = .returned (.agg #[.int .u16 n13, .int .u16 n14, .int .u16 n15, .int .u16 n16])) ∧
 Keep [k18, w15.heap.size, k23, k13, k6, k4, k3, k2, k1] w23 w24 ∧
 ∀ w25 : World,
 Locl [k23, k13, k6, k4, k3, k2, k1] w24 w25 →
 mapIn (Kd.agg [.u16, .u16, .u16, .u16]) (w25) (.map (some k5)) fun l3 =>
 ∃ (n17 : Int) (c1 : Bool),
 (mgot l3 (.agg #[.int .u16 n13, .int .u16 n14, .int .u16 n15, .int .u16 n16]) (.int .i64 0) = (.int .i64 n17, c1)) ∧
 brB (!c1)
 (Calls P F.tones_Nearest #[.slice sa2 sl2 sc2, .agg #[.int .u16 n13, .int .u16 n14, .int .u16 n15, .int .u16 n16]] w25 fun e7 w26 =>
 ∃ n18 : Int,
 (e7 = .returned (.int .i64 n18)) ∧
 Keep [k18, w15.heap.size, k23, k13, k6, k4, k3, k2, k1] w25 w26 ∧
 mapTo (Kd.agg [.u16, .u16, .u16, .u16]) (w26) (.map (some k5)) fun b1 l4 =>
 ∀ w27 : World,
 (Put b1 w26 w27) →
 (Mp (Kd.agg [.u16, .u16, .u16, .u16]) w27 b1 (mput (.agg #[.int .u16 n13, .int .u16 n14, .int .u16 n15, .int .u16 n16]) (.int .i64 n18) l4)) →
 I4 [.int .i64 n18, .int .u16 n13, .int .u16 n14, .int .u16 n15, .int .u16 n16] w27)
 (I4 [.int .i64 n17, .int .u16 n13, .int .u16 n14, .int .u16 n15, .int .u16 n16] w25))
 (Calls P F.quant_clear #[.agg #[.int .u16 n9, .int .u16 n10, .int .u16 n11, .int .u16 n12]] w23 fun e8 w28 =>
 ∃ c2 : Bool,
 (e8 = .returned (.bool c2)) ∧
 Keep [k18, w15.heap.size, k23, k13, k6, k4, k3, k2, k1] w23 w28 ∧
 brB (!c2)
 (Calls P F.quant_eight #[.agg #[.int .u16 n9, .int .u16 n10, .int .u16 n11, .int .u16 n12]] w28 fun e9 w29 =>
 ∃ n19 n20 n21 n22 : Int,
 (e9 = .returned (.agg #[.int .u16 n19, .int .u16 n20, .int .u16 n21, .int .u16 n22])) ∧
 Keep [k18, w15.heap.size, k23, k13, k6, k4, k3, k2, k1] w28 w29 ∧
 ∀ w30 : World,
 Locl [k23, k13, k6, k4, k3, k2, k1] w29 w30 →
 mapIn (Kd.agg [.u16, .u16, .u16, .u16]) (w30) (.map (some k5)) fun l5 =>
 ∃ (n23 : Int) (c3 : Bool),
 (mgot l5 (.agg #[.int .u16 n19, .int .u16 n20, .int .u16 n21, .int .u16 n22]) (.int .i64 0) = (.int .i64 n23, c3)) ∧
 brB (!c3)
 (Calls P F.tones_Nearest #[.slice sa2 sl2 sc2, .agg #[.int .u16 n19, .int .u16 n20, .int .u16 n21, .int .u16 n22]] w30 fun e10 w31 =>
 ∃ n24 : Int,
 (e10 = .returned (.int .i64 n24)) ∧
 Keep [k18, w15.heap.size, k23, k13, k6, k4, k3, k2, k1] w30 w31 ∧
 mapTo (Kd.agg [.u16, .u16, .u16, .u16]) (w31) (.map (some k5)) fun b2 l6 =>
 ∀ w32 : World,
 (Put b2 w31 w32) →
 (Mp (Kd.agg [.u16, .u16, .u16, .u16]) w32 b2 (mput (.agg #[.int .u16 n19, .int .u16 n20, .int .u16 n21, .int .u16 n22]) (.int .i64 n24) l6)) →
 I4 [.int .i64 n24, .int .u16 n19, .int .u16 n20, .int .u16 n21, .int .u16 n22] w32)
 (I4 [.int .i64 n23, .int .u16 n19, .int .u16 n20, .int .u16 n21, .int .u16 n22] w30))
 (I4 [.int .i64 n2, .int .u16 n9, .int .u16 n10, .int .u16 n11, .int .u16 n12] w28))) ∧
 ∀ (n25 n26 n27 n28 n29 : Int) (w33 : World),
 (I4 [.int .i64 n25, .int .u16 n26, .int .u16 n27, .int .u16 n28, .int .u16 n29] w33) →
 ∀ k24 : Nat,
 w33.heap.size ≤ k24 →
 ∀ w34 : World,
 Locl [k24, k23, k13, k6, k4, k3, k2, k1] w33 w34 →
 appVC (w34) ([(77, k24, [.int .u8 (IntKind.u8.wrap n25)]), (12, k23, [.int .u16 n26, .int .u16 n27, .int .u16 n28, .int .u16 n29]), (10, k13, [.int .i64 n5, .int .i64 n6, .slice p6 k19 k20, .slice p7 k21 k22]), (9, k6, [.map (some k5)]), (8, k4, [.int .i64 n2]), (4, k3, [.int .i64 0, .int .i64 0, .slice none 0 0, .slice none 0 0]), (3, k2, [.slice sa2 sl2 sc2]), (2, k1, [.int .i64 x1, .int .i64 x2, .slice sa1 sl1 sc1])]) (p7) (k21) (k22) (1) (1) (1) (5) ([.int .u8 0]) ([.int .u8 (IntKind.u8.wrap n25)]) fun p8 k25 k26 w35 =>
 ∀ w36 : World,
 Locl [k24, k23, k13, k6, k4, k3, k2, k1] w35 w36 →
 ∀ w37 : World,
 (Put k18 w36 w37) →
 (I2 [.int .i64 n5, .int .i64 n6, .slice p6 k19 k20, .slice p8 k25 k26] w37) →
 I3 (.returned (.bool true)) w37) →
 YieldAt Fence.wide 0 P (k18) #[.agg #[.int .i64 n7, .int .i64 n8], .agg #[.int .u16 n9, .int .u16 n10, .int .u16 n11, .int .u16 n12]] (w21) I3) →
 callF P (.func (Fn.func y1) y2 y3) [.func (Fn.yield k18) #[] #[]] w16 fun e11 w38 =>
 ∃ v1 : Value,
 (e11 = .returned v1) ∧
 ((∃ n30 : Int,
 ∃ (n31 : Int) (p9 : Option Addr) (k27 k28 : Nat) (p10 : Option Addr) (k29 k30 : Nat),
 (I2 [.int .i64 n30, .int .i64 n31, .slice p9 k27 k28, .slice p10 k29 k30] w38) ∧
 ∀ w39 : World,
 (Put k18 w38 w39) →
 ∀ w40 : World,
 Locl [k13, k6, k4, k3, k2, k1] w39 w40 →
 ∀ w41 : World,
 (Put (w15.heap.size) w40 w41) →
 R (.returned (.tuple #[.agg #[.int .i64 n30, .int .i64 n31, .slice p9 k27 k28, .slice p10 k29 k30], .int .i64 0])) w41) ∨
 (False))))
theorem calls_quant_Apply (x1 x2 : Int) (sa1 : Option Addr) (sl1 sc1 : Nat) (sa2 : Option Addr) (sl2 sc2 : Nat) (w : World) (R : Ending → World → Prop) (h : vc_quant_Apply x1 x2 sa1 sl1 sc1 sa2 sl2 sc2 w R) : Calls P F.quant_Apply #[.agg #[.int .i64 x1, .int .i64 x2, .slice sa1 sl1 sc1], .slice sa2 sl2 sc2] w R :=
  calls_of_vc (ac := ac_quant_Apply) mixed Try.func21 (by kernel_rfl) (cast (by unfold vc_quant_Apply FnVc; kernel_rfl) h)
end Go.Proofs.Ytiiaihiliimcoaa
namespace Go.Proofs.Ytiiaihiliimcoaa
open Go Go.Vc Go.RowKit Go.Qn
set_option maxRecDepth 100000
set_option maxHeartbeats 4000000
theorem Apply_spec {N : Nat} {w : World} {p pp : Option Addr} {len cap pn pc' : Nat} {W H : Int} {xs : List Int} {pal : List Co} {R : Ending → World → Prop} (h : Img w p len xs) (hc : len ≤ cap) (hok : PxOk xs)
  (hpal : Sl N w pp (cos pal)) (hpn : pal.length = pn) (hpc : pn * 8 ≤ 2 ^ 47)
  (hR : ∀ p1 c1 q1 d1 w', Pald w w' p1 (appR W H xs pal).2.2.1.length c1 (appR W H xs pal).2.2.1 q1 (appR W H xs pal).2.2.2.1.length d1 (appR W H xs pal).2.2.2.1 →
   R (.returned (.tuple #[.agg #[i64 (appR W H xs pal).1, i64 (appR W H xs pal).2.1, .slice p1 (appR W H xs pal).2.2.1.length c1, .slice q1 (appR W H xs pal).2.2.2.1.length d1], i64 (appR W H xs pal).2.2.2.2])) w') :
  Calls P F.quant_Apply #[.agg #[i64 W, i64 H, .slice p len cap], .slice pp pn pc'] w R := by
 subst hpn
 refine calls_quant_Apply _ _ _ _ _ _ _ _ _ _ ?_
 intro k1 hk1 k2 hk2 k3 hk3 w1 hL1
 have hE1 : Ext w w1 := hL1.ext (by simp; omega)
 have hs1 := hL1.size
 have ht1 := hL1.there k1 (by simp)
 have ht2 := hL1.there k2 (by simp)
 have ht3 := hL1.there k3 (by simp)
 have hk0 : ∀ b, b ∈ [k3, k2, k1] → w.heap.size ≤ b := by simp; omega
 refine Grid_spec (h.ext hE1) hc (fun hb w2 hE2 => ⟨_, _, rfl, hE2.keep _, brB_t (by decide) fun w3 hL3 => ?_⟩) fun hb gb cb w2 hE2 hgb hcb hgr => ⟨_, _, rfl, hE2.keep _, brB_f (by decide) ?_⟩
 ·rw [appR, if_neg (by simp [hb])] at hR
  exact hR none 0 none 0 w3 (Pald.nil ((hE1.trans hE2).step hL3.chg hk0))
 have hE12 := hE1.trans hE2
 have hs2 := hE2.size
 refine brB_i (fun hm => ?_) fun hm => ?_
 ·intro w4 hL4
  have hm : pal.length < 1 ∨ 256 < pal.length := by simp at hm; omega
  rw [appR, if_pos hb, if_pos hm] at hR
  exact hR none 0 none 0 w4 (Pald.nil (hE12.step hL4.chg hk0))
 have hm : ¬ (pal.length < 1 ∨ 256 < pal.length) := by
  intro hx
  rcases hx with hx | hx
  ·simp [show ((pal.length : Nat) : Int) < 1 by omega] at hm
  ·simp [show ((pal.length : Nat) : Int) > 256 by omega] at hm
 rw [appR, if_pos hb, if_neg hm] at hR
 refine Index_spec (hpal.ext hE12) rfl (by omega) fun w5 hE5 => ⟨_, rfl, hE5.keep _, fun k4 hk4 w6 hL6 k5 w7 hn7 k6 hk6 => ?_⟩
 have hs5 := hE5.size
 have hs6 := hL6.size
 have hE15 := hE12.trans hE5
 have hE6 : Ext w w6 := hE15.step hL6.chg (by have := hE15.size; simp; omega)
 have hk5 : k5 = w6.heap.size := hn7.1
 have hk5' := hn7.size
 have hE7 := hE6.trans hn7.ext
 have hs7 := hn7.ext.size
 have hgl := hgr.lt
 have hg5 := hgr.ext hE5
 have hg6 := hg5.chg hL6.chg (by simp; omega) (by simp; omega)
 have hg7 := hg6.ext hn7.ext
 have hm7 : Mp kdC w7 k5 (kvI pal []) := hn7.mp _
 have ht4 := hL6.there k4 (by simp)
 refine ⟨fun vs u => ∃ (kx bP c : Nat) (rest : List Value), vs = [.pointer (some ⟨kx, 0, none⟩), i64 W, i64 H, .slice (some ⟨bP, 0, none⟩) pal.length c, .slice none 0 0] ∧ Ext w u ∧ w7.heap.size ≤ kx ∧ kx < u.heap.size ∧ kx ≠ bP ∧ k6 < u.heap.size ∧ w7.heap.size ≤ bP ∧ bP < u.heap.size ∧ bP ≠ k6 ∧
   w7.heap.size ≤ u.heap.size ∧ Cs u bP (cos pal ++ rest) ∧ pal.length ≤ c ∧ c * 4 = (cos pal).length + rest.length ∧ GridC u (some ⟨gb, 0, none⟩) gb cb W H (colsOf xs (W * H).toNat) ∧ Mp kdC u k5 (kvI pal []), ⟨fun w8 hL8 => ?_, fun k10 hk10 w11 hL11 => ?_⟩, fun kx n3 n4 p4 l4 c4 p5 l5 c5 w14 hI => ?_⟩
 ·have hs8 := hL8.size
  have hE8 : Ext w w8 := hE7.step hL8.chg (by have := hE7.size; simp; omega)
  have ht6 := hL8.there k6 (by simp)
  refine Clones_spec (hpal.ext hE8) rfl (by omega) fun p2 c2 w9 hE9 ho => ⟨_, _, _, rfl, hE9.keep _, hE9.keeps, fun k9 hk9 w10 hL10 => ?_⟩
  obtain ⟨_, o2, o3⟩ := ho
  rcases o3 with o3 | ⟨bP, rest, b0, b1, rfl, o4, o5⟩
  ·omega
  have hs9 := hE9.size
  have hs10 := hL10.size
  refine ⟨k9, bP, c2, rest, rfl, (hE8.trans hE9).step hL10.chg (by have := hE7.size; simp; omega), by omega, hL10.there k9 (by simp), by omega, by omega, by omega, by omega, by omega, by omega, o5.locl hL10 (by simp; omega), o2, o4, ?_, ?_⟩
  ·exact ((hg7.chg hL8.chg (by simp; omega) (by simp; omega)).ext hE9).chg hL10.chg (by simp; omega) (by simp; omega)
  ·exact ((hm7.same (hL8.block k5 hk5' (by simp; omega))).same (hE9.block k5 (by omega))).same (hL10.block k5 (by omega) (by simp; omega))
 ·have hs8 := hL11.size
  have hE8 : Ext w w11 := hE7.step hL11.chg (by have := hE7.size; simp; omega)
  have ht6 := hL11.there k6 (by simp)
  have ht10 := hL11.there k10 (by simp)
  refine Clones_spec (hpal.ext hE8) rfl (by omega) fun p2 c2 w9 hE9 ho => ⟨_, _, _, rfl, hE9.keep _, hE9.keeps, fun w10 hL10 => ?_⟩
  obtain ⟨_, o2, o3⟩ := ho
  rcases o3 with o3 | ⟨bP, rest, b0, b1, rfl, o4, o5⟩
  ·omega
  have hs9 := hE9.size
  have hs10 := hL10.size
  refine ⟨k10, bP, c2, rest, rfl, (hE8.trans hE9).step hL10.chg (by have := hE7.size; simp; omega), by omega, by omega, by omega, by omega, by omega, by omega, by omega, by omega, o5.locl hL10 (by simp; omega), o2, o4, ?_, ?_⟩
  ·exact ((hg7.chg hL11.chg (by simp; omega) (by simp; omega)).ext hE9).chg hL10.chg (by simp; omega) (by simp; omega)
  ·exact ((hm7.same (hL11.block k5 hk5' (by simp; omega))).same (hE9.block k5 (by omega))).same (hL10.block k5 (by omega) (by simp; omega))
 obtain ⟨kx', bP, cP, rest, hv, hE14, x1, x2, x3, x5, x6, x7, x8, x9, hPl, hPc, hPr, hG14, hM14⟩ := hI
 simp only [List.cons.injEq, Value.pointer.injEq, Option.some.injEq, Addr.mk.injEq, Value.int.injEq, Value.slice.injEq, true_and, and_true] at hv
 obtain ⟨hkx, hW, hH, ⟨rfl, rfl, hcP⟩, ⟨rfl, rfl, rfl⟩⟩ := hv
 subst hkx
 have hW := hW.symm
 have hH := hH.symm
 have hcP := hcP.symm
 subst hW hH hcP
 refine GAll_spec fun kb w15 hE15' hkb hcb15 => ⟨_, _, _, rfl, hE15'.keep _, fun k18 w16 hrf I2 Z1 stI stZ hI0 rule => ?_⟩
 have hs15 := hE15'.size
 have hk18 := hrf.eq
 have hs16 := hrf.size
 have hE16 := hrf.ext
 have hkb15 := hcb15.lt
 have hss7 := hE7.size
 refine callF_i (by kernel_rfl) ?_
 have hlen := hG14.len
 generalize hl : colsOf xs (W * H).toNat = l at *
 have hlok : ∀ c, c ∈ l → CoOk c := fun c hcm => by
  rw [← hl] at hcm
  unfold colsOf at hcm
  obtain ⟨i, _, rfl⟩ := List.mem_map.1 hcm
  exact colAt_ok hok i
 have hwg : w.heap.size ≤ gb ∧ w.heap.size ≤ cb := by omega
 have hA16 : Ap w w16 [k18, w15.heap.size, kx, k6, k4, k3, k2, k1] kb bP gb cb k5 (some ⟨gb, 0, none⟩) W H l pal rest [] none 0 0 [] := by
  have hE := (hE14.trans hE15').trans hE16
  refine ⟨?_, hcb15.ext hE16, (hPl.ext hE15').ext hE16, (hG14.ext hE15').ext hE16, (hM14.same (hE15'.block k5 (by omega))).same (hE16.block k5 (by omega)), ?_, by omega⟩
  ·exact Fg.nil' hE (locl_here (by simp; omega)) (by simp; omega) 1
  ·intro b hb
   simp at hb
   omega
 let J : Nat → World → Prop := fun k u => ∃ (q : Option Addr) (c : Nat) (ms : List Co), I2 [i64 W, i64 H, .slice (some ⟨bP, 0, none⟩) pal.length cP, .slice q k c] u ∧ Ap w u [k18, w15.heap.size, kx, k6, k4, k3, k2, k1] kb bP gb cb k5 (some ⟨gb, 0, none⟩) W H l pal rest ms q k c ((l.take k).map (idxV pal))
 refine GAll_iter J (q := some ⟨gb, 0, none⟩) (gb := gb) (cb := cb) (W := W) (H := H) (l := l) (fun k u ⟨q, c, ms, j1, j2⟩ => ⟨j2.it.cell (i := 0) rfl, j2.gr⟩) ?_ (fun k u hk ⟨q, c, ms, j1, j2⟩ => ?_) (fun u ⟨q, c, ms, j1, j2⟩ => ?_)
 ·exact ⟨none, 0, [], stI _ _ _ hI0 ((Ext.refl w16).drew.keep _), hA16.ext (Ext.refl w16).drew⟩
 ·have hco := hlok _ (getD_mem hk)
  have hkl : k < 2 ^ 30 := by have := hG14.dims; omega
  refine rule _ _ _ _ _ _ _ _ _ _ (l.getD k zeroC).1 (l.getD k zeroC).2.1 (l.getD k zeroC).2.2.1 (l.getD k zeroC).2.2.2 u.drew _ (stI _ _ _ j1 ((Ext.refl u).drew.keep _)) fun y5 y6 k23 hk23 w22 hL22 w23 hP23 => ?_
  generalize hcl : l.getD k zeroC = cl at *
  have A2 := (j2.ext (Ext.refl u).drew).locl hL22 (fun b hb => by have e : u.drew.heap.size = u.heap.size := rfl; rw [e] at hk23 ⊢; simp at hb ⊢; omega)
  have A3 := (A2.put hP23 (by simp)).mono (lo' := [k23, k18, w15.heap.size, kx, k6, k4, k3, k2, k1]) (by simp)
  refine ⟨fun vs u' => ∃ (d : Co) (n : Int), vs = i64 n :: co d ∧ IntKind.u8.wrap n = idxV pal cl ∧ ∃ ms', Ap w u' [k23, k18, w15.heap.size, kx, k6, k4, k3, k2, k1] kb bP gb cb k5 (some ⟨gb, 0, none⟩) W H l pal rest ms' q k c ((l.take k).map (idxV pal)), ?_, fun n25 n26 n27 n28 n29 w33 hI => ?_⟩
  ·refine brB_i (fun hn => ?_) fun hn => ?_
   ·have hn : noneV pal < 0 := of_decide_eq_true hn
    refine eight_spec hco fun wa hEa => ⟨_, _, _, _, rfl, hEa.keep _, fun wb hLb => ?_⟩
    have Ab := ((A3.ext hEa).locl hLb (by simp)).mono (lo' := [k23, k18, w15.heap.size, kx, k6, k4, k3, k2, k1]) (by simp)
    refine ⟨_, Ab.mp, _, _, mgot_kvI pal (eightC cl) ms, ?_⟩
    refine brB_i (fun hnew => ?_) fun hold => ?_
    ·have hnew : eightC cl ∉ ms := by simpa using hnew
     refine Nearest_spec (c := eightC cl) (hpal.ext Ab.fg.ext) rfl (by omega) fun wc hEc => ⟨_, rfl, hEc.keep _, ?_⟩
     have Ac := Ab.ext hEc
     refine ⟨_, Ac.mp, fun wd hPd hmd => ?_⟩
     have hmd' : Mp kdC wd k5 (kvI pal (ms ++ [eightC cl])) := by rw [← mput_kvI pal _ _ hnew]; exact hmd
     exact ⟨eightC cl, nearV pal (eightC cl), rfl, by unfold idxV; rw [if_pos (.inl hn)], _, Ac.map hPd hmd'⟩
    ·have hold : eightC cl ∈ ms := by simpa using hold
     refine ⟨eightC cl, _, rfl, ?_, _, Ab⟩
     rw [if_pos hold]; unfold idxV; rw [if_pos (.inl hn)]
   ·have hn : ¬ noneV pal < 0 := of_decide_eq_false hn
    refine clear_spec (c := cl) fun wz hEz => ⟨_, rfl, hEz.keep _, ?_⟩
    have A3' := A3.ext hEz
    clear A3 A2
    have A3 := A3'
    refine brB_i (fun hcl' => ?_) fun hcl' => ?_
    ·have hcl' : clearC cl = false := by simpa using hcl'
     refine eight_spec hco fun wa hEa => ⟨_, _, _, _, rfl, hEa.keep _, fun wb hLb => ?_⟩
     have Ab := ((A3.ext hEa).locl hLb (by simp)).mono (lo' := [k23, k18, w15.heap.size, kx, k6, k4, k3, k2, k1]) (by simp)
     refine ⟨_, Ab.mp, _, _, mgot_kvI pal (eightC cl) ms, ?_⟩
     refine brB_i (fun hnew => ?_) fun hold => ?_
     ·have hnew : eightC cl ∉ ms := by simpa using hnew
      refine Nearest_spec (c := eightC cl) (hpal.ext Ab.fg.ext) rfl (by omega) fun wc hEc => ⟨_, rfl, hEc.keep _, ?_⟩
      have Ac := Ab.ext hEc
      refine ⟨_, Ac.mp, fun wd hPd hmd => ?_⟩
      have hmd' : Mp kdC wd k5 (kvI pal (ms ++ [eightC cl])) := by rw [← mput_kvI pal _ _ hnew]; exact hmd
      exact ⟨eightC cl, nearV pal (eightC cl), rfl, by unfold idxV; rw [if_pos (.inr hcl')], _, Ac.map hPd hmd'⟩
     ·have hold : eightC cl ∈ ms := by simpa using hold
      refine ⟨eightC cl, _, rfl, ?_, _, Ab⟩
      rw [if_pos hold]; unfold idxV; rw [if_pos (.inr hcl')]
    ·have hcl' : clearC cl = true := by simpa using hcl'
     exact ⟨cl, noneV pal, rfl, by unfold idxV; rw [if_neg (by simp [hn, hcl'])], _, A3⟩
  ·obtain ⟨d, n, hv, hn, ms', A33⟩ := hI
   obtain rfl : n25 = n := by
    simp only [co, List.cons.injEq, Value.int.injEq, true_and] at hv
    exact hv.1
   intro k24 hk24 w34 hL34
   have A34 := (A33.locl hL34 (by simp; omega)).mono (lo' := [k24, k23, k18, w15.heap.size, kx, k6, k4, k3, k2, k1]) (by simp)
   rw [hn]
   refine A34.fg.app' (by simp [blocks]) rfl rfl (by omega) (by omega) fun q2 c2 w35 f35 kp35 _ w36 hL36 w37 hP37 hI37 => .inl ⟨rfl, q2, c2, ms', hI37, ?_⟩
   have five := A34.five
   have A35 : Ap w w35 [k24, k23, k18, w15.heap.size, kx, k6, k4, k3, k2, k1] kb bP gb cb k5 (some ⟨gb, 0, none⟩) W H l pal rest ms' q2 (k + 1) c2 ((l.take (k + 1)).map (idxV pal)) := by
    refine ⟨?_, A34.it.keep kp35 (by simp), A34.pl.keep kp35 (by simp), ?_, A34.mp.same (kp35 k5 (by simp) five.2.2.2.2).2, A34.dj, A34.dm⟩
    ·have e : (l.take (k + 1)).map (idxV pal) = (l.take k).map (idxV pal) ++ [idxV pal cl] := by
      rw [List.take_succ_eq_append_getElem hk, List.map_append, List.map_singleton, ← hcl]
      simp [List.getD, hk]
     rw [e, bytes_append]
     exact f35
    ·obtain ⟨r, cc, g3, g5, g4⟩ := A34.gr.cells
     exact ⟨A34.gr.ptr, ⟨r, cc, g3.keep kp35 (by simp), g5, g4.keep kp35 (by simp)⟩, A34.gr.ne, A34.gr.ok, A34.gr.len⟩
   exact (((A35.locl hL36 (by simp)).put hP37 (by simp)).mono (by simp))
 ·have hll : l.length = (W * H).toNat := by rw [← hl, colsOf_length]
  refine ⟨_, rfl, .inl ⟨_, _, _, _, _, _, _, _, j1, fun w39 hP39 w40 hL40 w41 hP41 => ?_⟩⟩
  have Az := ((((j2.put hP39 (by simp)).locl hL40 (by simp)).put hP41 (by simp)).mono (lo' := [k18, w15.heap.size, kx, k6, k4, k3, k2, k1]) (by simp))
  rw [List.take_of_length_le (Nat.le_refl _)] at Az
  obtain ⟨S, s1, s2, s3⟩ := Az.fg.own
  have := hR (some ⟨bP, 0, none⟩) cP q c w41 ⟨Az.fg.ext, fun i => i = bP, S, fun i hi => ?_, s1, fun i hi hS => ?_, ⟨⟨by rw [cos_length], hPc, .inr ⟨bP, rest, rfl, rfl, hPr, Az.pl⟩⟩, fun i hi => ?_⟩, ?_⟩
  ·simp only [List.length_map] at this
   exact this
  ·rw [hi]; omega
  ·rw [hi] at hS; exact s2 bP (by simp) hS
  ·rw [hi]; exact Az.five.2.1
  ·simp only [List.length_map]; exact s3
end Go.Proofs.Ytiiaihiliimcoaa
namespace Go.Proofs.Ytiiaihiliimcoaa
open Go Go.Vc Go.RowKit Go.Qn
set_option maxRecDepth 100000
set_option maxHeartbeats 4000000
def Bs (xs : List Int) : Prop := ∀ n ∈ xs, 0 ≤ n ∧ n ≤ 255
end Go.Proofs.Ytiiaihiliimcoaa
namespace Go.Proofs.Ytiiaihiliimcoaa
open Go Go.Vc Go.RowKit
set_option maxRecDepth 100000
theorem clone_spec {N : Nat} {w : World} {base : Option Addr} {len cap : Nat} {xs : List Int} {R : Ending → World → Prop}
  (h : Sl N w base (bytes xs)) (hl : len = xs.length) (hsz : len ≤ 2 ^ 47)
  (hR : ∀ p k w', Ext w w' → Ow w.heap.size w'.heap.size w' p len k 1 (bytes xs) → R (.returned (.slice p len k)) w') :
  Calls P F.slices_Clone_byte #[.slice base len cap] w R := by
 refine calls_slices_Clone_byte _ _ _ _ _ ?_
 unfold vc_slices_Clone_byte
 refine brB_i (fun hn => ?_) (fun _ k1 w1 hnew => ⟨bytes xs, by rw [bytes_length]; omega, bytes_oneAll _, (h.ext hnew.ext).cells, ?_⟩)
 ·have hx : xs = [] := by
   cases xs with
   | nil => rfl
   | cons x xs => obtain ⟨a, ha, _⟩ := h 0 (u8 x) rfl; subst ha; cases hn
  subst hx
  have hl0 : len = 0 := by simpa using hl
  subst hl0
  exact hR none 0 w (Ext.refl w) (Ow.nil _ _ _ _ _)
 ·have hsz' := hnew.ext.size
  refine (Ow.nil w.heap.size w1.heap.size w1 (some ⟨k1, 0, none⟩) 1).app (by simp [blocks]) hsz' (Nat.le_refl _) rfl (by rw [bytes_length]; omega) (by omega) (by omega) fun p k w2 ho hc => ?_
  rw [Nat.zero_add] at ho ⊢
  exact hR p k w2 (hnew.ext.step hc fun i hi => hi.1) (by simpa using ho)
theorem bown_spec {N : Nat} {w : World} {base : Option Addr} {len cap : Nat} {xs : List Int} {R : Ending → World → Prop}
  (h : Sl N w base (bytes xs)) (hl : len = xs.length) (hsz : len ≤ 2 ^ 47)
  (hR : ∀ p k w', Ext w w' → Ow w.heap.size w'.heap.size w' p len k 1 (bytes xs) → R (.returned (.slice p len k)) w') :
  Calls P F.law15_own #[.slice base len cap] w R := by
 refine calls_law15_own _ _ _ _ _ ?_
 unfold vc_law15_own
 refine fun k1 w1 hnew => ⟨bytes xs, by rw [bytes_length]; omega, bytes_oneAll _, (h.ext hnew.ext).cells, ?_⟩
 have hsz' := hnew.ext.size
 refine (Ow.nil w.heap.size w1.heap.size w1 (some ⟨k1, 0, none⟩) 1).app (by simp [blocks]) hsz' (Nat.le_refl _) rfl (by rw [bytes_length]; omega) (by omega) (by omega) fun p k w2 ho hc => ?_
 rw [Nat.zero_add] at ho ⊢
 exact hR p k w2 (hnew.ext.step hc fun i hi => hi.1) (by simpa using ho)
/-- the place of a bit in its byte -/
def placeOf (up : Bool) (i : Int) : Int := if up then 7 - i % 8 else i % 8
def placeN (up : Bool) : FuncId := if up then F.bits_high else F.bits_low
def placeF (up : Bool) : Value := .func (.func (placeN up)) #[] #[]
theorem u64_nn {x : Int} (h0 : 0 ≤ x) (h1 : x ≤ 18446744073709551615) : IntKind.u64.wrap x = x := by
 rw [IntKind.wrap]; simp [IntKind.signed, IntKind.bits]; omega
theorem high_spec {i : Int} {w : World} {R : Ending → World → Prop} (h0 : 0 ≤ i) (h1 : i ≤ 9223372036854775807) (hR : R (.returned (.int .u64 (7 - i % 8))) w) : Calls P F.bits_high #[i64 i] w R := by
 refine calls_bits_high _ _ _ ?_
 unfold vc_bits_high
 rw [u64_nn h0 (by omega)]
 simp only [divZ]
 rw [Int.tmod_eq_emod_of_nonneg h0, u64_nn (by omega) (by omega)]
 exact hR
theorem low_spec {i : Int} {w : World} {R : Ending → World → Prop} (h0 : 0 ≤ i) (h1 : i ≤ 9223372036854775807) (hR : R (.returned (.int .u64 (i % 8))) w) : Calls P F.bits_low #[i64 i] w R := by
 refine calls_bits_low _ _ _ ?_
 unfold vc_bits_low
 rw [u64_nn h0 (by omega)]
 simp only [divZ]
 rw [Int.tmod_eq_emod_of_nonneg h0]
 exact hR
structure RdAt (w : World) (q : Option Addr) (rb : Nat) (S : Nat → Prop) (bs : List Int) (k : Int) (up : Bool) : Prop where
 ptr : q = some ⟨rb, 0, none⟩
 obj : ∃ base cap, Cs w rb [.slice base bs.length cap, i64 k, .bool up, placeF up] ∧ OwnS S w base bs.length cap 1 (bytes bs)
 ne : ¬ S rb
 room : bs.length ≤ 2 ^ 47
 fit : Bs bs
 lo : 0 ≤ k
 hi : k ≤ 8 * bs.length
theorem RdAt.chg {w w' : World} {q : Option Addr} {rb : Nat} {S T : Nat → Prop} {bs : List Int} {k : Int} {up : Bool} (h : RdAt w q rb S bs k up) (hc : Chg T w w') (h1 : ¬ T rb) (h2 : ∀ b, S b → b < w.heap.size → ¬ T b) : RdAt w' q rb S bs k up := by
 obtain ⟨base, cap, h3, h4⟩ := h.obj
 exact ⟨h.ptr, ⟨base, cap, h3.chg hc h1, h4.chg hc h2⟩, h.ne, h.room, h.fit, h.lo, h.hi⟩
theorem RdAt.ext {w w' : World} {q : Option Addr} {rb : Nat} {S : Nat → Prop} {bs : List Int} {k : Int} {up : Bool} (h : RdAt w q rb S bs k up) (hc : Ext w w') : RdAt w' q rb S bs k up :=
 h.chg (T := fun _ => False) hc.chg id (fun _ _ _ h => h)
theorem Left_spec {w : World} {q : Option Addr} {rb : Nat} {S : Nat → Prop} {bs : List Int} {k : Int} {up : Bool} {R : Ending → World → Prop} (h : RdAt w q rb S bs k up)
  (hR : R (.returned (i64 (8 * bs.length - k))) w.drew) : Calls P F.bits_Reader_Left #[.pointer q] w R := by
 refine calls_bits_Reader_Left _ _ _ ?_
 have hr := h.room
 have h1 := h.lo
 have h2 := h.hi
 obtain rfl := h.ptr
 obtain ⟨base, cap, h3, h4⟩ := h.obj
 refine brB_f rfl (nn_i rfl ⟨_, _, _, h3.drew.cell (i := 0) rfl, nn_i rfl ⟨_, h3.drew.cell (i := 1) rfl, ?_⟩⟩)
 rw [w64 (x := 8 * (bs.length : Int)) (by omega) (by omega), w64 (by omega) (by omega)]
 exact hR
def bitAt (bs : List Int) (up : Bool) (i : Nat) : Int := (bs.getD (i / 8) 0 / 2 ^ (if up then 7 - i % 8 else i % 8)) % 2
def takeV (bs : List Int) (up : Bool) (i : Nat) : Nat → Int
 | 0 => 0
 | n + 1 => if up then 2 * takeV bs up i n + bitAt bs up (i + n) else takeV bs up i n + bitAt bs up (i + n) * 2 ^ n
theorem bitAt_range (bs : List Int) (up : Bool) (i : Nat) : 0 ≤ bitAt bs up i ∧ bitAt bs up i ≤ 1 := by unfold bitAt; omega
theorem takeV_range (bs : List Int) (up : Bool) (i : Nat) : ∀ n, 0 ≤ takeV bs up i n ∧ takeV bs up i n < 2 ^ n
 | 0 => by simp [takeV]
 | n + 1 => by
  have ih := takeV_range bs up i n
  have hb := bitAt_range bs up (i + n)
  have hp : (0 : Int) < 2 ^ n := Int.pow_pos (by omega)
  rw [takeV, Int.pow_succ]
  split
  ·omega
  ·rcases (by omega : bitAt bs up (i + n) = 0 ∨ bitAt bs up (i + n) = 1) with e | e <;> rw [e] <;> omega
theorem placeF_calls {up : Bool} {i : Int} {w : World} {R : Ending → World → Prop} (h0 : 0 ≤ i) (h1 : i ≤ 9223372036854775807) (hR : R (.returned (.int .u64 (placeOf up i))) w) : callV P (placeF up) [i64 i] w R := by
 cases up
 ·exact callV_i (by kernel_rfl) (low_spec h0 h1 (by simpa [placeOf] using hR))
 ·exact callV_i (by kernel_rfl) (high_spec h0 h1 (by simpa [placeOf] using hR))
end Go.Proofs.Ytiiaihiliimcoaa
namespace Go.Proofs.Ytiiaihiliimcoaa
open Go Go.Vc Go.RowKit
set_option maxRecDepth 100000
theorem placeOf_range (up : Bool) (i : Int) : 0 ≤ placeOf up i ∧ placeOf up i ≤ 7 := by unfold placeOf; split <;> omega
theorem bit_val {bs : List Int} (hf : Bs bs) {up : Bool} {i : Int} (h0 : 0 ≤ i) (h1 : i < 8 * bs.length) :
  IntKind.u32.wrap (bitsZ .and .u32 (IntKind.u32.wrap (shiftZ .shr .u8 (bs.getD (i / 8).toNat 0) (placeOf up i))) 1) = bitAt bs up i.toNat := by
 have hlt : (i / 8).toNat < bs.length := by omega
 have hb : 0 ≤ bs.getD (i / 8).toNat 0 ∧ bs.getD (i / 8).toNat 0 ≤ 255 := by
  rw [show bs.getD (i / 8).toNat 0 = bs[(i / 8).toNat] by simp [List.getD, hlt]]
  exact hf _ (List.getElem_mem hlt)
 have hp := placeOf_range up i
 generalize hv : bs.getD (i / 8).toNat 0 = v at hb
 have hpow : (0 : Int) < 2 ^ (placeOf up i).toNat := Int.pow_pos (by omega)
 have hq0 : 0 ≤ v / 2 ^ (placeOf up i).toNat := Int.ediv_nonneg hb.1 (Int.le_of_lt hpow)
 have hq1 : v / 2 ^ (placeOf up i).toNat ≤ 255 := Int.le_trans (Int.ediv_le_self _ hb.1) hb.2
 rw [shiftZ_shr hb.1 hp.1 (by simp [IntKind.bits]; omega), wrap_u (x := v / _) rfl hq0 (by simp [IntKind.bits]; omega), bitsZ_and1 hq0 (by simp [IntKind.bits]; omega), wrap_u rfl (by omega) (by simp [IntKind.bits]; omega)]
 unfold bitAt
 rw [show i.toNat / 8 = (i / 8).toNat by omega, hv]
 congr 2
 congr 1
 unfold placeOf
 cases up <;> simp <;> omega
theorem Take_spec {w : World} {q : Option Addr} {rb : Nat} {S : Nat → Prop} {bs : List Int} {k n : Int} {up : Bool} {R : Ending → World → Prop} (h : RdAt w q rb S bs k up)
  (h1 : n < 0 ∨ n > 32 → R (.returned (.tuple #[.int .u32 0, i64 2])) w)
  (h2 : 0 ≤ n → n ≤ 32 → n > 8 * bs.length - k → R (.returned (.tuple #[.int .u32 0, i64 5])) w.drew)
  (h3 : 0 ≤ n → n ≤ 32 → n ≤ 8 * bs.length - k → ∀ w', Chg (· = rb) w w' → RdAt w' q rb S bs (k + n) up → R (.returned (.tuple #[.int .u32 (takeV bs up k.toNat n.toNat), i64 0])) w') :
  Calls P F.bits_Reader_Take #[.pointer q, i64 n] w R := by
 refine calls_bits_Reader_Take _ _ _ _ ?_
 have hroom := h.room
 have hlo := h.lo
 have hptr := h.ptr
 unfold vc_bits_Reader_Take
 refine brB_f (by rw [hptr]; rfl) (brB_i (fun hb => h1 (by simpa using hb)) (fun hb => ?_))
 have hb : 0 ≤ n ∧ n ≤ 32 := by simpa using hb
 refine Left_spec h ⟨_, rfl, brB_i (fun hgt => h2 hb.1 hb.2 (by simpa using hgt)) (fun hle => ?_)⟩
 have hle : n ≤ 8 * bs.length - k := by simpa using hle
 refine ⟨fun l w' => match l with | [.int _ v, .int _ i] => 0 ≤ i ∧ i ≤ n ∧ v = takeV bs up k.toNat i.toNat ∧ Chg (· = rb) w w' ∧ RdAt w' q rb S bs (k + i) up | _ => False,
  fun l _ => match l with | [.int _ _, .int _ i] => (n - i).toNat | _ => 0, ⟨Int.le_refl _, hb.1, rfl, (Chg.refl _ w).drew, by rw [Int.add_zero]; exact h.ext (Ext.refl w).drew⟩, fun v i w2 hI => ?_⟩
 obtain ⟨i0, i1, hv, hc2, hr2⟩ := hI
 refine brB_i (fun hlt => ?_) (fun hge => ?_)
 ·have hlt : i < n := by simpa using hlt
  obtain ⟨base, cap, h4, h5⟩ := hr2.obj
  have hdiv : divZ .quo .i64 (k + i) 8 = (k + i) / 8 := by
   simp only [divZ]
   rw [Int.tdiv_eq_ediv_of_nonneg (by omega), w64 (by omega) (by omega)]
  refine ⟨fun l w' => match l with | [.int _ v'] => v' = takeV bs up k.toNat (i.toNat + 1) ∧ Chg (· = rb) w w' ∧ RdAt w' q rb S bs (k + i + 1) up | _ => False, ?_, fun v' w4 hI => ?_⟩
  ·refine nn_i hptr ⟨_, _, _, h4.drew.cell (i := 0) rfl, nn_i hptr ⟨_, h4.drew.cell (i := 1) rfl, ?_⟩⟩
   rw [hdiv]
   refine (h5.sl.drew).get (by omega) (bytes_length _) (bytes_get (by omega)) fun a3 hc3 => ⟨_, hc3, nn_i hptr ⟨_, _, _, h4.drew.cell (i := 3) rfl, nn_i hptr ⟨_, h4.drew.cell (i := 1) rfl, ?_⟩⟩⟩
   have hp := placeOf_range up (k + i)
   refine placeF_calls (by omega) (by omega) ⟨_, rfl, Keeps.refl _, hp.1, nn_i hptr ⟨_, h4.drew.cell (i := 1) rfl, nn_i hptr ⟨⟨_, h4.drew.cell (i := 1) rfl⟩, h4.drew.frozen 1, nn_i hptr ⟨up, ?_, ?_⟩⟩⟩⟩
   ·exact (h4.drew.set1 (off := 1) (v := i64 (IntKind.i64.wrap (k + i + 1))) (by simp)).cell (i := 2) rfl
   ·have hset := Chg.setCells w2.drew ⟨rb, 1, none⟩ [i64 (IntKind.i64.wrap (k + i + 1))] 0
    have hc2' : Chg (· = rb) w (setCells w2.drew ⟨rb, 1, none⟩ [i64 (IntKind.i64.wrap (k + i + 1))] 0) := hc2.drew.trans hset fun j hj _ => hj
    have hr' : RdAt (setCells w2.drew ⟨rb, 1, none⟩ [i64 (IntKind.i64.wrap (k + i + 1))] 0) q rb S bs (k + i + 1) up := by
     refine ⟨hptr, ⟨base, cap, ?_, OwnS.chg (w := w2.drew) h5 hset (fun b hb _ e => h.ne (by have e : b = rb := e; rwa [e] at hb))⟩, h.ne, h.room, h.fit, by omega, by omega⟩
     have := h4.drew.set1 (off := 1) (v := i64 (IntKind.i64.wrap (k + i + 1))) (by simp)
     rw [w64 (x := k + i + 1) (by omega) (by omega)] at this ⊢
     exact this
    have hbit := bit_val h.fit (up := up) (i := k + i) (by omega) (by omega)
    have hr := takeV_range bs up k.toNat i.toNat
    have hr1 := takeV_range bs up k.toNat (i.toNat + 1)
    have hba := bitAt_range bs up (k + i).toNat
    have hki : (k + i).toNat = k.toNat + i.toNat := by omega
    have hpow : (2 : Int) ^ (i.toNat + 1) ≤ 2 ^ 32 := by
     have : (2 : Nat) ^ (i.toNat + 1) ≤ 2 ^ 32 := Nat.pow_le_pow_right (by omega) (by omega)
     exact_mod_cast this
    rw [hbit]
    refine brB_i (fun hu => ⟨?_, hc2', hr'⟩) (fun hu => ⟨i0, ?_, hc2', hr'⟩)
    ·subst hu
     rw [hki] at hba ⊢
     have e1 : IntKind.u32.wrap (v * 2 ^ (1 : Int).toNat) = 2 ^ 1 * v := by
      rw [show (1 : Int).toNat = 1 by rfl, Int.pow_succ] at *
      rw [wrap_u rfl (by omega) (by simp [IntKind.bits]; omega)]; omega
     have e2 : (2 : Int) ^ 1 * v + bitAt bs true (k.toNat + i.toNat) = takeV bs true k.toNat (i.toNat + 1) := by rw [hv, takeV, if_pos rfl]; omega
     rw [shiftZ_shl (by omega) (by simp [IntKind.bits]), e1, bitsZ_orAdd (by omega) (by rw [e2]; simp [IntKind.bits]; omega) hba.1 (by omega), e2]
     exact wrap_u rfl hr1.1 (by simp [IntKind.bits]; omega)
    ·subst hu
     rw [hki] at hba ⊢
     have hpi : (0 : Int) < 2 ^ i.toNat := Int.pow_pos (by omega)
     have hb2 : 0 ≤ 2 ^ i.toNat * bitAt bs false (k.toNat + i.toNat) ∧ 2 ^ i.toNat * bitAt bs false (k.toNat + i.toNat) ≤ 2 ^ i.toNat := by
      rcases (by omega : bitAt bs false (k.toNat + i.toNat) = 0 ∨ bitAt bs false (k.toNat + i.toNat) = 1) with e | e <;> rw [e] <;> omega
     have e2 : 2 ^ i.toNat * bitAt bs false (k.toNat + i.toNat) + v = takeV bs false k.toNat (i.toNat + 1) := by
      rw [hv, takeV, if_neg (by simp), Int.mul_comm]; omega
     rw [Int.pow_succ] at hpow
     rw [shiftZ_shl i0 (by simp [IntKind.bits]; omega), Int.mul_comm, wrap_u (x := 2 ^ i.toNat * _) rfl hb2.1 (by simp [IntKind.bits]; omega)]
     rw [show bitsZ .or .u32 v (2 ^ i.toNat * bitAt bs false (k.toNat + i.toNat)) = bitsZ .or .u32 (2 ^ i.toNat * bitAt bs false (k.toNat + i.toNat)) v by simp [bitsZ, BitVec.or_comm]]
     rw [bitsZ_orAdd hba.1 (by rw [e2]; simp [IntKind.bits]; omega) (by omega) (by rw [hv]; exact hr.2), e2]
     exact wrap_u rfl hr1.1 (by simp [IntKind.bits]; omega)
  ·obtain ⟨rfl, hc4, hr4⟩ := hI
   rw [w64 (x := i + 1) (by omega) (by omega)]
   refine ⟨⟨by omega, by omega, by rw [show (i + 1).toNat = i.toNat + 1 by omega], hc4, by rw [← Int.add_assoc]; exact hr4⟩, ?_⟩
   show (n - (i + 1)).toNat < (n - i).toNat
   omega
 ·have hge : i = n := by simp at hge; omega
  subst hge
  subst hv
  exact h3 hb.1 hb.2 hle w2 hc2 hr2
end Go.Proofs.Ytiiaihiliimcoaa
namespace Go.Proofs.Ytiiaihiliimcoaa
open Go Go.Vc Go.RowKit
set_option maxRecDepth 100000
theorem order_spec {up : Bool} {w : World} {R : Ending → World → Prop} (hR : R (.returned (placeF up)) w) : Calls P F.bits_order #[.bool up] w R := by
 refine calls_bits_order _ _ _ ?_
 cases up
 ·exact brB_f rfl hR
 ·exact brB_t rfl hR
theorem NewReader_spec {N : Nat} {w : World} {base : Option Addr} {len cap : Nat} {bs : List Int} {up : Bool} {R : Ending → World → Prop} (h : Sl N w base (bytes bs)) (hl : len = bs.length) (hsz : len ≤ 2 ^ 47) (hf : Bs bs)
  (hR : ∀ rb w', Ext w w' → w.heap.size ≤ rb → RdAt w' (some ⟨rb, 0, none⟩) rb (fun i => w.heap.size ≤ i ∧ i < rb) bs 0 up → R (.returned (.pointer (some ⟨rb, 0, none⟩))) w') :
  Calls P F.bits_NewReader #[.slice base len cap, .bool up] w R := by
 refine calls_bits_NewReader _ _ _ _ _ _ ?_
 refine clone_spec h hl hsz fun p c w1 hE1 ho => ⟨_, _, _, rfl, ?_⟩
 refine order_spec ⟨_, _, _, rfl, fun k3 w3 hn => ?_⟩
 have hs := hE1.size
 have hk : k3 = w1.heap.size := hn.1
 refine hR k3 w3 (hE1.trans hn.ext) (by omega) ⟨rfl, ⟨p, c, ?_, ?_⟩, fun hh => Nat.lt_irrefl _ hh.2, by omega, hf, Int.le_refl _, by omega⟩
 ·rw [← hl]; exact hn.cs
 ·rw [← hl]
  exact ((ho.ext hn.ext).ownS).mono fun i hi _ => ⟨hi.1, by omega⟩
end Go.Proofs.Ytiiaihiliimcoaa
namespace Go.Proofs.Ytiiaihiliimcoaa
open Go Go.Vc Go.RowKit
set_option maxRecDepth 100000
def plc (up : Bool) (n : Nat) : Nat := if up then 7 - n % 8 else n % 8
theorem plc_lt (up : Bool) (n : Nat) : plc up n < 8 := by unfold plc; split <;> omega
theorem plc_inj {up : Bool} {n m : Nat} (h : plc up n = plc up m) : n % 8 = m % 8 := by unfold plc at h; split at h <;> omega
def addBit (up : Bool) (bs : List Int) (n : Nat) (x : Int) : List Int :=
 let cs := if n % 8 = 0 then bs ++ [0] else bs
 cs.set (n / 8) (cs.getD (n / 8) 0 + x * 2 ^ plc up n)
structure WOk (up : Bool) (bs : List Int) (n : Nat) : Prop where
 fit : Bs bs
 lo : n ≤ 8 * bs.length
 hi : 8 * bs.length < n + 8
 rest : ∀ j, n ≤ j → bitAt bs up j = 0
theorem bitAt_eq (bs : List Int) (up : Bool) (i : Nat) : bitAt bs up i = (bs.getD (i / 8) 0 / 2 ^ plc up i) % 2 := rfl
theorem byte_or : ∀ v < 256, ∀ p < 8, v / 2 ^ p % 2 = 0 → v ||| 2 ^ p = v + 2 ^ p := by decide +kernel
theorem byte_le : ∀ v < 256, ∀ p < 8, v / 2 ^ p % 2 = 0 → v + 2 ^ p < 256 := by decide +kernel
theorem byte_bit : ∀ v < 256, ∀ p < 8, ∀ q < 8, v / 2 ^ p % 2 = 0 → (v + 2 ^ p) / 2 ^ q % 2 = if q = p then 1 else v / 2 ^ q % 2 := by decide +kernel
theorem getD_fit {bs : List Int} (h : Bs bs) (i : Nat) : ∃ v : Nat, bs.getD i 0 = v ∧ v < 256 := by
 by_cases hi : i < bs.length
 ·rw [show bs.getD i 0 = bs[i] by simp [List.getD, hi]]
  have := h _ (List.getElem_mem hi)
  exact ⟨bs[i].toNat, by omega, by omega⟩
 ·exact ⟨0, by simp [List.getD, List.getElem?_eq_none (Nat.le_of_not_lt hi)], by omega⟩
theorem WOk.nil (up : Bool) : WOk up [] 0 := ⟨fun _ h => by simp at h, by simp, by simp, fun j _ => by simp [bitAt]⟩
def grown (bs : List Int) (n : Nat) : List Int := if n % 8 = 0 then bs ++ [0] else bs
theorem addBit_eq (up : Bool) (bs : List Int) (n : Nat) (x : Int) : addBit up bs n x = (grown bs n).set (n / 8) ((grown bs n).getD (n / 8) 0 + x * 2 ^ plc up n) := rfl
theorem bitAt_grown (up : Bool) (bs : List Int) (n j : Nat) : bitAt (grown bs n) up j = bitAt bs up j := by
 unfold grown
 split
 ·simp only [bitAt_eq]
  congr 2
  by_cases h : j / 8 < bs.length
  ·simp [List.getD, List.getElem?_append_left h]
  ·simp only [List.getD, List.getElem?_eq_none (Nat.le_of_not_lt h), List.getElem?_append_right (Nat.le_of_not_lt h)]
   cases j / 8 - bs.length <;> simp
 ·rfl
theorem WOk.wide {up : Bool} {bs : List Int} {n : Nat} (h : WOk up bs n) : Bs (grown bs n) ∧ n / 8 < (grown bs n).length ∧ (grown bs n).length = (n + 8) / 8 := by
 have h1 := h.lo
 have h2 := h.hi
 unfold grown
 split
 ·refine ⟨fun x hx => ?_, by simp; omega, by simp; omega⟩
  rcases List.mem_append.1 hx with hx | hx
  ·exact h.fit x hx
  ·simp at hx; omega
 ·exact ⟨h.fit, by omega, by omega⟩
theorem WOk.add {up : Bool} {bs : List Int} {n : Nat} {x : Int} (h : WOk up bs n) (hx : x = 0 ∨ x = 1) :
  WOk up (addBit up bs n x) (n + 1) ∧ (∀ j, bitAt (addBit up bs n x) up j = if j = n then x else bitAt bs up j) ∧ (addBit up bs n x).length = (n + 8) / 8 ∧
  ∃ v : Nat, (grown bs n).getD (n / 8) 0 = v ∧ v < 256 ∧ v / 2 ^ plc up n % 2 = 0 := by
 obtain ⟨g1, g2, g3⟩ := h.wide
 obtain ⟨v, hv, hv2⟩ := getD_fit g1 (n / 8)
 have h0 : v / 2 ^ plc up n % 2 = 0 := by
  have := h.rest n (Nat.le_refl _)
  rw [← bitAt_grown up bs n n, bitAt_eq, hv] at this
  exact_mod_cast this
 have hp := plc_lt up n
 have hget : ∀ i, (addBit up bs n x).getD i 0 = if i = n / 8 then (v : Int) + x * 2 ^ plc up n else (grown bs n).getD i 0 := by
  intro i
  rw [addBit_eq, hv]
  by_cases hi : i = n / 8
  ·subst hi; simp [List.getD, g2]
  ·simp [List.getD, List.getElem?_set_ne (Ne.symm hi), hi]
 have hbit : ∀ j, bitAt (addBit up bs n x) up j = if j = n then x else bitAt bs up j := by
  intro j
  rw [← bitAt_grown up bs n j, bitAt_eq, bitAt_eq, hget]
  by_cases hj : j / 8 = n / 8
  ·rw [if_pos hj, hj, hv]
   rcases hx with rfl | rfl
   ·rw [Int.zero_mul, Int.add_zero]
    split
    ·rename_i e; subst e; exact_mod_cast h0
    ·rfl
   ·have := byte_bit v hv2 _ hp _ (plc_lt up j) h0
    rw [Int.one_mul]
    by_cases e : j = n
    ·subst e; simp at this ⊢; exact_mod_cast this
    ·rw [if_neg (fun he => e (by have := plc_inj he; omega))] at this
     rw [if_neg e]; exact_mod_cast this
  ·rw [if_neg hj, if_neg (fun e => hj (by rw [e]))]
 have hlen : (addBit up bs n x).length = (n + 8) / 8 := by rw [addBit_eq, List.length_set, g3]
 refine ⟨⟨fun y hy => ?_, by omega, by omega, fun j hj => ?_⟩, hbit, hlen, v, hv, hv2, h0⟩
 ·obtain ⟨i, hi, rfl⟩ := List.getElem_of_mem hy
  have e : (addBit up bs n x).getD i 0 = (addBit up bs n x)[i] := by simp [List.getD, hi]
  rw [← e, hget]
  split
  ·rcases hx with rfl | rfl
   ·omega
   ·have := byte_le v hv2 _ hp h0
    constructor
    ·have : (0 : Int) < 2 ^ plc up n := Int.pow_pos (by omega)
     omega
    ·have e : ((v + 2 ^ plc up n : Nat) : Int) < 256 := by exact_mod_cast this
     simp at e; omega
  ·obtain ⟨u, hu, hu2⟩ := getD_fit g1 i
   omega
 ·rw [hbit, if_neg (by omega)]; exact h.rest j (by omega)
structure WrAt (w : World) (q : Option Addr) (wb : Nat) (S : Nat → Prop) (bs : List Int) (n : Nat) (up : Bool) : Prop where
 ptr : q = some ⟨wb, 0, none⟩
 obj : ∃ base cap, Cs w wb [.slice base bs.length cap, i64 n, .bool up, placeF up] ∧ OwB S w base bs.length cap 1 (bytes bs)
 ne : ¬ S wb
theorem WrAt.chg {w w' : World} {q : Option Addr} {wb : Nat} {S T : Nat → Prop} {bs : List Int} {n : Nat} {up : Bool} (h : WrAt w q wb S bs n up) (hc : Chg T w w') (h1 : ¬ T wb) (h2 : ∀ i, S i → ¬ T i) : WrAt w' q wb S bs n up := by
 obtain ⟨base, cap, h3, h4⟩ := h.obj
 exact ⟨h.ptr, ⟨base, cap, h3.chg hc h1, h4.chg hc h2⟩, h.ne⟩
theorem WrAt.ext {w w' : World} {q : Option Addr} {wb : Nat} {S : Nat → Prop} {bs : List Int} {n : Nat} {up : Bool} (h : WrAt w q wb S bs n up) (hc : Ext w w') : WrAt w' q wb S bs n up :=
 h.chg (T := fun _ => False) hc.chg id (fun _ _ => id)
theorem WrAt.lt {w : World} {q : Option Addr} {wb : Nat} {S : Nat → Prop} {bs : List Int} {n : Nat} {up : Bool} (h : WrAt w q wb S bs n up) : wb < w.heap.size := by
 obtain ⟨_, _, h, _⟩ := h.obj; exact h.lt
theorem NewWriter_spec {w : World} {up : Bool} {R : Ending → World → Prop}
  (hR : ∀ wb w', Ext w w' → w.heap.size ≤ wb → WrAt w' (some ⟨wb, 0, none⟩) wb (fun _ => False) [] 0 up → R (.returned (.pointer (some ⟨wb, 0, none⟩))) w') :
  Calls P F.bits_NewWriter #[.bool up] w R := by
 refine calls_bits_NewWriter _ _ _ ?_
 refine order_spec ⟨_, _, _, rfl, fun k1 w2 hn => ?_⟩
 refine hR k1 w2 hn.ext (by rw [hn.1]; exact Nat.le_refl _) ⟨rfl, ⟨none, 0, hn.cs, OwB.nil _ _ _⟩, id⟩
theorem WBytes_spec {w : World} {q : Option Addr} {wb : Nat} {S : Nat → Prop} {bs : List Int} {n : Nat} {up : Bool} {R : Ending → World → Prop} (h : WrAt w q wb S bs n up) (hsz : bs.length ≤ 2 ^ 47)
  (hR : ∀ p k w', Ext w w' → Ow w.heap.size w'.heap.size w' p bs.length k 1 (bytes bs) → R (.returned (.slice p bs.length k)) w') : Calls P F.bits_Writer_Bytes #[.pointer q] w R := by
 refine calls_bits_Writer_Bytes _ _ _ ?_
 obtain rfl := h.ptr
 obtain ⟨base, cap, h3, h4⟩ := h.obj
 refine brB_f rfl (nn_i rfl ⟨_, _, _, h3.cell (i := 0) rfl, ?_⟩)
 exact clone_spec h4.own.sl rfl hsz fun p k w' hE ho => ⟨_, _, _, rfl, hR p k w' hE ho⟩
theorem or_byte {v : Nat} {x : Int} {p : Nat} (hv : v < 256) (hp : p < 8) (h0 : v / 2 ^ p % 2 = 0) (hx : x = 0 ∨ x = 1) :
  IntKind.u8.wrap (bitsZ .or .u8 (v : Int) (shiftZ .shl .u8 x (p : Int))) = v + x * 2 ^ p := by
 have h2 : (2 : Int) ^ p < 256 := by
  have : (2 : Nat) ^ p < 2 ^ 8 := Nat.pow_lt_pow_right (by omega) hp
  exact_mod_cast this
 have h3 : (0 : Int) < 2 ^ p := Int.pow_pos (by omega)
 rw [shiftZ_shl (by omega) (by simp [IntKind.bits]; omega), Int.toNat_natCast]
 rcases hx with rfl | rfl
 ·rw [Int.zero_mul, wrap_u (x := 0) rfl (by omega) (by decide), bitsZ_or (by omega) (by simp [IntKind.bits]; omega) (by omega) (by simp [IntKind.bits])]
  simp
  exact wrap_u rfl (by omega) (by simp [IntKind.bits]; omega)
 ·rw [Int.one_mul, wrap_u (x := 2 ^ p) rfl (by omega) (by simp [IntKind.bits]; omega), bitsZ_or (by omega) (by simp [IntKind.bits]; omega) (by omega) (by simp [IntKind.bits]; omega)]
  have e : ((2 : Int) ^ p).toNat = 2 ^ p := by
   have : ((2 : Int) ^ p) = ((2 ^ p : Nat) : Int) := by simp
   rw [this, Int.toNat_natCast]
  have hle := byte_le v hv p hp h0
  rw [Int.toNat_natCast, e, byte_or v hv p hp h0]
  have : ((v + 2 ^ p : Nat) : Int) < 256 := by exact_mod_cast hle
  rw [wrap_u rfl (by omega) (by simp [IntKind.bits] at this ⊢; omega)]
  simp
theorem one_spec {w : World} {q : Option Addr} {wb : Nat} {S : Nat → Prop} {bs : List Int} {n : Nat} {up : Bool} {x : Int} {R : Ending → World → Prop} (h : WrAt w q wb S bs n up) (hok : WOk up bs n) (hx : x = 0 ∨ x = 1) (hsz : n ≤ 2 ^ 49)
  (hR : ∀ S' w', Gr S S' w w' → Chg (fun k => k = wb ∨ S k) w w' → WrAt w' q wb S' (addBit up bs n x) (n + 1) up → R (.returned (.tuple #[])) w') : Calls P F.bits_Writer_one #[.pointer q, .int .u8 x] w R := by
 refine calls_bits_Writer_one _ _ _ _ ?_
 have hptr := h.ptr
 have hlo := hok.lo
 have hhi := hok.hi
 have hlt := h.lt
 obtain ⟨base, cap, h3, h4⟩ := h.obj
 have hrem : divZ .rem .i64 (n : Int) 8 = ((n % 8 : Nat) : Int) := by simp only [divZ]; rw [Int.tmod_eq_emod_of_nonneg (by omega)]; simp
 have hquo : divZ .quo .i64 (n : Int) 8 = ((n / 8 : Nat) : Int) := by
  simp only [divZ]
  rw [Int.tdiv_eq_ediv_of_nonneg (by omega), w64 (by omega) (by omega)]; simp
 obtain ⟨gfit, glt, glen⟩ := hok.wide
 unfold vc_bits_Writer_one
 refine ⟨fun vs w' => ∃ S', Gr S S' w w' ∧ Chg (fun k => k = wb ∨ S k) w w' ∧ WrAt w' q wb S' (grown bs n) n up, ?_, fun w3 hI => ?_⟩
 ·refine nn_i hptr ⟨_, h3.cell (i := 1) rfl, ?_⟩
  rw [hrem]
  refine brB_i (fun h0 => ?_) (fun h0 => ?_)
  ·have h0 : n % 8 = 0 := by
    have : ((n % 8 : Nat) : Int) = 0 := by simpa using h0
    omega
   refine nn_i hptr ⟨_, _, _, h3.cell (i := 0) rfl, fun k3 hk3 w1 hL => ?_⟩
   have hE1 : Ext w w1 := hL.ext (by simp; omega)
   refine (h4.ext hE1).app (by simp [blocks]; exact fun hS => by have := h4.bd _ hS; omega) rfl rfl (by omega) (by omega) fun S' p' c' w2 hg ho hc => ?_
   have h3' := (h3.ext hE1).chg hc h.ne
   refine nn_i hptr ⟨⟨_, h3'.cell (i := 0) rfl⟩, h3'.frozen 0, by simp; omega, ?_⟩
   have hset := Chg.setCells w2 ⟨wb, 0, none⟩ [.slice p' (bs.length + 1) c'] 0
   have hg' := hg.pre hE1.size
   have hne : ¬ S' wb := fun hS => by
    rcases hg'.2 _ hS with hS | hS
    ·exact h.ne hS
    ·omega
   have e : grown bs n = bs ++ [0] := by simp [grown, h0]
   refine ⟨S', hg'.size hset.size, ((hE1.chg.trans hc fun i hi _ => .inr hi).trans hset fun i hi _ => .inl hi), hptr, ⟨p', c', ?_, ?_⟩, hne⟩
   ·have := h3'.set1 (off := 0) (v := .slice p' (bs.length + 1) c') (by simp)
    rw [e]; simpa using this
   ·rw [e, bytes_append, List.length_append]
    exact ho.chg hset fun i hi e => hne (by have e : i = wb := e; rwa [e] at hi)
  ·have h0 : n % 8 ≠ 0 := by
    have : ((n % 8 : Nat) : Int) ≠ 0 := by simpa using h0
    omega
   have e : grown bs n = bs := by simp [grown, h0]
   exact ⟨S, Gr.refl _ _, Chg.refl _ _, by rw [e]; exact h⟩
 ·obtain ⟨S', hg, hc, h'⟩ := hI
  obtain ⟨base', cap', h5, h6⟩ := h'.obj
  obtain ⟨hok', _, hlen', v, hv, hv2, hv0⟩ := hok.add hx
  have hp := plc_lt up n
  refine nn_i hptr ⟨_, _, _, h5.drew.cell (i := 0) rfl, nn_i hptr ⟨_, h5.drew.cell (i := 1) rfl, ?_⟩⟩
  rw [hquo]
  refine (h6.own.sl.drew).get (by omega) (bytes_length _) (bytes_get (by rw [Int.toNat_natCast]; exact glt)) fun a6 hc6 => ⟨_, hc6, nn_i hptr ⟨_, _, _, h5.drew.cell (i := 3) rfl, nn_i hptr ⟨_, h5.drew.cell (i := 1) rfl, ?_⟩⟩⟩
  refine placeF_calls (by omega) (by omega) ⟨_, rfl, Keeps.refl _, ?_⟩
  have hpl : placeOf up n = (plc up n : Int) := by unfold placeOf plc; split <;> omega
  obtain ⟨b, rfl, hSb, hblt⟩ := h6.own.base (by omega)
  rw [hpl]
  have hown : OwnS S' w3.drew (some ⟨b, 0, none⟩) (grown bs n).length cap' 1 (bytes (grown bs n)) := h6.own
  obtain ⟨hu, hf, hw⟩ := hown.write (i := n / 8) glt
  have hne : b ≠ wb := fun e => h'.ne (e ▸ hSb)
  refine ⟨by omega, idx_i (a := ⟨b, 0, none⟩) (by omega) (by omega) rfl ?_⟩
  have ea : (⟨b, 0, none⟩ : Addr).add ((↑(n / 8) : Int).toNat * 1) = ⟨b, n / 8, none⟩ := by rw [loc_add, Int.toNat_natCast]; simp
  rw [ea]
  refine ⟨hu, hf, ?_⟩
  rw [Int.toNat_natCast, hv, or_byte hv2 hp hv0 hx]
  obtain ⟨ho, hc7⟩ := hw (u8 (v + x * 2 ^ plc up n))
  have h7 := h5.drew.chg hc7 (fun e => hne e.symm)
  refine nn_i hptr ⟨_, h7.cell (i := 1) rfl, nn_i hptr ⟨⟨_, h7.cell (i := 1) rfl⟩, h7.frozen 1, ?_⟩⟩
  rw [w64 (x := (n : Int) + 1) (by omega) (by omega)]
  have hset := Chg.setCells (setCells w3.drew ⟨b, n / 8, none⟩ [u8 (v + x * 2 ^ plc up n)] 0) ⟨wb, 1, none⟩ [i64 ((n : Int) + 1)] 0
  have e1 : bytes (addBit up bs n x) = (bytes (grown bs n)).set (n / 8) (u8 (v + x * 2 ^ plc up n)) := by
   rw [addBit_eq, hv]; simp [bytes]
  have e2 : (addBit up bs n x).length = (grown bs n).length := by rw [hlen', glen]
  have hcc : Chg (fun k => k = wb ∨ S k) w (setCells (setCells w3.drew ⟨b, n / 8, none⟩ [u8 (v + x * 2 ^ plc up n)] 0) ⟨wb, 1, none⟩ [i64 ((n : Int) + 1)] 0) := by
   refine (hc.drew.trans hc7 fun i hi hlt => ?_).trans hset fun i hi _ => .inl hi
   have hi : i = b := hi
   subst hi
   rcases hg.2 _ hSb with h | h
   ·exact .inr h
   ·omega
  have hs3 : w3.heap.size ≤ (setCells (setCells w3.drew ⟨b, n / 8, none⟩ [u8 (v + x * 2 ^ plc up n)] 0) ⟨wb, 1, none⟩ [i64 ((n : Int) + 1)] 0).heap.size := Nat.le_trans (show w3.drew.heap.size ≤ _ from hc7.size) hset.size
  refine hR S' _ (hg.size hs3) hcc ⟨hptr, ⟨some ⟨b, 0, none⟩, cap', ?_, ?_⟩, h'.ne⟩
  ·have := h7.set1 (off := 1) (v := i64 ((n : Int) + 1)) (by simp)
   rw [e2]
   exact this
  ·rw [e1, e2]
   refine ⟨ho.chg hset fun i hi _ e => h'.ne (by have e : i = wb := e; rwa [e] at hi), fun i hi => Nat.lt_of_lt_of_le (h6.bd i hi) hs3⟩
end Go.Proofs.Ytiiaihiliimcoaa
namespace Go.Proofs.Ytiiaihiliimcoaa
open Go Go.Vc Go.RowKit
set_option maxRecDepth 100000
def bitOf (up : Bool) (v : Int) (n i : Nat) : Int := (v / 2 ^ (if up then n - 1 - i else i)) % 2
def putV (up : Bool) (bs : List Int) (m : Nat) (v : Int) (n : Nat) : Nat → List Int
 | 0 => bs
 | k + 1 => addBit up (putV up bs m v n k) (m + k) (bitOf up v n k)
theorem bitOf_01 (up : Bool) (v : Int) (n i : Nat) : bitOf up v n i = 0 ∨ bitOf up v n i = 1 := by unfold bitOf; omega
theorem putV_ok {up : Bool} {bs : List Int} {m : Nat} {v : Int} {n : Nat} (h : WOk up bs m) : ∀ k, WOk up (putV up bs m v n k) (m + k)
 | 0 => h
 | k + 1 => ((putV_ok h k).add (bitOf_01 up v n k)).1
theorem shr_bit {x i : Int} (x0 : 0 ≤ x) (x1 : x < 2 ^ 32) (i0 : 0 ≤ i) (i1 : i ≤ 31) :
  IntKind.u32.wrap (bitsZ .and .u32 (shiftZ .shr .u32 x i) 1) = x / 2 ^ i.toNat % 2 ∧ divZ .rem .u32 (shiftZ .shr .u32 x i) 2 = x / 2 ^ i.toNat % 2 := by
 have hp : (0 : Int) < 2 ^ i.toNat := Int.pow_pos (by omega)
 have h0 : 0 ≤ x / 2 ^ i.toNat := Int.ediv_nonneg x0 (Int.le_of_lt hp)
 have h1 : x / 2 ^ i.toNat ≤ x := Int.ediv_le_self _ x0
 rw [shiftZ_shr x0 i0 (by simp [IntKind.bits]; omega)]
 refine ⟨?_, ?_⟩
 ·rw [bitsZ_and1 h0 (by simp [IntKind.bits]; omega)]
  exact wrap_u rfl (by omega) (by simp [IntKind.bits]; omega)
 ·simp only [divZ]; rw [Int.tmod_eq_emod_of_nonneg h0]
theorem Put_spec {w : World} {q : Option Addr} {wb : Nat} {S : Nat → Prop} {bs : List Int} {m : Nat} {up : Bool} {v n : Int} {R : Ending → World → Prop} (h : WrAt w q wb S bs m up) (hok : WOk up bs m) (hm : m ≤ 2 ^ 48 + 2 ^ 47) (v0 : 0 ≤ v) (v1 : v < 2 ^ 32)
  (h1 : n < 0 ∨ n > 32 → R (.returned (i64 2)) w)
  (h2 : 0 ≤ n → n ≤ 32 → ∀ S' w', Gr S S' w w' → Chg (fun k => k = wb ∨ S k) w w' → WrAt w' q wb S' (putV up bs m v n.toNat n.toNat) (m + n.toNat) up → R (.returned (i64 0)) w') :
  Calls P F.bits_Writer_Put #[.pointer q, .int .u32 v, i64 n] w R := by
 refine calls_bits_Writer_Put _ _ _ _ _ ?_
 have hptr := h.ptr
 refine brB_f (by rw [hptr]; rfl) (brB_i (fun hb => h1 (by simpa using hb)) (fun hb => ?_))
 have hb : 0 ≤ n ∧ n ≤ 32 := by simpa using hb
 refine ⟨fun l w' => match l with | [.int _ i] => 0 ≤ i ∧ i ≤ n ∧ ∃ S', Gr S S' w w' ∧ Chg (fun k => k = wb ∨ S k) w w' ∧ WrAt w' q wb S' (putV up bs m v n.toNat i.toNat) (m + i.toNat) up | _ => False,
  fun l _ => match l with | [.int _ i] => (n - i).toNat | _ => 0, ⟨Int.le_refl _, hb.1, S, Gr.refl _ _, Chg.refl _ _, h⟩, fun i w1 hI => ?_⟩
 obtain ⟨i0, i1, S1, hg1, hc1, h1'⟩ := hI
 refine brB_i (fun hlt => ?_) (fun hge => ?_)
 ·have hlt : i < n := by simpa using hlt
  obtain ⟨base, cap, h3, h4⟩ := h1'.obj
  have key : ∀ x S2 w2, Gr S1 S2 w1 w2 → Chg (fun k => k = wb ∨ S1 k) w1 w2 → x = bitOf up v n.toNat i.toNat → WrAt w2 q wb S2 (addBit up (putV up bs m v n.toNat i.toNat) (m + i.toNat) x) (m + i.toNat + 1) up →
    ∃ S', Gr S S' w w2 ∧ Chg (fun k => k = wb ∨ S k) w w2 ∧ WrAt w2 q wb S' (putV up bs m v n.toNat (i.toNat + 1)) (m + (i.toNat + 1)) up := by
   intro x S2 w2 hg hc hx hw
   refine ⟨S2, hg1.trans hg, hc1.trans hc fun j hj hlt => ?_, ?_⟩
   ·rcases hj with hj | hj
    ·exact .inl hj
    ·rcases hg1.2 j hj with hj | hj
     ·exact .inr hj
     ·omega
   ·rw [putV, ← hx]; exact hw
  have h01 := bitOf_01 up v n.toNat i.toNat
  have hko := putV_ok (v := v) (n := n.toNat) hok i.toNat
  refine ⟨fun _ w' => ∃ S', Gr S S' w w' ∧ Chg (fun k => k = wb ∨ S k) w w' ∧ WrAt w' q wb S' (putV up bs m v n.toNat (i.toNat + 1)) (m + (i.toNat + 1)) up, ?_, fun w4 hI => ?_⟩
  ·refine nn_i hptr ⟨_, h3.cell (i := 2) rfl, brB_i (fun hu => ?_) (fun hu => ?_)⟩
   ·subst hu
    rw [w64 (x := n - 1) (by omega) (by omega), w64 (x := n - 1 - i) (by omega) (by omega)]
    have e := (shr_bit v0 v1 (i := n - 1 - i) (by omega) (by omega)).1
    have e2 : v / 2 ^ (n - 1 - i).toNat % 2 = bitOf true v n.toNat i.toNat := by
     unfold bitOf; rw [if_pos rfl]; congr 3; omega
    rw [e, wrap_u (k := .u8) rfl (by omega) (by simp [IntKind.bits]; omega), e2]
    exact ⟨by omega, one_spec h1' hko h01 (by omega) fun S2 w2 hg hc hw => ⟨rfl, key _ S2 w2 hg hc rfl hw⟩⟩
   ·subst hu
    have e := (shr_bit v0 v1 (i := i) (by omega) (by omega)).1
    have e2 : v / 2 ^ i.toNat % 2 = bitOf false v n.toNat i.toNat := by unfold bitOf; simp
    rw [e, wrap_u (k := .u8) rfl (by omega) (by simp [IntKind.bits]; omega), e2]
    exact ⟨by omega, one_spec h1' hko h01 (by omega) fun S2 w2 hg hc hw => ⟨rfl, key _ S2 w2 hg hc rfl hw⟩⟩
  ·obtain ⟨S2, hg2, hc2, hw2⟩ := hI
   rw [w64 (x := i + 1) (by omega) (by omega)]
   refine ⟨⟨by omega, by omega, S2, hg2, hc2, by rw [show (i + 1).toNat = i.toNat + 1 by omega]; exact hw2⟩, ?_⟩
   show (n - (i + 1)).toNat < (n - i).toNat
   omega
 ·have hge : i = n := by simp at hge; omega
  subst hge
  exact h2 hb.1 hb.2 S1 w1 hg1 hc1 h1'
end Go.Proofs.Ytiiaihiliimcoaa
