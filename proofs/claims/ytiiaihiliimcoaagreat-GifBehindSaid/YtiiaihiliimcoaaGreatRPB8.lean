/- LZW: what is packed is read back: the bits, and the codes. -/
import Derived.Test.YtiiaihiliimcoaaGreatRPB4
import Derived.Test.YtiiaihiliimcoaaGreatRPB6
import Derived.Test.YtiiaihiliimcoaaGreatRPB7
set_option linter.unusedVariables false
set_option linter.unusedSimpArgs false
namespace Go.Proofs.YtiiaihiliimcoaaGreat
open Go Go.Vc Go.RowKit
set_option maxRecDepth 100000
theorem putV_bits {up : Bool} {bs : List Int} {m : Nat} {v : Int} {n : Nat} (h : WOk up bs m) : ∀ k j, bitAt (putV up bs m v n k) up j = if m ≤ j ∧ j < m + k then bitOf up v n (j - m) else bitAt bs up j
 | 0, j => by rw [if_neg (by omega)]; rfl
 | k + 1, j => by
  rw [putV, ((putV_ok h k).add (bitOf_01 up v n k)).2.1, putV_bits h k]
  by_cases e : j = m + k
  ·subst e; rw [if_pos rfl, if_pos (by omega), Nat.add_sub_cancel_left]
  ·rw [if_neg e]
   by_cases h2 : m ≤ j ∧ j < m + k
   ·rw [if_pos h2, if_pos (by omega)]
   ·rw [if_neg h2, if_neg (by omega)]
theorem imod_mul {v a b : Int} (v0 : 0 ≤ v) (a0 : 0 ≤ a) (b0 : 0 ≤ b) : v % (a * b) = v % a + a * (v / a % b) := by
 obtain ⟨v, rfl⟩ := Int.eq_ofNat_of_zero_le v0
 obtain ⟨a, rfl⟩ := Int.eq_ofNat_of_zero_le a0
 obtain ⟨b, rfl⟩ := Int.eq_ofNat_of_zero_le b0
 have := Nat.mod_mul (x := v) (a := a) (b := b)
 exact_mod_cast this
theorem takeV_wrote {up : Bool} {bs : List Int} {m n : Nat} {v : Int} (v0 : 0 ≤ v) (hb : ∀ j, j < n → bitAt bs up (m + j) = bitOf up v n j) : takeV bs up m n = v % 2 ^ n := by
 cases up
 ·have key : ∀ k, k ≤ n → takeV bs false m k = v % 2 ^ k := by
   intro k
   induction k with
   | zero => intro _; simp [takeV] <;> omega
   | succ k ih =>
    intro hk
    rw [takeV, if_neg (by simp), ih (by omega), hb k (by omega)]
    unfold bitOf
    rw [if_neg (by simp), Int.pow_succ, imod_mul v0 (Int.le_of_lt (Int.pow_pos (by omega))) (by omega)]
    rw [Int.mul_comm]
  exact key n (Nat.le_refl _)
 ·have key : ∀ k, k ≤ n → takeV bs true m k = v / 2 ^ (n - k) % 2 ^ k := by
   intro k
   induction k with
   | zero => intro _; simp [takeV] <;> omega
   | succ k ih =>
    intro hk
    rw [takeV, if_pos rfl, ih (by omega), hb k (by omega)]
    unfold bitOf
    rw [if_pos rfl, show n - 1 - k = n - (k + 1) by omega]
    generalize hu : v / 2 ^ (n - (k + 1)) = u
    have e : v / 2 ^ (n - k) = u / 2 := by
     rw [← hu, show n - k = (n - (k + 1)) + 1 by omega, Int.pow_succ, Int.ediv_ediv_of_nonneg (Int.le_of_lt (Int.pow_pos (by omega)))]
    have u0 : 0 ≤ u := hu ▸ Int.ediv_nonneg v0 (Int.le_of_lt (Int.pow_pos (by omega)))
    rw [e, Int.pow_succ, Int.mul_comm (2 ^ k) 2, imod_mul u0 (by omega) (Int.le_of_lt (Int.pow_pos (by omega)))]
    omega
  have := key n (Nat.le_refl _)
  rwa [Nat.sub_self, Int.pow_zero, Int.ediv_one] at this
def Reads (up : Bool) (W : List Int) : Nat → List (Nat × Nat) → Prop
 | _, [] => True
 | p, e :: r => p + e.2 ≤ 8 * W.length ∧ takeV W up p e.2 = e.1 ∧ Reads up W (p + e.2) r
def FitC (l : List (Nat × Nat)) : Prop := ∀ e ∈ l, e.1 < 2 ^ e.2 ∧ 1 ≤ e.2 ∧ e.2 ≤ 12
theorem putAll_ok {up : Bool} : ∀ (l : List (Nat × Nat)) (s : List Int × Nat), WOk up s.1 s.2 → WOk up (putAll up l s).1 (putAll up l s).2 ∧ s.2 ≤ (putAll up l s).2 ∧ ∀ j, j < s.2 → bitAt (putAll up l s).1 up j = bitAt s.1 up j
 | [], s, h => ⟨h, Nat.le_refl _, fun _ _ => rfl⟩
 | e :: r, s, h => by
  have h1 := putV_ok (v := e.1) (n := e.2) h e.2
  obtain ⟨h2, h3, h4⟩ := putAll_ok r (putV up s.1 s.2 e.1 e.2 e.2, s.2 + e.2) h1
  rw [putAll]
  simp only at h3 h4
  refine ⟨h2, by omega, fun j hj => ?_⟩
  rw [h4 j (by omega), putV_bits h, if_neg (by omega)]
theorem reads_putAll {up : Bool} : ∀ (l : List (Nat × Nat)) (s : List Int × Nat), WOk up s.1 s.2 → FitC l → Reads up (putAll up l s).1 s.2 l
 | [], s, h, hf => trivial
 | e :: r, s, h, hf => by
  have h1 := putV_ok (v := e.1) (n := e.2) h e.2
  obtain ⟨h2, h3, h4⟩ := putAll_ok r (putV up s.1 s.2 e.1 e.2 e.2, s.2 + e.2) h1
  have ih := reads_putAll r (putV up s.1 s.2 e.1 e.2 e.2, s.2 + e.2) h1 (fun x hx => hf x (by simp [hx]))
  have he := hf e (by simp)
  rw [putAll]
  simp only at h3 h4 ih
  refine ⟨Nat.le_trans h3 h2.lo, ?_, ih⟩
  rw [takeV_wrote (v := e.1) (by omega) fun j hj => by rw [h4 _ (by omega), putV_bits h, if_pos (by omega), Nat.add_sub_cancel_left]]
  refine Int.emod_eq_of_lt (by omega) ?_
  have e2 : ((2 : Int) ^ e.2) = ((2 ^ e.2 : Nat) : Int) := by simp
  rw [e2]; omega
theorem putAll_len {up : Bool} : ∀ (l : List (Nat × Nat)) (s : List Int × Nat), FitC l → (putAll up l s).2 ≤ s.2 + 12 * l.length
 | [], s, _ => by simp [putAll]
 | e :: r, s, hf => by
  have ih := putAll_len (up := up) r (putV up s.1 s.2 e.1 e.2 e.2, s.2 + e.2) (fun x hx => hf x (by simp [hx]))
  have he := hf e (by simp)
  rw [putAll, List.length_cons]
  simp only at ih
  omega
theorem pk_length {cl w0 early : Nat} : ∀ (l : List Int) (E : List (Nat × Int)) (wd : Nat) (ato : Option Nat), (pk cl w0 early l E wd ato).length ≤ 2 * l.length + 2
 | [], E, wd, none => by simp [pk]
 | [], E, wd, some a => by simp [pk]
 | x :: r, E, wd, none => by
  rw [pk]
  have := pk_length (cl := cl) (w0 := w0) (early := early) r E wd (some x.toNat)
  rw [List.length_cons]; omega
 | x :: r, E, wd, some a => by
  rw [pk]
  split
  ·rename_i c _
   have := pk_length (cl := cl) (w0 := w0) (early := early) r E wd (some c)
   rw [List.length_cons]; omega
  ·split
   ·have := pk_length (cl := cl) (w0 := w0) (early := early) r [] w0 (some x.toNat)
    simp only [List.length_cons]; omega
   ·have := pk_length (cl := cl) (w0 := w0) (early := early) r (E ++ [(a, x)]) (wdA cl early E wd) (some x.toNat)
    simp only [List.length_cons]; omega
structure Wide (cl early : Nat) (n wd : Nat) : Prop where
 one : 1 ≤ wd
 most : wd ≤ 12
 fit : cl + 2 + n + early ≤ 2 ^ wd
theorem Wide.next {cl early n wd : Nat} (h : Wide cl early n wd) (h90 : cl + 2 + n ≤ 4090) (he : early ≤ 1) (h1 : n = 0 → cl + 3 + early ≤ 2 ^ wd) {E : List (Nat × Int)} (hE : E.length = n) : Wide cl early (n + 1) (wdA cl early E wd) := by
 obtain ⟨h2, h3, h4⟩ := h
 have hr := wdA_range (cl := cl) (early := early) (E := E) h2 h3
 refine ⟨hr.1, hr.2, ?_⟩
 unfold wdA
 split
 ·have := h1 (by omega)
  rw [show cl + 2 + (n + 1) + early = cl + 3 + early + n by omega]
  omega
 ·unfold wdN
  rw [hE]
  split
  ·rename_i hc
   rw [Nat.pow_succ]; omega
  ·rename_i hc
   by_cases h12 : wd < 12
   ·have : ¬ cl + 2 + n + early = 2 ^ wd := fun e => hc ⟨e, h12⟩
    omega
   ·have : wd = 12 := by omega
    subst this
    have : (2 : Nat) ^ 12 = 4096 := by decide
    omega
theorem pk_fit {cl w0 early : Nat} (hw0 : Wide cl early 1 w0) (he : early ≤ 1) : ∀ (l : List Int) (E : List (Nat × Int)) (wd : Nat) (ato : Option Nat), Wide cl early E.length wd → cl + 2 + E.length ≤ 4090 → (E.length = 0 → wd = w0) →
  (∀ x ∈ l, 0 ≤ x ∧ x < cl) → (∀ a, ato = some a → a < cl + 2 + E.length) → FitC (pk cl w0 early l E wd ato)
 | [], E, wd, none, hw, h90, h0, hl, ha => by
  intro e he
  simp only [pk, List.mem_singleton] at he
  subst he
  exact ⟨by have := hw.fit; simp only; omega, hw.one, hw.most⟩
 | [], E, wd, some a, hw, h90, h0, hl, ha => by
  have hn := hw.next h90 he (fun e => by have := hw0.fit; rw [h0 e]; omega) rfl
  intro e he
  simp only [pk, List.mem_cons, List.not_mem_nil, or_false] at he
  rcases he with rfl | rfl
  ·exact ⟨by have := hw.fit; have := ha a rfl; simp only; omega, hw.one, hw.most⟩
  ·exact ⟨by have := hn.fit; simp only; omega, hn.one, hn.most⟩
 | x :: r, E, wd, none, hw, h90, h0, hl, ha => by
  rw [pk]
  have hx := hl x (by simp)
  exact pk_fit hw0 he r E wd _ hw h90 h0 (fun y hy => hl y (by simp [hy])) (fun a ha => by cases ha; omega)
 | x :: r, E, wd, some a, hw, h90, h0, hl, ha => by
  have hx := hl x (by simp)
  have hr : ∀ y ∈ r, 0 ≤ y ∧ y < cl := fun y hy => hl y (by simp [hy])
  have hn := hw.next h90 he (fun e => by have := hw0.fit; rw [h0 e]; omega) rfl
  have h1 : (a, wd).1 < 2 ^ (a, wd).2 ∧ 1 ≤ (a, wd).2 ∧ (a, wd).2 ≤ 12 := ⟨by have := hw.fit; have := ha a rfl; simp only; omega, hw.one, hw.most⟩
  rw [pk]
  cases hfd : fnd a x E (cl + 2) with
  | some c =>
   have := fnd_some hfd
   exact pk_fit hw0 he r E wd _ hw h90 h0 hr (fun b hb => by cases hb; omega)
  | none =>
   simp only
   split
   ·have ih := pk_fit hw0 he r [] w0 (some x.toNat) ⟨hw0.one, hw0.most, by have := hw0.fit; simp only [List.length_nil]; omega⟩ (by simp; omega) (fun _ => rfl) hr (fun b hb => by cases hb; simp; omega)
    intro e hm
    simp only [List.mem_cons] at hm
    rcases hm with rfl | rfl | hm
    ·exact h1
    ·exact ⟨by have := hn.fit; simp only; omega, hn.one, hn.most⟩
    ·exact ih e hm
   ·rename_i h4
    have ih := pk_fit hw0 he r (E ++ [(a, x)]) (wdA cl early E wd) (some x.toNat) (by rw [List.length_append]; exact hn) (by simp; omega) (fun e => by simp at e) hr (fun b hb => by cases hb; simp; omega)
    intro e hm
    simp only [List.mem_cons] at hm
    rcases hm with rfl | hm
    ·exact h1
    ·exact ih e hm
end Go.Proofs.YtiiaihiliimcoaaGreat
namespace Go.Proofs.YtiiaihiliimcoaaGreat
open Go Go.Vc Go.RowKit
set_option maxRecDepth 100000
def Tab (cl : Nat) (E : List (Nat × Int)) (T : List (List Int)) : Prop := E.length = T.length ∧ ∀ j, j < T.length → ∃ a x, E[j]? = some (a, x) ∧ T[j]? = some (strOf cl T a ++ [x]) ∧ vcode cl j a
theorem Tab.add {cl : Nat} {E : List (Nat × Int)} {T : List (List Int)} (h : Tab cl E T) {c : Nat} (hc : vcode cl T.length c) (x : Int) : Tab cl (E ++ [(c, x)]) (T ++ [strOf cl T c ++ [x]]) := by
 obtain ⟨h1, h2⟩ := h
 refine ⟨by simp [h1], fun j hj => ?_⟩
 rw [List.length_append, List.length_singleton] at hj
 by_cases hlt : j < T.length
 ·obtain ⟨a, y, e1, e2, e3⟩ := h2 j hlt
  refine ⟨a, y, by rw [List.getElem?_append_left (by omega)]; exact e1, ?_, e3⟩
  rw [List.getElem?_append_left hlt, strOf_app _ (e3.mono (by omega))]; exact e2
 ·have : j = T.length := by omega
  subst this
  refine ⟨c, x, by rw [← h1]; simp, ?_, hc⟩
  rw [strOf_app _ hc]; simp
def Sy (cl : Nat) (E : List (Nat × Int)) (ato : Option Nat) (pend : List Int) (s : LS) : Prop :=
 (E = [] ∧ s.ah = none ∧ s.T = [] ∧ ((ato = none ∧ pend = []) ∨ ∃ c, c < cl ∧ ato = some c ∧ pend = [(c : Int)])) ∨
 (∃ (a c : Nat) (x : Int), s.ah = some a ∧ vcode cl s.T.length a ∧ ato = some c ∧ Tab cl E (s.T ++ [strOf cl s.T a ++ [x]]) ∧ vcode cl (s.T.length + 1) c ∧ strOf cl (s.T ++ [strOf cl s.T a ++ [x]]) c = pend ∧ pend.headD 0 = x ∧ pend ≠ [])
def fin (most : Int) (l : List Int) : List Int × Int := if most < (l.length : Nat) then ([], 3) else (l, 0)
theorem headD_append {l m : List Int} (h : l ≠ []) : (l ++ m).headD 0 = l.headD 0 := by cases l with | nil => exact (h rfl).elim | cons x r => rfl
theorem Sy.more {cl : Nat} {E : List (Nat × Int)} {a c : Nat} {x : Int} {pend : List Int} {s : LS} (h : Sy cl E (some a) pend s) (hf : fnd a x E (cl + 2) = some c) : Sy cl E (some c) (pend ++ [x]) s := by
 rcases h with ⟨rfl, _⟩ | ⟨b, c0, y, h1, h2, h3, h4, h5, h6, h7, h8⟩
 ·cases hf
 ·cases h3
  obtain ⟨f1, f2, f3⟩ := fnd_some hf
  have hEl := h4.1
  rw [List.length_append, List.length_singleton] at hEl
  obtain ⟨a', x', e1, e2, e3⟩ := h4.2 (c - (cl + 2)) (by rw [List.length_append, List.length_singleton]; omega)
  rw [f3] at e1
  cases e1
  refine .inr ⟨b, c, y, h1, h2, rfl, h4, .inr (by omega), ?_, by rw [headD_append h8]; exact h7, by simp⟩
  rw [strOf_ge _ f1, show c - cl - 2 = c - (cl + 2) by omega]
  simp only [List.getD, e2, Option.getD_some, h6]
theorem Sy.emit {cl early : Nat} {E : List (Nat × Int)} {c : Nat} {pend : List Int} {s : LS} (hi : Inv cl s) (h : Sy cl E (some c) pend s) (h90 : cl + 2 + E.length ≤ 4090) :
  c ≠ cl ∧ c ≠ cl + 1 ∧ ¬ badC cl s c ∧ tOf cl s c = pend ∧ (nextS cl early s c).wd = wdA cl early E s.wd ∧
  ∀ x : Int, 0 ≤ x → x < cl → Sy cl (E ++ [(c, x)]) (some x.toNat) [x] (nextS cl early s c) := by
 rcases h with ⟨rfl, h1, h2, ⟨h3, _⟩ | ⟨c', h3, h4, h5⟩⟩ | ⟨b, c0, y, h1, h2, h3, h4, h5, h6, h7, h8⟩
 ·cases h3
 ·cases h4
  refine ⟨by omega, by omega, by simp only [badC, h1]; omega, by simp only [tOf, h1, h5], ?_, fun x x0 x1 => .inr ⟨c, x.toNat, x, ?_, ?_, rfl, ?_, .inl (by omega), ?_, rfl, by simp⟩⟩
  ·simp only [nextS, h1, wdA]; simp
  ·simp only [nextS, h1]
  ·exact .inl h3
  ·simp only [nextS, h1, h2]
   exact (Tab.add (E := []) (T := []) ⟨rfl, fun j hj => by simp at hj⟩ (.inl h3) x)
  ·rw [strOf_lt _ (by omega)]
   congr 1; omega
 ·cases h3
  have hEl := h4.1
  rw [List.length_append, List.length_singleton] at hEl
  have hsb := hi.str h2
  have hnb : strOf cl s.T b ≠ [] := fun e => by rw [e] at hsb; simp at hsb
  have hbad : ¬ badC cl s c := by
   simp only [badC, h1]
   unfold vcode at h5; omega
  have hgiv : givenS cl s b c = pend := by
   unfold givenS
   by_cases hc : c = cl + 2 + s.T.length
   ·rw [if_pos hc]
    rw [strOf_ge _ (by omega), show c - cl - 2 = s.T.length by omega, getD_append_last] at h6
    have : (strOf cl s.T b).headD 0 = y := by rw [← h7, ← h6, headD_append hnb]
    rw [this]; exact h6
   ·rw [if_neg hc, ← h6, strOf_app _ (by unfold vcode at *; omega)]
  have hn : cl + 2 + s.T.length < 4096 := by omega
  have hns : nextS cl early s c = ⟨s.pos + s.wd, wid early (cl + 2 + s.T.length) s.wd, some c, s.A ++ [b], s.T ++ [strOf cl s.T b ++ [y]], s.out ++ pend⟩ := by
   simp only [nextS, h1, if_pos hn, hgiv, h7]
  refine ⟨by unfold vcode at h5; omega, by unfold vcode at h5; omega, hbad, by simp only [tOf, h1, hgiv], ?_, fun x x0 x1 => .inr ⟨c, x.toNat, x, by rw [hns], by rw [hns]; simpa using h5, rfl, ?_, .inl (by omega), ?_, rfl, by simp⟩⟩
  ·rw [hns]
   simp only [wdA, wdN, wid, hEl]
   rw [if_neg (show ¬ s.T.length + 1 = 0 by omega)]
   rfl
  ·rw [hns]
   simp only
   exact h4.add (by simpa using h5) x
  ·rw [strOf_lt _ (by omega)]
   congr 1; omega
theorem lz_take {bs : List Int} {up : Bool} {cl w0 early : Nat} {most : Int} {F v : Nat} {s : LS} (h1 : s.pos + s.wd ≤ 8 * bs.length) (h2 : takeV bs up s.pos s.wd = v) : lz bs up cl w0 early most (F + 1) s =
  if v = cl then lz bs up cl w0 early most F ⟨s.pos + s.wd, w0, none, [], [], s.out⟩
  else if v = cl + 1 then (s.out, 0)
  else if badC cl s v then ([], 32)
  else if most < (s.out.length + (tOf cl s v).length : Nat) then ([], 3) else lz bs up cl w0 early most F (nextS cl early s v) := by
 rw [lz_step, if_neg (by omega), h2, Int.toNat_natCast]
theorem fin_long {most : Int} {l m : List Int} (h : most < (l.length : Nat)) : fin most (l ++ m) = ([], 3) := by
 unfold fin
 rw [if_pos]
 rw [List.length_append]; omega
theorem dec_pk {up : Bool} {W : List Int} {cl w0 early : Nat} {most : Int} (hw1 : 1 ≤ w0) (hw2 : w0 ≤ 12) : ∀ (l : List Int) (E : List (Nat × Int)) (ato : Option Nat) (pend : List Int) (s : LS) (F : Nat),
  Inv cl s → Sy cl E ato pend s → Reads up W s.pos (pk cl w0 early l E s.wd ato) → (pk cl w0 early l E s.wd ato).length ≤ F → (∀ x ∈ l, 0 ≤ x ∧ x < cl) → cl + 2 + E.length ≤ 4090 → (s.out.length : Int) ≤ most →
  lz W up cl w0 early most F s = fin most (s.out ++ (pend ++ l))
 | [], E, none, pend, s, F, hi, hs, hr, hF, hl, h90, hm => by
  have hp : pend = [] := by
   rcases hs with ⟨_, _, _, ⟨_, h⟩ | ⟨c, _, h, _⟩⟩ | ⟨b, c0, y, _, _, h, _⟩
   ·exact h
   ·cases h
   ·cases h
  subst hp
  rw [pk] at hr hF
  obtain ⟨G, rfl⟩ : ∃ G, F = G + 1 := ⟨F - 1, by simp at hF; omega⟩
  rw [lz_take hr.1 hr.2.1, if_neg (by omega), if_pos rfl]
  unfold fin
  rw [if_neg (by simp; omega)]; simp
 | [], E, some c, pend, s, F, hi, hs, hr, hF, hl, h90, hm => by
  rw [pk] at hr hF
  obtain ⟨e1, e2, e3, e4, e5, e6⟩ := hs.emit (early := early) hi h90
  have nx := hi.nxt (early := early) e1 e2 e3
  obtain ⟨G, rfl⟩ : ∃ G, F = G + 1 + 1 := ⟨F - 2, by simp at hF; omega⟩
  rw [lz_take hr.1 hr.2.1, if_neg e1, if_neg e2, if_neg e3, e4]
  split
  ·rename_i hlt
   rw [List.append_nil]
   unfold fin
   rw [if_pos (by rw [List.length_append]; omega)]
  ·rename_i hge
   obtain ⟨-, -, hr2⟩ := hr
   have ho := nx.out
   rw [e4] at ho
   rw [← nx.pos, ← e5] at hr2
   rw [lz_take hr2.1 hr2.2.1, if_neg (by omega), if_pos rfl, ho, List.append_nil]
   unfold fin
   rw [if_neg (by rw [List.length_append]; omega)]
 | x :: r, E, none, pend, s, F, hi, hs, hr, hF, hl, h90, hm => by
  have hx := hl x (by simp)
  have hp : E = [] ∧ s.ah = none ∧ s.T = [] ∧ pend = [] := by
   rcases hs with ⟨h1, h2, h3, ⟨_, h⟩ | ⟨c, _, h, _⟩⟩ | ⟨b, c0, y, _, _, h, _⟩
   ·exact ⟨h1, h2, h3, h⟩
   ·cases h
   ·cases h
  obtain ⟨rfl, h2, h3, rfl⟩ := hp
  rw [pk] at hr hF
  have hex : (x.toNat : Int) = x := by omega
  have ih := dec_pk (most := most) hw1 hw2 r [] (some x.toNat) [x] s F hi (.inl ⟨rfl, h2, h3, .inr ⟨x.toNat, by omega, rfl, by rw [hex]⟩⟩) hr hF (fun y hy => hl y (by simp [hy])) h90 hm
  rw [ih]; rfl
 | x :: r, E, some a, pend, s, F, hi, hs, hr, hF, hl, h90, hm => by
  have hx := hl x (by simp)
  have hlr : ∀ y ∈ r, 0 ≤ y ∧ y < cl := fun y hy => hl y (by simp [hy])
  rw [pk] at hr hF
  cases hfd : fnd a x E (cl + 2) with
  | some c =>
   rw [hfd] at hr hF
   have ih := dec_pk (most := most) hw1 hw2 r E (some c) (pend ++ [x]) s F hi (hs.more hfd) hr hF hlr h90 hm
   rw [ih, List.append_assoc]; rfl
  | none =>
   rw [hfd] at hr hF
   simp only at hr hF
   obtain ⟨e1, e2, e3, e4, e5, e6⟩ := hs.emit (early := early) hi h90
   have nx := hi.nxt (early := early) e1 e2 e3
   have ho := nx.out
   rw [e4] at ho
   have hsy := e6 x hx.1 hx.2
   have hlong : ∀ m : List Int, most < ((s.out.length + pend.length : Nat) : Int) → fin most (s.out ++ (pend ++ m)) = ([], 3) := fun m hh => by
    rw [← List.append_assoc]; exact fin_long (by rw [List.length_append]; exact hh)
   have hex : (x.toNat : Int) = x := by omega
   split at hr
   ·rename_i h4
    rw [if_pos h4] at hF
    obtain ⟨G, rfl⟩ : ∃ G, F = G + 1 + 1 := ⟨F - 2, by simp at hF; omega⟩
    rw [lz_take hr.1 hr.2.1, if_neg e1, if_neg e2, if_neg e3, e4]
    split
    ·rename_i hlt; exact (hlong _ hlt).symm
    ·rename_i hge
     obtain ⟨-, -, hr2⟩ := hr
     rw [← nx.pos, ← e5] at hr2
     rw [lz_take hr2.1 hr2.2.1, if_pos rfl]
     have ih := dec_pk (most := most) hw1 hw2 r [] (some x.toNat) [x] ⟨(nextS cl early s a).pos + (nextS cl early s a).wd, w0, none, [], [], (nextS cl early s a).out⟩ G (nx.inv.clear hw1 hw2) (.inl ⟨rfl, rfl, rfl, .inr ⟨x.toNat, by omega, rfl, by rw [hex]⟩⟩) hr2.2.2 (by simp at hF; simp only; omega) hlr (by simp; omega) (by simp only [ho, List.length_append]; omega)
     rw [ih]
     simp only [ho, List.append_assoc]; rfl
   ·rename_i h4
    rw [if_neg h4] at hF
    obtain ⟨G, rfl⟩ : ∃ G, F = G + 1 := ⟨F - 1, by simp at hF; omega⟩
    rw [lz_take hr.1 hr.2.1, if_neg e1, if_neg e2, if_neg e3, e4]
    split
    ·rename_i hlt; exact (hlong _ hlt).symm
    ·rename_i hge
     obtain ⟨-, -, hr2⟩ := hr
     have ih := dec_pk (most := most) hw1 hw2 r (E ++ [(a, x)]) (some x.toNat) [x] (nextS cl early s a) G nx.inv hsy (by rw [nx.pos, e5]; exact hr2) (by rw [e5]; simp at hF; omega) hlr (by simp; omega) (by rw [ho, List.length_append]; omega)
     rw [ih]
     simp only [ho, List.append_assoc]; rfl
theorem lz_pack {up : Bool} {bs : List Int} {cl w0 early : Nat} {most : Int} (hcl : cl ≤ 256) (hc4 : 4 ≤ cl) (hw0 : Wide cl early 1 w0) (he : early ≤ 1) (hb : ∀ x ∈ bs, 0 ≤ x ∧ x < cl) (hm : 0 ≤ most) :
  lz (packL bs cl w0 early up) up cl w0 early most (8 * (packL bs cl w0 early up).length + 1) (initS w0) = fin most bs := by
 have hfit := pk_fit hw0 he bs [] w0 none ⟨hw0.one, hw0.most, by have := hw0.fit; simp only [List.length_nil]; omega⟩ (by simp; omega) (fun _ => rfl) hb (fun a ha => by cases ha)
 have hfit' : FitC ((cl, w0) :: pk cl w0 early bs [] w0 none) := fun e hm => by
  rcases List.mem_cons.1 hm with rfl | hm
  ·exact ⟨by have := hw0.fit; simp only; omega, hw0.one, hw0.most⟩
  ·exact hfit e hm
 have hr := reads_putAll (up := up) _ ([], 0) (WOk.nil up) hfit'
 have hok := (putAll_ok (up := up) ((cl, w0) :: pk cl w0 early bs [] w0 none) ([], 0) (WOk.nil up)).1
 have hlen : (pk cl w0 early bs [] w0 none).length + 1 ≤ 8 * (packL bs cl w0 early up).length := by
  have hge : ∀ (l : List (Nat × Nat)) (s : List Int × Nat), FitC l → s.2 + l.length ≤ (putAll up l s).2 := by
   intro l
   induction l with
   | nil => intro s _; simp [putAll]
   | cons e r ih =>
    intro s hf
    have := ih (putV up s.1 s.2 e.1 e.2 e.2, s.2 + e.2) (fun x hx => hf x (by simp [hx]))
    have he := hf e (by simp)
    rw [putAll, List.length_cons]; simp only at this; omega
  have h1 := hge _ ([], 0) hfit'
  have h2 := hok.lo
  rw [List.length_cons] at h1
  unfold packL
  simp only at h1
  omega
 change Reads up (packL bs cl w0 early up) 0 ((cl, w0) :: pk cl w0 early bs [] w0 none) at hr
 obtain ⟨r1, r2, r3⟩ := hr
 generalize packL bs cl w0 early up = W at *
 have h1 := hw0.one
 have h2 := hw0.most
 have hi0 : Inv cl (initS w0) := ⟨hcl, hc4, h1, h2, by simp [initS]; omega, rfl, by simp [initS], by simp [initS], fun _ => rfl, by simp [initS, Bs], by simp [initS]⟩
 rw [lz_take (s := initS w0) (v := cl) r1 r2, if_pos rfl]
 have := dec_pk (up := up) (W := W) (early := early) (most := most) h1 h2 bs [] none [] ⟨(initS w0).pos + (initS w0).wd, w0, none, [], [], (initS w0).out⟩ (8 * W.length) (hi0.clear h1 h2) (.inl ⟨rfl, rfl, rfl, .inl ⟨rfl, rfl⟩⟩) r3 (by simp only; omega) hb (by simp; omega) (by simp [initS]; omega)
 rw [this]; simp [initS]
theorem packL_bs {bs : List Int} {cl w0 early : Nat} {up : Bool} : Bs (packL bs cl w0 early up) := (putAll_ok (up := up) ((cl, w0) :: pk cl w0 early bs [] w0 none) ([], 0) (WOk.nil up)).1.fit
theorem packL_len {bs : List Int} {cl w0 early : Nat} {up : Bool} (hcl : cl ≤ 256) (hw0 : Wide cl early 1 w0) (he : early ≤ 1) (hb : ∀ x ∈ bs, 0 ≤ x ∧ x < cl) : (packL bs cl w0 early up).length ≤ 3 * bs.length + 6 := by
 have hfit := pk_fit hw0 he bs [] w0 none ⟨hw0.one, hw0.most, by have := hw0.fit; simp only [List.length_nil]; omega⟩ (by simp; omega) (fun _ => rfl) hb (fun a ha => by cases ha)
 have hfit' : FitC ((cl, w0) :: pk cl w0 early bs [] w0 none) := fun e hm => by
  rcases List.mem_cons.1 hm with rfl | hm
  ·exact ⟨by have := hw0.fit; simp only; omega, hw0.one, hw0.most⟩
  ·exact hfit e hm
 have hok := (putAll_ok (up := up) ((cl, w0) :: pk cl w0 early bs [] w0 none) ([], 0) (WOk.nil up)).1
 have h1 := putAll_len (up := up) _ ([], 0) hfit'
 have h2 := hok.hi
 have h3 := pk_length (cl := cl) (w0 := w0) (early := early) bs [] w0 none
 rw [List.length_cons] at h1
 unfold packL
 simp only at h1
 omega
end Go.Proofs.YtiiaihiliimcoaaGreat
namespace Go.Proofs.YtiiaihiliimcoaaGreat
open Go Go.Vc Go.RowKit
set_option maxRecDepth 100000
theorem mk_sl {D : Nat} {w w' : World} {N : Nat} {base : Option Addr} {vs : List Value} (h : Mk D w w') (hs : Sl N w base vs) : Sl N w' base vs := by
 intro j v hj
 obtain ⟨a, h1, h2, h3⟩ := hs j v hj
 exact ⟨a, h1, h2, by rw [h.cell]; exact h3⟩
theorem wide_gif {n : Nat} (h1 : 2 ≤ n) (h2 : n < 9) : Wide (2 ^ n) 0 1 (n + 1) := by
 have : ∀ n : Nat, n < 9 → 2 ≤ n → 2 ^ n + 2 + 1 + 0 ≤ 2 ^ (n + 1) := by decide
 exact ⟨by omega, by omega, this n h2 h1⟩
theorem fin_ok {most : Int} {l : List Int} (h : (l.length : Int) ≤ most) : fin most l = (l, 0) := by unfold fin; rw [if_neg (by omega)]
theorem bs_of {l : List Int} (h : l.all (fun n => decide (0 ≤ n ∧ n ≤ 255)) = true) : Bs l := fun n hn => by simpa using List.all_eq_true.1 h n hn
end Go.Proofs.YtiiaihiliimcoaaGreat
namespace Go.Proofs.YtiiaihiliimcoaaGreat
open Go Go.Vc Go.RowKit Go.Qn
set_option maxRecDepth 100000
def Si (u : World) (b n : Nat) (D : Nat → Int) : Prop := ∃ rest, Cs u b ((seg D 0 n).map i64 ++ rest)
def updI (D : Nat → Int) (i : Nat) (c : Int) : Nat → Int := fun k => if k = i then c else D k
section
variable {u u' : World} {b n : Nat} {D : Nat → Int}
theorem Si.ext (h : Si u b n D) (hE : Ext u u') : Si u' b n D := by obtain ⟨r, h⟩ := h; exact ⟨r, h.ext hE⟩
theorem Si.drew (h : Si u b n D) : Si u.drew b n D := h
theorem Si.cell (h : Si u b n D) {i : Nat} (hi : i < n) : u.cell? ⟨b, i, none⟩ = some (i64 (D i)) := by
 obtain ⟨r, h⟩ := h
 refine h.cell ?_
 rw [List.getElem?_append_left (by rw [List.length_map, seg_len]; omega), List.getElem?_map, seg_get D (by omega), Nat.zero_add]; rfl
theorem Si.ld (h : Si u b n D) {i : Int} (h0 : 0 ≤ i) (h1 : i < n) {F : Addr → Prop} (hF : u.cell? ⟨b, i.toNat, none⟩ = some (i64 (D i.toNat)) → F ⟨b, i.toNat, none⟩) : idx (some ⟨b, 0, none⟩) n i 1 F := by
 refine idx_i h0 (by omega) rfl ?_
 rw [loc_add, Nat.zero_add, Nat.mul_one]
 exact hF (h.cell (by omega))
theorem Si.st (h : Si u b n D) {i : Int} (h0 : 0 ≤ i) (h1 : i < n) {K : Addr → Prop} (hK : K ⟨b, i.toNat, none⟩) :
  idx (some ⟨b, 0, none⟩) n i 1 fun a => (∃ v, u.cell? a = some v) ∧ (u.frozen? a = false) ∧ K a := by
 refine idx_i h0 (by omega) rfl ?_
 rw [loc_add, Nat.zero_add, Nat.mul_one]
 obtain ⟨r, h'⟩ := id h
 exact ⟨⟨_, h.cell (by omega)⟩, h'.frozen _, hK⟩
theorem Si.put (h : Si u b n D) {i : Nat} (hi : i < n) (c : Int) : Si (setCells u ⟨b, i, none⟩ [i64 c] 0) b n (updI D i c) := by
 obtain ⟨r, h⟩ := h
 refine ⟨r, ?_⟩
 have := h.set1 (off := i) (v := i64 c) (by rw [List.length_append, List.length_map, seg_len]; omega)
 rw [List.set_append_left _ _ (by rw [List.length_map, seg_len]; omega)] at this
 have e : ((seg D 0 n).map i64).set i (i64 c) = (seg (updI D i c) 0 n).map i64 := by
  rw [← List.map_set]
  congr 1
  refine List.ext_getElem? fun j => ?_
  rw [List.getElem?_set]
  rcases Nat.lt_or_ge j n with hj | hj
  ·rw [seg_get D (by omega), seg_get (updI D i c) (by omega), seg_len, Nat.zero_add]
   by_cases e : i = j
   ·subst e; rw [if_pos rfl, if_pos (by omega)]; simp [updI]
   ·rw [if_neg e]; simp [updI, show j ≠ i from fun h => e h.symm]
  ·rw [if_neg (by omega), List.getElem?_eq_none (by rw [seg_len]; omega), List.getElem?_eq_none (by rw [seg_len]; omega)]
 rwa [e] at this
theorem Si.two (h : Si u b n D) {i j : Nat} (hi : i < n) (hj : j < n) : Si (setCells (setCells u ⟨b, i, none⟩ [i64 (D j)] 0) ⟨b, j, none⟩ [i64 (D i)] 0) b n (swp D i j) ∧ Chg (· = b) u (setCells (setCells u ⟨b, i, none⟩ [i64 (D j)] 0) ⟨b, j, none⟩ [i64 (D i)] 0) := by
 refine ⟨?_, ?_⟩
 ·have := (h.put hi (D j)).put hj (D i)
  have e : updI (updI D i (D j)) j (D i) = swp D i j := by
   funext k; simp only [updI, swp]
   repeat' split
   all_goals first | rfl | (exfalso; omega) | (congr 1; omega)
  rwa [e] at this
 ·exact ((Chg.setCells u ⟨b, i, none⟩ [i64 (D j)] 0 :)).trans (Chg.setCells _ ⟨b, j, none⟩ [i64 (D i)] 0 :) fun i hi _ => hi
end
theorem swpI_comm (D : Nat → Int) (i j : Nat) : swp D i j = swp D j i := by
 funext k; simp only [swp]
 repeat' split
 all_goals first | rfl | (exfalso; omega) | (congr 1; omega)
theorem swapRI_spec {va : Value} {w : World} {b n cap p q m : Nat} {D : Nat → Int} {R : Ending → World → Prop} (h : Si w b n D) (hp : p + m ≤ q) (hq : q + m ≤ n) (hn : n ≤ 2 ^ 40)
  (hR : ∀ w', Si w' b n (swr D p q m) → Chg (· = b) w w' → R (.returned (.tuple #[])) w') :
  Calls P F.slices_swapRangeCmpFunc_int #[.slice (some ⟨b, 0, none⟩) n cap, i64 p, i64 q, i64 m, va] w R := by
 refine calls_slices_swapRangeCmpFunc_int _ _ _ _ _ _ _ _ _ ?_
 unfold vc_slices_swapRangeCmpFunc_int
 refine ⟨fun vs u => ∃ k : Nat, vs = [i64 k] ∧ k ≤ m ∧ Si u b n (swr D p q k) ∧ Chg (· = b) w u, fun vs _ => match vs with | [.int _ k] => (m - k).toNat | _ => 0,
  ⟨0, rfl, Nat.zero_le _, by rw [swr_zero]; exact h, Chg.refl _ _⟩, fun k' w1 hI => ?_⟩
 obtain ⟨k, hv, hk, hS, hC⟩ := hI
 obtain rfl : k' = k := by simpa using hv
 refine brB_i (fun hlt => ?_) fun hge => ?_
 ·have hlt : k < m := by simp at hlt; omega
  rw [w64 (x := (q : Int) + k) (by omega) (by omega), w64 (x := (p : Int) + k) (by omega) (by omega), w64 (x := (k : Int) + 1) (by omega) (by omega)]
  refine hS.drew.ld (by omega) (by omega) fun e1 => ⟨_, e1, ?_⟩
  refine hS.drew.ld (by omega) (by omega) fun e1 => ⟨_, e1, ?_⟩
  have ep : ((p : Int) + k).toNat = p + k := by omega
  have eq : ((q : Int) + k).toNat = q + k := by omega
  refine hS.drew.st (by omega) (by omega) ?_
  have h1 := hS.drew.put (i := p + k) (by omega) (swr D p q k (q + k))
  rw [ep, eq]
  refine h1.st (i := (q : Int) + k) (by omega) (by omega) ?_
  rw [eq]
  obtain ⟨h2, h3⟩ := hS.drew.two (i := p + k) (j := q + k) (by omega) (by omega)
  rw [swr_step D (by omega)] at h2
  exact ⟨⟨k + 1, by simp, by omega, h2, chgb (chg_dr hC) h3⟩, by show ((m : Int) - ((k : Int) + 1)).toNat < ((m : Int) - k).toNat; omega⟩
 ·have hge : k = m := by simp at hge; omega
  subst hge
  exact hR w1 hS hC
theorem rotateI_spec {va : Value} {w : World} {b n cap a m e : Nat} {D : Nat → Int} {R : Ending → World → Prop} (h : Si w b n D) (ham : a < m) (hme : m < e) (he : e ≤ n) (hn : n ≤ 2 ^ 40)
  (hR : ∀ w', Si w' b n (rot D a m e) → Chg (· = b) w w' → R (.returned (.tuple #[])) w') :
  Calls P F.slices_rotateCmpFunc_int #[.slice (some ⟨b, 0, none⟩) n cap, i64 a, i64 m, i64 e, va] w R := by
 refine calls_slices_rotateCmpFunc_int _ _ _ _ _ _ _ _ _ ?_
 unfold vc_slices_rotateCmpFunc_int
 rw [w64 (x := (m : Int) - a) (by omega) (by omega), w64 (x := (e : Int) - m) (by omega) (by omega)]
 refine ⟨fun vs u => ∃ (i j : Nat) (E : Nat → Int), vs = [i64 i, i64 j] ∧ 0 < i ∧ 0 < j ∧ i ≤ m - a ∧ j ≤ e - m ∧ Si u b n E ∧ Chg (· = b) w u ∧ rot E (m - i) m (m + j) = rot D a m e,
  fun vs _ => match vs with | [.int _ i, .int _ j] => (i + j).toNat | _ => 0,
  ⟨m - a, e - m, D, by simp; omega, by omega, by omega, Nat.le_refl _, Nat.le_refl _, h, Chg.refl _ _, by rw [show m - (m - a) = a by omega, show m + (e - m) = e by omega]⟩, fun i' j' w1 hI => ?_⟩
 obtain ⟨i, j, E, hv, hi, hj, hi2, hj2, hS, hC, hE⟩ := hI
 obtain ⟨rfl, rfl⟩ : i' = i ∧ j' = j := by simpa using hv
 rw [w64 (x := (m : Int) - i) (by omega) (by omega)]
 have e1 : (m : Int) - i = ((m - i : Nat) : Int) := by omega
 refine brB_i (fun hne => ?_) fun heq => ?_
 ·have hne : i ≠ j := by simp at hne; omega
  refine ⟨fun vs u => ∃ (i' j' : Nat) (E : Nat → Int), vs = [i64 i', i64 j'] ∧ 0 < i' ∧ 0 < j' ∧ i' ≤ m - a ∧ j' ≤ e - m ∧ i' + j' < i + j ∧ Si u b n E ∧ Chg (· = b) w u ∧ rot E (m - i') m (m + j') = rot D a m e, ?_, fun n3 n4 w4 hI => ?_⟩
  ·refine brB_i (fun hgt => ?_) fun hle => ?_
   ·have hgt : j < i := by simp at hgt; omega
    rw [e1]
    refine swapRI_spec hS (by omega) (by omega) hn fun w' h1 h2 => ⟨rfl, i - j, j, _, ?_, by omega, hj, by omega, hj2, by omega, h1, chgb hC h2, ?_⟩
    ·rw [w64 (x := (i : Int) - j) (by omega) (by omega)]; simp; omega
    ·have := rot_left E (a := m - i) (m := m) (b := m + j) (by omega) (by omega) (by omega)
     rw [show m + j - m = j by omega, show m - i + j = m - (i - j) by omega] at this
     rw [this]; exact hE
   ·have hle : i < j := by simp at hle; omega
    rw [w64 (x := (m : Int) + j) (by omega) (by omega), w64 (x := (m : Int) + j - i) (by omega) (by omega), e1, show (m : Int) + j - i = ((m + j - i : Nat) : Int) by omega]
    refine swapRI_spec hS (by omega) (by omega) hn fun w' h1 h2 => ⟨rfl, i, j - i, _, ?_, hi, by omega, hi2, by omega, by omega, h1, chgb hC h2, ?_⟩
    ·rw [w64 (x := (j : Int) - i) (by omega) (by omega)]; simp; omega
    ·have := rot_right E (a := m - i) (m := m) (b := m + j) (by omega) (by omega) (by omega)
     rw [show m - (m - i) = i by omega] at this
     rw [show m + (j - i) = m + j - i by omega, this]; exact hE
  ·obtain ⟨i2, j2, E2, hv2, h1, h2, h3, h4, h5, h6, h7, h8⟩ := hI
   obtain ⟨rfl, rfl⟩ : n3 = i2 ∧ n4 = j2 := by simpa using hv2
   exact ⟨⟨i2, j2, E2, rfl, h1, h2, h3, h4, h6, h7, h8⟩, by show ((i2 : Int) + j2).toNat < ((i : Int) + j).toNat; omega⟩
 ·have heq : i = j := by simp at heq; omega
  subst heq
  rw [e1]
  refine swapRI_spec hS (by omega) (by omega) hn fun w' h1 h2 => ⟨rfl, hR w' ?_ (chgb hC h2)⟩
  have := rot_even E (a := m - i) (m := m) (b := m + i) (by omega) (by omega) (by omega)
  rw [show m - (m - i) = i by omega] at this
  rw [← hE, ← this]; exact h1
end Go.Proofs.YtiiaihiliimcoaaGreat
namespace Go.Proofs.YtiiaihiliimcoaaGreat
open Go Go.Vc Go.RowKit Go.Qn
set_option maxRecDepth 100000
structure CmpI (va : Value) (key : Int → Int) (b : Nat) (Q : World → Prop) : Prop where
 go : ∀ (u : World) (x y : Int) (R : Ending → World → Prop), Q u → (∀ (n : Int) w', Ext u w' → (n < 0 ↔ key x < key y) → R (.returned (i64 n)) w') → callV P va [i64 x, i64 y] u R
 kp : ∀ u u', Q u → Chg (· = b) u u' → Q u'
theorem insortI_spec {va : Value} {key : Int → Int} {Q : World → Prop} {w : World} {b n cap a e : Nat} {D : Nat → Int} {R : Ending → World → Prop} (h : Si w b n D) (hQ : Q w) (hC : CmpI va key b Q) (hae : a ≤ e) (hen : e ≤ n) (hn : n ≤ 2 ^ 40)
  (hR : ∀ w' E, Si w' b n E → Chg (· = b) w w' → Rear key D E a e → AscF key E a e → R (.returned (.tuple #[])) w') :
  Calls P F.slices_insertionSortCmpFunc_int #[.slice (some ⟨b, 0, none⟩) n cap, i64 a, i64 e, va] w R := by
 refine calls_slices_insertionSortCmpFunc_int _ _ _ _ _ _ _ _ ?_
 unfold vc_slices_insertionSortCmpFunc_int
 rw [w64 (x := (a : Int) + 1) (by omega) (by omega)]
 refine ⟨fun vs u => ∃ (k : Nat) (E : Nat → Int), vs = [i64 k] ∧ a + 1 ≤ k ∧ (k ≤ e ∨ k = a + 1) ∧ Si u b n E ∧ Chg (· = b) w u ∧ Rear key D E a e ∧ AscF key E a k, fun vs _ => match vs with | [.int _ k] => (e - k).toNat | _ => 0,
  ⟨a + 1, D, by simp, Nat.le_refl _, .inr rfl, h, Chg.refl _ _, Rear.refl _ _ _ _, AscF.short (Nat.le_refl _)⟩, fun k' w1 hI => ?_⟩
 obtain ⟨k, E, hv, hk0, hk1, hS, hCh, hRe, hA⟩ := hI
 obtain rfl : k' = k := by simpa using hv
 refine brB_i (fun hlt => ?_) fun hge => ?_
 ·have hlt : k < e := by simp at hlt; omega
  refine ⟨fun vs u => vs = [] ∧ ∃ E : Nat → Int, Si u b n E ∧ Chg (· = b) w u ∧ Rear key D E a e ∧ AscF key E a (k + 1), ?_, fun w4 hI => ?_⟩
  ·refine ⟨fun vs u => ∃ (j : Nat) (E : Nat → Int), vs = [i64 j] ∧ a ≤ j ∧ j ≤ k ∧ Si u b n E ∧ Chg (· = b) w u ∧ Rear key D E a e ∧ Ins key E a j k, fun vs _ => match vs with | [.int _ j] => j.toNat | _ => 0,
    ⟨k, E, rfl, by omega, Nat.le_refl _, hS, hCh, hRe, Ins.start hA⟩, fun j' w2 hI => ?_⟩
   obtain ⟨j, E2, hv2, hj0, hj1, hS2, hCh2, hRe2, hIn⟩ := hI
   obtain rfl : j' = j := by simpa using hv2
   refine brB_i (fun hgt => ?_) fun hle => ?_
   ·have hgt : a < j := by simp at hgt; omega
    rw [w64 (x := (j : Int) - 1) (by omega) (by omega)]
    have ej : ((j : Int) - 1).toNat = j - 1 := by omega
    have ej' : (j : Int).toNat = j := by omega
    refine hS2.drew.ld (by omega) (by omega) fun e1 => ⟨_, e1, ?_⟩
    refine hS2.drew.ld (by omega) (by omega) fun e1 => ⟨_, e1, ?_⟩
    rw [ej, ej']
    refine hC.go _ (E2 j) (E2 (j - 1)) _ (hC.kp _ _ hQ (chg_dr hCh2)) fun c w3 hE3 hc => ⟨c, rfl, ?_⟩
    have hS3 := (hS2.drew.ext hE3).drew
    have hCh3 := chg_dr (chgb (chg_dr hCh2) hE3.chg)
    refine brB_i (fun hlt => ?_) fun hge => ?_
    ·have hlt : key (E2 j) < key (E2 (j - 1)) := hc.1 (by simpa using hlt)
     refine hS3.ld (by omega) (by omega) fun e1 => ⟨_, e1, ?_⟩
     refine hS3.ld (by omega) (by omega) fun e1 => ⟨_, e1, ?_⟩
     rw [ej, ej']
     refine hS3.st (by omega) (by omega) ?_
     rw [ej']
     have h1 := hS3.put (i := j) (by omega) (E2 (j - 1))
     refine h1.st (i := (j : Int) - 1) (by omega) (by omega) ?_
     rw [ej]
     obtain ⟨h2, h3⟩ := hS3.two (i := j) (j := j - 1) (by omega) (by omega)
     obtain ⟨i, rfl⟩ : ∃ i, j = i + 1 := ⟨j - 1, by omega⟩
     simp only [Nat.add_sub_cancel] at *
     rw [swpI_comm] at h2
     refine ⟨⟨i, _, by simp, by omega, by omega, h2, chgb hCh3 h3, hRe2.trans ((Rear.swp hlt).wide (by omega) (by omega) (by omega)), hIn.step (by omega) (by omega) hlt⟩, ?_⟩
     show (((i + 1 : Nat) : Int) - 1).toNat < ((i + 1 : Nat) : Int).toNat
     omega
    ·have hge : key (E2 (j - 1)) ≤ key (E2 j) := by
      have : ¬ c < 0 := by simpa using hge
      have := mt hc.2 this
      omega
     exact ⟨rfl, E2, hS2.drew.ext hE3, chgb (chg_dr hCh2) hE3.chg, hRe2, hIn.done (.inr ⟨j - 1, by omega, hge⟩)⟩
   ·have hle : j ≤ a := by simp at hle; omega
    exact ⟨rfl, E2, hS2.drew, chg_dr hCh2, hRe2, hIn.done (.inl hle)⟩
  ·obtain ⟨_, E2, h1, h2, h3, h4⟩ := hI
   rw [w64 (x := (k : Int) + 1) (by omega) (by omega)]
   exact ⟨⟨k + 1, E2, by simp, by omega, .inl (by omega), h1, h2, h3, h4⟩, by show ((e : Int) - ((k : Int) + 1)).toNat < ((e : Int) - k).toNat; omega⟩
 ·have hge : e ≤ k := by simp at hge; omega
  exact hR w1 E hS hCh hRe (hA.sub (Nat.le_refl _) hge)
theorem symMergeI_spec {va : Value} {key : Int → Int} {Q : World → Prop} {b n cap : Nat} (hC : CmpI va key b Q) (hn : n ≤ 2 ^ 40) : ∀ (d : Nat) {w : World} {D : Nat → Int} {a m e : Nat} {R : Ending → World → Prop}, e - a ≤ d → a < m → m < e → e ≤ n →
  Si w b n D → Q w → AscF key D a m → AscF key D m e →
  (∀ w' E, Si w' b n E → Chg (· = b) w w' → Rear key D E a e → AscF key E a e → R (.returned (.tuple #[])) w') →
  Calls P F.slices_symMergeCmpFunc_int #[.slice (some ⟨b, 0, none⟩) n cap, i64 a, i64 m, i64 e, va] w R := by
 intro d
 induction d with
 | zero => intro w D a m e R hd h1 h2; omega
 | succ d ih =>
 intro w D a m e R hd ham hme hen hS hQ hL hRt hR
 refine calls_slices_symMergeCmpFunc_int _ _ _ _ _ _ _ _ _ ?_
 unfold vc_slices_symMergeCmpFunc_int
 rw [w64 (x := (m : Int) - a) (by omega) (by omega)]
 refine brB_i (fun h1 => ?_) fun h1 => ?_
 ·-- one on the left
  have h1 : m = a + 1 := by simp at h1; omega
  refine ⟨fun vs u => ∃ i j : Nat, vs = [i64 i, i64 j] ∧ m ≤ i ∧ i ≤ j ∧ j ≤ e ∧ Si u b n D ∧ Chg (· = b) w u ∧ (i = m ∨ key (D (i - 1)) < key (D a)) ∧ (j = e ∨ key (D a) ≤ key (D j)),
   fun vs _ => match vs with | [.int _ i, .int _ j] => (j - i).toNat | _ => 0, ⟨m, e, rfl, Nat.le_refl _, by omega, Nat.le_refl _, hS, Chg.refl _ _, .inl rfl, .inl rfl⟩, fun i' j' w1 hI => ?_⟩
  obtain ⟨i, j, hv, hi, hij, hj, hS1, hC1, hlt, hle⟩ := hI
  obtain ⟨rfl, rfl⟩ : i' = i ∧ j' = j := by simpa using hv
  refine brB_i (fun hij' => ?_) fun hij' => ?_
  ·have hij' : i < j := by simp at hij'; omega
   refine ⟨fun vs u => ∃ x y : Nat, vs = [i64 x, i64 y] ∧ m ≤ x ∧ x ≤ y ∧ y ≤ e ∧ Si u b n D ∧ Chg (· = b) w u ∧ (x = m ∨ key (D (x - 1)) < key (D a)) ∧ (y = e ∨ key (D a) ≤ key (D y)) ∧ y - x < j - i, ?_, fun x' y' w3 hI => ?_⟩
   ·rw [mid64 (by omega) (by omega)]
    have eh : (((i : Int) + j) / 2).toNat = (i + j) / 2 := by omega
    have ea : (a : Int).toNat = a := by omega
    refine hS1.drew.ld (by omega) (by omega) fun e1 => ⟨_, e1, ?_⟩
    refine hS1.drew.ld (by omega) (by omega) fun e1 => ⟨_, e1, ?_⟩
    rw [eh, ea]
    refine hC.go _ (D ((i + j) / 2)) (D a) _ (hC.kp _ _ hQ (chg_dr hC1)) fun c w2 hE2 hc => ⟨c, rfl, ?_⟩
    have hS2 := hS1.drew.ext hE2
    have hC2 := chgb (chg_dr hC1) hE2.chg
    refine brB_i (fun hlt' => ?_) fun hge' => ?_
    ·have hlt' : key (D ((i + j) / 2)) < key (D a) := hc.1 (by simpa using hlt')
     rw [w64 (x := ((i : Int) + j) / 2 + 1) (by omega) (by omega)]
     exact ⟨(i + j) / 2 + 1, j, by simp, by omega, by omega, hj, hS2, hC2, .inr (by simpa using hlt'), hle, by omega⟩
    ·have hge' : key (D a) ≤ key (D ((i + j) / 2)) := by
      have : ¬ c < 0 := by simpa using hge'
      have := mt hc.2 this
      omega
     exact ⟨i, (i + j) / 2, by simp, hi, by omega, by omega, hS2, hC2, hlt, .inr hge', by omega⟩
   ·obtain ⟨x, y, hv, h2, h3, h4, h5, h6, h7, h8, h9⟩ := hI
    obtain ⟨rfl, rfl⟩ : x' = x ∧ y' = y := by simpa using hv
    exact ⟨⟨x, y, rfl, h2, h3, h4, h5, h6, h7, h8⟩, by show ((y : Int) - x).toNat < ((j : Int) - i).toNat; omega⟩
  ·have hij' : i = j := by simp at hij'; omega
   subst hij'
   rw [w64 (x := (i : Int) - 1) (by omega) (by omega)]
   refine ⟨fun vs u => ∃ k : Nat, vs = [i64 k] ∧ a ≤ k ∧ k ≤ i - 1 ∧ Si u b n (rot D a (a + 1) (k + 1)) ∧ Chg (· = b) w u, fun vs _ => match vs with | [.int _ k] => (i - k).toNat | _ => 0,
    ⟨a, rfl, Nat.le_refl _, by omega, by rw [rot_none D (.inr rfl)]; exact hS1, hC1⟩, fun k' w4 hI => ?_⟩
   obtain ⟨k, hv, hk0, hk1, hS4, hC4⟩ := hI
   obtain rfl : k' = k := by simpa using hv
   refine brB_i (fun hlt' => ?_) fun hge' => ?_
   ·have hlt' : k < i - 1 := by simp at hlt'; omega
    rw [w64 (x := (k : Int) + 1) (by omega) (by omega)]
    have ek : ((k : Int) + 1).toNat = k + 1 := by omega
    have ek' : (k : Int).toNat = k := by omega
    refine hS4.drew.ld (by omega) (by omega) fun e1 => ⟨_, e1, ?_⟩
    refine hS4.drew.ld (by omega) (by omega) fun e1 => ⟨_, e1, ?_⟩
    rw [ek, ek']
    refine hS4.drew.st (by omega) (by omega) ?_
    rw [ek']
    have h2 := hS4.drew.put (i := k) (by omega) (rot D a (a + 1) (k + 1) (k + 1))
    refine h2.st (i := (k : Int) + 1) (by omega) (by omega) ?_
    rw [ek]
    obtain ⟨h3, h4⟩ := hS4.drew.two (i := k) (j := k + 1) (by omega) (by omega)
    rw [rot_up D hk0] at h3
    exact ⟨⟨k + 1, by simp, by omega, by omega, h3, chgb (chg_dr hC4) h4⟩, by show ((i : Int) - ((k : Int) + 1)).toNat < ((i : Int) - k).toNat; omega⟩
   ·have hge' : k = i - 1 := by simp at hge'; omega
    subst h1
    rw [show k + 1 = i by omega] at hS4
    have hcut : Cut key D a a (a + 1) i e := ⟨Nat.le_refl _, by omega, hi, hj, by rcases hlt with h | h; exact .inr (.inl h.symm); exact .inr (.inr h), .inl rfl⟩
    obtain ⟨q1, q2⟩ := hcut.all hL hRt (by rcases hle with h | h; exact .inr (.inl h); exact .inr (.inr (by simpa using h))) (.inl rfl)
    exact hR w4 _ hS4 hC4 q1 q2
 rw [w64 (x := (e : Int) - m) (by omega) (by omega)]
 refine brB_i (fun h2 => ?_) fun h2 => ?_
 ·-- one on the right
  have h2 : e = m + 1 := by simp at h2; omega
  refine ⟨fun vs u => ∃ i j : Nat, vs = [i64 i, i64 j] ∧ a ≤ i ∧ i ≤ j ∧ j ≤ m ∧ Si u b n D ∧ Chg (· = b) w u ∧ (i = a ∨ key (D (i - 1)) ≤ key (D m)) ∧ (j = m ∨ key (D m) < key (D j)),
   fun vs _ => match vs with | [.int _ i, .int _ j] => (j - i).toNat | _ => 0, ⟨a, m, rfl, Nat.le_refl _, by omega, Nat.le_refl _, hS, Chg.refl _ _, .inl rfl, .inl rfl⟩, fun i' j' w1 hI => ?_⟩
  obtain ⟨i, j, hv, hi, hij, hj, hS1, hC1, hle, hlt⟩ := hI
  obtain ⟨rfl, rfl⟩ : i' = i ∧ j' = j := by simpa using hv
  refine brB_i (fun hij' => ?_) fun hij' => ?_
  ·have hij' : i < j := by simp at hij'; omega
   refine ⟨fun vs u => ∃ x y : Nat, vs = [i64 x, i64 y] ∧ a ≤ x ∧ x ≤ y ∧ y ≤ m ∧ Si u b n D ∧ Chg (· = b) w u ∧ (x = a ∨ key (D (x - 1)) ≤ key (D m)) ∧ (y = m ∨ key (D m) < key (D y)) ∧ y - x < j - i, ?_, fun x' y' w3 hI => ?_⟩
   ·rw [mid64 (by omega) (by omega)]
    have eh : (((i : Int) + j) / 2).toNat = (i + j) / 2 := by omega
    have em : (m : Int).toNat = m := by omega
    refine hS1.drew.ld (by omega) (by omega) fun e1 => ⟨_, e1, ?_⟩
    refine hS1.drew.ld (by omega) (by omega) fun e1 => ⟨_, e1, ?_⟩
    rw [eh, em]
    refine hC.go _ (D m) (D ((i + j) / 2)) _ (hC.kp _ _ hQ (chg_dr hC1)) fun c w2 hE2 hc => ⟨c, rfl, ?_⟩
    have hS2 := hS1.drew.ext hE2
    have hC2 := chgb (chg_dr hC1) hE2.chg
    refine brB_i (fun hge' => ?_) fun hlt' => ?_
    ·have hge' : key (D ((i + j) / 2)) ≤ key (D m) := by
      have : ¬ c < 0 := by simpa using hge'
      have := mt hc.2 this
      omega
     rw [w64 (x := ((i : Int) + j) / 2 + 1) (by omega) (by omega)]
     exact ⟨(i + j) / 2 + 1, j, by simp, by omega, by omega, hj, hS2, hC2, .inr (by simpa using hge'), hlt, by omega⟩
    ·have hlt' : key (D m) < key (D ((i + j) / 2)) := hc.1 (by simpa using hlt')
     exact ⟨i, (i + j) / 2, by simp, hi, by omega, by omega, hS2, hC2, hle, .inr hlt', by omega⟩
   ·obtain ⟨x, y, hv, h3, h4, h5, h6, h7, h8, h9, h10⟩ := hI
    obtain ⟨rfl, rfl⟩ : x' = x ∧ y' = y := by simpa using hv
    exact ⟨⟨x, y, rfl, h3, h4, h5, h6, h7, h8, h9⟩, by show ((y : Int) - x).toNat < ((j : Int) - i).toNat; omega⟩
  ·have hij' : i = j := by simp at hij'; omega
   subst hij'
   refine ⟨fun vs u => ∃ k : Nat, vs = [i64 k] ∧ i ≤ k ∧ k ≤ m ∧ Si u b n (rot D k m (m + 1)) ∧ Chg (· = b) w u, fun vs _ => match vs with | [.int _ k] => k.toNat | _ => 0,
    ⟨m, rfl, by omega, Nat.le_refl _, by rw [rot_none D (.inl rfl)]; exact hS1, hC1⟩, fun k' w8 hI => ?_⟩
   obtain ⟨k, hv, hk0, hk1, hS8, hC8⟩ := hI
   obtain rfl : k' = k := by simpa using hv
   refine brB_i (fun hgt' => ?_) fun hle' => ?_
   ·have hgt' : i < k := by simp at hgt'; omega
    obtain ⟨k, rfl⟩ : ∃ j, k = j + 1 := ⟨k - 1, by omega⟩
    rw [w64 (x := ((k + 1 : Nat) : Int) - 1) (by omega) (by omega)]
    have ek : (((k + 1 : Nat) : Int) - 1).toNat = k := by omega
    have ek' : ((k + 1 : Nat) : Int).toNat = k + 1 := by omega
    refine hS8.drew.ld (by omega) (by omega) fun e1 => ⟨_, e1, ?_⟩
    refine hS8.drew.ld (by omega) (by omega) fun e1 => ⟨_, e1, ?_⟩
    rw [ek, ek']
    refine hS8.drew.st (by omega) (by omega) ?_
    rw [ek']
    have h3 := hS8.drew.put (i := k + 1) (by omega) (rot D (k + 1) m (m + 1) k)
    refine h3.st (i := ((k + 1 : Nat) : Int) - 1) (by omega) (by omega) ?_
    rw [ek]
    obtain ⟨h4, h5⟩ := hS8.drew.two (i := k + 1) (j := k) (by omega) (by omega)
    rw [rot_down D hk1] at h4
    exact ⟨⟨k, by simp, by omega, by omega, h4, chgb (chg_dr hC8) h5⟩, by show (((k + 1 : Nat) : Int) - 1).toNat < ((k + 1 : Nat) : Int).toNat; omega⟩
   ·have hle' : k = i := by simp at hle'; omega
    subst hle'
    subst h2
    have hcut : Cut key D a k m (m + 1) (m + 1) := ⟨hi, hj, by omega, Nat.le_refl _, by rcases hlt with h | h; exact .inl h; exact .inr (.inr (by simpa using h)), .inr (.inl rfl)⟩
    obtain ⟨q1, q2⟩ := hcut.all hL hRt (.inr (.inl rfl)) (by rcases hle with h | h; exact .inl h; exact .inr (.inr h))
    exact hR w8 _ hS8 hC8 q1 q2
 have h1 : m - a ≠ 1 := by simp at h1; omega
 have h2 : e - m ≠ 1 := by simp at h2; omega
 have hM : ((a : Int) + e) / 2 = (((a + e) / 2 : Nat) : Int) := by omega
 rw [mid64 (x := (a : Int)) (y := e) (by omega) (by omega), hM]
 generalize hMd : (a + e) / 2 = M
 have M0 : a < M := by omega
 have M1 : M < e := by omega
 rw [w64 (x := (M : Int) + m) (by omega) (by omega), w64 (x := (M : Int) + m - e) (by omega) (by omega), w64 (x := (M : Int) + m - 1) (by omega) (by omega)]
 refine ⟨fun vs u => ∃ s0 r0 : Nat, vs = [i64 s0, i64 r0] ∧ u = w ∧ a ≤ s0 ∧ s0 ≤ r0 ∧ (s0 = a ∨ s0 + e = M + m) ∧ M + m ≤ s0 + e ∧ (r0 = m ∨ (r0 = M ∧ M ≤ m)) ∧ r0 ≤ M, ?_, fun s0' r0' w9 hI => ?_⟩
 ·refine brB_i (fun hgt => ?_) fun hle => ?_
  ·have hgt : M < m := by simp at hgt; omega
   exact ⟨M + m - e, M, by simp; omega, rfl, by omega, by omega, .inr (by omega), by omega, .inr ⟨rfl, by omega⟩, Nat.le_refl _⟩
  ·have hle : m ≤ M := by simp at hle; omega
   exact ⟨a, m, rfl, rfl, Nat.le_refl _, by omega, .inl rfl, by omega, .inl rfl, hle⟩
 obtain ⟨s0, r0, hv, rfl, hs1, hs2, hs3, hs4, hr1, hr2⟩ := hI
 obtain ⟨rfl, rfl⟩ : s0' = s0 ∧ r0' = r0 := by simpa using hv
 refine ⟨fun vs u => ∃ s r : Nat, vs = [i64 s, i64 r] ∧ s0 ≤ s ∧ s ≤ r ∧ r ≤ r0 ∧ Si u b n D ∧ Chg (· = b) w9 u ∧ (s = s0 ∨ key (D (s - 1)) ≤ key (D (M + m - s))) ∧ (r = r0 ∨ key (D (M + m - 1 - r)) < key (D r)),
  fun vs _ => match vs with | [.int _ s, .int _ r] => (r - s).toNat | _ => 0, ⟨s0, r0, rfl, Nat.le_refl _, hs2, Nat.le_refl _, hS, Chg.refl _ _, .inl rfl, .inl rfl⟩, fun s' r' w10 hI => ?_⟩
 obtain ⟨s, r, hv, hs, hsr, hr, hS10, hC10, hle, hlt⟩ := hI
 obtain ⟨rfl, rfl⟩ : s' = s ∧ r' = r := by simpa using hv
 refine brB_i (fun hsr' => ?_) fun hsr' => ?_
 ·have hsr' : s < r := by simp at hsr'; omega
  refine ⟨fun vs u => ∃ x y : Nat, vs = [i64 x, i64 y] ∧ s0 ≤ x ∧ x ≤ y ∧ y ≤ r0 ∧ Si u b n D ∧ Chg (· = b) w9 u ∧ (x = s0 ∨ key (D (x - 1)) ≤ key (D (M + m - x))) ∧ (y = r0 ∨ key (D (M + m - 1 - y)) < key (D y)) ∧ y - x < r - s, ?_, fun x' y' w12 hI => ?_⟩
  ·rw [mid64 (by omega) (by omega), w64 (x := (M : Int) + m - 1 - ((s : Int) + r) / 2) (by omega) (by omega)]
   have eh : (((s : Int) + r) / 2).toNat = (s + r) / 2 := by omega
   have em : ((M : Int) + m - 1 - ((s : Int) + r) / 2).toNat = M + m - 1 - (s + r) / 2 := by omega
   refine hS10.drew.ld (by omega) (by omega) fun e1 => ⟨_, e1, ?_⟩
   refine hS10.drew.ld (by omega) (by omega) fun e1 => ⟨_, e1, ?_⟩
   rw [eh, em]
   refine hC.go _ (D (M + m - 1 - (s + r) / 2)) (D ((s + r) / 2)) _ (hC.kp _ _ hQ (chg_dr hC10)) fun c w11 hE11 hc => ⟨c, rfl, ?_⟩
   have hS11 := hS10.drew.ext hE11
   have hC11 := chgb (chg_dr hC10) hE11.chg
   refine brB_i (fun hge' => ?_) fun hlt' => ?_
   ·have hge' : key (D ((s + r) / 2)) ≤ key (D (M + m - 1 - (s + r) / 2)) := by
     have : ¬ c < 0 := by simpa using hge'
     have := mt hc.2 this
     omega
    rw [w64 (x := ((s : Int) + r) / 2 + 1) (by omega) (by omega)]
    exact ⟨(s + r) / 2 + 1, r, by simp, by omega, by omega, hr, hS11, hC11, .inr (by rw [show M + m - ((s + r) / 2 + 1) = M + m - 1 - (s + r) / 2 by omega]; simpa using hge'), hlt, by omega⟩
   ·have hlt' : key (D (M + m - 1 - (s + r) / 2)) < key (D ((s + r) / 2)) := hc.1 (by simpa using hlt')
    exact ⟨s, (s + r) / 2, by simp, hs, by omega, by omega, hS11, hC11, hle, .inr hlt', by omega⟩
  ·obtain ⟨x, y, hv, h3, h4, h5, h6, h7, h8, h9, h10⟩ := hI
   obtain ⟨rfl, rfl⟩ : x' = x ∧ y' = y := by simpa using hv
   exact ⟨⟨x, y, rfl, h3, h4, h5, h6, h7, h8, h9⟩, by show ((y : Int) - x).toNat < ((r : Int) - s).toNat; omega⟩
 have hsr' : s = r := by simp at hsr'; omega
 subst hsr'
 rw [w64 (x := (M : Int) + m - s) (by omega) (by omega)]
 obtain ⟨e', he'⟩ : ∃ e', M + m - s = e' := ⟨_, rfl⟩
 have he2 : (M : Int) + m - s = (e' : Int) := by omega
 rw [he2]
 have hcut : Cut key D a s m e' e := by
  refine ⟨by omega, by omega, by omega, by omega, ?_, ?_⟩
  ·rcases hlt with h | h
   ·rcases hr1 with h' | h'
    ·exact .inl (by omega)
    ·exact .inr (.inl (by omega))
   ·exact .inr (.inr (by rw [show e' - 1 = M + m - 1 - s by omega]; exact h))
  ·rcases hle with h | h
   ·rcases hs3 with h' | h'
    ·exact .inl (by omega)
    ·exact .inr (.inl (by omega))
   ·exact .inr (.inr (by rw [← he']; exact h))
 have esm : s + (e' - m) = M := by have := hcut.me; omega
 obtain ⟨l1, l2, l3, l4⟩ := hcut.lo hL hRt
 rw [esm] at l2 l3
 have c1 := hcut.az; have c2 := hcut.sm; have c3 := hcut.me; have c4 := hcut.eb
 refine ⟨fun vs u => vs = [] ∧ Si u b n (rot D s m e') ∧ Chg (· = b) w9 u, ?_, fun w14 hI => ?_⟩
 ·refine brB_i (fun hb => ?_) fun hb => ?_
  ·have hb : s < m ∧ m < e' := by simp at hb; omega
   exact rotateI_spec hS10 hb.1 hb.2 (by omega) hn fun w' h3 h4 => ⟨rfl, rfl, h3, chgb hC10 h4⟩
  ·have hb : s = m ∨ m = e' := by simp at hb; omega
   refine ⟨rfl, ?_, hC10⟩
   rw [rot_none D (by omega)]; exact hS10
 obtain ⟨_, hS14, hC14⟩ := hI
 refine ⟨fun vs u => vs = [] ∧ ∃ E : Nat → Int, Si u b n E ∧ Chg (· = b) w9 u ∧ Rear key (rot D s m e') E a M ∧ AscF key E a M, ?_, fun w16 hI => ?_⟩
 ·refine brB_i (fun hb => ?_) fun hb => ?_
  ·have hb : a < s ∧ s < M := by simp at hb; omega
   exact ih (by omega) hb.1 hb.2 (by omega) hS14 (hC.kp _ _ hQ hC14) l1 l2 fun w' E h3 h4 h5 h6 => ⟨rfl, rfl, E, h3, chgb hC14 h4, h5, h6⟩
  ·have hb : s = a ∨ s = M := by simp at hb; omega
   refine ⟨rfl, _, hS14, hC14, Rear.refl _ _ _ _, ?_⟩
   rcases hb with hb | hb
   ·rw [← hb]; exact l2
   ·rw [← hb]; exact l1
 obtain ⟨_, E, hS16, hC16, hRe, hA⟩ := hI
 have l3' : AscF key E M e' := l3.congr fun k hk _ => hRe.out k (by omega)
 have l4' : AscF key E e' e := l4.congr fun k hk _ => hRe.out k (by omega)
 refine brB_i (fun hb => ?_) fun hb => ?_
 ·have hb : M < e' ∧ e' < e := by simp at hb; omega
  refine ih (by omega) hb.1 hb.2 hen hS16 (hC.kp _ _ hQ hC16) l3' l4' fun w' G h3 h4 h5 h6 => ⟨rfl, ?_⟩
  have q := hcut.merge (E := E) (F := G) hL hRt (by rw [esm]; exact hRe) (by rw [esm]; exact hA) (by rw [esm]; exact h5) (by rw [esm]; exact h6)
  exact hR w' G h3 (chgb hC16 h4) q.1 q.2
 ·have hb : e' = M ∨ e' = e := by simp at hb; omega
  have hA2 : AscF key E M e := by
   rcases hb with hb | hb
   ·rw [← hb]; exact l4'
   ·rw [← hb]; exact l3'
  have q := hcut.merge (E := E) (F := E) hL hRt (by rw [esm]; exact hRe) (by rw [esm]; exact hA) (by rw [esm]; exact Rear.refl _ _ _ _) (by rw [esm]; exact hA2)
  exact hR w16 E hS16 hC16 q.1 q.2
end Go.Proofs.YtiiaihiliimcoaaGreat
namespace Go.Proofs.YtiiaihiliimcoaaGreat
open Go Go.Vc Go.RowKit Go.Qn
set_option maxRecDepth 100000
theorem dvd_gapI {d s a : Nat} (h1 : d ∣ s) (h2 : d ∣ a) (h : s < a) : s + d ≤ a := by
 have := Nat.le_of_dvd (by omega) (Nat.dvd_sub h2 h1)
 omega
def BkI (key : Int → Int) (E : Nat → Int) (z n : Nat) : Prop := ∀ s, z ∣ s → AscF key E s (min (s + z) n)
theorem stableI_spec {va : Value} {key : Int → Int} {Q : World → Prop} {w : World} {b n cap : Nat} {D : Nat → Int} {R : Ending → World → Prop} (h : Si w b n D) (hQ : Q w) (hC : CmpI va key b Q) (hn : n ≤ 2 ^ 40)
  (hR : ∀ w' E, Si w' b n E → Chg (· = b) w w' → Rear key D E 0 n → AscF key E 0 n → R (.returned (.tuple #[])) w') :
  Calls P F.slices_stableCmpFunc_int #[.slice (some ⟨b, 0, none⟩) n cap, i64 n, va] w R := by
 refine calls_slices_stableCmpFunc_int _ _ _ _ _ _ _ ?_
 unfold vc_slices_stableCmpFunc_int
 refine ⟨fun vs u => ∃ (a : Nat) (E : Nat → Int), vs = [i64 a, i64 (a + 20 : Nat)] ∧ a ≤ n ∧ 20 ∣ a ∧ Si u b n E ∧ Chg (· = b) w u ∧ Rear key D E 0 n ∧ (∀ s, 20 ∣ s → s < a → AscF key E s (s + 20)),
  fun vs _ => match vs with | [.int _ a, _] => (n - a).toNat | _ => 0, ⟨0, D, rfl, Nat.zero_le _, Nat.dvd_zero _, h, Chg.refl _ _, Rear.refl _ _ _ _, fun s _ hs => by omega⟩, fun a' b' w1 hI => ?_⟩
 obtain ⟨a, E, hv, ha, hd, hS, hCh, hRe, hA⟩ := hI
 obtain ⟨rfl, rfl⟩ : a' = a ∧ b' = (a + 20 : Nat) := by simpa using hv
 refine brB_i (fun hle => ?_) fun hgt => ?_
 ·have hle : a + 20 ≤ n := by simp at hle; omega
  refine insortI_spec hS (hC.kp _ _ hQ hCh) hC (by omega) hle hn fun w' G h1 h2 h3 h4 => ⟨rfl, ⟨a + 20, G, ?_, hle, by omega, h1, chgb hCh h2, hRe.trans (h3.wide (Nat.zero_le _) hle (by omega)), fun s hs hlt => ?_⟩, ?_⟩
  ·rw [w64 (x := ((a + 20 : Nat) : Int) + 20) (by omega) (by omega)]; simp
  ·rcases Nat.lt_or_ge s a with hsa | hsa
   ·have := dvd_gapI hs hd hsa
    exact (hA s hs hsa).congr fun k _ hk => h3.out k (by omega)
   ·rw [show s = a by omega]; exact h4
  ·show ((n : Int) - ((a + 20 : Nat) : Int)).toNat < ((n : Int) - a).toNat; omega
 have hgt : n < a + 20 := by simp at hgt; omega
 refine insortI_spec hS (hC.kp _ _ hQ hCh) hC ha (Nat.le_refl _) hn fun w3 G h1 h2 h3 h4 => ⟨rfl, ?_⟩
 have hB : BkI key G 20 n := by
  intro s hs
  rcases Nat.lt_or_ge s a with hsa | hsa
  ·have := dvd_gapI hs hd hsa
   rw [show min (s + 20) n = s + 20 by omega]
   exact (hA s hs hsa).congr fun k _ hk => h3.out k (by omega)
  ·exact h4.sub hsa (by omega)
 refine ⟨fun vs u => ∃ (z : Nat) (E : Nat → Int), vs = [i64 z] ∧ 0 < z ∧ z ≤ 2 * n + 20 ∧ Si u b n E ∧ Chg (· = b) w u ∧ Rear key D E 0 n ∧ BkI key E z n, fun vs _ => match vs with | [.int _ z] => (n - z).toNat | _ => 0,
  ⟨20, G, rfl, by omega, by omega, h1, chgb hCh h2, hRe.trans (h3.wide (Nat.zero_le _) (Nat.le_refl _) ha), hB⟩, fun z' w4 hI => ?_⟩
 clear hB h1 h2 h3 h4 hS hCh hRe hA
 obtain ⟨z, E, hv, hz0, hz1, hS, hCh, hRe, hB⟩ := hI
 obtain rfl : z' = z := by simpa using hv
 refine brB_i (fun hlt => ?_) fun hge => ?_
 ·have hlt : z < n := by simp at hlt; omega
  rw [w64 (x := 2 * (z : Int)) (by omega) (by omega), w64 (x := (z : Int) * 2) (by omega) (by omega)]
  refine ⟨fun vs u => vs = [i64 (2 * z : Nat)] ∧ ∃ E : Nat → Int, Si u b n E ∧ Chg (· = b) w u ∧ Rear key D E 0 n ∧ BkI key E (2 * z) n, ?_, fun z2 w8 hI => ?_⟩
  ·refine ⟨fun vs u => ∃ (a : Nat) (E : Nat → Int), vs = [i64 a, i64 (a + 2 * z : Nat)] ∧ a ≤ n ∧ 2 * z ∣ a ∧ Si u b n E ∧ Chg (· = b) w u ∧ Rear key D E 0 n ∧ (∀ s, 2 * z ∣ s → s < a → AscF key E s (s + 2 * z)) ∧ (∀ s, z ∣ s → a ≤ s → AscF key E s (min (s + z) n)),
    fun vs _ => match vs with | [.int _ a, _] => (n - a).toNat | _ => 0, ⟨0, E, by simp, Nat.zero_le _, Nat.dvd_zero _, hS, hCh, hRe, fun s _ hs => by omega, fun s hs _ => hB s hs⟩, fun a' b' w5 hI => ?_⟩
   obtain ⟨a, E5, hv, ha, hd, hS5, hCh5, hRe5, hA5, hB5⟩ := hI
   obtain ⟨rfl, rfl⟩ : a' = a ∧ b' = (a + 2 * z : Nat) := by simpa using hv
   have hza : z ∣ a := Nat.dvd_trans (Nat.dvd_mul_left z 2) hd
   have hza2 : z ∣ a + z := Nat.dvd_add hza (Nat.dvd_refl z)
   rw [w64 (x := (a : Int) + z) (by omega) (by omega)]
   have eaz : (a : Int) + z = ((a + z : Nat) : Int) := by omega
   have L := hB5 a hza (Nat.le_refl _)
   have Rr := hB5 (a + z) hza2 (by omega)
   refine brB_i (fun hle => ?_) fun hgt => ?_
   ·have hle : a + 2 * z ≤ n := by simp at hle; omega
    rw [show min (a + z) n = a + z by omega] at L
    rw [show min (a + z + z) n = a + 2 * z by omega] at Rr
    rw [eaz]
    refine symMergeI_spec hC hn _ (Nat.le_refl _) (by omega) (by omega) hle hS5 (hC.kp _ _ hQ hCh5) L Rr fun w' G h1 h2 h3 h4 => ⟨rfl, ⟨a + 2 * z, G, ?_, hle, Nat.dvd_add hd (Nat.dvd_refl _), h1, chgb hCh5 h2, hRe5.trans (h3.wide (Nat.zero_le _) hle (by omega)), fun s hs hlt => ?_, fun s hs hge => ?_⟩, ?_⟩
    ·rw [w64 (x := ((a + 2 * z : Nat) : Int) + 2 * (z : Int)) (by omega) (by omega)]; simp
    ·rcases Nat.lt_or_ge s a with hsa | hsa
     ·have := dvd_gapI hs hd hsa
      exact (hA5 s hs hsa).congr fun k _ hk => h3.out k (by omega)
     ·have : s = a := by
       rcases Nat.eq_or_lt_of_le hsa with h | h
       ·exact h.symm
       ·have := dvd_gapI hd hs h; omega
      rw [this]; exact h4
    ·exact (hB5 s hs (by omega)).congr fun k hk _ => h3.out k (by omega)
    ·show ((n : Int) - ((a + 2 * z : Nat) : Int)).toNat < ((n : Int) - a).toNat; omega
   ·have hgt : n < a + 2 * z := by simp at hgt; omega
    have ez : (z : Int) * 2 = ((2 * z : Nat) : Int) := by omega
    refine brB_i (fun hlt' => ?_) fun hge' => ?_
    ·have hlt' : a + z < n := by simp at hlt'; omega
     rw [show min (a + z) n = a + z by omega] at L
     rw [show min (a + z + z) n = n by omega] at Rr
     rw [eaz]
     refine symMergeI_spec hC hn _ (Nat.le_refl _) (by omega) (by omega) (Nat.le_refl _) hS5 (hC.kp _ _ hQ hCh5) L Rr fun w' G h1 h2 h3 h4 => ⟨rfl, by rw [ez], G, h1, chgb hCh5 h2, hRe5.trans (h3.wide (Nat.zero_le _) (Nat.le_refl _) (by omega)), fun s hs => ?_⟩
     rcases Nat.lt_or_ge s a with hsa | hsa
     ·have := dvd_gapI hs hd hsa
      rw [show min (s + 2 * z) n = s + 2 * z by omega]
      exact (hA5 s hs hsa).congr fun k _ hk => h3.out k (by omega)
     ·exact h4.sub hsa (by omega)
    ·have hge' : n ≤ a + z := by simp at hge'; omega
     refine ⟨by rw [ez], E5, hS5, hCh5, hRe5, fun s hs => ?_⟩
     rcases Nat.lt_or_ge s a with hsa | hsa
     ·have := dvd_gapI hs hd hsa
      rw [show min (s + 2 * z) n = s + 2 * z by omega]
      exact hA5 s hs hsa
     ·rw [show min (a + z) n = n by omega] at L
      exact L.sub hsa (by omega)
  ·obtain ⟨hv, E8, h1, h2, h3, h4⟩ := hI
   obtain rfl : z2 = (2 * z : Nat) := by simpa using hv
   exact ⟨⟨2 * z, E8, rfl, by omega, by omega, h1, h2, h3, h4⟩, by show ((n : Int) - ((2 * z : Nat) : Int)).toNat < ((n : Int) - z).toNat; omega⟩
 ·have hge : n ≤ z := by simp at hge; omega
  have := hB 0 (Nat.dvd_zero _)
  rw [show min (0 + z) n = n by omega] at this
  exact hR w4 E hS hCh hRe this
def SiL (u : World) (b : Nat) (l : List Int) : Prop := ∃ rest, Cs u b (l.map i64 ++ rest)
theorem segI_getD (l : List Int) : seg (fun i => l.getD i 0) 0 l.length = l := by
 refine List.ext_getElem (by simp [seg_len]) fun i h1 h2 => ?_
 simp [seg, List.getD, h2]
theorem SiL.so {u : World} {b : Nat} {l : List Int} (h : SiL u b l) : Si u b l.length fun i => l.getD i 0 := by
 obtain ⟨r, h⟩ := h; exact ⟨r, by rw [segI_getD]; exact h⟩
theorem SortI_spec {va : Value} {key : Int → Int} {Q : World → Prop} {w : World} {b cap : Nat} {l : List Int} {R : Ending → World → Prop} (h : SiL w b l) (hQ : Q w) (hC : CmpI va key b Q) (hn : l.length ≤ 2 ^ 40)
  (hR : ∀ w', SiL w' b (stab key l) → Chg (· = b) w w' → R (.returned (.tuple #[])) w') :
  Calls P F.slices_SortStableFunc_int #[.slice (some ⟨b, 0, none⟩) l.length cap, va] w R := by
 refine calls_slices_SortStableFunc_int _ _ _ _ _ _ ?_
 unfold vc_slices_SortStableFunc_int
 refine stableI_spec h.so hQ hC hn fun w' E h1 h2 h3 h4 => ⟨rfl, hR w' ?_ h2⟩
 obtain ⟨r, h1⟩ := h1
 have := stab_uniq (key := key) (l := l) (m := seg E 0 l.length) (by have := h3.same; rwa [segI_getD] at this) h4.asc
 exact ⟨r, by rw [← this]; exact h1⟩
end Go.Proofs.YtiiaihiliimcoaaGreat
namespace Go.Proofs.YtiiaihiliimcoaaGreat
open Go Go.Vc Go.RowKit Go.Qn
set_option maxRecDepth 100000
def part (bs : List Int) (i n : Nat) : List Int := (bs.drop i).take n
theorem part_length {bs : List Int} {i n : Nat} (h : i + n ≤ bs.length) : (part bs i n).length = n := by simp only [part, List.length_take, List.length_drop]; omega
theorem part_prefix (bs : List Int) (i n : Nat) : bytes (part bs i n) <+: (bytes bs).drop i := by
 simp only [part, bytes, List.map_take, List.map_drop]
 exact List.take_prefix _ _
theorem part_get {bs : List Int} {i n j : Nat} (hj : j < n) : (part bs i n).getD j 0 = bs.getD (i + j) 0 := by
 unfold part
 rw [List.getD_eq_getElem?_getD, List.getElem?_take_of_lt hj, List.getElem?_drop, List.getD_eq_getElem?_getD]
theorem part_bs {bs : List Int} (h : Bs bs) (i n : Nat) : Bs (part bs i n) := fun x hx => h x (List.mem_of_mem_drop (List.mem_of_mem_take hx))
theorem bget {bs : List Int} (h : Bs bs) (i : Nat) : 0 ≤ bs.getD i 0 ∧ bs.getD i 0 ≤ 255 := by
 rw [List.getD_eq_getElem?_getD]
 cases e : bs[i]? with
 | none => simp
 | some x => exact h x (List.mem_of_getElem? e)
def twoM (b : List Int) (k : Nat) : Int := b.getD k 0 + 256 * b.getD (k + 1) 0
theorem twoM_range {b : List Int} (h : Bs b) (k : Nat) : 0 ≤ twoM b k ∧ twoM b k ≤ 65535 := by
 have := bget h k
 have := bget h (k + 1)
 unfold twoM; omega
def palN (f : Int) : Nat := 2 * 2 ^ (f % 8).toNat
theorem palN_range (f : Int) : 2 ≤ palN f ∧ palN f ≤ 256 := by
 have : ∀ n : Nat, n < 8 → 2 ≤ 2 * 2 ^ n ∧ 2 * 2 ^ n ≤ 256 := by decide
 exact this _ (by omega)
def colB (b : List Int) (k i : Nat) : Co := (257 * b.getD (k + 3 * i) 0, 257 * b.getD (k + 3 * i + 1) 0, 257 * b.getD (k + 3 * i + 2) 0, 65535)
def palU (b : List Int) (k n : Nat) : List Co := (List.range n).map (colB b k)
theorem palU_len (b : List Int) (k n : Nat) : (palU b k n).length = n := by simp [palU]
theorem palU_succ (b : List Int) (k n : Nat) : palU b k (n + 1) = palU b k n ++ [colB b k n] := by simp [palU, List.range_succ]
def blkF (b : List Int) : Nat → Nat → Option (List (List Int) × Nat)
 | 0, _ => none
 | f + 1, k => if b.length ≤ k then none
  else if b.getD k 0 = 0 then some ([], k + 1)
  else if b.length < k + 1 + (b.getD k 0).toNat then none
  else match blkF b f (k + 1 + (b.getD k 0).toNat) with
   | none => none
   | some (l, e) => some (part b (k + 1) (b.getD k 0).toNat :: l, e)
def blkM (b : List Int) (k : Nat) : Option (List (List Int) × Nat) := blkF b (b.length + 1) k
theorem blkF_fuel {b : List Int} : ∀ {f g k : Nat}, b.length < k + f → b.length < k + g → blkF b f k = blkF b g k
 | 0, 0, k, _, _ => rfl
 | 0, g + 1, k, h1, h2 => by rw [blkF, blkF, if_pos (by omega)]
 | f + 1, 0, k, h1, h2 => by rw [blkF, blkF, if_pos (by omega)]
 | f + 1, g + 1, k, h1, h2 => by
  rw [blkF, blkF]
  split
  ·rfl
  split
  ·rfl
  split
  ·rfl
  rw [blkF_fuel (f := f) (g := g) (by omega) (by omega)]
theorem blkM_step (b : List Int) (k : Nat) : blkM b k = if b.length ≤ k then none
  else if b.getD k 0 = 0 then some ([], k + 1)
  else if b.length < k + 1 + (b.getD k 0).toNat then none
  else match blkM b (k + 1 + (b.getD k 0).toNat) with
   | none => none
   | some (l, e) => some (part b (k + 1) (b.getD k 0).toNat :: l, e) := by
 show blkF b (b.length + 1) k = _
 rw [blkF]
 split
 ·rfl
 split
 ·rfl
 split
 ·rfl
 rw [show blkF b b.length (k + 1 + (b.getD k 0).toNat) = blkM b (k + 1 + (b.getD k 0).toNat) from blkF_fuel (by omega) (by omega)]
theorem blkF_ok {b : List Int} (hf : Bs b) : ∀ {f k : Nat} {l : List (List Int)} {e : Nat}, blkF b f k = some (l, e) → k < e ∧ e ≤ b.length ∧ (∀ x, x ∈ l → Bs x) ∧ l.flatten.length + k < e
 | 0, k, l, e, h => by cases h
 | f + 1, k, l, e, h => by
  rw [blkF] at h
  split at h
  ·cases h
  split at h
  ·cases h; exact ⟨by omega, by omega, (fun x hx => by cases hx), by simp⟩
  split at h
  ·cases h
  split at h
  ·cases h
  rename_i l' e' h'
  obtain ⟨h1, h2, h3, h4⟩ := blkF_ok hf h'
  cases h
  refine ⟨by omega, h2, fun x hx => ?_, ?_⟩
  ·rcases List.mem_cons.1 hx with rfl | hx
   ·exact part_bs hf _ _
   ·exact h3 x hx
  ·rw [List.flatten_cons, List.length_append, part_length (by omega)]; omega
def extM (b : List Int) (k : Nat) (clear : Int) : Option (Int × Nat) :=
 if b.length ≤ k then none
 else match blkM b (k + 1) with
  | none => none
  | some (l, e) => if b.getD k 0 ≠ 249 then some (clear, e)
   else if (l.getD 0 []).length ≠ 4 then none
   else some (if (l.getD 0 []).getD 0 0 % 2 = 0 then -1 else (l.getD 0 []).getD 3 0, e)
def turnV (y : Int) : Int := if y % 8 = 0 then 0 else if y % 4 = 0 then 1 else if y % 2 = 0 then 2 else 3
def upto (h : Nat) : List Int := (List.range h).map fun n => ((n : Nat) : Int)
def rowsM (h : Nat) (laced : Bool) : List Int := if laced then stab turnV (upto h) else upto h
def setPx (px : List Int) (k : Nat) (c : Co) : List Int := px.take (4 * k) ++ coL c ++ px.drop (4 * k + 4)
theorem setPx_len {px : List Int} {k : Nat} {c : Co} (h : 4 * k + 4 ≤ px.length) : (setPx px k c).length = px.length := by
 simp only [setPx, List.length_append, List.length_take, List.length_drop, coL, List.length_cons, List.length_nil]; omega
def paintF (pal : List Co) (clear : Int) (W x y w : Nat) (rows idx : List Int) : Nat → Nat → List Int → Option (List Int)
 | 0, _, px => some px
 | n + 1, i, px => if (pal.length : Int) ≤ idx.getD i 0 then none
  else paintF pal clear W x y w rows idx n (i + 1) (if idx.getD i 0 = clear then px else setPx px ((y + (rows.getD (i / w) 0).toNat) * W + x + i % w) (pal.getD (idx.getD i 0).toNat zeroC))
def picM (b : List Int) (k : Nat) (W H : Nat) (pal : List Co) (clear : Int) (px : List Int) : Option (List Int) :=
 if b.length < k + 9 then none
 else if twoM b (k + 4) < 1 ∨ twoM b (k + 6) < 1 ∨ (W : Int) < twoM b k + twoM b (k + 4) ∨ (H : Int) < twoM b (k + 2) + twoM b (k + 6) then none
 else if 128 ≤ b.getD (k + 8) 0 ∧ b.length < k + 9 + 3 * palN (b.getD (k + 8) 0) then none
 else
  let pal' := if 128 ≤ b.getD (k + 8) 0 then palU b (k + 9) (palN (b.getD (k + 8) 0)) else pal
  let k' := if 128 ≤ b.getD (k + 8) 0 then k + 9 + 3 * palN (b.getD (k + 8) 0) else k + 9
  if b.length ≤ k' then none
  else match blkM b (k' + 1) with
   | none => none
   | some (l, _) =>
    let g := gifR l.flatten (b.getD k' 0) (twoM b (k + 4) * twoM b (k + 6))
    if g.2 ≠ 0 ∨ (g.1.length : Int) ≠ twoM b (k + 4) * twoM b (k + 6) ∨ pal' = [] then none
    else paintF pal' clear W (twoM b k).toNat (twoM b (k + 2)).toNat (twoM b (k + 4)).toNat (rowsM (twoM b (k + 6)).toNat (decide (64 ≤ b.getD (k + 8) 0 % 128))) g.1 g.1.length 0 px
def stepsF (b : List Int) (W H : Nat) (pal : List Co) : Nat → Nat → Int → Option (List Int)
 | 0, _, _ => none
 | f + 1, k, clear => if b.length ≤ k then none
  else if b.getD k 0 = 33 then (match extM b (k + 1) clear with
   | none => none
   | some (c, e) => stepsF b W H pal f e c)
  else if b.getD k 0 = 44 then picM b (k + 1) W H pal clear (List.replicate (4 * (W * H)) 0)
  else none
def sig87 : List Int := [71, 73, 70, 56, 55, 97]
def sig89 : List Int := [71, 73, 70, 56, 57, 97]
def headOk (b : List Int) : Bool := decide (13 ≤ b.length) && (decide (b.take 6 = sig87) || decide (b.take 6 = sig89)) && decide (1 ≤ twoM b 6) && decide (1 ≤ twoM b 8) && (decide (b.getD 10 0 < 128) || decide (13 + 3 * palN (b.getD 10 0) ≤ b.length))
def decR (b : List Int) (most : Int) : Int × Int × List Int × Int :=
 if 4194304 < b.length then (0, 0, [], 11)
 else if headOk b = false then (0, 0, [], 9)
 else if twoM b 6 > 4096 ∨ twoM b 8 > 4096 ∨ twoM b 6 * twoM b 8 > most ∨ twoM b 6 * twoM b 8 > 65536 then (0, 0, [], 11)
 else match stepsF b (twoM b 6).toNat (twoM b 8).toNat (if 128 ≤ b.getD 10 0 then palU b 13 (palN (b.getD 10 0)) else []) (b.length + 1) (if 128 ≤ b.getD 10 0 then 13 + 3 * palN (b.getD 10 0) else 13) (-1) with
  | none => (0, 0, [], 9)
  | some px => (twoM b 6, twoM b 8, px, 0)
end Go.Proofs.YtiiaihiliimcoaaGreat
namespace Go.Proofs.YtiiaihiliimcoaaGreat
open Go Go.Vc Go.RowKit Go.Qn
set_option maxRecDepth 100000
set_option maxHeartbeats 2000000
theorem OwnS.grow {S : Nat → Prop} {w w5 : World} {bs : List Nat} {l : List (Nat × Nat × List Value)} {base : Option Addr} {len cap n sz bytes : Nat} {elem : TypeId} {zero vs fs : List Value} {F : Option Addr → Nat → Nat → World → Prop}
  (h : OwnS S w base len cap sz vs) (hL : Locl bs w w5) (hb : ∀ b, b ∈ bs → w.heap.size ≤ b ∨ ¬ S b) (hS : ∀ i, w.heap.size ≤ i → S i) (hbl : ∀ b, b ∈ blocks l → b ∈ bs) (hz : zero.length = sz) (hn : fs.length = n * sz)
  (hby : (len + n) * bytes ≤ 2 ^ 47) (h62 : len + n < 2 ^ 62)
  (hF : ∀ base' cap' w6, OwnS (fun i => S i ∧ i ∉ bs) w6 base' (len + n) cap' sz (vs ++ fs) → Chg (fun i => S i ∨ i ∈ bs) w w6 → F base' (len + n) cap' w6) :
  appVC w5 l base len cap n sz bytes elem zero fs F := by
 have h1 : OwnS (fun i => S i ∧ i ∉ bs) w base len cap sz vs := OwnS.mono h fun i hi hlt => ⟨hi, fun hm => (hb i hm).elim (fun g => by omega) fun g => g hi⟩
 have h2 := OwnS.chg h1 hL.chg fun b hb _ hm => hb.2 hm
 have hs := hL.size
 refine OwnS.app h2 (fun b hb hs => hs.2 (hbl b hb)) hz hn hby h62 fun base' cap' w6 ho hc => hF base' cap' w6 (ho.mono fun i hi hlt => ?_) ?_
 ·rcases hi with hi | hi
  ·exact hi
  ·exact ⟨hS i (by omega), fun hm => by have := hL.there i hm; omega⟩
 ·exact (hL.chg.mono fun i hi _ => .inr hi).trans hc fun i hi _ => .inl hi.1
theorem wrap_succ {X : Nat} (h : X ≤ 2 ^ 60) : IntKind.i64.wrap ((X : Int) + 1) = ((X + 1 : Nat) : Int) := by rw [w64 (by omega) (by omega)]; omega
abbrev brkG : List PanicEntry := [{ v := .iface 44 (.agg #[]), recovered := false }]
structure GAt (w : World) (N rb : Nat) (b : List Int) (at_ : Nat) : Prop where
 obj : ∃ p c, Cs w rb [.slice p (b.length - at_) c] ∧ b.length - at_ ≤ c ∧ Sl N w p (bytes (b.drop at_))
 lo : N ≤ rb
 le : at_ ≤ b.length
 hN : N ≤ w.heap.size
 room : b.length ≤ 2 ^ 40
 fit : Bs b
section
variable {w w' : World} {N rb at_ : Nat} {b : List Int} {R : Ending → World → Prop}
theorem GAt.lt (h : GAt w N rb b at_) : rb < w.heap.size := by obtain ⟨_, _, h1, _⟩ := h.obj; exact h1.lt
theorem GAt.chg {Z : Nat → Prop} (h : GAt w N rb b at_) (hc : Chg Z w w') (h1 : ¬ Z rb) (h2 : ∀ i, Z i → i < w.heap.size → N ≤ i) : GAt w' N rb b at_ := by
 obtain ⟨p, c, g1, g2, g3⟩ := h.obj
 exact ⟨⟨p, c, g1.chg hc h1, g2, g3.below (hc.below h2 h.hN)⟩, h.lo, h.le, Nat.le_trans h.hN hc.size, h.room, h.fit⟩
theorem GAt.ext (h : GAt w N rb b at_) (hE : Ext w w') : GAt w' N rb b at_ := h.chg (Z := fun _ => False) hE.chg id fun _ h => h.elim
theorem gbytes_spec {n : Nat} (h : GAt w N rb b at_) (hn : n ≤ 2 ^ 40)
  (hok : at_ + n ≤ b.length → ∀ p c w', Chg (· = rb) w w' → GAt w' N rb b (at_ + n) → Sl N w' p (bytes (part b at_ n)) → n ≤ c → R (.returned (.slice p n c)) w')
  (herr : b.length < at_ + n → R (.panicked brkG) w) : Calls P F.gif_reader_bytes #[.pointer (some ⟨rb, 0, none⟩), i64 (n : Nat)] w R := by
 refine calls_gif_reader_bytes _ _ _ _ ?_
 obtain ⟨p, c, g1, g2, g3⟩ := h.obj
 have hle := h.le
 refine nn_i rfl ⟨_, _, _, g1.cell (i := 0) rfl, ?_⟩
 refine brB_i (fun hgt => ⟨⟨_, _, rfl⟩, herr (by have := of_decide_eq_true hgt; omega)⟩) fun hge => ?_
 have hge := of_decide_eq_false hge
 refine nn_i rfl ⟨_, _, _, g1.cell (i := 0) rfl, by omega, by omega, by omega, ?_⟩
 refine nn_i rfl ⟨_, _, _, g1.cell (i := 0) rfl, by omega, by omega, by omega, ?_⟩
 refine nn_i rfl ⟨⟨_, g1.cell (i := 0) rfl⟩, g1.frozen _, ?_⟩
 rw [show (0 : Int).toNat = 0 from rfl, slcBase0, Int.toNat_natCast, Int.toNat_natCast, Nat.sub_zero, Nat.sub_zero]
 have hset := Chg.setCells w ⟨rb, 0, none⟩ [.slice (slcBase p n c 1) (b.length - at_ - n) (c - n)] 0
 have hb : Below N w (setCells w ⟨rb, 0, none⟩ [.slice (slcBase p n c 1) (b.length - at_ - n) (c - n)] 0) := hset.below (fun i hi _ => by have hi : i = rb := hi; have := h.lo; omega) h.hN
 have hdl : (b.drop at_).length = b.length - at_ := List.length_drop
 refine hok (by omega) p c _ hset ⟨⟨slcBase p n c 1, c - n, ?_, ?_, ?_⟩, h.lo, by omega, by rw [show (setCells w ⟨rb, 0, none⟩ [.slice (slcBase p n c 1) (b.length - at_ - n) (c - n)] 0).heap.size = w.heap.size from (setCells_same _ _ _ _).size]; exact h.hN, h.room, h.fit⟩ ?_ (by omega)
 ·have := g1.set1 (off := 0) (v := .slice (slcBase p n c 1) (b.length - at_ - n) (c - n)) (by simp)
  rw [show b.length - (at_ + n) = b.length - at_ - n by omega]
  exact this
 ·omega
 ·refine (g3.part (lo := n) (cap := c) (by rw [bytes_length, hdl]; exact g2) ?_).below hb
  rw [bytes, bytes, ← List.map_drop, List.drop_drop]
  exact List.prefix_refl _
 ·refine (g3.pre ?_).below hb
  rw [part, bytes, bytes, List.map_take]; exact List.take_prefix _ _
theorem gone_spec (h : GAt w N rb b at_)
  (hok : at_ < b.length → ∀ w', Chg (· = rb) w w' → GAt w' N rb b (at_ + 1) → R (.returned (i64 (b.getD at_ 0))) w')
  (herr : b.length ≤ at_ → R (.panicked brkG) w) : Calls P F.gif_reader_one #[.pointer (some ⟨rb, 0, none⟩)] w R := by
 refine calls_gif_reader_one _ _ _ ?_
 refine gbytes_spec (n := 1) h (by omega) (fun hle p c w1 hc1 h1 hs1 _ => .inl ⟨_, _, _, rfl, ?_⟩) fun hlt => .inr ⟨_, rfl, herr (by omega)⟩
 have hx := bget h.fit at_
 have e : (part b at_ 1).getD 0 0 = b.getD at_ 0 := part_get (by omega)
 refine hs1.get (v := u8 (b.getD at_ 0)) (by omega) (by rw [bytes_length, part_length hle]) (by rw [← e]; exact bytes_get (by rw [part_length hle]; simp)) fun a ha => ⟨_, ha, ?_⟩
 rw [w64 (by omega) (by omega)]
 exact hok (by omega) w1 hc1 h1
theorem or16 {a b : Int} (a0 : 0 ≤ a) (a1 : a ≤ 255) (b0 : 0 ≤ b) (b1 : b ≤ 255) : IntKind.i64.wrap (bitsZ .or .i64 (IntKind.i64.wrap a) (shiftZ .shl .i64 (IntKind.i64.wrap b) 8)) = a + 256 * b := by
 rw [show bitsZ .or .i64 (IntKind.i64.wrap a) (shiftZ .shl .i64 (IntKind.i64.wrap b) 8) = bitsZ .or .i64 (shiftZ .shl .i64 (IntKind.i64.wrap b) 8) (IntKind.i64.wrap a) by simp [bitsZ, BitVec.or_comm]]
 rw [w64 (x := a) (by omega) (by omega), w64 (x := b) (by omega) (by omega), shiftZ_shl (by omega) (by show (8 : Int) ≤ 64; omega), show (8 : Int).toNat = 8 from rfl, w64 (x := b * 2 ^ 8) (by omega) (by omega), Int.mul_comm, bitsZ_orAdd b0 (by show _ < 2 ^ 64; omega) a0 (by omega), w64 (by omega) (by omega)]
 omega
theorem gtwo_spec (h : GAt w N rb b at_)
  (hok : at_ + 2 ≤ b.length → ∀ w', Chg (· = rb) w w' → GAt w' N rb b (at_ + 2) → R (.returned (i64 (twoM b at_))) w')
  (herr : b.length < at_ + 2 → R (.panicked brkG) w) : Calls P F.gif_reader_two #[.pointer (some ⟨rb, 0, none⟩)] w R := by
 refine calls_gif_reader_two _ _ _ ?_
 refine gbytes_spec (n := 2) h (by omega) (fun hle p c w1 hc1 h1 hs1 _ => .inl ⟨_, _, _, rfl, ?_⟩) fun hlt => .inr ⟨_, rfl, herr (by omega)⟩
 have hx := bget h.fit at_
 have hy := bget h.fit (at_ + 1)
 have e0 : (part b at_ 2).getD 0 0 = b.getD at_ 0 := part_get (by omega)
 have e1 : (part b at_ 2).getD 1 0 = b.getD (at_ + 1) 0 := part_get (by omega)
 refine hs1.drew.get (v := u8 (b.getD at_ 0)) (by omega) (by rw [bytes_length, part_length hle]) (by rw [← e0]; exact bytes_get (by rw [part_length hle]; simp)) fun a ha => ⟨_, ha, ?_⟩
 refine hs1.drew.get (v := u8 (b.getD (at_ + 1) 0)) (by omega) (by rw [bytes_length, part_length hle]) (by rw [← e1]; exact bytes_get (by rw [part_length hle]; simp)) fun a ha => ⟨_, ha, ?_⟩
 rw [or16 (by omega) (by omega) (by omega) (by omega)]
 exact hok hle _ hc1.drew (h1.ext (Ext.refl w1).drew)
end
end Go.Proofs.YtiiaihiliimcoaaGreat
namespace Go.Proofs.YtiiaihiliimcoaaGreat
open Go Go.Vc Go.RowKit Go.Qn
set_option maxRecDepth 100000
set_option maxHeartbeats 2000000
theorem ChunkB_iter {w : World} {fr1 fr2 : Addr} {yl : Nat} {p : Option Addr} {len cap s m : Nat} (J : Nat → World → Prop) {R : Ending → World → Prop} (hs : 1 ≤ s) (hs2 : s ≤ 2 ^ 20) (hm : ∀ k, k < m ↔ s * k < len) (hc : len ≤ cap) (h62 : len ≤ 2 ^ 47)
  (hJ : ∀ k u, J k u → u.cell? fr1 = some (.slice p len cap) ∧ u.cell? fr2 = some (i64 s)) (h0 : J 0 w)
  (hy : ∀ (k : Nat) u, k < m → J k u → YieldAt Fence.wide 0 P yl #[.slice (slcBase p (s * k) (s * k + min s (len - s * k)) 1) (min s (len - s * k)) (min s (len - s * k))] u.drew (Goes (J (k + 1)) R))
  (hend : ∀ u, J m u → R (.returned (.tuple #[])) u) :
  Calls P F.slices_Chunk_byte_fn1 #[.func (.yield yl) #[] #[], .pointer (some fr1), .pointer (some fr2)] w R := by
 refine calls_slices_Chunk_byte_fn1 _ _ _ _ _ ?_
 refine ⟨fun vs w' => match vs with | [.int _ i] => ∃ k : Nat, i = ((s * k : Nat) : Int) ∧ k ≤ m ∧ J k w' | _ => False, fun vs _ => match vs with | [.int _ i] => (len - i).toNat | _ => 0, ⟨0, by simp, Nat.zero_le _, h0⟩, fun i w1 hI => ?_⟩
 obtain ⟨k, rfl, hk, hI⟩ := hI
 obtain ⟨h1, h2⟩ := hJ _ _ hI
 refine ⟨_, _, _, h1, brB_i (fun hlt => ?_) (fun hge => ?_)⟩
 ·have hlt : s * k < len := by have := of_decide_eq_true hlt; omega
  have hkm := (hm k).2 hlt
  have hyy := hy k w1 hkm hI
  have hsucc : s * (k + 1) = s * k + s := Nat.mul_succ s k
  generalize hx : s * k = x at *
  refine ⟨_, h2, _, _, _, h1, by omega, by omega, by omega, _, _, _, h1, ?_⟩
  have em : min ((s : Nat) : Int) (((len : Int).toNat - ((x : Nat) : Int).toNat : Nat) : Int) = ((min s (len - x) : Nat) : Int) := by omega
  rw [em]
  generalize hln : min s (len - x) = ln at *
  rw [w64 (x := ((x : Nat) : Int) + (ln : Nat)) (by omega) (by omega)]
  refine ⟨by omega, by omega, by omega, by omega, by omega, ?_⟩
  rw [show (((x : Nat) : Int) + (ln : Nat)).toNat = x + ln by omega, Int.toNat_natCast, Nat.add_sub_cancel_left]
  refine yield_mono hyy fun e w4 he => ?_
  rcases he with ⟨rfl, he⟩ | ⟨rfl, he⟩
  ·obtain ⟨h3, h4⟩ := hJ _ _ he
   refine ⟨_, rfl, brB_f rfl ⟨_, h4, ?_⟩⟩
   rw [w64 (x := ((x : Nat) : Int) + (s : Nat)) (by omega) (by omega)]
   refine ⟨⟨k + 1, by omega, hkm, he⟩, ?_⟩
   show (len - (((x : Nat) : Int) + (s : Nat))).toNat < (len - ((x : Nat) : Int)).toNat
   omega
  ·exact ⟨_, rfl, brB_t rfl he⟩
 ·have hge : ¬ s * k < len := by have := of_decide_eq_false hge; omega
  have : ¬ k < m := fun h => hge ((hm k).1 h)
  obtain rfl : k = m := by omega
  exact hend w1 hI
theorem and7 : ∀ n, n < 256 → IntKind.i64.wrap (bitsZ .and .i64 ((n : Nat) : Int) 7) = ((n % 8 : Nat) : Int) := by decide +kernel
theorem shl6 : ∀ n, n < 8 → shiftZ .shl .i64 6 ((n : Nat) : Int) = ((3 * (2 * 2 ^ n) : Nat) : Int) := by decide +kernel
theorem wid16 {x : Int} (h0 : 0 ≤ x) (h1 : x ≤ 255) : IntKind.u16.wrap (257 * IntKind.u16.wrap x) = 257 * x := by
 rw [wrap_u (x := x) rfl h0 (by simp [IntKind.bits]; omega), wrap_u rfl (by omega) (by simp [IntKind.bits]; omega)]
theorem gpal_spec {w : World} {N rb at_ : Nat} {b : List Int} {f : Int} {R : Ending → World → Prop} (h : GAt w N rb b at_) (f0 : 0 ≤ f) (f1 : f ≤ 255)
  (hok : at_ + 3 * palN f ≤ b.length → ∀ p c w', Chg (· = rb) w w' → GAt w' N rb b (at_ + 3 * palN f) → OwnS (fun i => w.heap.size ≤ i) w' p (palN f) c 4 (cos (palU b at_ (palN f))) → R (.returned (.slice p (palN f) c)) w')
  (herr : b.length < at_ + 3 * palN f → ∀ w', Ext w w' → R (.panicked brkG) w') : Calls P F.gif_reader_palette #[.pointer (some ⟨rb, 0, none⟩), i64 f] w R := by
 refine calls_gif_reader_palette _ _ _ _ ?_
 obtain ⟨fn, rfl⟩ := Int.eq_ofNat_of_zero_le f0
 have hpn := palN_range (fn : Nat)
 have e7 : IntKind.i64.wrap (bitsZ .and .i64 ((fn : Nat) : Int) 7) = ((fn % 8 : Nat) : Int) := and7 fn (by omega)
 have e6 : shiftZ .shl .i64 6 ((fn % 8 : Nat) : Int) = ((3 * palN (fn : Nat) : Nat) : Int) := by
  rw [shl6 _ (by omega)]
  unfold palN
  rw [show (((fn : Nat) : Int) % 8).toNat = fn % 8 by omega]
 intro k1 hk1
 rw [e7, e6]
 refine ⟨by omega, fun w1 hL1 => ?_⟩
 generalize palN (fn : Nat) = n at *
 have hE1 : Ext w w1 := hL1.ext (by simpa using hk1)
 have ht1 := hL1.there k1 (by simp)
 have hs1 := hE1.size
 have hrb := h.lt
 have hN := h.hN
 refine gbytes_spec (n := 3 * n) (h.ext hE1) (by omega) (fun hle p c w2 hc2 h2 hs2 hnc => .inl ⟨_, _, _, rfl, hc2.keep (by simp; omega), ?_⟩) fun hlt => .inr ⟨_, rfl, herr hlt w1 hE1⟩
 have hz2 := hc2.size
 refine calls_slices_Chunk_byte _ _ _ _ _ _ ?_
 intro b1 v1 hn1 b2 v2 hn2
 have hb1 : b1 = w2.heap.size := hn1.1
 have hb2 : b2 = v1.heap.size := hn2.1
 have hb1s := hn1.size
 have hb2s := hn2.size
 have hE5 : Ext w2 v2 := hn1.ext.trans hn2.ext
 have hc1 : Cs v2 b1 [.slice p (3 * n) c] := (show Cs v1 b1 [.slice p (3 * n) c] from hn1.cs).ext hn2.ext
 have hc2' : Cs v2 b2 [i64 3] := hn2.cs
 refine ⟨_, hc2'.cell (i := 0) rfl, brB_f (by simp) ⟨_, _, _, rfl, hE5.keep _, fun k4 w6 hrf I1 Z1 stI stZ hI0 rule => ?_⟩⟩
 have hs5 := hE5.size
 have hk4 := hrf.eq
 have hs6 := hrf.size
 have hE6 := hrf.ext
 have hv1 := hn2.ext.size
 refine callF_i (by kernel_rfl) ?_
 let T : Nat → Prop := fun i => w2.heap.size ≤ i ∨ i = k1
 let J : Nat → World → Prop := fun k u => ∃ q c', I1 [.slice q k c'] u ∧ OwnS (fun i => w6.heap.size ≤ i) u q k c' 4 (cos (palU b at_ k)) ∧ Chg T w2 u ∧ Cs u b1 [.slice p (3 * n) c] ∧ Cs u b2 [i64 ((3 : Nat) : Int)] ∧ w6.heap.size ≤ u.heap.size
 have hTN : ∀ i, T i → i < w2.heap.size → N ≤ i := fun i hi _ => by
  rcases hi with hi | hi
  ·have := h2.hN; omega
  ·omega
 refine ChunkB_iter J (p := p) (len := 3 * n) (cap := c) (s := 3) (m := n) (by omega) (by omega) (fun k => by omega) hnc (by omega) (fun k u ⟨q, c', j1, j2, j3, j4, j5, j6⟩ => ⟨j4.cell (i := 0) rfl, j5.cell (i := 0) rfl⟩) ?_ (fun k u hk ⟨q, c', j1, j2, j3, j4, j5, j6⟩ => ?_) (fun u ⟨q, c', j1, j2, j3, j4, j5, j6⟩ => ?_)
 ·exact ⟨_, _, hI0, OwnS.nil _ _ _ _, (hE5.trans hE6).chg, hc1.ext hE6, hc2'.ext hE6, Nat.le_refl _⟩
 ·rw [show min 3 (3 * n - 3 * k) = 3 by omega]
  refine rule _ _ _ _ _ _ u.drew _ (stI _ _ _ j1 ((Ext.refl u).drew.keep _)) fun y5 y6 w10 hP10 => ?_
  have hs10 : w10.heap.size = u.heap.size := hP10.size
  have c10 : Chg T w2 w10 := j3.drew.trans hP10.chg fun i hi _ => by have hi : i = k4 := hi; exact .inl (by omega)
  have hsrc : Sl N w10.drew p (bytes (part b at_ (3 * n))) := hs2.below (c10.drew.below hTN h2.hN)
  have hpl : (part b at_ (3 * n)).length = 3 * n := part_length hle
  have hS3 : Sl N w10.drew (slcBase p (3 * k) (3 * k + 3) 1) (bytes (part (part b at_ (3 * n)) (3 * k) 3)) := by
   have h0 : Sl N w10.drew p (bytes ((part b at_ (3 * n)).take (3 * k + 3))) := hsrc.pre (by rw [bytes, bytes, List.map_take]; exact List.take_prefix _ _)
   refine h0.part (by rw [bytes_length, List.length_take]; omega) ?_
   simp only [part, bytes, List.map_take, List.map_drop, List.drop_take]
   rw [show 3 * k + 3 - 3 * k = 3 by omega]
   exact List.prefix_refl _
  have hp3 : (part (part b at_ (3 * n)) (3 * k) 3).length = 3 := part_length (by rw [hpl]; omega)
  have g : ∀ j, j < 3 → (part (part b at_ (3 * n)) (3 * k) 3).getD j 0 = b.getD (at_ + 3 * k + j) 0 := fun j hj => by
   rw [part_get hj, part_get (by omega), Nat.add_assoc]
  have hx0 := bget h.fit (at_ + 3 * k)
  have hx1 := bget h.fit (at_ + 3 * k + 1)
  have hx2 := bget h.fit (at_ + 3 * k + 2)
  refine hS3.get (v := u8 (b.getD (at_ + 3 * k) 0)) (by omega) (by rw [bytes_length, hp3]) (by rw [← Nat.add_zero (at_ + 3 * k), ← g 0 (by omega)]; exact bytes_get (by rw [hp3]; simp)) fun a ha => ⟨_, ha, ?_⟩
  refine hS3.get (v := u8 (b.getD (at_ + 3 * k + 1) 0)) (by omega) (by rw [bytes_length, hp3]) (by rw [← g 1 (by omega)]; exact bytes_get (by rw [hp3]; simp)) fun a ha => ⟨_, ha, ?_⟩
  refine hS3.get (v := u8 (b.getD (at_ + 3 * k + 2) 0)) (by omega) (by rw [bytes_length, hp3]) (by rw [← g 2 (by omega)]; exact bytes_get (by rw [hp3]; simp)) fun a ha => ⟨_, ha, fun k9 hk9 w11 hL11 => ?_⟩
  rw [wid16 hx0.1 hx0.2, wid16 hx1.1 hx1.2, wid16 hx2.1 hx2.2]
  have hk9' : w10.heap.size ≤ k9 := hk9
  have o10' : OwnS (fun i => w6.heap.size ≤ i) w10 q k c' 4 (cos (palU b at_ k)) := OwnS.chg (w := u.drew) j2 hP10.chg fun i hi _ e => by have e : i = k4 := e; omega
  have o10 : OwnS (fun i => w6.heap.size ≤ i) w10.drew q k c' 4 (cos (palU b at_ k)) := o10'
  have hkd : ∀ i, i ∈ [k9, k1] → i = k9 ∨ i = k1 := fun i hi => by simpa using hi
  refine OwnS.grow (fs := co (colB b at_ k)) o10 hL11 (fun i hi => ?_) (fun i hi => by have hi : w10.heap.size ≤ i := hi; omega) (by simp [blocks]) rfl rfl (by omega) (by omega) fun p4 c4 w12 hO12 hc12 w13 hL13 w14 hP14 hI14 => ?_
  ·rcases hkd i hi with rfl | rfl
   ·exact .inl hk9
   ·exact .inr (by omega)
  have hs12 : w10.heap.size ≤ w12.heap.size := hc12.size
  have hs13 := hL13.size
  have hs14 : w14.heap.size = w13.heap.size := hP14.size
  have hcA : Chg T w10.drew w14 := ((hc12.mono (T := T) fun i hi _ => by
   rcases hi with hi | hi
   ·exact .inl (by omega)
   ·rcases hkd i hi with rfl | rfl
    ·exact .inl (by omega)
    ·exact .inr rfl).trans hL13.chg fun i hi _ => by
   rcases hkd i hi with rfl | rfl
   ·exact .inl (by omega)
   ·exact .inr rfl).trans hP14.chg fun i hi _ => by have hi : i = k4 := hi; exact .inl (by omega)
  have cs : ∀ {bb vs}, Cs u bb vs → bb < w6.heap.size → bb ≠ k1 → bb ≠ k4 → Cs w14 bb vs := fun {bb vs} hcs hb1 hb2 hb3 => by
   have q1 := hcs.drew.put hP10 hb3
   have q2 := q1.drew.chg hc12 fun hx => by
    rcases hx with hx | hx
    ·omega
    ·rcases hkd _ hx with e | e <;> omega
   have q3 := q2.chg hL13.chg fun hx => by rcases hkd _ hx with e | e <;> omega
   exact q3.chg hP14.chg fun hx => by have hx : bb = k4 := hx; omega
  refine .inl ⟨rfl, p4, c4, hI14, ?_, c10.drew.trans hcA fun i hi _ => hi, cs j4 (by omega) (by omega) (by omega), cs j5 (by omega) (by omega) (by omega), by omega⟩
  rw [palU_succ, cos_append, cos_one]
  refine OwnS.mono (OwnS.chg (OwnS.chg hO12 hL13.chg fun i hi _ hx => hi.2 hx) hP14.chg fun i hi _ hx => by have hx : i = k4 := hx; have := hi.1; omega) fun i hi _ => hi.1
 ·refine ⟨_, rfl, .inl ⟨q, _, _, j1, fun w19 hP19 w20 hP20 => ?_⟩⟩
  have hs19 := hP19.size
  have c20 : Chg T w2 w20 := (j3.trans hP19.chg fun i hi _ => by have hi : i = k4 := hi; exact .inl (by omega)).trans hP20.chg fun i hi _ => by have hi : i = v2.heap.size := hi; exact .inl (by omega)
  refine hok hle q c' w20 ((hE1.chg.trans hc2 fun i hi _ => hi).trans c20 fun i hi hl => by rcases hi with hi | hi <;> omega) (h2.chg c20 (fun hx => by rcases hx with hx | hx <;> omega) hTN) ?_
  exact OwnS.mono (OwnS.chg (OwnS.chg j2 hP19.chg fun i hi _ hx => by have hx : i = k4 := hx; omega) hP20.chg fun i hi _ hx => by have hx : i = v2.heap.size := hx; omega) fun i hi _ => by omega
end Go.Proofs.YtiiaihiliimcoaaGreat
namespace Go.Proofs.YtiiaihiliimcoaaGreat
open Go Go.Vc Go.RowKit Go.Qn
set_option maxRecDepth 100000
set_option maxHeartbeats 2000000
def restM (b : List Int) (k : Nat) (d : List (List Int)) : Option (List (List Int) × Nat) := (blkM b k).map fun r => (d ++ r.1, r.2)
theorem restM_nil (b : List Int) (k : Nat) : restM b k [] = blkM b k := by
 unfold restM
 cases blkM b k with
 | none => rfl
 | some r => rfl
theorem flat_snoc (d : List (List Int)) (x : List Int) : (d ++ [x]).flatten.length = d.flatten.length + x.length := by
 rw [List.flatten_append, List.length_append, show [x].flatten = x by simp]
theorem blk_iter {w : World} {N rb k0 yl : Nat} {b : List Int} {fr : Addr} {R : Ending → World → Prop} (J : List (List Int) → World → Prop) (h : GAt w N rb b k0) (h0 : J [] w)
  (hJ : ∀ d u u', J d u → Chg (· = rb) u u' → J d u') (hfr : ∀ d u, J d u → u.cell? fr = some (.pointer (some ⟨rb, 0, none⟩)))
  (hy : ∀ d x p n c u k, J d u → GAt u N rb b k → Sl N u p (bytes x) → x.length = n → 1 ≤ n → n ≤ 255 → n ≤ c → Bs x → d.flatten.length + n ≤ b.length → d.length + 1 ≤ b.length → YieldAt Fence.wide 0 P yl #[.slice p n c] u fun e u' => e = .returned (.bool true) ∧ J (d ++ [x]) u' ∧ GAt u' N rb b k)
  (hok : ∀ l e u, blkM b k0 = some (l, e) → J l u → GAt u N rb b e → R (.returned (.tuple #[])) u)
  (herr : ∀ d u, blkM b k0 = none → J d u → R (.panicked brkG) u) :
  Calls P F.gif_reader_blocks_fn1 #[.func (.yield yl) #[] #[], .pointer (some fr)] w R := by
 refine calls_gif_reader_blocks_fn1 _ _ _ _ ?_
 refine ⟨_, hfr _ _ h0, ?_⟩
 refine gone_spec h (fun hlt w1 hc1 h1 => .inl ⟨_, rfl, ?_⟩) fun hge => .inr ⟨_, rfl, herr [] w (by rw [blkM_step, if_pos hge]) h0⟩
 refine ⟨fun vs u => ∃ (k : Nat) (d : List (List Int)), vs = [i64 (b.getD k 0)] ∧ k < b.length ∧ GAt u N rb b (k + 1) ∧ J d u ∧ blkM b k0 = restM b k d ∧ d.flatten.length ≤ k ∧ d.length ≤ d.flatten.length,
  fun vs u => match u.cell? ⟨rb, 0, none⟩ with | some (.slice _ n _) => n | _ => 0, ⟨k0, [], rfl, hlt, h1, hJ _ _ _ h0 hc1, (restM_nil b k0).symm, by simp, by simp⟩, fun n2 w2 hI => ?_⟩
 obtain ⟨k, d, hv, hk, hG, hj, hM, hd1, hd2⟩ := hI
 obtain rfl : n2 = b.getD k 0 := by simpa using hv
 have hx := bget h.fit k
 obtain ⟨n, en⟩ : ∃ n : Nat, b.getD k 0 = n := ⟨(b.getD k 0).toNat, by omega⟩
 have hstep := blkM_step b k
 rw [if_neg (by omega)] at hstep
 refine brB_i (fun hgt => ?_) fun hz => ?_
 rotate_left
 ·have hz : b.getD k 0 = 0 := by have := of_decide_eq_false hz; omega
  rw [if_pos hz] at hstep
  exact hok d (k + 1) w2 (by rw [hM, restM, hstep]; simp) hj hG
 have hgt := of_decide_eq_true hgt
 rw [if_neg (by omega)] at hstep
 rw [en] at hstep hgt ⊢
 rw [Int.toNat_natCast] at hstep
 refine ⟨_, hfr _ _ hj, ?_⟩
 refine gbytes_spec (n := n) hG (by omega) (fun hle p c w3 hc3 h3 hs3 hnc => .inl ⟨_, _, _, rfl, ?_⟩) fun hlt' => .inr ⟨_, rfl, herr d w2 (by rw [hM, restM, hstep, if_pos (by omega)]; rfl) hj⟩
 rw [if_neg (by omega)] at hstep
 have hpl : (part b (k + 1) n).length = n := part_length hle
 have hM3 : blkM b k0 = restM b (k + 1 + n) (d ++ [part b (k + 1) n]) := by
  rw [hM, restM, restM, hstep]
  cases blkM b (k + 1 + n) with
  | none => rfl
  | some r => simp
 refine yield_mono (hy d (part b (k + 1) n) p n c w3 (k + 1 + n) (hJ _ _ _ hj hc3) h3 hs3 hpl (by omega) (by omega) hnc (part_bs h.fit _ _) (by omega) (by omega)) fun e w4 he => ?_
 obtain ⟨rfl, hj4, h4⟩ := he
 refine ⟨_, rfl, brB_f rfl ⟨_, hfr _ _ hj4, ?_⟩⟩
 refine gone_spec h4 (fun hlt5 w5 hc5 h5 => .inl ⟨_, rfl, ⟨k + 1 + n, d ++ [part b (k + 1) n], rfl, hlt5, h5, hJ _ _ _ hj4 hc5, hM3, by rw [flat_snoc, hpl]; omega, by rw [flat_snoc, hpl, List.length_append]; show d.length + 1 ≤ _; omega⟩, ?_⟩) fun hge => .inr ⟨_, rfl, herr _ w4 (by rw [hM3, restM, blkM_step, if_pos hge]; rfl) hj4⟩
 obtain ⟨p5, c5, g1, _, _⟩ := h5.obj
 obtain ⟨p2, c2, g2, _, _⟩ := hG.obj
 have e1 := g1.cell (i := 0) rfl
 have e2 := g2.cell (i := 0) rfl
 simp only [e1, e2]
 show b.length - (k + 1 + n + 1) < b.length - (k + 1)
 omega
def Rows (N : Nat) (u : World) (vs : List Value) (d : List (List Int)) : Prop := vs.length = d.length ∧ ∀ i, i < d.length → ∃ p c, vs[i]? = some (.slice p (d.getD i []).length c) ∧ Sl N u p (bytes (d.getD i []))
theorem Rows.below {N : Nat} {u u' : World} {vs : List Value} {d : List (List Int)} (h : Rows N u vs d) (hb : Below N u u') : Rows N u' vs d :=
 ⟨h.1, fun i hi => by obtain ⟨p, c, h1, h2⟩ := h.2 i hi; exact ⟨p, c, h1, h2.below hb⟩⟩
theorem Rows.snoc {N : Nat} {u : World} {vs : List Value} {d : List (List Int)} {x : List Int} {p : Option Addr} {c : Nat} (h : Rows N u vs d) (hs : Sl N u p (bytes x)) : Rows N u (vs ++ [.slice p x.length c]) (d ++ [x]) := by
 refine ⟨by simp [h.1], fun i hi => ?_⟩
 rcases Nat.lt_or_ge i d.length with hlt | hge
 ·obtain ⟨q, e, h1, h2⟩ := h.2 i hlt
  rw [List.getD_eq_getElem?_getD, List.getElem?_append_left hlt, ← List.getD_eq_getElem?_getD]
  exact ⟨q, e, by rw [List.getElem?_append_left (by rw [h.1]; exact hlt)]; exact h1, h2⟩
 ·have : i = d.length := by simp at hi; omega
  subst this
  rw [List.getD_eq_getElem?_getD, List.getElem?_append_right (Nat.le_refl _), Nat.sub_self]
  exact ⟨p, c, by rw [List.getElem?_append_right (by rw [h.1]; exact Nat.le_refl _), h.1, Nat.sub_self]; rfl, hs⟩
theorem and1 : ∀ n, n < 256 → ((IntKind.u8.wrap (bitsZ .and .u8 ((n : Nat) : Int) 1) == 0) = decide (n % 2 = 0)) := by decide +kernel
theorem gext_spec {w : World} {N rb k : Nat} {b : List Int} {clear : Int} {R : Ending → World → Prop} (h : GAt w N rb b k)
  (hok : ∀ c e w', extM b k clear = some (c, e) → Chg (· = rb) w w' → GAt w' N rb b e → R (.returned (i64 c)) w')
  (herr : ∀ w', extM b k clear = none → Chg (· = rb) w w' → R (.panicked brkG) w') : Calls P F.gif_reader_extension #[.pointer (some ⟨rb, 0, none⟩), i64 clear] w R := by
 refine calls_gif_reader_extension _ _ _ _ ?_
 unfold extM at hok herr
 have hrb := h.lt
 refine gone_spec h (fun hlt w1 hc1 h1 => .inl ⟨_, rfl, fun k1 hk1 w2 hL2 => ?_⟩) fun hge => .inr ⟨_, rfl, herr w (by rw [if_pos hge]) (Chg.refl _ _)⟩
 rw [if_neg (by omega)] at hok herr
 have s1 := hc1.size
 have ht1 := hL2.there k1 (by simp)
 have s2 := hL2.size
 have hrb1 := h1.lt
 have hN1 := h1.hN
 have h2 : GAt w2 N rb b (k + 1) := h1.chg hL2.chg (by simp; omega) (by simp; omega)
 refine calls_gif_reader_blocks _ _ _ ?_
 intro kf w3 hn3
 have ekf : kf = w2.heap.size := hn3.1
 have skf := hn3.size
 have s3 := hn3.ext.size
 have hF3 : Cs w3 kf [.pointer (some ⟨rb, 0, none⟩)] := hn3.cs
 refine ⟨_, _, _, rfl, hn3.ext.keep _, fun k2 w4 hrf I1 Z1 stI stZ hI0 rule => ?_⟩
 have ek2 := hrf.eq
 have s4 := hrf.size
 have hE4 := hrf.ext
 have h4 := (h2.ext hn3.ext).ext hE4
 let T : Nat → Prop := fun i => i = rb ∨ i = k1 ∨ i = k2 ∨ w4.heap.size ≤ i
 have hTN : ∀ i, T i → i < w4.heap.size → N ≤ i := fun i hi _ => by
  have := h.lo
  rcases hi with hi | hi | hi | hi <;> omega
 let J : List (List Int) → World → Prop := fun d u => ∃ q c vs, I1 [.slice q d.length c] u ∧ OwnS (fun i => w4.heap.size ≤ i) u q d.length c 1 vs ∧ Rows N u vs d ∧ Chg T w4 u ∧ Cs u kf [.pointer (some ⟨rb, 0, none⟩)]
 have hkR : ∀ i, i ∈ [k2, w3.heap.size, k1] → i ≠ rb := fun i hi => by simp at hi; omega
 have hall : ∀ u u', Chg T w4 u → Put w3.heap.size u u' → Chg (· = rb) w u' := fun u u' hT hP => by
  have c4 : Chg (· = rb) w w4 := ((hc1.trans hL2.chg fun i hi hl => by simp at hi; omega).trans hn3.ext.chg (T := fun _ => False) fun i hi _ => hi.elim).trans hE4.chg (T := fun _ => False) fun i hi _ => hi.elim
  exact (c4.trans hT fun i hi hl => by rcases hi with hi | hi | hi | hi <;> omega).trans hP.chg fun i hi hl => by have hi : i = w3.heap.size := hi; omega
 refine callF_i (by kernel_rfl) ?_
 refine blk_iter J h4 ⟨_, _, [], hI0, OwnS.nil _ _ _ _, ⟨rfl, fun i hi => by simp at hi⟩, Chg.refl _ _, hF3.ext hE4⟩ (fun d u u' ⟨q, c, vs, j1, j2, j3, j4, j5⟩ hc => ?_) (fun d u ⟨q, c, vs, j1, j2, j3, j4, j5⟩ => j5.cell (i := 0) rfl) (fun d x p n c u k' ⟨q, c', vs, j1, j2, j3, j4, j5⟩ hG hs hxn hn1 hn255 hnc hbx hfb hdb => ?_) (fun l e u hM ⟨q, c, vs, j1, j2, j3, j4, j5⟩ hG => ?_) fun d u hM ⟨q, c, vs, j1, j2, j3, j4, j5⟩ => ?_
 ·exact ⟨q, c, vs, stI _ _ _ j1 (hc.keep fun i hi e => hkR i hi e), OwnS.chg j2 hc fun i hi _ e => by have e : i = rb := e; omega, j3.below (hc.below (fun i hi _ => by have hi : i = rb := hi; have := h.lo; omega) (Nat.le_trans h4.hN j4.size)), j4.trans hc fun i hi _ => .inl hi, j5.chg hc (by omega)⟩
 ·refine rule _ _ _ _ _ _ u _ j1 fun y5 y6 w10 hP10 k7 hk7 w11 hL11 => ?_
  have s10 : w10.heap.size = u.heap.size := hP10.size
  have su := j4.size
  have o10 := OwnS.chg j2 hP10.chg fun i hi _ e => by have e : i = k2 := e; omega
  have hkd : ∀ i, i ∈ [k7, k1] → i = k7 ∨ i = k1 := fun i hi => by simpa using hi
  have hroom := h.room
  refine OwnS.grow (fs := [.slice p n c]) o10 hL11 (fun i hi => ?_) (fun i hi => by omega) (by simp [blocks]) rfl rfl (by omega) (by omega) fun p4 c4 w12 hO12 hc12 w13 hL13 w14 hP14 hI14 => ?_
  ·rcases hkd i hi with rfl | rfl
   ·exact .inl hk7
   ·exact .inr (by omega)
  have s12 := hc12.size
  have s13 := hL13.size
  have cA : Chg T u w14 := (((hP10.chg.mono (T := T) fun i hi _ => by have hi : i = k2 := hi; exact .inr (.inr (.inl hi))).trans hc12 fun i hi _ => by
   rcases hi with hi | hi
   ·exact .inr (.inr (.inr hi))
   ·rcases hkd i hi with rfl | rfl
    ·exact .inr (.inr (.inr (by omega)))
    ·exact .inr (.inl rfl)).trans hL13.chg fun i hi _ => by
   rcases hkd i hi with rfl | rfl
   ·exact .inr (.inr (.inr (by omega)))
   ·exact .inr (.inl rfl)).trans hP14.chg fun i hi _ => by have hi : i = k2 := hi; exact .inr (.inr (.inl hi))
  have hbl : Below N u w14 := cA.below (fun i hi hl => by
   have := h.lo
   rcases hi with hi | hi | hi | hi <;> omega) (Nat.le_trans h4.hN su)
  have hz : ∀ i, (i = k2 ∨ (w4.heap.size ≤ i ∨ i ∈ [k7, k1])) → i ≠ rb ∧ i ≠ kf := fun i hi => by
   rcases hi with hi | hi | hi
   ·omega
   ·omega
   ·rcases hkd i hi with rfl | rfl <;> omega
  have cB : Chg (fun i => i = k2 ∨ (w4.heap.size ≤ i ∨ i ∈ [k7, k1])) u w14 := (((hP10.chg.mono fun i hi _ => .inl hi).trans hc12 fun i hi _ => .inr hi).trans hL13.chg fun i hi _ => .inr (.inr hi)).trans hP14.chg fun i hi _ => .inl hi
  refine ⟨rfl, ⟨p4, c4, vs ++ [.slice p n c], by rw [List.length_append]; exact hI14, ?_, ?_, j4.trans cA fun i hi _ => hi, j5.chg cB (fun hx => (hz _ hx).2 rfl)⟩, hG.chg cB (fun hx => (hz _ hx).1 rfl) fun i hi hl => ?_⟩
  ·rw [List.length_append]
   exact OwnS.mono (OwnS.chg (OwnS.chg hO12 hL13.chg fun i hi _ hx => hi.2 hx) hP14.chg fun i hi _ hx => by have hx : i = k2 := hx; have := hi.1; omega) fun i hi _ => hi.1
  ·have := (j3.snoc (c := c) hs).below hbl
   rw [hxn] at this
   exact this
  ·have := h.lo
   rcases hi with hi | hi | hi
   ·omega
   ·omega
   ·rcases hkd i hi with rfl | rfl <;> omega
 ·rw [hM] at hok herr
  simp only at hok herr
  refine .inl ⟨_, rfl, .inl ⟨q, _, _, j1, fun w16 hP16 => ?_⟩⟩
  have s16 : w16.heap.size = u.heap.size := hP16.size
  have su := j4.size
  have c16 : Chg T w4 w16 := j4.trans hP16.chg fun i hi _ => .inr (.inr (.inl hi))
  have hG16 : GAt w16 N rb b e := hG.chg hP16.chg (by show ¬ rb = k2; omega) fun i hi _ => by have hi : i = k2 := hi; have := h.hN; omega
  have o16 := OwnS.chg j2 hP16.chg fun i hi _ e => by have e : i = k2 := e; omega
  have r16 := j3.below (hP16.chg.below (fun i hi _ => by have hi : i = k2 := hi; have := h.hN; omega) (Nat.le_trans h4.hN su))
  have hfin : ∀ w17, Put w3.heap.size w16 w17 → GAt w17 N rb b e := fun w17 hP => hG16.chg hP.chg (by show ¬ rb = w3.heap.size; omega) fun i hi _ => by have hi : i = w3.heap.size := hi; have := h.hN; omega
  refine brB_i (fun hne w17 hP17 => ?_) fun heq => ?_
  ·have hne : b.getD k 0 ≠ 249 := by simpa using hne
   rw [if_pos hne] at hok
   exact hok _ _ w17 rfl (hall _ _ c16 hP17) (hfin w17 hP17)
  have heq : ¬ b.getD k 0 ≠ 249 := by simpa using heq
  rw [if_neg heq] at hok herr
  refine brB_i (fun h0 => ⟨⟨_, _, rfl⟩, fun w18 hP18 => ?_⟩) fun h0 => ?_
  ·have h0 : l.length = 0 := by have := eq_of_beq h0; omega
   have : l = [] := List.length_eq_zero_iff.1 h0
   subst this
   exact herr w18 (if_pos (by simp)) (hall _ _ c16 hP18)
  have h0 : 0 < l.length := by
   rcases Nat.eq_zero_or_pos l.length with e | e
   ·rw [e] at h0; cases h0
   ·exact e
  obtain ⟨p0, c0, g1, g2⟩ := r16.2 0 h0
  have hq : ∀ {F : Addr → Prop}, (∀ a, w16.cell? a = some (.slice p0 (l.getD 0 []).length c0) → F a) → idx q l.length 0 1 F := fun hF => o16.sl.get (i := 0) (len := l.length) (by omega) r16.1 g1 hF
  generalize hx : l.getD 0 [] = x at *
  refine hq fun a ha => ⟨_, _, _, ha, ?_⟩
  refine brB_i (fun hne => ⟨⟨_, _, rfl⟩, fun w19 hP19 => ?_⟩) fun h4' => ?_
  ·have hne : x.length ≠ 4 := fun e => by rw [e] at hne; cases hne
   exact herr w19 (if_pos hne) (hall _ _ c16 hP19)
  have h4' : x.length = 4 := by
   have : ¬ (((x.length : Nat) : Int) != 4) = true := by rw [h4']; exact Bool.noConfusion
   simp at this; omega
  rw [if_neg (by omega)] at hok
  refine hq fun a ha => ⟨_, _, _, ha, ?_⟩
  have hbx : Bs x := by
   have := (blkF_ok h.fit (show blkF b (b.length + 1) (k + 1) = some (l, e) from hM)).2.2.1 x (by rw [← hx, List.getD_eq_getElem?_getD, List.getElem?_eq_getElem h0]; exact List.getElem_mem h0)
   exact this
  have v0 := bget hbx 0
  have v3 := bget hbx 3
  obtain ⟨m, em⟩ : ∃ m : Nat, x.getD 0 0 = m := ⟨(x.getD 0 0).toNat, by omega⟩
  refine g2.get (v := u8 (x.getD 0 0)) (by omega) (by rw [bytes_length]) (bytes_get (show (0 : Int).toNat < x.length by simp; omega)) fun a3 ha3 => ⟨_, ha3, ?_⟩
  rw [em] at v0 hok ⊢
  rw [and1 m (by omega)]
  refine brB_i (fun hev w20 hP20 => ?_) fun hod => ?_
  ·have hev := of_decide_eq_true hev
   rw [if_pos (by omega)] at hok
   exact hok _ _ w20 rfl (hall _ _ c16 hP20) (hfin w20 hP20)
  have hod := of_decide_eq_false hod
  rw [if_neg (by omega)] at hok
  refine hq fun a ha => ⟨_, _, _, ha, ?_⟩
  refine g2.get (v := u8 (x.getD 3 0)) (by omega) (by rw [bytes_length]) (bytes_get (show (3 : Int).toNat < x.length by simp; omega)) fun a5 ha5 => ⟨_, ha5, fun w21 hP21 => ?_⟩
  rw [w64 (by omega) (by omega)]
  exact hok _ _ w21 rfl (hall _ _ c16 hP21) (hfin w21 hP21)
 ·rw [hM] at herr
  simp only at herr
  refine .inr ⟨_, rfl, j4.keep fun i hi hT => ?_, fun w22 hP22 => herr w22 trivial (hall _ _ j4 hP22)⟩
  have : i = w3.heap.size := by simpa using hi
  subst this
  rcases hT with hT | hT | hT | hT <;> omega
end Go.Proofs.YtiiaihiliimcoaaGreat
namespace Go.Proofs.YtiiaihiliimcoaaGreat
open Go Go.Vc Go.RowKit Go.Qn
set_option maxRecDepth 100000
set_option maxHeartbeats 2000000
theorem upto_succ (n : Nat) : upto (n + 1) = upto n ++ [((n : Nat) : Int)] := by simp [upto, List.range_succ]
theorem upto_len (n : Nat) : (upto n).length = n := by simp [upto]
theorem rowsM_len (h : Nat) (l : Bool) : (rowsM h l).length = h := by
 unfold rowsM
 split
 ·rw [(stab_perm turnV (upto h)).length_eq, upto_len]
 ·exact upto_len h
theorem rowsM_mem {h : Nat} {l : Bool} {y : Int} (hy : y ∈ rowsM h l) : 0 ≤ y ∧ y < h := by
 have : y ∈ upto h := by
  unfold rowsM at hy
  split at hy
  ·exact (stab_perm turnV (upto h)).mem_iff.1 hy
  ·exact hy
 simp only [upto, List.mem_map, List.mem_range] at this
 obtain ⟨n, h1, rfl⟩ := this
 omega
theorem tm0 {x c : Int} : (x.tmod c == 0) = decide (x % c = 0) := by
 rw [Bool.eq_iff_iff]
 simp only [beq_iff_eq, decide_eq_true_eq]
 exact ⟨fun h => Int.emod_eq_zero_of_dvd (Int.dvd_of_tmod_eq_zero h), fun h => Int.tmod_eq_zero_of_dvd (Int.dvd_of_emod_eq_zero h)⟩
theorem turn_spec {x : Int} {w : World} {R : Ending → World → Prop} (hR : R (.returned (i64 (turnV x))) w) : Calls P F.gif_rows_fn1 #[i64 x] w R := by
 refine calls_gif_rows_fn1 _ _ _ ?_
 unfold vc_gif_rows_fn1
 unfold turnV at hR
 simp only [divZ, tm0]
 refine brB_i (fun h => by rw [if_pos (of_decide_eq_true h)] at hR; exact hR) fun h => ?_
 rw [if_neg (of_decide_eq_false h)] at hR
 refine brB_i (fun h => by rw [if_pos (of_decide_eq_true h)] at hR; exact hR) fun h => ?_
 rw [if_neg (of_decide_eq_false h)] at hR
 refine brB_i (fun h => by rw [if_pos (of_decide_eq_true h)] at hR; exact hR) fun h => ?_
 rw [if_neg (of_decide_eq_false h)] at hR
 exact hR
theorem turn_range (y : Int) : 0 ≤ turnV y ∧ turnV y ≤ 3 := by
 unfold turnV
 split
 ·omega
 split
 ·omega
 split <;> omega
theorem turn_cmp {b k : Nat} (hbk : k ≠ b) : CmpI (.func (.func F.gif_rows_fn2) #[] #[.pointer (some ⟨k, 0, none⟩)]) turnV b (fun u => Cs u k [.func (.func F.gif_rows_fn1) #[] #[]]) := by
 refine ⟨fun u x y R hQ hR => ?_, fun u u' hQ hc => hQ.chg hc hbk⟩
 refine callW_i (by kernel_rfl) ?_
 refine calls_gif_rows_fn2 _ _ _ _ _ ?_
 have rx := turn_range x
 have ry := turn_range y
 refine ⟨_, _, _, hQ.drew.cell (i := 0) rfl, _, _, _, hQ.drew.cell (i := 0) rfl, ?_⟩
 refine callV_i (by kernel_rfl) (turn_spec ⟨_, rfl, Keeps.refl _, ?_⟩)
 refine callV_i (by kernel_rfl) (turn_spec ⟨_, rfl, ?_⟩)
 rw [w64 (by omega) (by omega)]
 exact hR _ _ (Ext.refl u).drew (by omega)
theorem rows_spec {w : World} {h : Nat} {laced : Bool} {R : Ending → World → Prop} (h1 : 1 ≤ h) (h2 : h ≤ 65535)
  (hR : ∀ bb c w', Ext w w' → w.heap.size ≤ bb → SiL w' bb (rowsM h laced) → R (.returned (.slice (some ⟨bb, 0, none⟩) h c)) w') :
  Calls P F.gif_rows #[i64 (h : Nat), .bool laced] w R := by
 refine calls_gif_rows _ _ _ _ ?_
 refine ⟨fun vs u => ∃ (n : Nat) (p : Option Addr) (c : Nat), vs = [.slice p n c, i64 (n : Nat)] ∧ n ≤ h ∧ Ext w u ∧ OwnS (fun i => w.heap.size ≤ i) u p n c 1 ((upto n).map i64), fun vs _ => match vs with | [_, .int _ n] => (h - n).toNat | _ => 0, ⟨0, none, 0, rfl, by omega, Ext.refl w, OwnS.nil _ _ _ _⟩, fun p1 k1 k2 n1 w1 hI => ?_⟩
 obtain ⟨n, p, c, hv, hn, hE1, hO1⟩ := hI
 simp only [List.cons.injEq, Value.slice.injEq, Value.int.injEq, true_and, and_true] at hv
 obtain ⟨⟨rfl, rfl, rfl⟩, rfl⟩ := hv
 have s1 := hE1.size
 refine brB_i (fun hlt k3 hk3 w2 hL2 => ?_) fun hge => ?_
 ·have hlt : k1 < h := by have := of_decide_eq_true hlt; omega
  refine OwnS.grow hO1 hL2 (fun b hb => .inl (by simp at hb; omega)) (fun i hi => by omega) (by simp [blocks]) rfl rfl (by omega) (by omega) fun p' c' w6 hO6 hc6 => ?_
  rw [wrap_succ (by omega)]
  refine ⟨⟨k1 + 1, p', c', rfl, hlt, hE1.step hc6 (fun i hi => by simp at hi; omega), ?_⟩, by show ((h : Int) - ((k1 + 1 : Nat) : Int)).toNat < ((h : Int) - (k1 : Nat)).toNat; omega⟩
  rw [upto_succ, List.map_append]
  exact OwnS.mono hO6 fun i hi _ => hi.1
 have : k1 = h := by have := of_decide_eq_false hge; omega
 subst this
 refine brB_i (fun hl k6 w4 hn4 => ?_) fun hl => ?_
 rotate_left
 ·obtain ⟨q1, q2, q3⟩ := id hO1
  rcases q3 with q3 | ⟨b', rest, q4, q5, q6, q7⟩
  ·omega
  subst q5
  exact hR b' k2 w1 hE1 q4 ⟨rest, by rw [show rowsM k1 laced = upto k1 by unfold rowsM; rw [hl]; rfl]; exact q7⟩
 have e4 : k6 = w1.heap.size := hn4.1
 have s4 := hn4.size
 have hC4 : Cs w4 k6 [.nilFunc] := hn4.cs
 obtain ⟨bb, eb, hb1, hb2⟩ := OwnS.base hO1 (by omega)
 subst eb
 refine ⟨⟨_, hC4.cell (i := 0) rfl⟩, hC4.frozen _, ?_⟩
 have hset := Chg.setCells w4 ⟨k6, 0, none⟩ [.func (.func F.gif_rows_fn1) #[] #[]] 0
 have hC5 : Cs (setCells w4 ⟨k6, 0, none⟩ [.func (.func F.gif_rows_fn1) #[] #[]] 0) k6 [.func (.func F.gif_rows_fn1) #[] #[]] := hC4.set1 (off := 0) (v := .func (.func F.gif_rows_fn1) #[] #[]) (by simp)
 have hO5 := OwnS.chg (OwnS.chg (T := fun _ => False) (OwnS.mono (T := fun i => w.heap.size ≤ i ∧ i < w1.heap.size) hO1 fun i hi hl => ⟨hi, hl⟩) hn4.ext.chg fun _ _ _ h => h) hset fun i hi _ e => by have e : i = k6 := e; omega
 have hlu := upto_len k1
 obtain ⟨q1, q2, q3⟩ := id hO5
 rcases q3 with q3 | ⟨b', rest, q4, q5, q6, q7⟩
 ·omega
 cases q5
 have := SortI_spec (va := .func (.func F.gif_rows_fn2) #[] #[.pointer (some ⟨k6, 0, none⟩)]) (key := turnV) (cap := k2) (l := upto k1) (R := fun e1 w5 => e1 = .returned (.tuple #[]) ∧ R (.returned (.slice (some ⟨bb, 0, none⟩) k1 k2)) w5) ⟨rest, q7⟩ hC5 (turn_cmp (by omega)) (by omega) fun w' hS hc => ⟨rfl, ?_⟩
 ·rw [hlu] at this; exact this
 obtain ⟨rest', hS⟩ := hS
 have hsz : (setCells w4 ⟨k6, 0, none⟩ [.func (.func F.gif_rows_fn1) #[] #[]] 0).heap.size = w4.heap.size := (setCells_same _ _ _ _).size
 have hlen : (stab turnV (upto k1)).length = k1 := by rw [(stab_perm turnV (upto k1)).length_eq, hlu]
 refine hR _ _ w' (((hE1.trans hn4.ext).step hset fun i hi => by have hi : i = k6 := hi; omega).step hc fun i hi => by have hi : i = bb := hi; omega) hb1 ?_
 have er : rowsM k1 laced = stab turnV (upto k1) := by unfold rowsM; rw [hl]; rfl
 exact ⟨rest', by rw [er]; exact hS⟩
end Go.Proofs.YtiiaihiliimcoaaGreat
namespace Go.Proofs.YtiiaihiliimcoaaGreat
open Go Go.Vc Go.RowKit Go.Qn
set_option maxRecDepth 100000
set_option maxHeartbeats 2000000
def fl (s f : Int) (n : Nat) : List Int := (upto n).filter fun y => decide (y % s = f)
theorem fl_succ (s f : Int) (n : Nat) : fl s f (n + 1) = fl s f n ++ if (n : Int) % s = f then [(n : Int)] else [] := by
 unfold fl
 rw [upto_succ, List.filter_append]
 by_cases h : (n : Int) % s = f
 ·rw [if_pos h]; simp [h]
 ·rw [if_neg h]; simp [h]
theorem fl_gap {s f : Int} {t : Nat} (hs : s = 8 ∨ s = 4 ∨ s = 2 ∨ s = 1) (ht : (t : Int) % s = f) : ∀ j : Nat, (j : Int) < s → fl s f (t + 1 + j) = fl s f (t + 1)
 | 0, _ => rfl
 | j + 1, h => by
  rw [← Nat.add_assoc, fl_succ, fl_gap hs ht j (by omega), if_neg, List.append_nil]
  rcases hs with rfl | rfl | rfl | rfl <;> omega
theorem fl_next {s f : Int} {t h : Nat} (hs : s = 8 ∨ s = 4 ∨ s = 2 ∨ s = 1) (ht : (t : Int) % s = f) (hlt : t < h) : fl s f (min (t + s.toNat) h) = fl s f t ++ [(t : Int)] := by
 obtain ⟨j, hj⟩ : ∃ j : Nat, min (t + s.toNat) h = t + 1 + j := ⟨min (t + s.toNat) h - (t + 1), by omega⟩
 rw [hj, fl_gap hs ht j (by omega), fl_succ, if_pos ht]
theorem fl_zero {s f : Int} {t : Nat} (hs : s = 8 ∨ s = 4 ∨ s = 2 ∨ s = 1) (ht : (t : Int) = f) (hts : f < s) : ∀ n, n ≤ t → fl s f n = []
 | 0, _ => rfl
 | n + 1, h => by
  rw [fl_succ, fl_zero hs ht hts n (by omega), if_neg, List.append_nil]
  rcases hs with rfl | rfl | rfl | rfl <;> omega
theorem laced_rows (h : Nat) : fl 8 0 h ++ (fl 8 4 h ++ (fl 4 2 h ++ fl 2 1 h)) = rowsM h true := by
 have e : ∀ (s f v : Int), (∀ y : Int, decide (y % s = f) = (turnV y == v)) → fl s f h = (upto h).filter fun y => turnV y == v := fun s f v hy => by
  unfold fl
  congr 1
  funext y
  exact hy y
 have t0 := e 8 0 0 fun y => by
  rw [Bool.eq_iff_iff]; simp only [decide_eq_true_eq, beq_iff_eq]
  unfold turnV; repeat' split
  all_goals omega
 have t1 := e 8 4 1 fun y => by
  rw [Bool.eq_iff_iff]; simp only [decide_eq_true_eq, beq_iff_eq]
  unfold turnV; repeat' split
  all_goals omega
 have t2 := e 4 2 2 fun y => by
  rw [Bool.eq_iff_iff]; simp only [decide_eq_true_eq, beq_iff_eq]
  unfold turnV; repeat' split
  all_goals omega
 have t3 := e 2 1 3 fun y => by
  rw [Bool.eq_iff_iff]; simp only [decide_eq_true_eq, beq_iff_eq]
  unfold turnV; repeat' split
  all_goals omega
 rw [t0, t1, t2, t3]
 have key : ∀ (v : Int) x, x ∈ (upto h).filter (fun y => turnV y == v) → turnV x = v := fun v x hx => by simpa using (List.mem_filter.1 hx).2
 have ff : ∀ v u : Int, ((upto h).filter (fun y => turnV y == v)).filter (fun y => turnV y == u) = if v = u then (upto h).filter (fun y => turnV y == u) else [] := fun v u => by
  rw [List.filter_filter]
  by_cases hv : v = u
  ·subst hv; rw [if_pos rfl]; congr 1; funext y; simp
  ·rw [if_neg hv, List.filter_eq_nil_iff]
   intro y _ hy
   simp only [Bool.and_eq_true, beq_iff_eq] at hy
   omega
 show _ = stab turnV (upto h)
 refine stab_uniq (fun v => ?_) ?_
 ·rw [List.filter_append, List.filter_append, List.filter_append, ff, ff, ff, ff]
  by_cases h0 : (0 : Int) = v
  ·subst h0; simp
  by_cases h1 : (1 : Int) = v
  ·subst h1; simp
  by_cases h2 : (2 : Int) = v
  ·subst h2; simp
  by_cases h3 : (3 : Int) = v
  ·subst h3; simp
  rw [if_neg h0, if_neg h1, if_neg h2, if_neg h3]
  simp only [List.append_nil]
  rw [List.filter_eq_nil_iff]
  intro y _ hy
  have := turn_range y
  simp only [beq_iff_eq] at hy
  omega
 ·have one : ∀ v : Int, Asc turnV ((upto h).filter fun y => turnV y == v) := fun v => by
   unfold Asc
   rw [List.pairwise_iff_forall_sublist]
   intro a b hab
   have ha := key v a (hab.subset (by simp))
   have hb := key v b (hab.subset (by simp))
   omega
  have two : ∀ {l m : List Int} {v : Int}, Asc turnV l → Asc turnV m → (∀ x, x ∈ l → turnV x ≤ v) → (∀ x, x ∈ m → v ≤ turnV x) → Asc turnV (l ++ m) := fun hl hm h1 h2 => by
   unfold Asc at *
   rw [List.pairwise_append]
   exact ⟨hl, hm, fun a ha b hb => by have := h1 a ha; have := h2 b hb; omega⟩
  refine two (v := 0) (one 0) (two (v := 1) (one 1) (two (v := 2) (one 2) (one 3) ?_ ?_) ?_ ?_) ?_ ?_
  ·intro x hx; rw [key 2 x hx]; omega
  ·intro x hx; rw [key 3 x hx]; omega
  ·intro x hx; rw [key 1 x hx]; omega
  ·intro x hx
   rcases List.mem_append.1 hx with hx | hx
   ·rw [key 2 x hx]; omega
   ·rw [key 3 x hx]; omega
  ·intro x hx; rw [key 0 x hx]; omega
  ·intro x hx; exact (turn_range x).1
def preL (ps : List (Int × Int)) (h : Nat) (i : Nat) : List Int := ((ps.take i).map fun p => fl p.2 p.1 h).flatten
theorem gorder_spec {w : World} {h : Nat} {laced : Bool} {R : Ending → World → Prop} (h2 : h ≤ 65535)
  (hR : ∀ p c w', Ext w w' → OwnS (fun i => w.heap.size ≤ i) w' p h c 1 ((rowsM h laced).map i64) → R (.returned (.slice p h c)) w') :
  Calls P F.ref15_order #[i64 (h : Nat), .bool laced] w R := by
 refine calls_ref15_order _ _ _ _ ?_
 intro k1 w1 hn1 k2 w2 hn2
 have e1 := hn1.1
 have s1 := hn1.size
 have e2 := hn2.1
 have s2 := hn2.size
 have hE2 := hn1.ext.trans hn2.ext
 refine ⟨fun vs u => ∃ (ps : List (Int × Int)) (a b : Nat), vs = [.slice (some ⟨a, 0, none⟩) ps.length ps.length, .slice (some ⟨b, 0, none⟩) ps.length ps.length] ∧ Ext w u ∧ Cs u a (ps.map fun p => i64 p.1) ∧ Cs u b (ps.map fun p => i64 p.2) ∧
   (∀ p, p ∈ ps → (p.2 = 8 ∨ p.2 = 4 ∨ p.2 = 2 ∨ p.2 = 1) ∧ 0 ≤ p.1 ∧ p.1 < p.2) ∧ preL ps h ps.length = rowsM h laced ∧ ps.length ≤ 4, ?_, fun p1 k5 k6 p2 k7 k8 w5 hI => ?_⟩
 ·refine brB_i (fun hl k3 w3 hn3 k4 w4 hn4 => ?_) fun hl => ?_
  ·have hl : laced = false := by simpa using hl
   subst hl
   have hE3 := (hE2.trans hn3.ext).trans hn4.ext
   refine ⟨[(0, 1)], k3, k4, rfl, hE3, (show Cs w3 k3 [i64 0] from hn3.cs).ext hn4.ext, hn4.cs, by simp, ?_, by simp⟩
   unfold preL rowsM
   simp only [List.take_succ_cons, List.take_nil, List.length_cons, List.length_nil, List.map_cons, List.map_nil, List.flatten_cons, List.flatten_nil, List.append_nil, Nat.zero_add]
   unfold fl
   rw [if_neg (by simp), List.filter_eq_self]
   intro y _
   simp only [decide_eq_true_eq]; omega
  ·have hl : laced = true := by simpa using hl
   subst hl
   refine ⟨[(0, 8), (4, 8), (2, 4), (1, 2)], k1, k2, rfl, hE2, (show Cs w1 k1 [i64 0, i64 4, i64 2, i64 1] from hn1.cs).ext hn2.ext, hn2.cs, by simp, ?_, by simp⟩
   rw [← laced_rows h]
   simp [preL]
 obtain ⟨ps, a, b, hv, hE5, hCa, hCb, hps, hpre, hp4⟩ := hI
 have hv := hv.symm
 simp only [List.cons.injEq, Value.slice.injEq, and_true] at hv
 obtain ⟨⟨rfl, rfl, rfl⟩, rfl, rfl, rfl⟩ := hv
 have s5 := hE5.size
 have hla := hCa.lt
 have hlb := hCb.lt
 refine ⟨fun vs u => ∃ (i : Nat) (q : Option Addr) (c : Nat), vs = [.slice q (preL ps h i).length c, i64 (i : Nat)] ∧ i ≤ ps.length ∧ Ext w5 u ∧ OwnS (fun j => w5.heap.size ≤ j) u q (preL ps h i).length c 1 ((preL ps h i).map i64),
  fun vs _ => match vs with | [_, .int _ i] => (ps.length - i : Int).toNat | _ => 0, ⟨0, none, 0, rfl, by omega, Ext.refl _, OwnS.nil _ _ _ _⟩, fun p3 k9 k10 n1 w6 hI => ?_⟩
 obtain ⟨i, q, c, hv, hi, hE6, hO6⟩ := hI
 have hv := hv.symm
 simp only [List.cons.injEq, Value.slice.injEq, Value.int.injEq, true_and, and_true] at hv
 obtain ⟨⟨rfl, rfl, rfl⟩, rfl⟩ := hv
 refine brB_i (fun hlt => ?_) fun hge => ?_
 rotate_left
 ·have : i = ps.length := by have := of_decide_eq_false hge; omega
  subst this
  rw [hpre] at hO6 ⊢
  have hrl := rowsM_len h laced
  rw [hrl] at hO6 ⊢
  exact hR q c w6 (hE5.trans hE6) (OwnS.mono hO6 fun j hj _ => by omega)
 have hlt : i < ps.length := by have := of_decide_eq_true hlt; omega
 obtain ⟨hs, hf0, hf1⟩ := hps ps[i] (List.getElem_mem hlt)
 have hpi : ps[i]? = some ps[i] := List.getElem?_eq_getElem hlt
 have ha : ∀ {u}, Ext w5 u → u.cell? ⟨a, i, none⟩ = some (i64 ps[i].1) := fun hE => (hCa.ext hE).cell (by rw [List.getElem?_map, hpi]; rfl)
 have hb : ∀ {u}, Ext w5 u → u.cell? ⟨b, i, none⟩ = some (i64 ps[i].2) := fun hE => (hCb.ext hE).cell (by rw [List.getElem?_map, hpi]; rfl)
 have hnx : preL ps h (i + 1) = preL ps h i ++ fl ps[i].2 ps[i].1 h := by
  unfold preL
  rw [List.take_succ_eq_append_getElem hlt, List.map_append, List.flatten_append]; simp
 generalize ps[i].1 = f at *
 generalize ps[i].2 = s at *
 refine idx_i (by omega) (by omega) rfl ?_
 rw [loc_add, Nat.zero_add, Nat.mul_one, Int.toNat_natCast]
 refine ⟨_, ha hE6, ?_⟩
 have hlen : ∀ n, n ≤ h → (fl s f n).length ≤ h := fun n hn => by
  unfold fl
  exact Nat.le_trans (List.length_filter_le _ _) (by rw [upto_len]; exact hn)
 have hpl : (preL ps h i).length ≤ h := by
  have e : preL ps h ps.length = preL ps h i ++ ((ps.drop i).map fun p => fl p.2 p.1 h).flatten := by
   unfold preL
   rw [List.take_length, ← List.flatten_append, ← List.map_append, List.take_append_drop]
  have e2 := rowsM_len h laced
  rw [← hpre, e, List.length_append] at e2
  omega
 refine ⟨fun vs u => ∃ (t : Nat) (q : Option Addr) (c : Nat), vs = [.slice q (preL ps h i ++ fl s f (min t h)).length c, i64 (t : Nat)] ∧ (t : Int) % s = f ∧ t < h + 8 ∧ Ext w5 u ∧ OwnS (fun j => w5.heap.size ≤ j) u q (preL ps h i ++ fl s f (min t h)).length c 1 ((preL ps h i ++ fl s f (min t h)).map i64),
  fun vs _ => match vs with | [_, .int _ t] => (h - t : Int).toNat | _ => 0, ⟨f.toNat, q, c, ?_, ?_, by omega, hE6, ?_⟩, fun p4 k11 k12 n3 w7 hI => ?_⟩
 ·rw [fl_zero (t := f.toNat) hs (by omega) hf1 _ (Nat.min_le_left _ _), List.append_nil, Int.toNat_of_nonneg hf0]
 ·rcases hs with rfl | rfl | rfl | rfl <;> omega
 ·rw [fl_zero (t := f.toNat) hs (by omega) hf1 _ (Nat.min_le_left _ _), List.append_nil]; exact hO6
 obtain ⟨t, q', c', hv, ht, htb, hE7, hO7⟩ := hI
 have hv := hv.symm
 simp only [List.cons.injEq, Value.slice.injEq, Value.int.injEq, true_and, and_true] at hv
 obtain ⟨⟨rfl, rfl, rfl⟩, rfl⟩ := hv
 refine brB_i (fun hlt2 k13 hk13 w8 hL8 => ?_) fun hge2 => ?_
 ·have hlt2 : t < h := by have := of_decide_eq_true hlt2; omega
  have e1 : min t h = t := by omega
  have hn1 := hlen (min t h) (by omega)
  have hs8 : 1 ≤ s ∧ s ≤ 8 := by omega
  refine OwnS.grow hO7 hL8 (fun b hb => .inl (by simp at hb; omega)) (fun j hj => by have := hE7.size; omega) (by simp [blocks]) rfl rfl (by rw [List.length_append]; omega) (by rw [List.length_append]; omega) fun p5 c5 w9 hO9 hc9 => ?_
  have hE9 : Ext w5 w9 := hE7.step hc9 fun j hj => by have := hE7.size; simp at hj; omega
  refine idx_i (by omega) (by omega) rfl ?_
  rw [loc_add, Nat.zero_add, Nat.mul_one, Int.toNat_natCast]
  refine ⟨_, hb hE9, ?_⟩
  rw [w64 (by omega) (by omega)]
  have hst : ((t + s.toNat : Nat) : Int) = (t : Int) + s := by omega
  have hfn := fl_next hs ht hlt2
  refine ⟨⟨t + s.toNat, p5, c5, ?_, ?_, by omega, hE9, ?_⟩, ?_⟩
  ·rw [hfn, hst, e1]; simp only [List.length_append, List.length_cons, List.length_nil]; rfl
  ·rw [hst]
   rcases hs with rfl | rfl | rfl | rfl <;> omega
  ·rw [e1] at hO9
   rw [hfn, ← List.append_assoc, List.map_append, List.length_append]
   exact OwnS.mono hO9 fun j hj _ => hj.1
  ·show ((h : Int) - ((t : Int) + s)).toNat < ((h : Int) - (t : Nat)).toNat
   omega
 ·have hge2 : h ≤ t := by have := of_decide_eq_false hge2; omega
  rw [show min t h = h by omega, ← hnx] at hO7 ⊢
  rw [wrap_succ (by omega)]
  exact ⟨⟨i + 1, _, _, rfl, by omega, hE7, hO7⟩, by show ((ps.length : Int) - ((i + 1 : Nat) : Int)).toNat < ((ps.length : Int) - (i : Nat)).toNat; omega⟩
end Go.Proofs.YtiiaihiliimcoaaGreat
namespace Go.Proofs.YtiiaihiliimcoaaGreat
open Go Go.Vc
set_option maxRecDepth 100000
def vc_gif_reader_picture (q1 : Option Addr) (x1 x2 : Int) (sa1 : Option Addr) (sl1 sc1 : Nat) (sa2 : Option Addr) (sl2 sc2 : Nat) (x3 : Int) (w : World) (R : Ending → World → Prop) : Prop :=
 ∀ k1 : Nat,
 w.heap.size ≤ k1 →
 ∀ w1 : World,
 Locl [k1] w w1 →
 Calls P F.gif_reader_two #[.pointer q1] w1 fun e1 w2 =>
 ((∃ n1 : Int,
 (e1 = .returned (.int .i64 n1)) ∧
 Keep [k1] w1 w2 ∧
 Calls P F.gif_reader_two #[.pointer q1] w2 fun e2 w3 =>
 ((∃ n2 : Int,
 (e2 = .returned (.int .i64 n2)) ∧
 Keep [k1] w2 w3 ∧
 Calls P F.gif_reader_two #[.pointer q1] w3 fun e3 w4 =>
 ((∃ n3 : Int,
 (e3 = .returned (.int .i64 n3)) ∧
 Keep [k1] w3 w4 ∧
 Calls P F.gif_reader_two #[.pointer q1] w4 fun e4 w5 =>
 ((∃ n4 : Int,
 (e4 = .returned (.int .i64 n4)) ∧
 Keep [k1] w4 w5 ∧
 Calls P F.gif_reader_one #[.pointer q1] w5 fun e5 w6 =>
 ((∃ n5 : Int,
 (e5 = .returned (.int .i64 n5)) ∧
 Keep [k1] w5 w6 ∧
 brB (decide (n3 < 1) || decide (n4 < 1) || decide (IntKind.i64.wrap (n1 + n3) > x1) || decide (IntKind.i64.wrap (n2 + n4) > x2))
 ((∃ y1 : TypeId,
 ∃ v1 : Value,
 Value.iface 44 (Value.agg #[]) = Value.iface y1 v1) ∧
 R (.panicked [{ v := Value.iface 44 (Value.agg #[]), recovered := false }]) w6)
 (∃ I1 : List Value → World → Prop,
 (brB (IntKind.i64.wrap (bitsZ .and .i64 n5 128) != 0)
 (Calls P F.gif_reader_palette #[.pointer q1, .int .i64 n5] w6 fun e6 w7 =>
 ((∃ p1 : Option Addr,
 ∃ k2 k3 : Nat,
 (e6 = .returned (.slice p1 k2 k3)) ∧
 Keep [k1] w6 w7 ∧
 I1 [.slice p1 k2 k3] w7) ∨
 (∃ l1 : List PanicEntry,
 (e6 = .panicked l1) ∧
 R (.panicked l1) w7)))
 (I1 [.slice sa2 sl2 sc2] w6)) ∧
 ∀ (p2 : Option Addr) (k4 k5 : Nat) (w8 : World),
 (I1 [.slice p2 k4 k5] w8) →
 Calls P F.gif_reader_one #[.pointer q1] w8 fun e7 w9 =>
 ((∃ n6 : Int,
 (e7 = .returned (.int .i64 n6)) ∧
 Keep [k1] w8 w9 ∧
 ∀ k6 : Nat,
 w9.heap.size ≤ k6 →
 ∀ w10 : World,
 Locl [k6, k1] w9 w10 →
 Calls P F.gif_reader_blocks #[.pointer q1] w10 fun e8 w11 =>
 ∃ (y2 : FuncId) (y3 y4 : Array Value),
 (e8 = .returned (.func (Fn.func y2) y3 y4)) ∧
 Keep [k6, k1] w10 w11 ∧
 ∀ (k7 : Nat) (w12 : World),
 (Rf w11 w12 k7) →
 ∀ (I2 : List Value → World → Prop) (Z1 : Exit → List Value → World → Prop),
 (∀ l2 : List Value,
 ∀ w13 w14 : World,
 (I2 l2 w13) →
 (Keep ([k7, w11.heap.size, k6, k1]) w13 w14) →
 I2 l2 w14) →
 (∀ y5 : Exit,
 ∀ (l3 : List Value) (w15 w16 : World),
 (Z1 y5 l3 w15) →
 (Keep ([k7, w11.heap.size, k6, k1]) w15 w16) →
 Z1 y5 l3 w16) →
 (I2 [.slice none 0 0] w12) →
 (∀ p3 : Option Addr,
 ∀ (k8 k9 : Nat) (p4 : Option Addr) (k10 k11 : Nat) (w17 : World) (I3 : Ending → World → Prop),
 (I2 [.slice p3 k8 k9] w17) →
 (∀ y6 : Obj,
 ∀ (y7 : Obj) (w18 : World),
 (Put k7 w17 w18) →
 ∃ l4 : List Value,
 (l4.length = k10 * 1) ∧
 (oneAll l4 = true) ∧
 (CellsAre w18 p4 l4) ∧
 appVC (w18) ([(14, k6, [.slice p3 k8 k9]), (5, k1, [.int .i64 x1, .int .i64 x2, .slice sa1 sl1 sc1])]) (p3) (k8) (k9) (k10) (1) (1) (5) ([.int .u8 0]) (l4) fun p5 k12 k13 w19 =>
 ∀ w20 : World,
 Locl [k6, k1] w19 w20 →
 ∀ w21 : World,
 (Put k7 w20 w21) →
 (I2 [.slice p5 k12 k13] w21) →
 I3 (.returned (.bool true)) w21) →
 YieldAt Fence.wide 0 P (k7) #[.slice p4 k10 k11] (w17) I3) →
 callF P (.func (Fn.func y2) y3 y4) [.func (Fn.yield k7) #[] #[]] w12 fun e9 w22 =>
 ((∃ v2 : Value,
 (e9 = .returned v2) ∧
 ((∃ p6 : Option Addr,
 ∃ k14 k15 : Nat,
 (I2 [.slice p6 k14 k15] w22) ∧
 ∀ w23 : World,
 (Put k7 w22 w23) →
 Calls P F.lzw_GifUnpack #[.slice p6 k14 k15, .int .i64 n6, .int .i64 (IntKind.i64.wrap (n3 * n4))] w23 fun e10 w24 =>
 ∃ (p7 : Option Addr) (k16 k17 : Nat) (n7 : Int),
 (e10 = .returned (.tuple #[.slice p7 k16 k17, .int .i64 n7])) ∧
 Keep [w11.heap.size, k6, k1] w23 w24 ∧
 brB (n7 != 0 || (k16 : Int) != IntKind.i64.wrap (n3 * n4) || (k4 : Int) == 0)
 ((∃ y8 : TypeId,
 ∃ v3 : Value,
 Value.iface 44 (Value.agg #[]) = Value.iface y8 v3) ∧
 ∀ w25 : World,
 (Put (w11.heap.size) w24 w25) →
 R (.panicked [{ v := Value.iface 44 (Value.agg #[]), recovered := false }]) w25)
 (Calls P F.gif_rows #[.int .i64 n4, .bool (IntKind.i64.wrap (bitsZ .and .i64 n5 64) != 0)] w24 fun e11 w26 =>
 ∃ (p8 : Option Addr) (k18 k19 : Nat),
 (e11 = .returned (.slice p8 k18 k19)) ∧
 Keep [w11.heap.size, k6, k1] w24 w26 ∧
 ∃ (I4 : List Value → World → Prop) (m1 : List Value → World → Nat),
 (I4 [.int .i64 0] w26) ∧
 ∀ (n8 : Int) (w27 : World),
 (I4 [.int .i64 n8] w27) →
 brB (decide (n8 < (k18 : Int)))
 (idx (p8) (k18) (n8) (1) fun a1 =>
 ∃ n9 : Int,
 (w27.cell? a1 = some (.int .i64 n9)) ∧
 slcc (p7) (k17) (IntKind.i64.wrap (n8 * n3)) (IntKind.i64.wrap (IntKind.i64.wrap (n8 + 1) * n3)) (1) fun p9 k20 k21 =>
 ∃ (I5 : List Value → World → Prop) (m2 : List Value → World → Nat),
 (I5 [.int .i64 0] w27) ∧
 ∀ (n10 : Int) (w28 : World),
 (I5 [.int .i64 n10] w28) →
 brB (decide (n10 < (k20 : Int)))
 (∃ I6 : List Value → World → Prop,
 (idx (p9) (k20) (n10) (1) fun a2 =>
 ∃ n11 : Int,
 (w28.cell? a2 = some (.int .u8 n11)) ∧
 brB (decide (IntKind.i64.wrap n11 ≥ (k4 : Int)))
 ((∃ y9 : TypeId,
 ∃ v4 : Value,
 Value.iface 44 (Value.agg #[]) = Value.iface y9 v4) ∧
 ∀ w29 : World,
 (Put (w11.heap.size) w28 w29) →
 R (.panicked [{ v := Value.iface 44 (Value.agg #[]), recovered := false }]) w29)
 (idx (p2) (k4) (n11) (4) fun a3 =>
 ∃ n12 n13 n14 n15 : Int,
 (w28.cell? a3 = some (.int .u16 n12)) ∧
 (w28.cell? (a3.add 1) = some (.int .u16 n13)) ∧
 (w28.cell? (a3.add 2) = some (.int .u16 n14)) ∧
 (w28.cell? (a3.add 3) = some (.int .u16 n15)) ∧
 ∀ k22 : Nat,
 w28.heap.size ≤ k22 →
 brB (IntKind.i64.wrap n11 != x3)
 (slcc (sa1) (sc1) (IntKind.i64.wrap (4 * IntKind.i64.wrap (IntKind.i64.wrap (IntKind.i64.wrap (IntKind.i64.wrap (n2 + n9) * x1) + n1) + n10))) ((sl1 : Int)) (1) fun p10 k23 k24 =>
 ∀ w30 : World,
 Locl [k22, k6, k1] w28 w30 →
 ∀ (k25 : Nat) (w31 : World),
 (New w30 (Obj.cells #[.int .u16 n12, .int .u16 n13, .int .u16 n14, .int .u16 n15] 41) k25 w31) →
 ∃ l5 : List Value,
 (l5.length = min 4 k23 * 1) ∧
 (oneAll l5 = true) ∧
 (CellsAre w31 (some { block := k25, off := 0 }) l5) ∧
 (((l5 = []) ∧
 I6 [] w31) ∨
 (∃ a4 : Addr,
 (p10 = some a4) ∧
 (CanSet w31 a4 (l5.length)) ∧
 (¬a4.block ∈ [k22, k6, k1]) ∧
 I6 [] (setCells w31 a4 l5 0))))
 (∀ w32 : World,
 Locl [k22, k6, k1] w28 w32 →
 I6 [] w32))) ∧
 ∀ w33 : World,
 (I6 [] w33) →
 (I5 [.int .i64 (IntKind.i64.wrap (n10 + 1))] w33) ∧
 m2 [.int .i64 (IntKind.i64.wrap (n10 + 1))] w33 < m2 [.int .i64 n10] w28)
 ((I4 [.int .i64 (IntKind.i64.wrap (n8 + 1))] w28) ∧
 m1 [.int .i64 (IntKind.i64.wrap (n8 + 1))] w28 < m1 [.int .i64 n8] w27))
 (∀ w34 : World,
 (Put (w11.heap.size) w27 w34) →
 R (.returned (.tuple #[])) w34))) ∨
 (False))) ∨
 (∃ l6 : List PanicEntry,
 (e9 = .panicked l6) ∧
 Keep [w11.heap.size] w12 w22 ∧
 ∀ w35 : World,
 (Put (w11.heap.size) w22 w35) →
 R (.panicked l6) w35))) ∨
 (∃ l7 : List PanicEntry,
 (e7 = .panicked l7) ∧
 R (.panicked l7) w9)))) ∨
 (∃ l8 : List PanicEntry,
 (e5 = .panicked l8) ∧
 R (.panicked l8) w6))) ∨
 (∃ l9 : List PanicEntry,
 (e4 = .panicked l9) ∧
 R (.panicked l9) w5))) ∨
 (∃ l10 : List PanicEntry,
 (e3 = .panicked l10) ∧
 R (.panicked l10) w4))) ∨
 (∃ l11 : List PanicEntry,
 (e2 = .panicked l11) ∧
 R (.panicked l11) w3))) ∨
 (∃ l12 : List PanicEntry,
 (e1 = .panicked l12) ∧
 R (.panicked l12) w2))
theorem calls_gif_reader_picture (q1 : Option Addr) (x1 x2 : Int) (sa1 : Option Addr) (sl1 sc1 : Nat) (sa2 : Option Addr) (sl2 sc2 : Nat) (x3 : Int) (w : World) (R : Ending → World → Prop) (h : vc_gif_reader_picture q1 x1 x2 sa1 sl1 sc1 sa2 sl2 sc2 x3 w R) : Calls P F.gif_reader_picture #[.pointer q1, .agg #[.int .i64 x1, .int .i64 x2, .slice sa1 sl1 sc1], .slice sa2 sl2 sc2, .int .i64 x3] w R :=
  calls_of_vc (ac := ac_gif_reader_picture) mixed Tryz.func20 (by kernel_rfl) (cast (by unfold vc_gif_reader_picture FnVc; kernel_rfl) h)
end Go.Proofs.YtiiaihiliimcoaaGreat
namespace Go.Proofs.YtiiaihiliimcoaaGreat
open Go Go.Vc Go.RowKit Go.Qn
set_option maxRecDepth 100000
set_option maxHeartbeats 4000000
theorem and128 : ∀ n, n < 256 → ((IntKind.i64.wrap (bitsZ .and .i64 ((n : Nat) : Int) 128) != 0) = decide (128 ≤ n)) := by decide +kernel
theorem and64 : ∀ n, n < 256 → ((IntKind.i64.wrap (bitsZ .and .i64 ((n : Nat) : Int) 64) != 0) = decide (64 ≤ n % 128)) := by decide +kernel
theorem bs_nil : Bs [] := fun x hx => by cases hx
theorem lz_bs {bs : List Int} {up : Bool} {cl w0 early : Nat} {most : Int} (hw1 : 1 ≤ w0) (hw2 : w0 ≤ 12) : ∀ (F : Nat) (s : LS), Inv cl s → s.pos ≤ 8 * bs.length → Bs (lz bs up cl w0 early most F s).1
 | 0, s, _, _ => by simpa [lz] using bs_nil
 | F + 1, s, hi, hp => by
  rw [lz_step]
  have h1 := hi.long
  split
  ·exact bs_nil
  split
  ·exact lz_bs hw1 hw2 F _ (hi.clear hw1 hw2) (by simp only; omega)
  split
  ·exact hi.fit
  split
  ·exact bs_nil
  split
  ·exact bs_nil
  ·rename_i h2 h3 h4 h5 h6
   have nx := hi.nxt (early := early) h3 h4 h5
   exact lz_bs hw1 hw2 F _ nx.inv (by rw [nx.pos]; omega)
theorem gifR_bs {bs : List Int} {size most : Int} (h : Bs bs) : Bs (gifR bs size most).1 := by
 unfold gifR
 split
 ·exact bs_nil
 ·obtain ⟨n, rfl⟩ := Int.eq_ofNat_of_zero_le (show 0 ≤ size by omega)
  have hp := pow8 n (by omega) (by omega)
  have e : (((n : Nat) : Int)).toNat = n := Int.toNat_natCast n
  unfold lzR
  rw [e]
  refine lz_bs (by omega) (by omega) _ _ ⟨hp.2, hp.1, by simp only [initS]; omega, by simp only [initS]; omega, by simp [initS]; omega, rfl, by simp [initS], by simp [initS], fun _ => rfl, by simp [initS, Bs], by simp [initS]⟩ (by simp [initS])
theorem gpic_spec {w : World} {N rb mb k W H : Nat} {b xs : List Int} {pal : List Co} {clear : Int} {pp : Option Addr} {pc : Nat} {SP : Nat → Prop} {R : Ending → World → Prop} (h : GAt w N rb b k) (hb24 : b.length ≤ 2 ^ 24)
  (hm : Cs w mb (px xs)) (hxl : xs.length = 4 * (W * H)) (hW : W ≤ 4096) (hH : H ≤ 4096) (hWH : W * H ≤ 65536) (hmr : mb ≠ rb) (hmN : N ≤ mb)
  (hp : OwnS SP w pp pal.length pc 4 (cos pal)) (hpl : pal.length ≤ 256) (hSP : ∀ i, SP i → N ≤ i ∧ i ≠ rb ∧ i ≠ mb ∧ i < w.heap.size)
  (hok : ∀ xs' w', picM b k W H pal clear xs = some xs' → Chg (fun i => i = rb ∨ i = mb) w w' → Cs w' mb (px xs') → xs'.length = xs.length → R (.returned (.tuple #[])) w')
  (herr : ∀ w', picM b k W H pal clear xs = none → Chg (fun i => i = rb ∨ i = mb) w w' → R (.panicked brkG) w') :
  Calls P F.gif_reader_picture #[.pointer (some ⟨rb, 0, none⟩), .agg #[i64 (W : Nat), i64 (H : Nat), .slice (some ⟨mb, 0, none⟩) (4 * (W * H)) (4 * (W * H))], .slice pp pal.length pc, i64 clear] w R := by
 refine calls_gif_reader_picture _ _ _ _ _ _ _ _ _ _ _ _ ?_
 have hPM := fun (o : Option (List Int)) (h : picM b k W H pal clear xs = o) => h
 unfold picM at hok herr
 have hrb := h.lt
 have hmb := hm.lt
 have hN := h.hN
 intro k1 hk1 w1 hL1
 have hE1 : Ext w w1 := hL1.ext (by simpa using hk1)
 have ht1 := hL1.there k1 (by simp)
 have s1 := hE1.size
 have kp : ∀ {u u' : World}, Chg (· = rb) u u' → Keep [k1] u u' := fun hc => hc.keep (by simp; omega)
 have rm : ∀ {u u' : World}, Chg (· = rb) u u' → Chg (fun i => i = rb ∨ i = mb) u u' := fun hc => hc.mono fun i hi _ => .inl hi
 refine gtwo_spec (h.ext hE1) (fun hA w2 hc2 h2 => .inl ⟨_, rfl, kp hc2, ?_⟩) fun hA => .inr ⟨_, rfl, herr w1 (if_pos (by omega)) hE1.chg⟩
 refine gtwo_spec h2 (fun hB w3 hc3 h3 => .inl ⟨_, rfl, kp hc3, ?_⟩) fun hA => .inr ⟨_, rfl, herr w2 (if_pos (by omega)) (hE1.chg.trans (rm hc2) fun _ h _ => h)⟩
 have c13 := hc2.trans hc3 fun _ h _ => h
 refine gtwo_spec h3 (fun hC w4 hc4 h4 => .inl ⟨_, rfl, kp hc4, ?_⟩) fun hA => .inr ⟨_, rfl, herr w3 (if_pos (by omega)) (hE1.chg.trans (rm c13) fun _ h _ => h)⟩
 have c14 := c13.trans hc4 fun _ h _ => h
 refine gtwo_spec h4 (fun hD w5 hc5 h5 => .inl ⟨_, rfl, kp hc5, ?_⟩) fun hA => .inr ⟨_, rfl, herr w4 (if_pos (by omega)) (hE1.chg.trans (rm c14) fun _ h _ => h)⟩
 have c15 := c14.trans hc5 fun _ h _ => h
 refine gone_spec h5 (fun hE w6 hc6 h6 => .inl ⟨_, rfl, kp hc6, ?_⟩) fun hA => .inr ⟨_, rfl, herr w5 (if_pos (by omega)) (hE1.chg.trans (rm c15) fun _ h _ => h)⟩
 have c16 := c15.trans hc6 fun _ h _ => h
 have d16 : Chg (· = rb) w w6 := (hE1.chg (S := (· = rb))).trans c16 fun _ h _ => h
 rw [if_neg (by omega)] at hok herr
 simp only [show k + 2 + 2 = k + 4 by omega, show k + 2 + 2 + 2 = k + 6 by omega, show k + 2 + 2 + 2 + 2 = k + 8 by omega, show k + 2 + 2 + 2 + 2 + 1 = k + 9 by omega] at h6 ⊢
 have rx := twoM_range h.fit k
 have ry := twoM_range h.fit (k + 2)
 have rw_ := twoM_range h.fit (k + 4)
 have rh := twoM_range h.fit (k + 6)
 obtain ⟨x, ex⟩ : ∃ n : Nat, twoM b k = n := ⟨(twoM b k).toNat, by omega⟩
 obtain ⟨y, ey⟩ : ∃ n : Nat, twoM b (k + 2) = n := ⟨(twoM b (k + 2)).toNat, by omega⟩
 obtain ⟨v, ev⟩ : ∃ n : Nat, twoM b (k + 4) = n := ⟨(twoM b (k + 4)).toNat, by omega⟩
 obtain ⟨g, eg⟩ : ∃ n : Nat, twoM b (k + 6) = n := ⟨(twoM b (k + 6)).toNat, by omega⟩
 have rf := bget h.fit (k + 8)
 obtain ⟨fl_, ef⟩ : ∃ n : Nat, b.getD (k + 8) 0 = n := ⟨(b.getD (k + 8) 0).toNat, by omega⟩
 rw [ex] at rx
 rw [ey] at ry
 rw [ev] at rw_
 rw [eg] at rh
 rw [ef] at rf
 simp only [ex, ey, ev, eg, ef, Int.toNat_natCast] at hok herr ⊢
 rw [w64 (x := (x : Int) + v) (by omega) (by omega), w64 (x := (y : Int) + g) (by omega) (by omega)]
 refine brB_i (fun hbad => ⟨⟨_, _, rfl⟩, herr w6 (if_pos (by simp only [Bool.or_eq_true, decide_eq_true_eq] at hbad; omega)) (rm d16)⟩) fun hgood => ?_
 have hgood : 1 ≤ v ∧ 1 ≤ g ∧ x + v ≤ W ∧ y + g ≤ H := by
  simp only [Bool.or_eq_false_iff, decide_eq_false_iff_not] at hgood; omega
 rw [if_neg (by omega)] at hok herr
 rw [and128 fl_ (by omega)]
 generalize hpal' : (if (128 : Int) ≤ (fl_ : Int) then palU b (k + 9) (palN fl_) else pal) = pal' at hok herr
 generalize hk' : (if (128 : Int) ≤ (fl_ : Int) then k + 9 + 3 * palN fl_ else k + 9) = k' at hok herr
 refine ⟨fun vs u => ∃ (pq : Option Addr) (qc : Nat) (SQ : Nat → Prop), vs = [.slice pq pal'.length qc] ∧ ¬ ((128 : Int) ≤ (fl_ : Int) ∧ b.length < k + 9 + 3 * palN fl_) ∧ Chg (· = rb) w u ∧ w1.heap.size ≤ u.heap.size ∧ GAt u N rb b k' ∧ OwnS SQ u pq pal'.length qc 4 (cos pal') ∧ pal'.length ≤ 256 ∧ (∀ i, SQ i → N ≤ i ∧ i ≠ rb ∧ i ≠ mb ∧ i ≠ k1 ∧ i < u.heap.size), ?_, fun p2 k4 k5 w8 hI => ?_⟩
 ·have s16 := c16.size
  refine brB_i (fun h128 => ?_) fun h128 => ?_
  ·have h128 := of_decide_eq_true h128
   rw [if_pos (by omega)] at hpal' hk'
   subst hpal' hk'
   have hpn := palN_range (fl_ : Nat)
   refine gpal_spec h6 (by omega) (by omega) (fun hle p c w7 hc7 h7 ho7 => .inl ⟨_, _, _, rfl, kp hc7, p, c, fun i => w6.heap.size ≤ i ∧ i < w7.heap.size, ?_, by omega, d16.trans hc7 fun _ h _ => h, by have := hc7.size; omega, h7, ?_, ?_, fun i hi => ?_⟩) fun hlt w7 hE7 => .inr ⟨_, rfl, herr w7 (if_pos ⟨by omega, by omega⟩) ((rm d16).trans hE7.chg fun _ h _ => h)⟩
   ·rw [palU_len]
   ·rw [palU_len]; exact ho7.mono fun i hi hl => ⟨hi, hl⟩
   ·rw [palU_len]; omega
   ·have := d16.size; have := h6.hN; exact ⟨by omega, by omega, by omega, by omega, hi.2⟩
  ·have h128 := of_decide_eq_false h128
   rw [if_neg (by omega)] at hpal' hk'
   subst hpal' hk'
   exact ⟨pp, pc, SP, rfl, by omega, d16, s16, h6, hp.chg d16 fun i hi _ e => (hSP i hi).2.1 e, hpl, fun i hi => by
    have := hSP i hi
    exact ⟨this.1, this.2.1, this.2.2.1, by omega, by omega⟩⟩
 obtain ⟨pq, qc, SQ, hv, hnp, c8, s8, h8, hq8, hql, hSQ⟩ := hI
 have hv := hv.symm
 simp only [List.cons.injEq, Value.slice.injEq, and_true] at hv
 obtain ⟨rfl, rfl, rfl⟩ := hv
 rw [if_neg hnp] at hok herr
 refine gone_spec h8 (fun hlt w9 hc9 h9 => .inl ⟨_, rfl, kp hc9, fun k6 hk6 w10 hL10 => ?_⟩) fun hge => .inr ⟨_, rfl, herr w8 (if_pos hge) (rm c8)⟩
 rw [if_neg (by omega)] at hok herr
 have c9 := c8.trans hc9 fun _ h _ => h
 have s9 := hc9.size
 have s10 := hL10.size
 have t6 := hL10.there k6 (by simp)
 have t1 := hL10.there k1 (by simp)
 have hsz := bget h.fit k'
 have hvg : v * g ≤ W * H := Nat.mul_le_mul (by omega) (by omega)
 have evg : IntKind.i64.wrap (((v : Nat) : Int) * (g : Nat)) = ((v * g : Nat) : Int) := by
  rw [← Int.natCast_mul]; exact w64 (by omega) (by omega)
 rw [evg]
 have evg' : ((v : Nat) : Int) * (g : Nat) = ((v * g : Nat) : Int) := by rw [Int.natCast_mul]
 rw [evg'] at hok herr
 have hkd1 : ∀ {i}, i ∈ [k6, k1] → i = k6 ∨ i = k1 := fun hi => by simpa using hi
 have h10 : GAt w10 N rb b (k' + 1) := h9.chg hL10.chg (fun hx => by rcases hkd1 hx with e | e <;> omega) fun i hi _ => by rcases hkd1 hi with e | e <;> omega
 refine calls_gif_reader_blocks _ _ _ ?_
 intro kf w11 hn11
 have ekf : kf = w10.heap.size := hn11.1
 have skf := hn11.size
 have s11 := hn11.ext.size
 have hF11 : Cs w11 kf [.pointer (some ⟨rb, 0, none⟩)] := hn11.cs
 refine ⟨_, _, _, rfl, hn11.ext.keep _, fun k7 w12 hrf I2 Z1 stI stZ hI0 rule => ?_⟩
 have ek7 := hrf.eq
 have s12 := hrf.size
 have hE12 := hrf.ext
 have h12 := (h10.ext hn11.ext).ext hE12
 let T : Nat → Prop := fun i => i = rb ∨ i = k1 ∨ i = k6 ∨ i = k7 ∨ w12.heap.size ≤ i
 have hTN : ∀ i, T i → N ≤ i := fun i hi => by
  have := h.lo
  rcases hi with hi | hi | hi | hi | hi <;> omega
 let J : List (List Int) → World → Prop := fun d u => ∃ q c, I2 [.slice q d.flatten.length c] u ∧ OwnS (fun i => w12.heap.size ≤ i) u q d.flatten.length c 1 (bytes d.flatten) ∧ Chg T w12 u ∧ Cs u kf [.pointer (some ⟨rb, 0, none⟩)]
 have hkR : ∀ i, i ∈ [k7, w11.heap.size, k6, k1] → i ≠ rb := fun i hi => by simp at hi; omega
 have c12 : Chg (· = rb) w w12 := ((c9.trans hL10.chg fun i hi hl => by rcases hkd1 hi with e | e <;> omega).trans (hn11.ext.chg (S := fun _ => False)) fun i hi _ => hi.elim).trans (hE12.chg (S := fun _ => False)) fun i hi _ => hi.elim
 have s12w := c12.size
 have hmc : ∀ u, Chg T w12 u → Cs u mb (px xs) := fun u hc => (hm.chg c12 (fun e => hmr e)).chg hc fun hx => by rcases hx with e | e | e | e | e <;> omega
 have rmT : ∀ u, Chg T w12 u → Chg (fun i => i = rb ∨ i = mb) w u := fun u hc => (rm c12).trans hc fun i hi hl => by
  rcases hi with e | e | e | e | e
  ·exact .inl e
  all_goals omega
 have putR : ∀ u u', Chg (fun i => i = rb ∨ i = mb) w u → Put w11.heap.size u u' → Chg (fun i => i = rb ∨ i = mb) w u' := fun u u' hc hP => hc.trans hP.chg fun i hi hl => by have hi : i = w11.heap.size := hi; omega
 refine callF_i (by kernel_rfl) ?_
 refine blk_iter J h12 ⟨none, 0, hI0, OwnS.nil _ _ _ _, Chg.refl _ _, hF11.ext hE12⟩ (fun d u u' ⟨q, c, j1, j2, j3, j4⟩ hc => ?_) (fun d u ⟨q, c, j1, j2, j3, j4⟩ => j4.cell (i := 0) rfl) (fun d z p n c u k2 ⟨q, c', j1, j2, j3, j4⟩ hG hs hxn hn1 hn255 hnc hbx hfb hdb => ?_) (fun l e u hM ⟨q, c, j1, j2, j3, j4⟩ hG => ?_) fun d u hM ⟨q, c, j1, j2, j3, j4⟩ => ?_
 ·exact ⟨q, c, stI _ _ _ j1 (hc.keep fun i hi e => hkR i hi e), OwnS.chg j2 hc fun i hi _ e => by have e : i = rb := e; omega, j3.trans hc fun i hi _ => .inl hi, j4.chg hc (by omega)⟩
 ·refine rule _ _ _ _ _ _ u _ j1 fun y5 y6 w18 hP18 => ?_
  have s18 : w18.heap.size = u.heap.size := hP18.size
  have su := j3.size
  have o18 := OwnS.chg j2 hP18.chg fun i hi _ e => by have e : i = k7 := e; omega
  have bl18 : Below N u w18 := hP18.chg.below (fun i hi _ => by have hi : i = k7 := hi; omega) (by omega)
  refine ⟨bytes z, by rw [bytes_length, hxn, Nat.mul_one], bytes_oneAll _, (hs.below bl18).cells, ?_⟩
  refine OwnS.app o18 (fun i hi hS => by simp [blocks] at hi; omega) rfl (by rw [bytes_length, hxn, Nat.mul_one]) (by omega) (by omega) fun p4 c4 w19 hO19 hc19 w20 hL20 w21 hP21 hI21 => ?_
  have s19 := hc19.size
  have s20 := hL20.size
  have hz : ∀ i, (i = k7 ∨ (w12.heap.size ≤ i ∨ i ∈ [k6, k1])) → T i ∧ i ≠ rb ∧ i ≠ kf := fun i hi => by
   rcases hi with hi | hi | hi
   ·exact ⟨.inr (.inr (.inr (.inl hi))), by omega, by omega⟩
   ·exact ⟨.inr (.inr (.inr (.inr hi))), by omega, by omega⟩
   ·rcases hkd1 hi with e | e
    ·exact ⟨.inr (.inr (.inl e)), by omega, by omega⟩
    ·exact ⟨.inr (.inl e), by omega, by omega⟩
  have cB : Chg (fun i => i = k7 ∨ (w12.heap.size ≤ i ∨ i ∈ [k6, k1])) u w21 := (((hP18.chg.mono fun i hi _ => .inl hi).trans hc19 fun i hi _ => .inr (.inl hi)).trans hL20.chg fun i hi _ => .inr (.inr hi)).trans hP21.chg fun i hi _ => .inl hi
  refine ⟨rfl, ⟨p4, c4, by rw [flat_snoc, hxn]; exact hI21, ?_, j3.trans cB fun i hi _ => (hz i hi).1, j4.chg cB fun hx => (hz _ hx).2.2 rfl⟩, hG.chg cB (fun hx => (hz _ hx).2.1 rfl) fun i hi _ => hTN i (hz i hi).1⟩
  rw [flat_snoc, hxn, List.flatten_append, show [z].flatten = z by simp, bytes_append]
  exact OwnS.mono (OwnS.chg (OwnS.chg (OwnS.mono (T := fun i => w12.heap.size ≤ i) hO19 fun i hi _ => hi.elim id fun e => by omega) hL20.chg fun i hi _ hx => by rcases hkd1 hx with e | e <;> omega) hP21.chg fun i hi _ hx => by have hx : i = k7 := hx; omega) fun i hi _ => hi
 ·rw [hM] at hok herr
  simp only at hok herr
  refine .inl ⟨_, rfl, .inl ⟨q, _, _, j1, fun w23 hP23 => ?_⟩⟩
  have s23 : w23.heap.size = u.heap.size := hP23.size
  have su := j3.size
  have c23 : Chg T w12 w23 := j3.trans hP23.chg fun i hi _ => .inr (.inr (.inr (.inl hi)))
  have o23 := OwnS.chg j2 hP23.chg fun i hi _ e => by have e : i = k7 := e; omega
  obtain ⟨b1, b2, b3, b4⟩ := blkF_ok h.fit (show blkF b (b.length + 1) (k' + 1) = some (l, e) from hM)
  have hbl : Bs l.flatten := fun z hz => by
   obtain ⟨m, hm1, hm2⟩ := List.mem_flatten.1 hz
   exact b3 m hm1 z hm2
  refine GifUnpack_spec o23.sl rfl (by omega) hbl (by omega) (by omega) fun p7 k16 k17 w24 hg => ⟨_, _, _, _, rfl, hg.ext.keep _, ?_⟩
  have hk16 := hg.len
  rw [bytes_length] at hk16
  have hgb : Bs (gifR l.flatten (b.getD k' 0) ((v * g : Nat) : Int)).1 := gifR_bs hbl
  generalize gifR l.flatten (b.getD k' 0) ((v * g : Nat) : Int) = gr at *
  subst hk16
  have s24 := hg.ext.size
  have c24 : Chg T w12 w24 := c23.trans (hg.ext.chg (S := fun _ => False)) fun i hi _ => hi.elim
  refine brB_i (fun hbad => ⟨⟨_, _, rfl⟩, fun w25 hP25 => herr w25 (if_pos ?_) (putR _ _ (rmT _ c24) hP25)⟩) fun hgd => ?_
  ·simp only [Bool.or_eq_true, bne_iff_ne, beq_iff_eq] at hbad
   rcases hbad with (hbad | hbad) | hbad
   ·exact .inl hbad
   ·exact .inr (.inl hbad)
   ·exact .inr (.inr (List.length_eq_zero_iff.1 (by omega)))
  have hgd : gr.2 = 0 ∧ gr.1.length = v * g ∧ pal' ≠ [] := by
   simp only [Bool.or_eq_false_iff, bne_eq_false_iff_eq] at hgd
   refine ⟨hgd.1.1, by have := hgd.1.2; omega, fun e => ?_⟩
   rw [e] at hgd
   exact absurd hgd.2 (by simp)
  rw [if_neg (fun hx => by
   rcases hx with hx | hx | hx
   ·exact hx hgd.1
   ·rw [hgd.2.1] at hx; exact hx rfl
   ·exact hgd.2.2 hx)] at hok herr
  rw [and64 fl_ (by omega)]
  refine rows_spec (by omega) (by omega) fun bb cb w26 hE26 hbb hrows => ⟨_, _, _, rfl, hE26.keep _, ?_⟩
  have e64 : decide (64 ≤ fl_ % 128) = decide ((64 : Int) ≤ (fl_ : Int) % 128) := by
   rw [Bool.eq_iff_iff]; simp only [decide_eq_true_eq]; omega
  rw [e64] at hrows
  have hrl := rowsM_len g (decide ((64 : Int) ≤ (fl_ : Int) % 128))
  have hrm := fun y => @rowsM_mem g (decide ((64 : Int) ≤ (fl_ : Int) % 128)) y
  generalize rowsM g (decide ((64 : Int) ≤ (fl_ : Int) % 128)) = rows at *
  have s26 := hE26.size
  have c26 : Chg T w12 w26 := c24.trans (hE26.chg (S := fun _ => False)) fun i hi _ => hi.elim
  have hI24 : OwnS (fun i => w23.heap.size ≤ i ∧ i < w24.heap.size) w26 p7 gr.1.length k17 1 (bytes gr.1) := OwnS.chg (T := fun _ => False) hg.ow.ownS hE26.chg fun _ _ _ h => h
  have hQ26 : OwnS SQ w26 pq pal'.length qc 4 (cos pal') := by
   have c : Chg (fun i => i = rb ∨ i = k1 ∨ w8.heap.size ≤ i) w8 w26 := ((((hc9.mono (T := fun i => i = rb ∨ i = k1 ∨ w8.heap.size ≤ i) fun i hi _ => .inl hi).trans hL10.chg fun i hi _ => by rcases hkd1 hi with e | e; exact .inr (.inr (by omega)); exact .inr (.inl e)).trans (hn11.ext.chg (S := fun _ => False)) fun i hi _ => hi.elim).trans (hE12.chg (S := fun _ => False)) fun i hi _ => hi.elim).trans c26 fun i hi _ => by
    rcases hi with e | e | e | e | e
    ·exact .inl e
    ·exact .inr (.inl e)
    ·exact .inr (.inr (by omega))
    ·exact .inr (.inr (by omega))
    ·exact .inr (.inr (by omega))
   exact OwnS.chg hq8 c fun i hi _ hx => by
    have := hSQ i hi
    rcases hx with e | e | e <;> omega
  have hM26 := hmc w26 c26
  have hbb' : bb < w26.heap.size := by obtain ⟨r, hr⟩ := hrows; exact hr.lt
  let T2 : Nat → Prop := fun i => i = mb ∨ i = k1 ∨ i = k6 ∨ w26.heap.size ≤ i
  let Z : World → List Int → Prop := fun u xs' => xs'.length = xs.length ∧ Cs u mb (px xs') ∧ Chg T2 w26 u
  have zR : ∀ u xs', Z u xs' → SiL u bb rows := fun u xs' hz => by
   obtain ⟨r, hr⟩ := hrows
   exact ⟨r, hr.chg hz.2.2 fun hx => by rcases hx with e | e | e | e <;> omega⟩
  have zI : ∀ u xs', Z u xs' → Sl u.heap.size u p7 (bytes gr.1) := fun u xs' hz => (OwnS.chg hI24 hz.2.2 fun i hi _ hx => by rcases hx with e | e | e | e <;> omega).sl
  have zQ : ∀ u xs', Z u xs' → Sl u.heap.size u pq (cos pal') := fun u xs' hz => (OwnS.chg hQ26 hz.2.2 fun i hi _ hx => by have := hSQ i hi; rcases hx with e | e | e | e <;> omega).sl
  have zF : ∀ u xs', Z u xs' → Chg (fun i => i = rb ∨ i = mb) w u := fun u xs' hz => (rmT _ c26).trans hz.2.2 fun i hi hl => by
   have := c12.size
   rcases hi with e | e | e | e
   ·exact .inr e
   all_goals omega
  have hcap7 := hI24.2.1
  refine ⟨fun vs u => ∃ (i : Nat) (xs' : List Int), vs = [i64 (i : Nat)] ∧ i ≤ g ∧ Z u xs' ∧ paintF pal' clear W x y v rows gr.1 gr.1.length 0 xs = paintF pal' clear W x y v rows gr.1 (gr.1.length - i * v) (i * v) xs',
   fun vs _ => match vs with | [.int _ i] => (g - i : Int).toNat | _ => 0, ⟨0, xs, rfl, by omega, ⟨rfl, hM26, Chg.refl _ _⟩, by rw [Nat.zero_mul]; rfl⟩, fun n8 w27 hI => ?_⟩
  obtain ⟨i, xs1, hv, hi, hz1, hP1⟩ := hI
  obtain rfl : n8 = (i : Nat) := by simpa using hv
  refine brB_i (fun hlt4 => ?_) fun hge4 w34 hP34 => ?_
  rotate_left
  ·have hge4 : i = g := by have := of_decide_eq_false hge4; omega
   subst hge4
   rw [show gr.1.length - i * v = 0 by rw [hgd.2.1, Nat.mul_comm]; omega, paintF] at hP1
   have hcs : Cs w34 mb (px xs1) := hz1.2.1.chg hP34.chg (by show ¬ mb = w11.heap.size; omega)
   exact hok xs1 w34 hP1 (putR _ _ (zF _ _ hz1) hP34) hcs hz1.1
  have hlt4 : i < g := by have := of_decide_eq_true hlt4; omega
  obtain ⟨rr, hr1⟩ := zR _ _ hz1
  have hrow := hrm (rows.getD i 0) (by rw [List.getD_eq_getElem?_getD, List.getElem?_eq_getElem (by omega)]; exact List.getElem_mem _)
  obtain ⟨r, er⟩ : ∃ r : Nat, rows.getD i 0 = r := ⟨(rows.getD i 0).toNat, by omega⟩
  have hcr : w27.cell? ⟨bb, i, none⟩ = some (i64 (r : Nat)) := hr1.cell (by rw [List.getElem?_append_left (by rw [List.length_map]; omega), List.getElem?_map, List.getElem?_eq_getElem (by omega), ← er]; simp [List.getD, show i < rows.length by omega])
  refine idx_i (by omega) (by omega) rfl ?_
  rw [loc_add, Nat.zero_add, Nat.mul_one, Int.toNat_natCast]
  refine ⟨_, hcr, ?_⟩
  have hiv : (i + 1) * v ≤ g * v := Nat.mul_le_mul_right _ (by omega)
  have hiv2 : (i + 1) * v = i * v + v := Nat.succ_mul i v
  have hgv : g * v = v * g := Nat.mul_comm g v
  have hgl := hgd.2.1
  have ei0 : IntKind.i64.wrap (((i : Nat) : Int) * (v : Nat)) = ((i * v : Nat) : Int) := by rw [← Int.natCast_mul]; exact w64 (by omega) (by omega)
  have ei1 : IntKind.i64.wrap (IntKind.i64.wrap (((i : Nat) : Int) + 1) * (v : Nat)) = ((i * v + v : Nat) : Int) := by
   rw [wrap_succ (by omega), ← Int.natCast_mul, hiv2]; exact w64 (by omega) (by omega)
  rw [ei0, ei1]
  have hPb : (y + r) * W + W ≤ W * H := by
   have := Nat.mul_le_mul_right W (show y + r + 1 ≤ H by omega)
   rw [Nat.succ_mul, Nat.mul_comm H W] at this
   exact this
  have hdiv : ∀ j, j < v → (i * v + j) / v = i ∧ (i * v + j) % v = j := fun j hj => by
   rw [Nat.add_comm, Nat.add_mul_div_right _ _ (by omega), Nat.add_mul_mod_self_right, Nat.div_eq_of_lt hj, Nat.mod_eq_of_lt hj, Nat.zero_add]
   exact ⟨rfl, rfl⟩
  generalize hiv0 : i * v = o at *
  refine ⟨by omega, by omega, by omega, ?_⟩
  rw [Int.toNat_natCast, Int.toNat_natCast, Nat.add_sub_cancel_left]
  refine ⟨fun vs u => ∃ (j : Nat) (xs' : List Int), vs = [i64 (j : Nat)] ∧ j ≤ v ∧ Z u xs' ∧ paintF pal' clear W x y v rows gr.1 gr.1.length 0 xs = paintF pal' clear W x y v rows gr.1 (gr.1.length - (o + j)) (o + j) xs',
   fun vs _ => match vs with | [.int _ j] => (v - j : Int).toNat | _ => 0, ⟨0, xs1, rfl, by omega, hz1, by rw [Nat.add_zero]; exact hP1⟩, fun n10 w28 hI => ?_⟩
  obtain ⟨j, xs2, hv, hj, hz2, hP2⟩ := hI
  obtain rfl : n10 = (j : Nat) := by simpa using hv
  refine brB_i (fun hlt5 => ?_) fun hge5 => ?_
  rotate_left
  ·have hge5 : j = v := by have := of_decide_eq_false hge5; omega
   subst hge5
   rw [wrap_succ (by omega)]
   exact ⟨⟨i + 1, xs2, rfl, by omega, hz2, by rw [hiv2]; exact hP2⟩, by show ((g : Int) - ((i + 1 : Nat) : Int)).toNat < ((g : Int) - (i : Nat)).toNat; omega⟩
  have hlt5 : j < v := by have := of_decide_eq_true hlt5; omega
  obtain ⟨hd1, hd2⟩ := hdiv j hlt5
  rw [show gr.1.length - (o + j) = (gr.1.length - (o + (j + 1))) + 1 by omega, paintF, hd1, hd2, er, Int.toNat_natCast] at hP2
  have hgj := bget hgb (o + j)
  obtain ⟨m, em⟩ : ∃ m : Nat, gr.1.getD (o + j) 0 = m := ⟨(gr.1.getD (o + j) 0).toNat, by omega⟩
  rw [em, Int.toNat_natCast] at hP2
  rw [em] at hgj
  have hSp : Sl w28.heap.size w28 (slcBase p7 o k17 1) (bytes (part gr.1 o v)) := (zI _ _ hz2).part (by rw [bytes_length]; exact hcap7) (part_prefix _ _ _)
  have hpl2 : (part gr.1 o v).length = v := part_length (by omega)
  refine ⟨fun _ u => ∃ xs', Z u xs' ∧ paintF pal' clear W x y v rows gr.1 gr.1.length 0 xs = paintF pal' clear W x y v rows gr.1 (gr.1.length - (o + (j + 1))) (o + (j + 1)) xs', ?_, fun w33 hI => ?_⟩
  rotate_left
  ·obtain ⟨xs', hz, hP⟩ := hI
   rw [wrap_succ (by omega)]
   exact ⟨⟨j + 1, xs', rfl, by omega, hz, hP⟩, by show ((v : Int) - ((j + 1 : Nat) : Int)).toNat < ((v : Int) - (j : Nat)).toNat; omega⟩
  refine hSp.get (v := u8 (m : Nat)) (by omega) (by rw [bytes_length, hpl2]) (by rw [Int.toNat_natCast, ← em, ← part_get (n := v) hlt5]; exact bytes_get (by omega)) fun a2 ha2 => ⟨_, ha2, ?_⟩
  rw [w64 (x := ((m : Nat) : Int)) (by omega) (by omega)]
  refine brB_i (fun hbig => ⟨⟨_, _, rfl⟩, fun w29 hP29 => ?_⟩) fun hsml => ?_
  ·have hbig := of_decide_eq_true hbig
   rw [if_pos (by omega)] at hP2
   exact herr w29 hP2 (putR _ _ (zF _ _ hz2) hP29)
  have hsml : m < pal'.length := by have := of_decide_eq_false hsml; omega
  rw [if_neg (by omega)] at hP2
  refine cos_elem (zQ _ _ hz2) rfl (by omega) (by omega) fun a3 q1 q2 q3 q4 => ⟨_, _, _, _, q1, q2, q3, q4, fun k22 hk22 => ?_⟩
  rw [Int.toNat_natCast]
  generalize pal'.getD m zeroC = col at *
  have s28 := hz2.2.2.size
  have hkd2 : ∀ {i}, i ∈ [k22, k6, k1] → T2 i ∧ i ≠ mb := fun {i} hi => by
   have : i = k22 ∨ i = k6 ∨ i = k1 := by simpa using hi
   rcases this with e | e | e
   ·exact ⟨.inr (.inr (.inr (by omega))), by omega⟩
   ·exact ⟨.inr (.inr (.inl e)), by omega⟩
   ·exact ⟨.inr (.inl e), by omega⟩
  refine brB_i (fun hne => ?_) fun heq w32 hL32 => ?_
  rotate_left
  ·have heq : (m : Int) = clear := by simpa using heq
   rw [if_pos heq] at hP2
   exact ⟨xs2, ⟨hz2.1, hz2.2.1.chg hL32.chg (fun hx => (hkd2 hx).2 rfl), hz2.2.2.trans hL32.chg fun i hi _ => (hkd2 hi).1⟩, hP2⟩
  have hne : ¬ (m : Int) = clear := by simpa using hne
  rw [if_neg hne] at hP2
  have hyr : (y + r) * W ≤ W * H := by omega
  have ea : IntKind.i64.wrap (((y : Nat) : Int) + ((r : Nat) : Int)) = ((y + r : Nat) : Int) := by rw [w64 (by omega) (by omega)]; omega
  have eb : IntKind.i64.wrap (((y + r : Nat) : Int) * (W : Nat)) = (((y + r) * W : Nat) : Int) := by rw [← Int.natCast_mul]; exact w64 (by omega) (by omega)
  rw [ea, eb]
  generalize (y + r) * W = Pw at *
  rw [w64 (x := ((Pw : Nat) : Int) + (x : Nat)) (by omega) (by omega), w64 (x := ((Pw : Nat) : Int) + (x : Nat) + (j : Nat)) (by omega) (by omega), w64 (x := 4 * (((Pw : Nat) : Int) + (x : Nat) + (j : Nat))) (by omega) (by omega)]
  have eo : (4 * (((Pw : Nat) : Int) + (x : Nat) + (j : Nat))).toNat = 4 * (Pw + x + j) := by omega
  refine ⟨by omega, by omega, by omega, ?_⟩
  rw [eo, Int.toNat_natCast]
  intro w30 hL30 k25 w31 hn31
  have hC30 : Cs w30 mb (px xs2) := hz2.2.1.chg hL30.chg fun hx => (hkd2 hx).2 rfl
  have hC31 : Cs w31 mb (px xs2) := hC30.ext hn31.ext
  have h25 : Cs w31 k25 (co col) := hn31.cs
  have c31 : Chg T2 w26 w31 := (hz2.2.2.trans hL30.chg fun i hi _ => (hkd2 hi).1).trans (hn31.ext.chg (S := fun _ => False)) fun i hi _ => hi.elim
  have hl4 : 4 * (Pw + x + j) + 4 ≤ (px xs2).length := by rw [px_length, hz2.1, hxl]; omega
  have emin : min 4 (4 * (W * H) - 4 * (Pw + x + j)) * 1 = 4 := by omega
  refine ⟨co col, by rw [emin]; rfl, rfl, (h25.sl (off := 0) (by simp) h25.lt).cells, .inr ⟨⟨mb, 4 * (Pw + x + j), none⟩, ?_, hC31.canSet (by rw [show (co col).length = 4 from rfl]; exact hl4), fun hx => (hkd2 hx).2 rfl, ?_⟩⟩
  ·unfold slcBase
   rw [if_neg (by omega), Option.map_some, loc_add, Nat.zero_add, Nat.mul_one]
  ·refine ⟨setPx xs2 (Pw + x + j) col, ⟨by rw [setPx_len (by rw [hz2.1, hxl]; omega), hz2.1], ?_, c31.trans (Chg.setCells _ _ _ _ :) fun i hi _ => .inl hi⟩, hP2⟩
   have := hC31.set (off := 4 * (Pw + x + j)) (us := co col) (by rw [show (co col).length = 4 from rfl]; exact hl4)
   have e : px (setPx xs2 (Pw + x + j) col) = (px xs2).take (4 * (Pw + x + j)) ++ co col ++ (px xs2).drop (4 * (Pw + x + j) + 4) := by
    simp [px, setPx, coL, co, List.map_take, List.map_drop]
   rw [e]
   exact this
 ·rw [hM] at herr
  simp only at herr
  refine .inr ⟨_, rfl, j3.keep fun i hi hT => ?_, fun w22 hP22 => herr w22 trivial (putR _ _ (rmT _ j3) hP22)⟩
  have : i = w11.heap.size := by simpa using hi
  subst this
  rcases hT with hT | hT | hT | hT | hT <;> omega
end Go.Proofs.YtiiaihiliimcoaaGreat
