/- Bmp: the program reads a file as the document does. -/
import Derived.Test.YtjdljddfiddnoaaDoorBM16
namespace Go.Proofs.YtjdljddfiddnoaaDoor
open Go Go.Vc Go.RowKit
set_option maxRecDepth 100000
set_option linter.unusedVariables false
set_option linter.unusedSimpArgs false

theorem ixImg_snoc {pl : List Co} {l : List Int} {v : Int} : ixImg pl (l ++ [v]) = match ixImg pl l, (if v < pl.length then some (palC pl v) else none) with | some a, some c => some (a ++ [c]) | _, _ => none := by
  by_cases h : ∀ x ∈ l, x < (pl.length : Int)
  · rw [ixImg_yes h]
    by_cases hv : v < pl.length
    · rw [if_pos hv, ixImg_yes (by intro x hx; rcases List.mem_append.1 hx with hx | hx; exact h x hx; simp at hx; rw [hx]; exact hv)]
      simp
    · rw [if_neg hv]
      exact ixImg_no (v := v) (by simp) (by omega)
  · have h' : ∃ x, x ∈ l ∧ (pl.length : Int) ≤ x := by
      apply Classical.byContradiction
      intro hn
      exact h fun x hx => by
        rcases Int.lt_or_le x (pl.length : Int) with h' | h'
        · exact h'
        · exact (hn ⟨x, hx, h'⟩).elim
    obtain ⟨x, hx, hge⟩ := h'
    rw [ixImg_no hx hge, ixImg_no (List.mem_append_left _ hx) hge]
theorem plN_ix {b : List Int} {W H d : Int} {dn : Bool} {g : Nat → Nat} {pl : List Co} (hd : d ≤ 8) : ∀ n, plN (pxQ b W H d dn g pl) n = ixImg pl (ixL b W H d dn n)
  | 0 => by simp [plN, ixL, ixImg]
  | n + 1 => by
    rw [plN, plN_ix hd n, ixL_succ, ixImg_snoc]
    unfold pxQ
    rw [if_pos hd]
    generalize ixImg pl (ixL b W H d dn n) = A
    generalize (if ixQ b W H d dn n < (pl.length : Int) then some (palC pl (ixQ b W H d dn n)) else none) = B
    cases A <;> cases B <;> rfl
theorem plN_msk {b : List Int} {W H d : Int} {dn : Bool} {g : Nat → Nat} {pl : List Co} (hd : ¬ d ≤ 8) : ∀ n, plN (pxQ b W H d dn g pl) n = some (mskL b W H d dn g n)
  | 0 => rfl
  | n + 1 => by
    rw [plN, plN_msk hd n, mskL_succ]
    unfold pxQ
    rw [if_neg hd]
theorem body_runs {bs : List Int} (ok : HdOk bs) (hp : fP bs = 1 ∨ fP bs = 2) : bodyL bs = runsL (bs.drop (fA bs).toNat) (fW bs) (fH bs) (fD bs) (pal bs) := by
  have := ok.pk
  unfold bodyL
  rw [if_pos (by omega)]
  unfold byIx ixOf runsL
  rw [if_pos (by omega)]
theorem body_plain {bs : List Int} (ok : HdOk bs) (hp : ¬ (fP bs = 1 ∨ fP bs = 2)) : bodyL bs = plainL (bs.drop (fA bs).toNat) (fW bs) (fH bs) (fD bs) (fN bs) (gM bs) (pal bs) := by
  have := ok.pk
  unfold bodyL plainL
  by_cases hd : fD bs ≤ 8
  · rw [if_pos hd]
    unfold byIx ixOf
    rw [if_neg (by omega), plN_ix hd]
    split <;> rfl
  · rw [if_neg hd]
    unfold byMsk
    rw [plN_msk hd]
theorem Decode_spec {w : World} {p : Option Addr} {len cap : Nat} {bs : List Int} {most : Int} {R : Ending → World → Prop} (h : By w p len bs) (hc : len ≤ cap) (hT : Tab w)
    (hR : ∀ w' s n c, Ext w w' → Ow w.heap.size w'.heap.size w' s n c 1 (px (decR bs most).2.2.1) → R (.returned (.tuple #[.agg #[i64 (decR bs most).1, i64 (decR bs most).2.1, .slice s n c], i64 (decR bs most).2.2.2])) w') :
    Calls P F.bmp_Decode #[.slice p len cap, i64 most] w R := by
  have hln := h.ln
  refine calls_bmp_Decode _ _ _ _ _ _ ?_
  unfold vc_bmp_Decode
  intro k1 hk1
  have lx : ∀ {u u' : World}, Ext w u → Locl [k1] u u' → Ext w u' := fun hE hL => hE.step hL.chg (by simp; omega)
  have bad : ∀ {e : Int} {u : World}, decR bs most = (0, 0, [], e) → Ext w u → R (.returned (.tuple #[.agg #[i64 0, i64 0, .slice none 0 0], i64 e])) u := fun he hE => by
    have := hR _ none 0 0 hE (by rw [he]; exact Ow.nil _ _ _ _ _)
    rw [he] at this; exact this
  have e0 := decR.eq_1 bs most
  refine brB_i (fun hb w1 hL1 => bad (by rw [e0, if_pos (by simp at hb; omega)]) (lx (Ext.refl w) hL1)) fun hb w2 hL2 => ?_
  rw [if_neg (by simp at hb; omega)] at e0
  have hE2 := lx (Ext.refl w) hL2
  have ht2 := hL2.there k1 (by simp)
  refine open_spec (h.ext hE2) hc (hT.ext hE2) (fun hne u hu => ⟨_, _, rfl, hu.keep _, brB_t (by simpa using hne) fun w4 hL4 => bad ?_ (lx (hE2.trans hu) hL4)⟩) fun heq u fb ho => ?_
  · rw [e0]
    unfold opE
    by_cases hh : hE bs ≠ 0
    · rw [if_pos hh, if_pos hh]
    · rw [if_neg hh, if_neg hh]
      cases hm : (mkOk bs && (decide (8 < fD bs) || palOk bs)) with
      | true => unfold opE at hne; rw [if_neg hh, hm] at hne; exact (hne rfl).elim
      | false => rw [if_pos rfl, if_neg (by decide)]
  obtain ⟨q, n, c, hEu, hfb, hcs, hpal⟩ := ho
  have hh : hE bs = 0 := by
    unfold opE at heq
    by_cases hh : hE bs ≠ 0
    · rw [if_pos hh] at heq; exact heq
    · omega
  have hok : (mkOk bs && (decide (8 < fD bs) || palOk bs)) = true := by
    unfold opE at heq
    rw [if_neg (by omega)] at heq
    split at heq
    · assumption
    · exact absurd heq (by decide)
  have ok := HdOk.of hh
  rw [if_neg (by omega), hok, if_neg (by decide)] at e0
  have hw := fW_range h.fit 18
  have hw' : -2147483648 ≤ fW bs ∧ fW bs ≤ 2147483647 := hw
  have hhh := fH_range h.fit
  have w1 := ok.w
  have h1 := fH_pos ok
  have hE3 := hE2.trans hEu
  have hcd := hcs.drew
  have a0 := lit_u32 h.fit 10 4 (by omega)
  refine ⟨_, _, rfl, hEu.keep _, brB_f rfl (nn_i rfl ⟨_, hcd.cell (i := 1) rfl, nn_i rfl ⟨_, hcd.cell (i := 2) rfl, ?_⟩⟩)⟩
  have p0 : 0 ≤ fW bs * fH bs := Int.mul_nonneg (by omega) (by omega)
  have p1 : fW bs * fH bs ≤ 2147483648 * 2147483648 := Int.mul_le_mul (by omega) (by omega) (by omega) (by omega)
  have hgr : great (fW bs) (fH bs) most = true ↔ fW bs > 4096 ∨ fH bs > 4096 ∨ fW bs * fH bs > most ∨ fW bs * fH bs > 65536 := by unfold great; simp
  refine brB_i (fun hx w5 hL5 => bad (by rw [e0, if_pos (hgr.2 (by simp at hx; omega))]) (lx hE3.drew hL5)) fun hx => nn_i rfl ⟨_, hcd.cell (i := 1) rfl, nn_i rfl ⟨_, hcd.cell (i := 2) rfl, ?_⟩⟩
  rw [w64 (x := fW bs * fH bs) (by omega) (by omega)]
  refine brB_i (fun hy w6 hL6 => bad (by rw [e0, if_pos (hgr.2 (by simp at hy; omega))]) (lx hE3.drew hL6)) fun hy => nn_i rfl ⟨_, hcd.cell (i := 6) rfl, ?_⟩
  have hg : great (fW bs) (fH bs) most = false := by rw [Bool.eq_false_iff]; intro h; have := hgr.1 h; simp at hx hy; omega
  rw [if_neg (by rw [hg]; decide)] at e0
  have hgf := not_great hg w1 h1
  refine brB_i (fun ha w7 hL7 => bad (by rw [e0, if_pos (by simp at ha; omega)]) (lx hE3.drew hL7)) fun ha k2 hk2 => ?_
  have ha : fA bs ≤ len := by simpa using ha
  rw [if_neg (by omega)] at e0
  have hs2 := hE2.size
  have hs3 := hEu.size
  have hsd : u.drew.heap.size = u.heap.size := rfl
  have lxx : ∀ {u u' : World}, Ext w u → Locl [k2, k1] u u' → Ext w u' := fun hE hL => hE.step hL.chg (by simp; omega)
  let J2 : List Value → World → Prop := fun vs u => Ext w u ∧ ∃ (c : Bool) (x y : Int) (s : Option Addr) (n cp : Nat), vs = [.bool c, i64 x, i64 y, .slice s n cp] ∧ (c = false → bodyL bs = none) ∧ (c = true → ∃ l, bodyL bs = some l ∧ x = fW bs ∧ y = fH bs ∧ ∃ N, (∀ b, b ∈ [k2, k1] → b < N) ∧ w.heap.size ≤ N ∧ Ow N u.heap.size u s n cp 1 (px (flat l)))
  refine ⟨J2, nn_i rfl fun w8 hL8 => ?_, ?_⟩
  · have hE8 := lxx hE3.drew hL8
    have hne : ∀ b, b ∈ [k2, k1] → b ≠ fb := by
      have := hcs.lt
      simp; omega
    have hcs8 := hcd.locl hL8 (fun hm => hne fb hm rfl)
    have hB8 := h.ext hE8
    have hpl8 : fD bs ≤ 8 → Sl w8.heap.size w8 q (cos (pal bs)) ∧ n = (pal bs).length := fun hd => by
      obtain ⟨hnl, hO⟩ := hpal hd
      refine ⟨(sl_locl hO.sl.drew hL8 fun a ha hn hlt => ?_).up, hnl⟩
      obtain ⟨b, hb, hb1, hb2⟩ := hO.base (by rw [cos_length] at hn; omega)
      rw [hb] at ha; cases ha
      simp only [List.mem_cons, List.not_mem_nil, or_false]
      show ¬ (b = k2 ∨ b = k1)
      omega
    have out : ∀ {l : List Co} {s : Option Addr} {c : Nat} {w9 w10 : World}, Ext w8 w9 → Ow w8.heap.size w9.heap.size w9 s (4 * l.length) c 1 (px (flat l)) → Locl [k2, k1] w9 w10 → bodyL bs = some l → J2 [.bool true, i64 (fW bs), i64 (fH bs), .slice s (4 * l.length) c] w10 := fun hE9 hO hL hl =>
      ⟨lxx (hE8.trans hE9) hL, _, _, _, _, _, _, rfl, (fun h => by cases h), fun _ => ⟨_, hl, rfl, rfl, _, fun b hb => hL8.there b hb, hE8.size, (ow_locl hO hL fun b hb => hL8.there b hb).mono (Nat.le_refl _) hL.size⟩⟩
    have no : ∀ {x y : Int} {s : Option Addr} {k c : Nat} {w9 w10 : World}, Ext w8 w9 → Locl [k2, k1] w9 w10 → bodyL bs = none → J2 [.bool false, i64 x, i64 y, .slice s k c] w10 := fun hE9 hL hl =>
      ⟨lxx (hE8.trans hE9) hL, _, _, _, _, _, _, rfl, fun _ => hl, fun h => by cases h⟩
    have runs : (fP bs = 1 ∨ fP bs = 2) → Calls P F.bmp_file_runs #[.pointer (some ⟨fb, 0, none⟩)] w8 fun e2 w9 => ∃ (n8 n9 : Int) (p2 : Option Addr) (k3 k4 : Nat) (c1 : Bool), e2 = .returned (.tuple #[.agg #[i64 n8, i64 n9, .slice p2 k3 k4], .bool c1]) ∧ Keep [k2, k1] w8 w9 ∧ ∀ w10, Locl [k2, k1] w9 w10 → J2 [.bool c1, i64 n8, i64 n9, .slice p2 k3 k4] w10 := fun hp => by
      have hpk := ok.pk
      have hd : fD bs = 4 ∨ fD bs = 8 := by omega
      obtain ⟨hsl, hnl⟩ := hpl8 (by omega)
      exact runs_spec hB8 hc hcs8 hgf hd a0.1 ha hsl hnl (fun hn x y s k c u9 hE9 => ⟨_, _, _, _, _, _, rfl, hE9.keep _, fun w10 hL10 => no hE9 hL10 ((body_runs ok hp).trans hn)⟩)
        fun l hl hlen s c u9 hE9 hO => ⟨_, _, _, _, _, _, rfl, hE9.keep _, fun w10 hL10 => out hE9 hO hL10 ((body_runs ok hp).trans hl)⟩
    refine ⟨_, hcs8.cell (i := 5) rfl, brB_i (fun hp => runs (.inl (by simpa using hp))) fun hp => nn_i rfl ⟨_, hcs8.cell (i := 5) rfl, brB_i (fun hp2 => runs (.inr (by simpa using hp2))) fun hp2 => ?_⟩⟩
    have hpp : ¬ (fP bs = 1 ∨ fP bs = 2) := by simp at hp hp2; omega
    have hmk : mkOk bs = true := by simp at hok; exact hok.1
    refine plain_spec hB8 (hT.ext hE8) hcs8 hgf ok.d a0.1 a0.2 ha hpl8 (fun h8 => masks_ok h.fit ok hmk h8) (fun hn x y s k c u9 hE9 => ⟨_, _, _, _, _, _, rfl, hE9.keep _, fun w10 hL10 => no hE9 hL10 ((body_plain ok hpp).trans hn)⟩)
      fun l hl hlen s c u9 hE9 hO => ⟨_, _, _, _, _, _, rfl, hE9.keep _, fun w10 hL10 => out hE9 hO hL10 ((body_plain ok hpp).trans hl)⟩
  · intro c11 n43 n44 p9 k20 k21 w22 hI
    obtain ⟨hE22, c, x, y, s, n, cp, hv, hc0, hc1⟩ := hI
    simp only [List.cons.injEq, Value.int.injEq, Value.bool.injEq, Value.slice.injEq, true_and, and_true] at hv
    obtain ⟨rfl, rfl, rfl, rfl, rfl, rfl⟩ := hv
    cases c11 with
    | false => exact brB_t rfl fun w23 hL23 => bad (by rw [e0, hc0 rfl]) (lxx hE22 hL23)
    | true =>
      obtain ⟨l, hl, rfl, rfl, N, hN, hwN, hI⟩ := hc1 rfl
      refine brB_f rfl fun w24 hL24 => ?_
      rw [hl] at e0
      have := hR w24 p9 k20 k21 (lxx hE22 hL24) (by rw [e0]; exact (ow_locl hI hL24 hN).mono hwN hL24.size)
      rw [e0] at this; exact this
end Go.Proofs.YtjdljddfiddnoaaDoor
