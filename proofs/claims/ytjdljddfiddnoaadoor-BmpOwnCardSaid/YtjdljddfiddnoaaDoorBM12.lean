/- Bmp: the program opens a file. -/
import Derived.Test.YtjdljddfiddnoaaDoorBM11
namespace Go.Proofs.YtjdljddfiddnoaaDoor
open Go Go.Vc Go.RowKit
set_option maxRecDepth 100000
set_option linter.unusedVariables false
set_option linter.unusedSimpArgs false

theorem keeps_same {u u' : World} {k : Nat} {vs : List Value} (hc : Chg (· = k) u u') (h : Cs u k vs) (h' : Cs u' k vs) : Keeps u u' := by
  intro a v ha
  by_cases hk : a.block = k
  · subst hk
    obtain ⟨e, he⟩ := h
    obtain ⟨e', he'⟩ := h'
    unfold World.cell? at ha ⊢
    rw [he] at ha
    rw [he']
    exact ha
  · rw [World.cell?_of_block (w := u) (hc.block _ (World.block_lt_of_cell? u a ha) hk)]
    exact ha
theorem open_spec {w : World} {p : Option Addr} {len cap : Nat} {bs : List Int} {R : Ending → World → Prop} (h : By w p len bs) (hcap : len ≤ cap) (hT : Tab w)
    (bad : opE bs ≠ 0 → ∀ u, Ext w u → R (.returned (.tuple #[.pointer none, i64 (opE bs)])) u)
    (good : opE bs = 0 → ∀ u fb, OpenIs w p len cap bs u fb → R (.returned (.tuple #[.pointer (some ⟨fb, 0, none⟩), i64 0])) u) :
    Calls P F.bmp_open #[.slice p len cap] w R := by
  have hln := h.ln
  have hlim := h.lim
  refine calls_bmp_open _ _ _ _ _ ?_
  unfold vc_bmp_open
  intro k1 w1 hN1 k2 w2 hN2
  have hk1 : k1 = w.heap.size := hN1.1
  have hk2 : k2 = w1.heap.size := hN2.1
  have hs1 := hN1.size
  have hs2 := hN2.size
  have hE2 : Ext w w2 := hN1.ext.trans hN2.ext
  have hc2 := hN2.cs
  have hL0 := set_locl (u := w2) (b := k2) (i := 0) (vs := [.bool false]) hc2.lt
  have hC1 : Cs (setCells w2 ⟨k2, 0, none⟩ [.bool false] 0) k1 [.slice p len cap] := ((hN1.cs).ext hN2.ext).locl hL0 (by simp; omega)
  have hC2 : Cs (setCells w2 ⟨k2, 0, none⟩ [.bool false] 0) k2 [.bool false] := hc2.set1 (off := 0) (v := .bool false) (by simp)
  have hE0 : Ext w (setCells w2 ⟨k2, 0, none⟩ [.bool false] 0) := hE2.step hL0.chg (by simp; omega)
  refine ⟨⟨_, hc2.cell (i := 0) rfl⟩, hc2.frozen _, ?_⟩
  generalize setCells w2 ⟨k2, 0, none⟩ [.bool false] 0 = u0 at hC1 hC2 hE0 ⊢
  have hs0 := hE0.size
  have L : ∀ {e : Int}, hE bs = e → e ≠ 0 → ∀ {u}, Ext w u → R (.returned (.tuple #[.pointer none, i64 e])) u := fun he h0 u hu => by
    have e1 : opE bs = hE bs := by unfold opE; rw [if_pos (by rw [he]; exact h0)]
    have := bad (by rw [e1, he]; exact h0) u hu
    rwa [e1, he] at this
  have hq := hE.eq_1 bs
  unfold hdE at hq
  refine ⟨_, _, _, hC1.cell (i := 0) rfl, brB_i (fun hb => L (by rw [hq, if_pos]; simp at hb; omega) (by decide) hE0) fun hb => ?_⟩
  have hb : ¬ (len : Int) < 18 := by simpa using hb
  have hB0 := h.ext hE0
  refine ⟨_, _, _, hC1.cell (i := 0) rfl, hB0.get (by omega) (by omega) fun a1 ha1 => ⟨_, ha1, brB_i (fun hc => L (by rw [hq, if_pos (.inr (.inl (by simpa using hc)))]) (by decide) hE0) fun hc => ?_⟩⟩
  have hc : bs.getD 0 0 = 66 := by simpa using hc
  refine ⟨_, _, _, hC1.cell (i := 0) rfl, hB0.get (by omega) (by omega) fun a2 ha2 => ⟨_, ha2, brB_i (fun hd => L (by rw [hq, if_pos (.inr (.inr (by simpa using hd)))]) (by decide) hE0) fun hd => ?_⟩⟩
  have hd : bs.getD 1 0 = 77 := by simpa using hd
  rw [if_neg (by omega)] at hq
  refine ⟨_, _, _, hC1.drew.cell (i := 0) rfl, ?_⟩
  refine num_s (h.ext hE0.drew) hC1.drew hC2.drew (fun _ w3 hch hcs3 => ⟨_, rfl, keeps_same hch hC2.drew hcs3, fun fb w4 hN4 => ?_⟩) fun hne => (hne (by unfold thereE; rw [if_neg (by omega), if_neg (by omega)])).elim
  have hE3 : Ext w w3 := hE0.drew.step hch fun i hi => by have hi : i = k2 := hi; omega
  have hfb : fb = w3.heap.size := hN4.1
  have hsz3 := hch.size
  have hsz0 : u0.drew.heap.size = u0.heap.size := rfl
  have hc1lt := hC1.lt
  have hc2lt := hC2.lt
  have hS4 : Opn w w4 k1 k2 fb (.slice p len cap) false (fl (.slice p len cap) 0 0 false 0 0 (fA bs) 0 0 0 0 (.slice none 0 0)) :=
    ⟨hE3.trans hN4.ext, (hC1.drew.chg hch (by omega)).ext hN4.ext, hcs3.ext hN4.ext, hN4.cs, by omega, by omega⟩
  refine hS4.num (v := fS bs) h (by omega) (by omega) (by omega) (by omega) rfl fun w5 hS5 => ⟨_, rfl, ?_⟩
  have sr : 0 ≤ fS bs ∧ fS bs < 4294967296 := lit_u32 h.fit 14 4 (by omega)
  rw [w64 (x := 14 + fS bs) (by omega) (by omega)]
  refine ⟨fun vs u => u = w5 ∧ ¬ (fS bs = 12 ∨ fS bs = 16 ∨ fS bs = 64) ∧ (fS bs = 40 ∨ fS bs = 52 ∨ fS bs = 56 ∨ fS bs = 108 ∨ fS bs = 124), ?_, fun w6 hI => ?_⟩
  · have no : (fS bs ≠ 40 ∧ fS bs ≠ 52 ∧ fS bs ≠ 56 ∧ fS bs ≠ 108 ∧ fS bs ≠ 124) → ¬ (fS bs = 12 ∨ fS bs = 16 ∨ fS bs = 64) → R (.returned (.tuple #[.pointer none, i64 9])) w5 := fun hx hy => L (by rw [hq, if_neg hy, if_pos (.inl hx)]) (by decide) hS5.ext
    have uns : (fS bs = 12 ∨ fS bs = 16 ∨ fS bs = 64) → R (.returned (.tuple #[.pointer none, i64 10])) w5 := fun hx => L (by rw [hq, if_pos hx]) (by decide) hS5.ext
    generalize fS bs = s at no uns ⊢
    repeat' first
      | exact ⟨rfl, by simp only [beq_iff_eq, beq_eq_false_iff_ne, ne_eq] at *; omega, by simp only [beq_iff_eq, beq_eq_false_iff_ne, ne_eq] at *; omega⟩
      | exact uns (by simp only [beq_iff_eq, beq_eq_false_iff_ne, ne_eq] at *; omega)
      | exact no (by simp only [beq_iff_eq, beq_eq_false_iff_ne, ne_eq] at *; omega) (by simp only [beq_iff_eq, beq_eq_false_iff_ne, ne_eq] at *; omega)
      | refine brB_i (fun hb => ?_) (fun hb => ?_)
  obtain ⟨rfl, hs1', hs2'⟩ := hI
  rw [if_neg hs1'] at hq
  refine ⟨_, _, _, hS5.c1.cell (i := 0) rfl, brB_i (fun ht => L (by rw [hq, if_pos]; simp at ht; omega) (by decide) hS5.ext) fun ht => ?_⟩
  have ht : 14 + fS bs ≤ len := by simp at ht; omega
  rw [if_neg (by omega)] at hq
  refine hS5.num (v := litN bs 18 4) h (by omega) (by omega) (by omega) (by omega) rfl fun w7 hS7 => ⟨_, rfl, ?_⟩
  refine hS7.num (v := litN bs 22 4) h (by omega) (by omega) (by omega) (by omega) rfl fun w8 hS8 => ⟨_, rfl, ?_⟩
  have r18 := lit_u32 h.fit 18 4 (by omega)
  have r22 := lit_u32 h.fit 22 4 (by omega)
  rw [sg32 r18.1 r18.2, sg32 r22.1 r22.2]
  have q1 := hS8.set (i := 1) (v := i64 (fW bs)) (by simp [fl, hdL])
  have q2 := q1.2.2.set (i := 2) (v := i64 (fG bs)) (by simp [fl, hdL])
  refine ⟨q1.1, q1.2.1, q2.1, q2.2.1, ?_⟩
  refine q2.2.2.num (v := fD bs) h (by omega) (by omega) (by omega) (by omega) rfl fun w9 hS9 => ⟨_, rfl, ?_⟩
  refine hS9.num (v := fP bs) h (by omega) (by omega) (by omega) (by omega) rfl fun w10 hS10 => ⟨_, rfl, ?_⟩
  have q3 := hS10.set (i := 4) (v := i64 (fD bs)) (by simp [fl, hdL])
  have q4 := q3.2.2.set (i := 5) (v := i64 (fP bs)) (by simp [fl, hdL])
  refine ⟨q3.1, q3.2.1, q4.1, q4.2.1, ?_⟩
  have hS10' : Opn w (setCells (setCells w10 ⟨fb, 4, none⟩ [i64 (fD bs)] 0) ⟨fb, 5, none⟩ [i64 (fP bs)] 0) k1 k2 fb (.slice p len cap) false (fl (.slice p len cap) (fW bs) (fG bs) false (fD bs) (fP bs) (fA bs) 0 0 0 0 (.slice none 0 0)) := q4.2.2
  generalize setCells (setCells w10 ⟨fb, 4, none⟩ [i64 (fD bs)] 0) ⟨fb, 5, none⟩ [i64 (fP bs)] 0 = u10 at hS10' ⊢
  refine ⟨_, hS10'.cf.cell (i := 1) rfl, brB_i (fun hw => L (by rw [hq, if_pos]; simp at hw; omega) (by decide) hS10'.ext) fun hw => ⟨_, hS10'.cf.cell (i := 2) rfl, brB_i (fun hz => L (by rw [hq, if_pos]; simp at hz; omega) (by decide) hS10'.ext) fun hz => ?_⟩⟩
  refine hS10'.num (v := litN bs 26 2) h (by omega) (by omega) (by omega) (by omega) rfl fun w11 hS11 => ⟨_, rfl, brB_i (fun ho => L (by rw [hq, if_pos]; simp at ho; omega) (by decide) hS11.ext) fun ho => ?_⟩
  have hw : ¬ fW bs < 1 := by simpa using hw
  have hz : fG bs ≠ 0 := by simpa using hz
  have ho : litN bs 26 2 = 1 := by simpa using ho
  rw [if_neg (by omega)] at hq
  have gr := fW_range h.fit 22
  have gr' : -2147483648 ≤ fG bs ∧ fG bs ≤ 2147483647 := gr
  refine ⟨fun vs u => Opn w u k1 k2 fb (.slice p len cap) false (fl (.slice p len cap) (fW bs) (fH bs) (fN bs) (fD bs) (fP bs) (fA bs) 0 0 0 0 (.slice none 0 0)), ⟨_, hS11.cf.cell (i := 2) rfl, brB_i (fun hg => ?_) fun hg => ?_⟩, fun w12 hS12 => ?_⟩
  · have hg : fG bs < 0 := by simpa using hg
    have q5 := hS11.set (i := 3) (v := .bool true) (by simp [fl, hdL])
    have q6 := q5.2.2.set (i := 2) (v := i64 (IntKind.i64.wrap (0 - fG bs))) (by simp [fl, hdL])
    refine ⟨_, hS11.cf.cell (i := 2) rfl, q5.1, q5.2.1, q6.1, q6.2.1, ?_⟩
    have e1 : fH bs = 0 - fG bs := by unfold fH; rw [if_pos hg]; omega
    have e2 : fN bs = true := by unfold fN; simpa using hg
    rw [w64 (by omega) (by omega)] at q6
    rw [w64 (x := 0 - fG bs) (by omega) (by omega), e1, e2]
    exact q6.2.2
  · have hg : ¬ fG bs < 0 := by simpa using hg
    have e1 : fH bs = fG bs := by unfold fH; rw [if_neg hg]
    have e2 : fN bs = false := by unfold fN; simpa using hg
    rw [e1, e2]; exact hS11
  rw [pk_hd hz] at hq
  refine packing_spec hS12.cf ⟨_, rfl, brB_i (fun hpk => L (by rw [hq, if_pos]; rfl; simpa [fN] using hpk) (by simpa using hpk) hS12.ext) fun hpk => ?_⟩
  have hpk : pkE (fD bs) (fP bs) (fN bs) = 0 := by simpa using hpk
  rw [if_neg (by intro hx; exact hx hpk)] at hq
  refine ⟨_, hS12.cf.cell (i := 4) rfl, brB_i (fun h8 => ?_) fun h8 => ?_⟩
  · have h8 : fD bs ≤ 8 := by simpa using h8
    refine hS12.num (v := fC bs) h (by omega) (by omega) (by omega) (by omega) rfl fun w14 hS14 => ⟨_, rfl, _, hS14.cf.cell (i := 4) rfl, ?_⟩
    have hd' : fD bs = 1 ∨ fD bs = 4 ∨ fD bs = 8 := by
      unfold pkE at hpk
      split at hpk
      · exact absurd hpk (by decide)
      · omega
    have hsh : shiftZ .shl .i64 1 (fD bs) = 2 ^ (fD bs).toNat := (pow_shl hd').1
    refine ⟨by omega, ?_⟩
    rw [hsh]
    refine brB_i (fun hn => L (by rw [hq, if_pos]; exact ⟨h8, by simpa using hn⟩) (by decide) hS14.ext) fun hn => ?_
    have hn : ¬ fC bs > 2 ^ (fD bs).toNat := by simpa using hn
    rw [if_neg (fun hx => hn hx.2)] at hq
    have ok := HdOk.of hq
    have hmk : mkOk bs = true := by unfold mkOk; rw [if_pos (by have := ok.pk; omega)]
    have hop : opE bs = if palOk bs = true then 0 else 9 := by
      unfold opE
      rw [if_neg (fun hx => hx hq), hmk, decide_eq_false (by omega)]
      simp
    have hm0 : ∀ k, ((gM bs k : Nat) : Int) = 0 := fun k => by
      rw [(gM_lt h.fit k).2]; unfold mkI
      rw [if_pos (by have := ok.pk; omega), if_neg (by omega), if_neg (by omega)]
      match k with
      | 0 => rfl
      | 1 => rfl
      | 2 => rfl
      | 3 => rfl
      | k + 4 => simp
    refine colours_spec h hcap ok h8 hS14.ext hS14.ge.2.2 hS14.cf (fun hp u hu => ⟨_, rfl, brB_t rfl ?_⟩) fun hp u q n c hu hcs hnl hO => ⟨_, rfl, brB_f rfl (good (by rw [hop, if_pos hp]) u fb ⟨q, n, c, hu, hS14.ge.2.2, ?_, fun _ => ⟨hnl, hO⟩⟩)⟩
    · have e : opE bs = 9 := by rw [hop, if_neg (by rw [hp]; decide)]
      have := bad (by rw [e]; decide) u hu
      rwa [e] at this
    · rw [hm0, hm0, hm0, hm0]; exact hcs
  · have h8 : ¬ fD bs ≤ 8 := by simpa using h8
    rw [if_neg (fun hx => h8 hx.1)] at hq
    have ok := HdOk.of hq
    have hop : opE bs = if mkOk bs = true then 0 else 9 := by
      unfold opE
      rw [if_neg (fun hx => hx hq), decide_eq_true (by omega)]
      simp
    have bad' : mkOk bs = false → ∀ u, Ext w u → R (.returned (.tuple #[.pointer none, i64 9])) u := fun hm u hu => by
      have e : opE bs = 9 := by rw [hop, if_neg (by rw [hm]; decide)]
      have := bad (by rw [e]; decide) u hu
      rwa [e] at this
    refine ⟨fun vs u => mkOk bs = true ∧ Opn w u k1 k2 fb (.slice p len cap) false (fl (.slice p len cap) (fW bs) (fH bs) (fN bs) (fD bs) (fP bs) (fA bs) (gM bs 0 : Nat) (gM bs 1 : Nat) (gM bs 2 : Nat) (gM bs 3 : Nat) (.slice none 0 0)), ?_, fun w32 hI => ?_⟩
    · refine ⟨_, hS12.cf.cell (i := 5) rfl, ?_⟩
      have hdd := ok.d
      have cs4 : ∀ {i : Nat}, i < 12 → (∃ v, w12.cell? ⟨fb, i, none⟩ = some v) ∧ w12.frozen? ⟨fb, i, none⟩ = false := fun {i} hi => ⟨⟨_, hS12.cf.cell (List.getElem?_eq_getElem (by simpa [fl, hdL] using hi))⟩, hS12.cf.frozen _⟩
      have st4 : ∀ {a0 a1 a2 a3 : Int}, fP bs = 0 → (∀ k, k < 4 → mkI bs k = [a0, a1, a2, a3].getD k 0) →
          (∃ v, w12.cell? ⟨fb, 7, none⟩ = some v) ∧ w12.frozen? ⟨fb, 7, none⟩ = false ∧ (∃ v, w12.cell? ⟨fb, 8, none⟩ = some v) ∧ w12.frozen? ⟨fb, 8, none⟩ = false ∧ (∃ v, w12.cell? ⟨fb, 9, none⟩ = some v) ∧ w12.frozen? ⟨fb, 9, none⟩ = false ∧ (∃ v, w12.cell? ⟨fb, 10, none⟩ = some v) ∧ w12.frozen? ⟨fb, 10, none⟩ = false ∧
            mkOk bs = true ∧ Opn w (setCells w12 ⟨fb, 7, none⟩ [u32 a0, u32 a1, u32 a2, u32 a3] 0) k1 k2 fb (.slice p len cap) false (fl (.slice p len cap) (fW bs) (fH bs) (fN bs) (fD bs) (fP bs) (fA bs) (gM bs 0 : Nat) (gM bs 1 : Nat) (gM bs 2 : Nat) (gM bs 3 : Nat) (.slice none 0 0)) := by
        intro a0 a1 a2 a3 hp hk
        refine ⟨(cs4 (by omega)).1, (cs4 (by omega)).2, (cs4 (by omega)).1, (cs4 (by omega)).2, (cs4 (by omega)).1, (cs4 (by omega)).2, (cs4 (by omega)).1, (cs4 (by omega)).2, by unfold mkOk; rw [if_pos (by omega)], ?_⟩
        have hL := set_locl (u := w12) (b := fb) (i := 7) (vs := [u32 a0, u32 a1, u32 a2, u32 a3]) hS12.cf.lt
        refine ⟨hS12.ext.step hL.chg (by have := hS12.ge; simp; omega), hS12.c1.locl hL (by have := hS12.ne; simp; omega), hS12.c2.locl hL (by have := hS12.ne; simp; omega), ?_, hS12.ge, hS12.ne⟩
        have := hS12.cf.set (off := 7) (us := [u32 a0, u32 a1, u32 a2, u32 a3]) (by simp [fl, hdL])
        rw [(gM_lt h.fit 0).2, (gM_lt h.fit 1).2, (gM_lt h.fit 2).2, (gM_lt h.fit 3).2, hk 0 (by omega), hk 1 (by omega), hk 2 (by omega), hk 3 (by omega)]
        exact this
      refine brB_i (fun h0 => ⟨_, hS12.cf.cell (i := 4) rfl, brB_i (fun h16 => st4 (by simpa using h0) fun k hk => ?_) fun h16 => ⟨_, hS12.cf.cell (i := 5) rfl, brB_i (fun h0' => st4 (by simpa using h0) fun k hk => ?_) fun h0' => ?_⟩⟩) fun h0 => ⟨_, hS12.cf.cell (i := 5) rfl, brB_i (fun h0' => ?_) fun h0' => ⟨_, hS12.cf.cell (i := 5) rfl, brB_i (fun h4 => ?_) fun h4 => ?_⟩⟩
      · unfold mkI
        rw [if_pos (by simp at h0; omega), if_pos (by simpa using h16)]
      · unfold mkI
        rw [if_pos (by simp at h0; omega), if_neg (by simpa using h16), if_pos (by simp at h16; omega)]
      · rw [h0] at h0'; cases h0'
      · rw [h0] at h0'; cases h0'
      · have hp3 : ¬ fP bs < 3 := by have := ok.pk; simp at h0; omega
        exact mask_loop (N := 4) h hT ok (by unfold mN; rw [if_pos]; simpa using h4) hp3 hS12 bad' fun hm u hu => ⟨hm, hu⟩
      · have hp3 : ¬ fP bs < 3 := by have := ok.pk; simp at h0; omega
        exact mask_loop (N := 3) h hT ok (by unfold mN; rw [if_neg]; simp at h4; omega) hp3 hS12 bad' fun hm u hu => ⟨hm, hu⟩
    · exact good (by rw [hop, if_pos hI.1]) _ fb ⟨_, _, _, hI.2.ext, hI.2.ge.2.2, hI.2.cf, fun hx => (h8 hx).elim⟩
end Go.Proofs.YtjdljddfiddnoaaDoor
