/- Inflate: the document's side: what is written. -/
import Derived.Test.YthfnohbpdoklgaaIX11
namespace Go.Proofs.Ythfnohbpdoklgaa
open Go Go.Vc Go.RowKit
set_option maxRecDepth 100000
set_option linter.unusedVariables false
set_option linter.unusedSimpArgs false
set_option maxHeartbeats 2000000

/-- the document's reader: the input lies below N, what was written in blocks of T -/
structure YAt (w : World) (N : Nat) (T : Nat → Prop) (base : Option Addr) (len cap : Nat) (bs : List Int) (most : Int) (s : Sx) (p : Option Addr) (c : Nat) : Prop where
  src : Sl N w base (bytes bs)
  hlen : len = bs.length
  few : len ≤ cap
  room : len ≤ 2 ^ 47
  fit : Bs bs
  hN : N ≤ w.heap.size
  hT : ∀ b, T b → N ≤ b
  out : OwnS T w p s.2.length c 1 (bytes s.2)
  ok : SxOk bs most s
  top : most ≤ 9223372036854775807
  hcap : ∀ m : Nat, (m : Int) ≤ most → m ≤ 258 * (8 * bs.length) → m ≤ 2 ^ 46
section
variable {w : World} {N : Nat} {T : Nat → Prop} {base : Option Addr} {len cap : Nat} {bs : List Int} {most : Int} {s : Sx} {p : Option Addr} {c : Nat} {R : Ending → World → Prop}
theorem YAt.step {Z : Nat → Prop} {w' : World} (h : YAt w N T base len cap bs most s p c) (hc : Chg Z w w') (hz : ∀ b, Z b → b < w.heap.size → N ≤ b ∧ ¬ T b) : YAt w' N T base len cap bs most s p c :=
  ⟨h.src.below (hc.below (fun i hi hl => (hz i hi hl).1) h.hN), h.hlen, h.few, h.room, h.fit, Nat.le_trans h.hN hc.size, h.hT, h.out.chg hc fun b hb hl hz' => (hz b hz' hl).2 hb, h.ok, h.top, h.hcap⟩
theorem YAt.ext {w' : World} (h : YAt w N T base len cap bs most s p c) (hE : Ext w w') : YAt w' N T base len cap bs most s p c := h.step (Z := fun _ => False) hE.chg fun _ h => h.elim
theorem YAt.lim {T' : Nat → Prop} (h : YAt w N T base len cap bs most s p c) (h1 : ∀ b, T' b → N ≤ b) (h2 : ∀ b, T b → b < w.heap.size → T' b) : YAt w N T' base len cap bs most s p c :=
  ⟨h.src, h.hlen, h.few, h.room, h.fit, h.hN, h1, h.out.mono h2, h.ok, h.top, h.hcap⟩
theorem YAt.mv {k : Nat} (h : YAt w N T base len cap bs most s p c) (h1 : s.1 ≤ k) (h2 : k ≤ 8 * bs.length) : YAt w N T base len cap bs most (k, s.2) p c :=
  ⟨h.src, h.hlen, h.few, h.room, h.fit, h.hN, h.hT, h.out, ⟨h2, h.ok.few, by have := h.ok.slow; simp only; omega, h.ok.fit⟩, h.top, h.hcap⟩
theorem YAt.grow {w5 : World} {ls : List Nat} {l : List (Nat × Nat × List Value)} {ys : List Int} {n : Nat} {F : Option Addr → Nat → Nat → World → Prop} (h : YAt w N T base len cap bs most s p c) (hnew : ∀ b, w.heap.size ≤ b → T b)
    (hL : Locl ls w w5) (hb : ∀ b, b ∈ ls → w.heap.size ≤ b ∨ N ≤ b ∧ ¬ T b) (hbl : ∀ b, b ∈ blocks l → b ∈ ls) (hn : ys.length = n) (hs : SxOk bs most (s.1, s.2 ++ ys))
    (hF : ∀ p' c' w6, YAt w6 N (fun b => T b ∧ b ∉ ls) base len cap bs most (s.1, s.2 ++ ys) p' c' → Chg (fun i => T i ∨ i ∈ ls) w w6 → F p' (s.2 ++ ys).length c' w6) :
    appVC w5 l p s.2.length c n 1 1 5 [u8 0] (bytes ys) F := by
  subst hn
  have hbig : s.2.length + ys.length ≤ 2 ^ 46 := by
    have h1 := hs.few
    have h2 := hs.slow
    have h3 := hs.pos
    simp only [List.length_append] at h1 h2 h3
    exact h.hcap _ (by push_cast at h1 ⊢; omega) (by omega)
  have hN := h.hN
  refine OwnS.grow h.out hL (fun b hm => (hb b hm).imp id fun g => g.2) hnew hbl rfl (by rw [bytes_length, Nat.mul_one]) (by omega) (by omega) fun p' c' w6 hO6 hc6 => ?_
  have := hF p' c' w6 ⟨h.src.below (hc6.below (fun i hi hl => hi.elim (fun g => h.hT i g) fun hm => (hb i hm).elim (fun g => by omega) fun g => g.1) h.hN), h.hlen, h.few, h.room, h.fit, Nat.le_trans h.hN hc6.size, fun b hb' => h.hT b hb'.1, by rw [bytes_append, List.length_append]; exact hO6, hs, h.top, h.hcap⟩ hc6
  rwa [List.length_append] at this
theorem YAt.k (h : YAt w N T base len cap bs most s p c) : s.1 ≤ 8 * len := by have := h.ok.pos; have := h.hlen; omega
theorem refStored_spec (h : YAt w N T base len cap bs most s p c) (hnew : ∀ b, w.heap.size ≤ b → T b)
    (hok : ∀ s' p' c' w', storedM bs most s = .ok s' → Chg T w w' → YAt w' N T base len cap bs most s' p' c' → R (.returned (stt base len cap (s'.1 : Nat) p' s'.2.length c' most 0)) w')
    (herr : ∀ e r p' n' c' w', e ≠ 0 → storedM bs most s = .error e → Chg T w w' → R (.returned (stt base len cap r p' n' c' most e)) w') :
    Calls P F.ref04_stored #[stt base len cap (s.1 : Nat) p s.2.length c most 0] w R := by
  refine calls_ref04_stored _ _ _ _ _ _ _ _ _ _ _ _ ?_
  intro k1 hk1 k2 hk2 w1 hL1
  have hE1 : Ext w w1 := hL1.ext (by simp; omega)
  have s1 := hE1.size
  have t1 := hL1.there k1 (by simp)
  have t2 := hL1.there k2 (by simp)
  have hroom := h.room
  have hlen := h.hlen
  have hpos := h.ok.pos
  have hNw := h.hN
  have hY0 := h.lim (T' := fun b => T b ∧ b < w.heap.size) (fun b hb => h.hT b hb.1) fun b hb hl => ⟨hb, hl⟩
  refine refAlign_spec (by omega) (by omega) fun w2 hE2 => ⟨_, _, _, _, _, rfl, hE2.keep _, fun w3 hL3 => ?_⟩
  have s2 := hE2.size
  have hE3 : Ext w w3 := (hE1.trans hE2).step hL3.chg (by simp; omega)
  have s3 := hE3.size
  have g3 := hL3.size
  have hY3 := h.ext hE3
  have e8 : 8 * ((((s.1 : Nat) : Int) + 7) / 8) = ((8 * ((s.1 + 7) / 8) : Nat) : Int) := by omega
  rw [e8]
  unfold storedM at hok herr
  refine refT_spec (m := 16) hY3.src hY3.hlen hY3.fit hY3.room (by omega) (by omega) (fun n k2' w4 hT1 hE4 => ?_) fun w4 hT1 hE4 => ?_
  rotate_left
  · rw [hT1] at herr
    exact ⟨_, _, _, _, _, _, _, _, _, _, _, rfl, hE4.keep _, brB_t rfl fun w5 hL5 => herr 5 _ _ _ _ w5 (by omega) rfl ((hE3.trans hE4).step hL5.chg (by have := hE4.size; simp; omega)).chg⟩
  rw [hT1] at hok herr
  simp only at hok herr
  obtain ⟨a1, a2, a3, _⟩ := tkM_ok hT1
  refine ⟨_, _, _, _, _, _, _, _, _, _, _, rfl, hE4.keep _, brB_f rfl fun w6 hL6 => ?_⟩
  have s4 := hE4.size
  have hE6 : Ext w w6 := (hE3.trans hE4).step hL6.chg (by simp; omega)
  have s6 := hE6.size
  have g6 := hL6.size
  have hY6 := h.ext hE6
  refine refT_spec (m := 16) hY6.src hY6.hlen hY6.fit hY6.room (by omega) (by omega) (fun m k3 w7 hT2 hE7 => ?_) fun w7 hT2 hE7 => ?_
  rotate_left
  · rw [hT2] at herr
    exact ⟨_, _, _, _, _, _, _, _, _, _, _, rfl, hE7.keep _, brB_t rfl fun w5 hL5 => herr 5 _ _ _ _ w5 (by omega) rfl ((hE6.trans hE7).step hL5.chg (by have := hE7.size; simp; omega)).chg⟩
  rw [hT2] at hok herr
  simp only at hok herr
  obtain ⟨b1, b2, b3, _⟩ := tkM_ok hT2
  have s7 := hE7.size
  have hE7' := hE6.trans hE7
  refine ⟨_, _, _, _, _, _, _, _, _, _, _, rfl, hE7.keep _, brB_f rfl ?_⟩
  rw [w64 (x := 65535 - ((n : Nat) : Int)) (by omega) (by omega)]
  refine brB_i (fun hne w9 hL9 => ?_) fun heq => ?_
  · have hne : m + n ≠ 65535 := fun e => by
      have : ((m : Nat) : Int) = 65535 - ((n : Nat) : Int) := by omega
      rw [this] at hne; simp at hne
    exact herr 40 _ _ _ _ w9 (by omega) (by rw [if_pos hne]) (hE7'.step hL9.chg (by simp; omega)).chg
  have heq : ¬ (m + n ≠ 65535) := fun e => by
    have h3 : (((m : Nat) : Int) != 65535 - ((n : Nat) : Int)) = true := by simp only [bne_iff_ne, ne_eq]; omega
    rw [h3] at heq; cases heq
  rw [if_neg heq] at hok herr
  have hfew := h.ok.few
  have htop := h.top
  rw [w64 (x := most - (s.2.length : Int)) (by omega) (by omega)]
  refine brB_i (fun hgt w10 hL10 => ?_) fun hle w11 hL11 => ?_
  · exact herr 3 _ _ _ _ w10 (by omega) (by rw [if_pos (of_decide_eq_true hgt)]) (hE7'.step hL10.chg (by simp; omega)).chg
  have hle := of_decide_eq_false hle
  rw [if_neg hle] at hok herr
  have hE11 : Ext w w11 := hE7'.step hL11.chg (by simp; omega)
  have s11 := hE11.size
  have g11 := hL11.size
  have hY11 := h.ext hE11
  refine refBytes_spec hY11.src hlen h.few hroom (by omega) (by omega) (by omega) (fun h => by omega) (fun _ hgt w12 hE12 => ?_) fun _ hle2 p5 c5 w12 hE12 hO12 => ?_
  · have s12 := hE12.size
    exact ⟨_, _, _, _, _, _, _, _, _, rfl, hE12.keep _, fun k17 hk17 => brB_t rfl fun w13 hL13 => herr 5 _ _ _ _ w13 (by omega) (by rw [if_pos (by omega)]) ((hE11.trans hE12).step hL13.chg (by simp; omega)).chg⟩
  rw [if_neg (by omega)] at hok herr
  have s12 := hE12.size
  refine ⟨_, _, _, _, _, _, _, _, _, rfl, hE12.keep _, fun k17 hk17 => brB_f rfl fun w14 hL14 => ?_⟩
  have hE12' := hE11.trans hE12
  have e1 : (((k3 : Nat) : Int) + 7) / 8 = (((k3 + 7) / 8 : Nat) : Int) := by omega
  simp only [e1, Int.toNat_natCast] at hO12 ⊢
  have hpl : (part bs ((k3 + 7) / 8) n).length = n := part_length (by omega)
  have hO14 := OwnS.chg (hO12.mono (T := fun i => w11.heap.size ≤ i ∧ i < w12.heap.size) fun i hi hl => ⟨hi, hl⟩) hL14.chg (fun b hb _ hm => by simp at hm; omega)
  refine ⟨bytes (part bs ((k3 + 7) / 8) n), by rw [bytes_length, hpl, Nat.mul_one], bytes_oneAll _, hO14.sl.cells, ?_⟩
  have hY12 := (hY0.ext hE12').lim (T' := fun b => T b ∧ b < w.heap.size ∨ w12.heap.size ≤ b) (fun b hb => hb.elim (fun g => h.hT b g.1) fun g => by omega) (fun b hb _ => .inl hb)
  have hslow := h.ok.slow
  have hY12 := hY12.mv (k := 8 * ((k3 + 7) / 8 + n)) (by omega) (by omega)
  have hT1 : ∀ b, (T b ∧ b < w.heap.size ∨ w12.heap.size ≤ b) → T b := fun b hb => hb.elim (fun g => g.1) fun g => hnew b (by omega)
  have hls : ∀ b, b ∈ [k17, k2, k1] → w.heap.size ≤ b := fun b hb => by simp at hb; omega
  refine hY12.grow (ys := part bs ((k3 + 7) / 8) n) (fun b hb => .inr hb) hL14 (fun b hb => ?_) (by simp [blocks]) hpl ⟨by simp only; omega, by simp only [List.length_append, hpl]; omega, by simp only [List.length_append, hpl]; omega, fun x hx => ?_⟩ fun p' c' w15 hY15 hc15 w16 hL16 => ?_
  · have : b = k17 ∨ b = k2 ∨ b = k1 := by simpa using hb
    rcases this with rfl | rfl | rfl
    · exact .inl hk17
    · exact .inr ⟨by omega, by omega⟩
    · exact .inr ⟨by omega, by omega⟩
  · rcases List.mem_append.1 hx with hx | hx
    · exact h.ok.fit x hx
    · exact part_fit h.fit _ _ x hx
  · have hc16 : Chg T w w16 := ((hE12'.chg (S := T)).trans hc15 fun i hi _ => hi.elim (hT1 i) fun g => hnew i (hls i g)).trans hL16.chg fun i hi _ => hnew i (hls i hi)
    have hY16 := (hY15.step hL16.chg fun b hb hl => ⟨by have := hls b hb; omega, fun g => g.2 hb⟩).lim h.hT fun b hb _ => hT1 b hb.1
    have e2 : 8 * ((((k3 + 7) / 8 : Nat) : Int) + (n : Nat)) = ((8 * ((k3 + 7) / 8 + n) : Nat) : Int) := by omega
    rw [e2]
    exact hok _ p' c' w16 rfl hc16 hY16
end
end Go.Proofs.Ythfnohbpdoklgaa
