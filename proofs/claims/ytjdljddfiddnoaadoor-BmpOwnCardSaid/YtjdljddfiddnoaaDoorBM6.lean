/- Bmp: the document's runs. -/
import Derived.Test.YtjdljddfiddnoaaDoorBM5
namespace Go.Proofs.YtjdljddfiddnoaaDoor
open Go Go.Vc Go.RowKit
set_option maxRecDepth 100000
set_option linter.unusedVariables false
set_option linter.unusedSimpArgs false

/-- where runs are written: a place, and what was written -/
structure RS where
  x : Int
  y : Int
  ix : List Int
def putS (W H : Int) (s : RS) (v : Int) : Option RS := if s.x < W ∧ s.y < H then some ⟨s.x + 1, s.y, s.ix.set ((H - 1 - s.y) * W + s.x).toNat v⟩ else none
/-- n pixels, from number k on -/
def putN (W H : Int) (g : Nat → Int) : Nat → Nat → RS → Option RS
  | 0, _, s => some s
  | n + 1, k, s => match putS W H s (g k) with | some s' => putN W H g n (k + 1) s' | none => none
inductive Rd where | stop | done (l : List Int) | go (i : Nat) (s : RS)
/-- how many bytes a run of v single pixels takes -/
def absN (d v : Int) : Nat := (((if d = 4 then (v + 1) / 2 else v) + 1) / 2 * 2).toNat
def absV (d : Int) (b : List Int) (j k : Nat) : Int := if d = 8 then b.getD (j + k) 0 else nib d (b.getD (j + k / 2) 0) k
def rdGo (i : Nat) : Option RS → Rd
  | some s => .go i s
  | none => .stop
/-- a round -/
def rnd (W H d : Int) (b : List Int) (i : Nat) (s : RS) : Rd :=
  if b.length < i + 2 then .stop else
  if 0 < b.getD i 0 then rdGo (i + 2) (putN W H (nib d (b.getD (i + 1) 0)) (b.getD i 0).toNat 0 s) else
  if b.getD (i + 1) 0 = 0 then (if s.y + 1 ≤ H then .go (i + 2) ⟨0, s.y + 1, s.ix⟩ else .stop) else
  if b.getD (i + 1) 0 = 1 then .done s.ix else
  if b.getD (i + 1) 0 = 2 then (if b.length < i + 4 then .stop else if s.x + b.getD (i + 2) 0 ≤ W ∧ s.y + b.getD (i + 3) 0 ≤ H then .go (i + 4) ⟨s.x + b.getD (i + 2) 0, s.y + b.getD (i + 3) 0, s.ix⟩ else .stop) else
  if b.length < i + 2 + absN d (b.getD (i + 1) 0) then .stop else
  rdGo (i + 2 + absN d (b.getD (i + 1) 0)) (putN W H (absV d b (i + 2)) (b.getD (i + 1) 0).toNat 0 s)
def unr (W H d : Int) (b : List Int) : Nat → Nat → RS → Option (List Int)
  | 0, _, _ => none
  | f + 1, i, s => match rnd W H d b i s with | .stop => none | .done l => some l | .go i' s' => unr W H d b f i' s'
def unrL (W H d : Int) (b : List Int) : Option (List Int) := unr W H d b (b.length + 1) 0 ⟨0, 0, List.replicate (W * H).toNat 0⟩
theorem unr_stop {W H d : Int} {b : List Int} {f i : Nat} {s : RS} (h : rnd W H d b i s = .stop) : unr W H d b (f + 1) i s = none := by rw [unr, h]
theorem unr_done {W H d : Int} {b l : List Int} {f i : Nat} {s : RS} (h : rnd W H d b i s = .done l) : unr W H d b (f + 1) i s = some l := by rw [unr, h]
theorem unr_go {W H d : Int} {b : List Int} {f i j : Nat} {s t : RS} (h : rnd W H d b i s = .go j t) : unr W H d b (f + 1) i s = unr W H d b f j t := by rw [unr, h]
structure StOk (W H : Int) (s : RS) : Prop where
  x0 : 0 ≤ s.x
  x1 : s.x ≤ W
  y0 : 0 ≤ s.y
  y1 : s.y ≤ H
  len : (s.ix.length : Int) = W * H
  fit : Bs s.ix
theorem putS_ok {W H : Int} {s t : RS} {v : Int} (h : StOk W H s) (hv : 0 ≤ v ∧ v ≤ 255) (e : putS W H s v = some t) : StOk W H t := by
  unfold putS at e
  split at e
  · rename_i hc
    cases e
    refine ⟨by have := h.x0; show 0 ≤ s.x + 1; omega, by show s.x + 1 ≤ W; omega, h.y0, h.y1, by simpa using h.len, fun n hn => ?_⟩
    rcases List.mem_or_eq_of_mem_set hn with hn | rfl
    · exact h.fit n hn
    · exact hv
  · cases e
theorem putN_ok {W H : Int} {g : Nat → Int} (hg : ∀ k, 0 ≤ g k ∧ g k ≤ 255) : ∀ {n k : Nat} {s t : RS}, StOk W H s → putN W H g n k s = some t → StOk W H t
  | 0, _, s, t, h, e => by cases e; exact h
  | n + 1, k, s, t, h, e => by
    rw [putN] at e
    split at e
    · rename_i s' hs; exact putN_ok hg (putS_ok h (hg k) hs) e
    · cases e
/-- the runs' memory: the index array in its block, locals apart from it -/
structure Rk (w u : World) (kb : Nat) (bs : List Nat) (W H : Int) (s : RS) : Prop where
  ok : StOk W H s
  ext : Ext w u
  cs : Cs u kb (s.ix.map i64)
  ge : w.heap.size ≤ kb
  lo : ∀ b, b ∈ bs → w.heap.size ≤ b ∧ b < u.heap.size ∧ b ≠ kb
section
variable {w u u' : World} {kb : Nat} {bs : List Nat} {W H : Int} {s : RS}
theorem Rk.step (h : Rk w u kb bs W H s) (hE : Ext u u') : Rk w u' kb bs W H s := ⟨h.ok, h.ext.trans hE, h.cs.ext hE, h.ge, fun b hb => ⟨(h.lo b hb).1, Nat.lt_of_lt_of_le (h.lo b hb).2.1 hE.size, (h.lo b hb).2.2⟩⟩
theorem Rk.dr (h : Rk w u kb bs W H s) : Rk w u.drew kb bs W H s := h.step (Ext.refl u).drew
theorem Rk.locl (h : Rk w u kb bs W H s) (hL : Locl bs u u') : Rk w u' kb bs W H s :=
  ⟨h.ok, h.ext.step hL.chg fun b hb => (h.lo b hb).1, h.cs.locl hL fun hm => (h.lo kb hm).2.2 rfl, h.ge, fun b hb => ⟨(h.lo b hb).1, Nat.lt_of_lt_of_le (h.lo b hb).2.1 hL.size, (h.lo b hb).2.2⟩⟩
theorem Rk.here (h : Rk w u kb bs W H s) : Keep bs u u := (Ext.refl u).keep _
theorem Rk.put {v : Int} {dn : Bool} {d pk a m0 m1 m2 m3 : Int} {q : Option Addr} {ql qc : Nat} {R : Ending → World → Prop} (h : Rk w u kb bs W H s) (hg : gfits W H = true) (hv : 0 ≤ v ∧ v ≤ 255)
    (h1 : putS W H s v = none → ∀ u', Rk w u' kb bs W H s → Keep bs u u' → R (.returned (.tuple #[.agg #[i64 s.x, i64 s.y, .slice (some ⟨kb, 0, none⟩) (W * H).toNat (W * H).toNat], .bool false])) u')
    (h2 : ∀ t, putS W H s v = some t → ∀ u', Rk w u' kb bs W H t → Keep bs u u' → R (.returned (.tuple #[.agg #[i64 t.x, i64 t.y, .slice (some ⟨kb, 0, none⟩) (W * H).toNat (W * H).toNat], .bool true])) u') :
    Calls P F.ref11_put #[.agg #[i64 s.x, i64 s.y, .slice (some ⟨kb, 0, none⟩) (W * H).toNat (W * H).toNat], .agg #[i64 W, i64 H, .bool dn, i64 d, i64 pk, i64 a, u32 m0, u32 m1, u32 m2, u32 m3, .slice q ql qc], i64 v] u R := by
  have hl := h.ok.len
  have e : (W * H).toNat = s.ix.length := by omega
  rw [e] at h1 h2 ⊢
  refine rput_spec h.cs hl hg h.ok.x0 h.ok.y0 (fun hn u' hE => ?_) fun hx hy u' hC hcs => ?_
  · exact h1 (by unfold putS; rw [if_neg hn]) u' (h.step hE) (hE.keep _)
  · have hp : putS W H s v = some ⟨s.x + 1, s.y, s.ix.set ((H - 1 - s.y) * W + s.x).toNat v⟩ := by unfold putS; rw [if_pos ⟨hx, hy⟩]
    refine h2 _ hp u' ⟨putS_ok h.ok hv hp, h.ext.step hC fun i hi => by have hi : i = kb := hi; rw [hi]; exact h.ge, hcs, h.ge, fun b hb => ⟨(h.lo b hb).1, Nat.lt_of_lt_of_le (h.lo b hb).2.1 hC.size, (h.lo b hb).2.2⟩⟩ (hC.keep fun b hb => (h.lo b hb).2.2)
end
theorem rep_ints (n : Nat) : rep n [i64 0] = (List.replicate n 0).map i64 := by
  induction n with
  | zero => rfl
  | succ n ih => rw [List.replicate_succ, rep, ih]; rfl
theorem absN_le {d v : Int} (h0 : 0 ≤ v) (h1 : v ≤ 255) : absN d v ≤ 256 := by unfold absN; split <;> omega
theorem unrun_spec {w : World} {p : Option Addr} {len cap : Nat} {b : List Int} {W H : Int} {dn : Bool} {d pk a m0 m1 m2 m3 : Int} {q : Option Addr} {ql qc : Nat} {R : Ending → World → Prop} (h : By w p len b) (hg : gfits W H = true) (hd : d = 4 ∨ d = 8)
    (h1 : unrL W H d b = none → ∀ w', Ext w w' → R (.returned (.tuple #[.slice none 0 0, .bool false])) w')
    (h2 : ∀ l, unrL W H d b = some l → (l.length : Int) = W * H → Bs l → ∀ s w', Ext w w' → Ow w.heap.size w'.heap.size w' s (W * H).toNat (W * H).toNat 1 (l.map i64) → R (.returned (.tuple #[.slice s (W * H).toNat (W * H).toNat, .bool true])) w') :
    Calls P F.ref11_unrun #[.slice p len cap, .agg #[i64 W, i64 H, .bool dn, i64 d, i64 pk, i64 a, u32 m0, u32 m1, u32 m2, u32 m3, .slice q ql qc]] w R := by
  obtain ⟨g1, g2, g3, g4, g5⟩ := gfits_iff.1 hg
  have wh0 : 0 ≤ W * H := Int.mul_nonneg (by omega) (by omega)
  have hlim := h.lim
  have hln := h.ln
  have bf := fit_getD h.fit
  refine calls_ref11_unrun _ _ _ _ _ _ _ _ _ _ _ _ _ _ _ _ _ _ ?_
  unfold vc_ref11_unrun
  rw [w64 (x := W * H) (by omega) (by omega)]
  intro k1 hk1 w1 hL1
  refine ⟨wh0, Int.le_refl _, by omega, by omega, fun k2 w2 hN2 k3 hk3 => ?_⟩
  generalize hres : unrL W H d b = res at h1 h2
  have hs1 := hL1.size
  have ht1 := hL1.there k1 (by simp)
  have hE1 : Ext w w1 := hL1.ext (by simpa using hk1)
  have hE2 := hE1.trans hN2.ext
  have hk2 : k2 = w1.heap.size := hN2.1
  have hk2s := hN2.size
  have hcs2 : Cs w2 k2 ((List.replicate (W * H).toNat 0).map i64) := by
    have := hN2.cs
    rw [mkCells_rep, rep_ints] at this; exact this
  have hok0 : StOk W H ⟨0, 0, List.replicate (W * H).toNat 0⟩ := ⟨Int.le_refl _, by show 0 ≤ W; omega, Int.le_refl _, by show 0 ≤ H; omega, by simp; omega, fun n hn => by rw [List.eq_of_mem_replicate hn]; omega⟩
  refine ⟨fun vs u => ∃ (i : Nat) (s : RS) (f : Nat), vs = [.bool true, i64 i, i64 s.x, i64 s.y, .slice (some ⟨k2, 0, none⟩) (W * H).toNat (W * H).toNat] ∧ i ≤ len ∧ len - i < f ∧ unr W H d b f i s = res ∧ Rk w u k2 [k3, k1] W H s,
    fun vs _ => match vs with | _ :: .int _ n :: _ => (len - n).toNat | _ => 0, fun w3 hL3 => ⟨0, ⟨0, 0, List.replicate (W * H).toNat 0⟩, len + 1, rfl, by omega, by omega, ?_, ?_⟩, ?_⟩
  · rw [hln]; exact hres
  · have hs3 := hL3.size
    have ht3 := hL3.there k3 (by simp)
    have ht31 := hL3.there k1 (by simp)
    refine ⟨hok0, hE2.step hL3.chg ?_, hcs2.locl hL3 ?_, by omega, ?_⟩
    · have := hE2.size
      intro i hi; simp at hi; omega
    · intro hm; simp at hm; omega
    · intro b hb; simp at hb; rcases hb with rfl | rfl <;> omega
  intro c1 n1 n2 n3 p1 k4 k5 w4 hI
  obtain ⟨i, s, f, hv, hi, hf, hu, hK⟩ := hI
  simp only [List.cons.injEq, Value.int.injEq, Value.bool.injEq, Value.slice.injEq, true_and, and_true] at hv
  obtain ⟨rfl, rfl, rfl, rfl, rfl, rfl, rfl⟩ := hv
  obtain ⟨f, rfl⟩ : ∃ g, f = g + 1 := ⟨f - 1, by omega⟩
  rw [w64 (x := (len : Int) - i) (by omega) (by omega), w64 (x := (i : Int) + 1) (by omega) (by omega), w64 (x := (i : Int) + 2) (by omega) (by omega)]
  refine brB_i (fun hb => h1 ?_ w4 hK.ext) fun hb => ?_
  · rw [← hu]; refine unr_stop ?_
    unfold rnd; rw [if_pos (by have : (len : Int) - i < 2 := by simpa using hb
                               omega)]
  have hb : i + 2 ≤ b.length := by have : ¬ (len : Int) - i < 2 := by simpa using hb
                                   omega
  have r1 := rnd.eq_1 W H d b i s
  rw [if_neg (by omega)] at r1
  have hKd := hK.dr
  refine h.get (by omega) (by omega) fun a1 ha1 => ⟨_, hKd.ext.cell ha1, h.get (by omega) (by omega) fun a2 ha2 => ⟨_, hKd.ext.cell ha2, ?_⟩⟩
  rw [show ((i : Nat) : Int).toNat = i by omega, show ((i : Int) + 1).toNat = i + 1 by omega] at *
  have bn := bf i
  have bv := bf (i + 1)
  generalize b.getD i 0 = n at r1 bn ha1 ⊢
  generalize b.getD (i + 1) 0 = v at r1 bv ha2 ⊢
  rw [w64 (x := n) (by omega) (by omega), w64 (x := v) (by omega) (by omega)]
  refine ⟨fun vs u => ∃ (c : Bool) (j : Nat) (t : RS), vs = [.bool c, i64 j, i64 t.x, i64 t.y, .slice (some ⟨k2, 0, none⟩) (W * H).toNat (W * H).toNat] ∧ Ext w u ∧ (c = false → res = none) ∧
      (c = true → i < j ∧ j ≤ len ∧ unr W H d b f j t = res ∧ Rk w u k2 [k3, k1] W H t), ?_, fun c8 n27 n28 n29 p8 k18 k19 w20 hI => ?_⟩
  · have stop : rnd W H d b i s = .stop → res = none := fun e => by rw [← hu]; exact unr_stop e
    have go : ∀ {j t}, rnd W H d b i s = .go j t → unr W H d b f j t = res := fun e => by rw [← hu]; exact (unr_go e).symm
    refine brB_i (fun hn => ?_) fun hn => brB_i (fun hv0 w9 hL9 => ?_) fun hv0 => brB_i (fun hv1 => ?_) fun hv1 => brB_i (fun hv2 => brB_i (fun hb4 => ?_) fun hb4 => ?_) fun hv2 => ?_
    · have hn : 0 < n := by simpa using hn
      rw [if_pos hn] at r1
      refine ⟨fun vs u => ∃ (c : Bool) (k : Nat) (t : RS), vs = [.bool c, i64 k, i64 t.x, i64 t.y, .slice (some ⟨k2, 0, none⟩) (W * H).toNat (W * H).toNat] ∧ (k : Int) ≤ n + 1 ∧ Rk w u k2 [k3, k1] W H t ∧ (c = true → (k : Int) ≤ n ∧ putN W H (nib d v) (n.toNat - k) k t = putN W H (nib d v) n.toNat 0 s) ∧ (c = false → putN W H (nib d v) n.toNat 0 s = none),
        fun vs _ => match vs with | _ :: .int _ k :: _ => (n + 1 - k).toNat | _ => 0, ⟨true, 0, s, rfl, by omega, hKd, fun _ => ⟨by omega, rfl⟩, fun h => by cases h⟩, ?_⟩
      intro c2 n6 n7 n8 p2 k6 k7 w5 hI
      obtain ⟨c, k, t, hv, hk, hKt, ht, hf'⟩ := hI
      simp only [List.cons.injEq, Value.int.injEq, Value.bool.injEq, Value.slice.injEq, true_and, and_true] at hv
      obtain ⟨rfl, rfl, rfl, rfl, rfl, rfl, rfl⟩ := hv
      refine brB_i (fun hc => ?_) fun hc => ?_
      · simp only [Bool.and_eq_true, decide_eq_true_eq] at hc
        obtain ⟨hkn, rfl⟩ := hc
        obtain ⟨_, hput⟩ := ht rfl
        rw [show n.toNat - k = (n.toNat - (k + 1)) + 1 by omega, putN] at hput
        rw [w64 (x := (k : Int) + 1) (by omega) (by omega)]
        refine nibble_spec bv.1 bv.2 (by omega) fun w6 hE6 => ⟨_, rfl, hE6.keep _, hE6.keeps, ?_⟩
        have hK6 := hKt.dr.step hE6
        refine hK6.put hg (nib_range bv) (fun e u' hKu kp => ⟨_, _, _, _, _, _, rfl, kp, fun w8 hL8 => ⟨⟨false, k + 1, t, rfl, by omega, hKu.locl hL8, (fun h => by cases h), fun _ => ?_⟩, ?_⟩⟩) fun t' e u' hKu kp => ⟨_, _, _, _, _, _, rfl, kp, fun w8 hL8 => ⟨⟨true, k + 1, t', rfl, by omega, hKu.locl hL8, fun _ => ⟨by omega, ?_⟩, fun h => by cases h⟩, ?_⟩⟩
        · rw [e] at hput; exact hput.symm
        · show (n + 1 - ((k : Int) + 1)).toNat < (n + 1 - (k : Int)).toNat; omega
        · rw [e] at hput; exact hput
        · show (n + 1 - ((k : Int) + 1)).toNat < (n + 1 - (k : Int)).toNat; omega
      · cases c2 with
        | false => exact ⟨false, i + 2, t, rfl, hKt.ext, fun _ => stop (by rw [r1, hf' rfl]; rfl), fun h => by cases h⟩
        | true =>
          obtain ⟨hkn, hput⟩ := ht rfl
          have hk' : (k : Int) = n := by simp at hc; omega
          rw [show n.toNat - k = 0 by omega, putN] at hput
          exact ⟨true, i + 2, t, rfl, hKt.ext, (fun h => by cases h), fun _ => ⟨by omega, by omega, go (by rw [r1, ← hput]; rfl), hKt⟩⟩
    · have hn : ¬ 0 < n := by simpa using hn
      rw [if_neg hn, if_pos (by simpa using hv0)] at r1
      have hy0 := hK.ok.y0
      have hy1 := hK.ok.y1
      rw [w64 (x := s.y + 1) (by omega) (by omega)]
      have hK9 := hKd.locl hL9
      refine ⟨decide (s.y + 1 ≤ H), i + 2, ⟨0, s.y + 1, s.ix⟩, rfl, hK9.ext, fun hc => stop ?_, fun hc => ⟨by omega, by omega, go ?_, ⟨⟨Int.le_refl _, by show 0 ≤ W; omega, by show 0 ≤ s.y + 1; omega, by simpa using hc, hK.ok.len, hK.ok.fit⟩, hK9.ext, hK9.cs, hK9.ge, hK9.lo⟩⟩⟩
      · rw [r1, if_neg (by simpa using hc)]
      · rw [r1, if_pos (by simpa using hc)]
    · have hn : ¬ 0 < n := by simpa using hn
      rw [if_neg hn, if_neg (by simpa using hv0), if_pos (by simpa using hv1)] at r1
      exact h2 s.ix (by rw [← hu]; exact unr_done r1) hK.ok.len hK.ok.fit _ _ hKd.ext ⟨by have := hK.ok.len; rw [List.length_map]; omega, Nat.le_refl _, .inr ⟨k2, [], hK.ge, hKd.cs.lt, rfl, by have := hK.ok.len; rw [List.length_map, List.length_nil]; omega, by rw [List.append_nil]; exact hKd.cs⟩⟩
    · have hn : ¬ 0 < n := by simpa using hn
      rw [if_neg hn, if_neg (by simpa using hv0), if_neg (by simpa using hv1), if_pos (by simpa using hv2)] at r1
      rw [w64 (x := (len : Int) - ((i : Int) + 2)) (by omega) (by omega)] at hb4
      exact h1 (stop (by rw [r1, if_pos (by have : (len : Int) - ((i : Int) + 2) < 2 := by simpa using hb4
                                            omega)])) _ hKd.ext
    · have hn : ¬ 0 < n := by simpa using hn
      rw [if_neg hn, if_neg (by simpa using hv0), if_neg (by simpa using hv1), if_pos (by simpa using hv2)] at r1
      rw [w64 (x := (len : Int) - ((i : Int) + 2)) (by omega) (by omega)] at hb4
      have hb4 : ¬ (len : Int) - ((i : Int) + 2) < 2 := by simpa using hb4
      rw [if_neg (by omega)] at r1
      rw [w64 (x := (i : Int) + 2 + 1) (by omega) (by omega), w64 (x := (i : Int) + 2 + 2) (by omega) (by omega)]
      refine h.get (by omega) (by omega) fun a3 ha3 => ⟨_, hKd.dr.ext.cell ha3, h.get (by omega) (by omega) fun a4 ha4 w10 hL10 => ?_⟩
      have hK10 := hKd.dr.locl hL10
      refine ⟨_, hK10.ext.cell ha4, fun w11 hL11 => ?_⟩
      have hK11 := hK10.locl hL11
      have b2 := bf (i + 2)
      have b3 := bf (i + 3)
      have hx0 := hK.ok.x0
      have hx1 := hK.ok.x1
      have hy0 := hK.ok.y0
      have hy1 := hK.ok.y1
      rw [show ((i : Int) + 2).toNat = i + 2 by omega, show ((i : Int) + 2 + 1).toNat = i + 3 by omega]
      generalize b.getD (i + 2) 0 = e2 at r1 b2 ⊢
      generalize b.getD (i + 3) 0 = e3 at r1 b3 ⊢
      rw [w64 (x := e2) (by omega) (by omega), w64 (x := e3) (by omega) (by omega), w64 (x := s.x + e2) (by omega) (by omega), w64 (x := s.y + e3) (by omega) (by omega)]
      refine ⟨decide (s.x + e2 ≤ W) && decide (s.y + e3 ≤ H), i + 4, ⟨s.x + e2, s.y + e3, s.ix⟩, rfl, hK11.ext, fun hc => stop ?_, fun hc => ⟨by omega, by omega, go ?_, ⟨⟨by show 0 ≤ s.x + e2; omega, by simp at hc; exact hc.1, by show 0 ≤ s.y + e3; omega, by simp at hc; exact hc.2, hK.ok.len, hK.ok.fit⟩, hK11.ext, hK11.cs, hK11.ge, hK11.lo⟩⟩⟩
      · rw [r1, if_neg (by intro hx; rw [decide_eq_true hx.1, decide_eq_true hx.2] at hc; cases hc)]
      · rw [r1, if_pos (by simpa using hc)]
    · have hn : ¬ 0 < n := by simpa using hn
      have hv2' : ¬ v = 2 := by simpa using hv2
      have hv0' : ¬ v = 0 := by simpa using hv0
      have hv1' : ¬ v = 1 := by simpa using hv1
      rw [if_neg hn, if_neg hv0', if_neg hv1', if_neg hv2'] at r1
      refine ⟨fun vs u => vs = [i64 (if d = 4 then (v + 1) / 2 else v)] ∧ u = w4.drew, ?_, fun n14 w12 hI => ?_⟩
      · refine brB_i (fun h4 => ⟨?_, rfl⟩) fun h4 => ⟨?_, rfl⟩
        · rw [if_pos (by simpa using h4), w64 (x := v + 1) (by omega) (by omega), quoN (by omega) (by omega) (by omega)]
        · rw [if_neg (by simpa using h4)]
      obtain ⟨hv, rfl⟩ := hI
      obtain rfl : n14 = if d = 4 then (v + 1) / 2 else v := by simpa using hv
      have hal := absN_le (d := d) (v := v) bv.1 (by omega)
      have hsz : IntKind.i64.wrap (divZ .quo .i64 (IntKind.i64.wrap ((if d = 4 then (v + 1) / 2 else v) + 1)) 2 * 2) = (absN d v : Int) := by
        have e0 : 0 ≤ (if d = 4 then (v + 1) / 2 else v) ∧ (if d = 4 then (v + 1) / 2 else v) ≤ 255 := by split <;> omega
        unfold absN
        generalize (if d = 4 then (v + 1) / 2 else v) = z at e0 ⊢
        rw [w64 (x := z + 1) (by omega) (by omega), quoN (by omega) (by omega) (by omega), w64 (by omega) (by omega)]
        omega
      rw [hsz, w64 (x := (len : Int) - ((i : Int) + 2)) (by omega) (by omega), w64 (x := (i : Int) + 2 + (absN d v : Int)) (by omega) (by omega)]
      refine brB_i (fun hbs => h1 (stop (by rw [r1, if_pos (by simp at hbs; omega)])) _ hKd.ext) fun hbs => ?_
      have hbs : i + 2 + absN d v ≤ b.length := by simp at hbs; omega
      rw [if_neg (by omega)] at r1
      have hav : ∀ k, 0 ≤ absV d b (i + 2) k ∧ absV d b (i + 2) k ≤ 255 := fun k => by
        unfold absV; split
        · exact bf _
        · exact nib_range (bf _)
      have hin : ∀ k : Nat, (k : Int) < v → i + 2 + (if d = 8 then k else k / 2) < b.length := fun k hk => by
        have : (if d = 8 then k else k / 2) < absN d v := by
          unfold absN
          rcases hd with rfl | rfl
          · simp; omega
          · simp; omega
        omega
      refine ⟨fun vs u => ∃ (c : Bool) (k : Nat) (t : RS), vs = [.bool c, i64 k, i64 t.x, i64 t.y, .slice (some ⟨k2, 0, none⟩) (W * H).toNat (W * H).toNat] ∧ (k : Int) ≤ v + 1 ∧ Rk w u k2 [k3, k1] W H t ∧ (c = true → (k : Int) ≤ v ∧ putN W H (absV d b (i + 2)) (v.toNat - k) k t = putN W H (absV d b (i + 2)) v.toNat 0 s) ∧ (c = false → putN W H (absV d b (i + 2)) v.toNat 0 s = none),
        fun vs _ => match vs with | _ :: .int _ k :: _ => (v + 1 - k).toNat | _ => 0, ⟨true, 0, s, rfl, by omega, hKd, fun _ => ⟨by omega, rfl⟩, fun h => by cases h⟩, ?_⟩
      intro c4 n15 n16 n17 p4 k10 k11 w13 hI
      obtain ⟨c, k, t, hv', hk, hKt, ht, hf'⟩ := hI
      simp only [List.cons.injEq, Value.int.injEq, Value.bool.injEq, Value.slice.injEq, true_and, and_true] at hv'
      obtain ⟨rfl, rfl, rfl, rfl, rfl, rfl, rfl⟩ := hv'
      refine brB_i (fun hc => ?_) fun hc => ?_
      · simp only [Bool.and_eq_true, decide_eq_true_eq] at hc
        obtain ⟨hkn, rfl⟩ := hc
        obtain ⟨_, hput⟩ := ht rfl
        rw [show v.toNat - k = (v.toNat - (k + 1)) + 1 by omega, putN] at hput
        have hik := hin k hkn
        rw [w64 (x := (k : Int) + 1) (by omega) (by omega)]
        refine ⟨fun vs u => ∃ (c : Bool) (t' : RS), vs = [.bool c, i64 t'.x, i64 t'.y, .slice (some ⟨k2, 0, none⟩) (W * H).toNat (W * H).toNat] ∧ Rk w u k2 [k3, k1] W H t' ∧ (c = true → putS W H t (absV d b (i + 2) k) = some t') ∧ (c = false → putS W H t (absV d b (i + 2) k) = none), ?_, fun c7 n25 n26 p7 k16 k17 w19 hI => ?_⟩
        · have ab := bf (i + 2 + k)
          have ab2 := bf (i + 2 + k / 2)
          refine brB_i (fun h8 => ?_) fun h8 => ?_
          · have h8 : d = 8 := by simpa using h8
            subst h8
            rw [if_pos rfl] at hik
            rw [w64 (x := (i : Int) + 2 + (k : Int)) (by omega) (by omega)]
            refine h.get (by omega) (by omega) fun a5 ha5 => ⟨_, hKt.dr.ext.cell ha5, ?_⟩
            rw [show ((i : Int) + 2 + (k : Int)).toNat = i + 2 + k by omega, w64 (x := b.getD (i + 2 + k) 0) (by omega) (by omega)]
            refine hKt.dr.put hg ab (fun e u' hKu kp => ⟨_, _, _, _, _, _, rfl, kp, fun w8 hL8 => ⟨false, t, rfl, hKu.locl hL8, (fun h => by cases h), fun _ => e⟩⟩) fun t' e u' hKu kp => ⟨_, _, _, _, _, _, rfl, kp, fun w8 hL8 => ⟨true, t', rfl, hKu.locl hL8, fun _ => e, fun h => by cases h⟩⟩
          · have h8 : ¬ d = 8 := by simpa using h8
            rw [if_neg h8] at hik
            rw [quoN (a := (k : Int)) (by omega) (by omega) (by omega), w64 (x := (i : Int) + 2 + (k : Int) / 2) (by omega) (by omega)]
            refine h.get (by omega) (by omega) fun a5 ha5 => ⟨_, hKt.dr.ext.cell ha5, ?_⟩
            rw [show ((i : Int) + 2 + (k : Int) / 2).toNat = i + 2 + k / 2 by omega, w64 (x := b.getD (i + 2 + k / 2) 0) (by omega) (by omega)]
            refine nibble_spec ab2.1 ab2.2 (by omega) fun w6 hE6 => ⟨_, rfl, hE6.keep _, hE6.keeps, ?_⟩
            have ea : absV d b (i + 2) k = nib d (b.getD (i + 2 + k / 2) 0) k := by unfold absV; rw [if_neg h8]
            refine (hKt.dr.step hE6).put hg (nib_range ab2) (fun e u' hKu kp => ⟨_, _, _, _, _, _, rfl, kp, fun w8 hL8 => ⟨false, t, rfl, hKu.locl hL8, (fun h => by cases h), fun _ => by rw [ea]; exact e⟩⟩) fun t' e u' hKu kp => ⟨_, _, _, _, _, _, rfl, kp, fun w8 hL8 => ⟨true, t', rfl, hKu.locl hL8, fun _ => by rw [ea]; exact e, fun h => by cases h⟩⟩
        · obtain ⟨c, t', hv'', hKu, e1, e0⟩ := hI
          simp only [List.cons.injEq, Value.int.injEq, Value.bool.injEq, Value.slice.injEq, true_and, and_true] at hv''
          obtain ⟨rfl, rfl, rfl, rfl, rfl, rfl⟩ := hv''
          refine ⟨⟨c7, k + 1, t', rfl, by omega, hKu, fun hc => ⟨by omega, ?_⟩, fun hc => ?_⟩, by show (v + 1 - ((k : Int) + 1)).toNat < (v + 1 - (k : Int)).toNat; omega⟩
          · rw [e1 hc] at hput; exact hput
          · rw [e0 hc] at hput; exact hput.symm
      · cases c4 with
        | false => exact ⟨false, i + 2 + absN d v, t, rfl, hKt.ext, fun _ => stop (by rw [r1, hf' rfl]; rfl), fun h => by cases h⟩
        | true =>
          obtain ⟨hkn, hput⟩ := ht rfl
          have hk' : (k : Int) = v := by simp at hc; omega
          rw [show v.toNat - k = 0 by omega, putN] at hput
          exact ⟨true, i + 2 + absN d v, t, by simp, hKt.ext, (fun h => by cases h), fun _ => ⟨by omega, by omega, go (by rw [r1, ← hput]; rfl), hKt⟩⟩
  · obtain ⟨c, j, t, hv, hE, hc0, hc1⟩ := hI
    simp only [List.cons.injEq, Value.int.injEq, Value.bool.injEq, Value.slice.injEq, true_and, and_true] at hv
    obtain ⟨rfl, rfl, rfl, rfl, rfl, rfl, rfl⟩ := hv
    refine brB_i (fun hc => h1 (hc0 (by simpa using hc)) w20 hE) fun hc => ?_
    obtain rfl : c8 = true := by simpa using hc
    obtain ⟨j1, j2, j3, j4⟩ := hc1 rfl
    exact ⟨⟨j, t, f, rfl, j2, by omega, j3, j4⟩, by show (len - (j : Int)).toNat < (len - (i : Int)).toNat; omega⟩
end Go.Proofs.YtjdljddfiddnoaaDoor
