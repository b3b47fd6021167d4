/- Bmp: the document's images of indices and of masks; its reader. -/
import Derived.Test.YtjdljddfiddnoaaDoorBM6
namespace Go.Proofs.YtjdljddfiddnoaaDoor
open Go Go.Vc Go.RowKit
set_option maxRecDepth 100000
set_option linter.unusedVariables false
set_option linter.unusedSimpArgs false

theorem ow_locl {N M : Nat} {w w' : World} {bs : List Nat} {base : Option Addr} {len cap sz : Nat} {vs : List Value} (h : Ow N M w base len cap sz vs) (hL : Locl bs w w') (hb : ∀ b, b ∈ bs → b < N) : Ow N M w' base len cap sz vs :=
  h.chg hL.chg fun b h1 _ hm => by have := hb b hm; omega
/-! ## Images of indices -/
def palC (pl : List Co) (v : Int) : Co := pl.getD v.toNat zeroC
def ixImg (pl : List Co) (l : List Int) : Option (List Co) := if l.all (fun v => decide (v < pl.length)) then some (l.map (palC pl)) else none
def ixOf (W H d : Int) (dn : Bool) (pk : Int) (b : List Int) : Option (List Int) := if pk ≠ 0 then unrL W H d b else if rowN W d * H > b.length then none else some (ixL b W H d dn (W * H).toNat)
def byIx (W H d : Int) (dn : Bool) (pk : Int) (b : List Int) (pl : List Co) : Option (List Co) := (ixOf W H d dn pk b).bind (ixImg pl)
theorem ixImg_some {pl c : List Co} {l : List Int} (h : ixImg pl l = some c) : (∀ v ∈ l, v < pl.length) ∧ c = l.map (palC pl) := by
  unfold ixImg at h
  split at h
  · rename_i ha
    cases h
    exact ⟨by simpa using ha, rfl⟩
  · cases h
theorem ixImg_no {pl : List Co} {l : List Int} {v : Int} (hv : v ∈ l) (hx : (pl.length : Int) ≤ v) : ixImg pl l = none := by
  unfold ixImg
  rw [if_neg]
  intro ha
  have := List.all_eq_true.1 ha v hv
  simp at this; omega
theorem ixImg_yes {pl : List Co} {l : List Int} (h : ∀ v ∈ l, v < pl.length) : ixImg pl l = some (l.map (palC pl)) := by
  unfold ixImg; rw [if_pos (by simpa using h)]
theorem cos_elem {N : Nat} {w : World} {p : Option Addr} {len : Nat} {l : List Co} {i : Int} {F : Addr → Prop} (h : Sl N w p (cos l)) (hl : l.length = len) (h0 : 0 ≤ i) (h1 : i < len)
    (hF : ∀ a : Addr, w.cell? a = some (u16 (palC l i).1) ∧ w.cell? (a.add 1) = some (u16 (palC l i).2.1) ∧ w.cell? (a.add 2) = some (u16 (palC l i).2.2.1) ∧ w.cell? (a.add 3) = some (u16 (palC l i).2.2.2) → F a) : idx p len i 4 F := by
  refine Sl.elem (f := co) (sz := 4) h (fun _ => rfl) (by omega) h0 hl (a := palC l i) (by unfold palC; rw [List.getD, List.getElem?_eq_getElem (by omega)]; rfl) fun c hc => hF c ?_
  have := hc 0 _ rfl
  rw [add_zero'] at this
  exact ⟨this, hc 1 _ rfl, hc 2 _ rfl, hc 3 _ rfl⟩
theorem addpx {av : List Nat} {w0 w' : World} {p : Option Addr} {len cap : Nat} {xs : List Co} {c : Co} (h : Fg av w0 w' 1 p (len + 4) cap (px (flat xs ++ coL c))) : Fg av w0 w' 1 p (len + 4) cap (px (flat (xs ++ [c]))) := by
  rw [flat_append, flat_one]; exact h
/-- a row of indices was answered, or none -/
def IxR (N : Nat) (u : World) (s : Option Addr) (k : Nat) (ok : Bool) (W H : Int) (res : Option (List Int)) : Prop :=
  (ok = false → res = none) ∧ (ok = true → ∃ (l : List Int) (pb : Nat) (rest : List Value), res = some l ∧ (l.length : Int) = W * H ∧ k = l.length ∧ s = some ⟨pb, 0, none⟩ ∧ N ≤ pb ∧ Cs u pb (l.map i64 ++ rest) ∧ ∀ v ∈ l, 0 ≤ v)
theorem IxR.of {N : Nat} {u : World} {s : Option Addr} {k c : Nat} {W H : Int} {res : Option (List Int)} {l : List Int} (h : Ow N u.heap.size u s k c 1 (l.map i64)) (hr : res = some l) (hl : (l.length : Int) = W * H) (h0 : 0 < W * H) (hn : ∀ v ∈ l, 0 ≤ v) : IxR N u s k true W H res := by
  refine ⟨(fun h => by cases h), fun _ => ?_⟩
  have hk := h.len
  rw [List.length_map] at hk
  obtain ⟨o1, o2, o3⟩ := h
  rcases o3 with o3 | ⟨b, rest, b1, b2, b3, b4, b5⟩
  · omega
  · exact ⟨l, b, rest, hr, hl, hk, b3, b1, b5, hn⟩
theorem IxR.up {N M : Nat} {u : World} {s : Option Addr} {k : Nat} {ok : Bool} {W H : Int} {res : Option (List Int)} (h : IxR M u s k ok W H res) (hN : N ≤ M) : IxR N u s k ok W H res :=
  ⟨h.1, fun e => by obtain ⟨l, pb, rest, a, b, c, d, e, f, g⟩ := h.2 e; exact ⟨l, pb, rest, a, b, c, d, by omega, f, g⟩⟩
theorem ixL_nonneg {b : List Int} {W H d : Int} {dn : Bool} {n : Nat} : ∀ v ∈ ixL b W H d dn n, 0 ≤ v := by
  intro v hv
  simp only [ixL, List.mem_map] at hv
  obtain ⟨q, _, rfl⟩ := hv
  unfold ixQ ixAt
  exact Int.emod_nonneg _ (Int.ne_of_gt (Int.pow_pos (by omega)))
theorem indices_res {w : World} {p : Option Addr} {len cap : Nat} {b : List Int} {W H : Int} {dn : Bool} {d pk a m0 m1 m2 m3 : Int} {q : Option Addr} {ql qc : Nat} {R : Ending → World → Prop} (h : By w p len b) (hg : gfits W H = true) (hd : d = 1 ∨ d = 4 ∨ d = 8)
    (hR : ∀ s k c ok w', Ext w w' → IxR w.heap.size w' s k ok W H (if rowN W d * H > b.length then none else some (ixL b W H d dn (W * H).toNat)) → R (.returned (.tuple #[.slice s k c, .bool ok])) w') :
    Calls P F.ref11_indices #[.slice p len cap, .agg #[i64 W, i64 H, .bool dn, i64 d, i64 pk, i64 a, u32 m0, u32 m1, u32 m2, u32 m3, .slice q ql qc]] w R := by
  obtain ⟨g1, g2, g3, g4, g5⟩ := gfits_iff.1 hg
  have wh0 : 0 < W * H := Int.mul_pos (by omega) (by omega)
  have hln := h.ln
  refine indices_spec h hg hd (fun hgt w' hE => hR _ _ _ _ w' hE ⟨fun _ => if_pos (by omega), fun h => by cases h⟩) fun hle s c w' hE hsl => hR _ _ _ _ w' hE (IxR.of hsl (if_neg (by omega)) ?_ wh0 ixL_nonneg)
  rw [ixL_length]; omega
theorem unrun_res {w : World} {p : Option Addr} {len cap : Nat} {b : List Int} {W H : Int} {dn : Bool} {d pk a m0 m1 m2 m3 : Int} {q : Option Addr} {ql qc : Nat} {R : Ending → World → Prop} (h : By w p len b) (hg : gfits W H = true) (hd : d = 4 ∨ d = 8)
    (hR : ∀ s k c ok w', Ext w w' → IxR w.heap.size w' s k ok W H (unrL W H d b) → R (.returned (.tuple #[.slice s k c, .bool ok])) w') :
    Calls P F.ref11_unrun #[.slice p len cap, .agg #[i64 W, i64 H, .bool dn, i64 d, i64 pk, i64 a, u32 m0, u32 m1, u32 m2, u32 m3, .slice q ql qc]] w R := by
  obtain ⟨g1, g2, g3, g4, g5⟩ := gfits_iff.1 hg
  have wh0 : 0 < W * H := Int.mul_pos (by omega) (by omega)
  exact unrun_spec h hg hd (fun hn w' hE => hR _ _ _ _ w' hE ⟨fun _ => hn, fun h => by cases h⟩) fun l hl hlen hf s w' hE hsl => hR _ _ _ _ w' hE (IxR.of hsl hl hlen wh0 fun v hv => (hf v hv).1)
theorem locl_iff {bs cs : List Nat} {w w' : World} (h : Locl bs w w') (hs : ∀ b, b ∈ cs ↔ b ∈ bs) : Locl cs w w' := ⟨h.os, h.tape, h.output, h.size, fun k hk hn => h.block k hk fun hm => hn ((hs k).2 hm), fun b hb => h.there b ((hs b).1 hb)⟩
theorem byIndex_spec {N : Nat} {w : World} {p : Option Addr} {len cap : Nat} {b : List Int} {W H : Int} {dn : Bool} {d pk a m0 m1 m2 m3 : Int} {q : Option Addr} {ql qc : Nat} {pl : List Co} {R : Ending → World → Prop} (h : By w p len b) (hg : gfits W H = true)
    (hd : d = 1 ∨ d = 4 ∨ d = 8) (hk : pk ≠ 0 → d = 4 ∨ d = 8) (hp : Sl N w q (cos pl)) (hql : ql = pl.length)
    (h1 : byIx W H d dn pk b pl = none → ∀ x y s k c w', Ext w w' → R (.returned (.tuple #[.agg #[i64 x, i64 y, .slice s k c], .bool false])) w')
    (h2 : ∀ l, byIx W H d dn pk b pl = some l → (l.length : Int) = W * H → ∀ s c w', Ext w w' → Ow w.heap.size w'.heap.size w' s (4 * l.length) c 1 (px (flat l)) → R (.returned (.tuple #[.agg #[i64 W, i64 H, .slice s (4 * l.length) c], .bool true])) w') :
    Calls P F.ref11_byIndex #[.slice p len cap, .agg #[i64 W, i64 H, .bool dn, i64 d, i64 pk, i64 a, u32 m0, u32 m1, u32 m2, u32 m3, .slice q ql qc]] w R := by
  obtain ⟨g1, g2, g3, g4, g5⟩ := gfits_iff.1 hg
  have wh0 : 0 ≤ W * H := Int.mul_nonneg (by omega) (by omega)
  have hlim := h.lim
  have hln := h.ln
  refine calls_ref11_byIndex _ _ _ _ _ _ _ _ _ _ _ _ _ _ _ _ _ _ ?_
  unfold vc_ref11_byIndex
  intro k1 hk1 k2 hk2 w1 hL1
  have hE1 : Ext w w1 := hL1.ext (by simp; omega)
  have ht1 := hL1.there k1 (by simp)
  have ht2 := hL1.there k2 (by simp)
  refine indices_res (h.ext hE1) hg hd fun s2 n2 c2 ok2 w2 hE2 hr2 => ⟨_, _, _, _, rfl, hE2.keep _, fun vs u => ∃ p3 k7 k8 c3, vs = [.slice p3 k7 k8, .bool c3] ∧ Ext w1 u ∧ IxR w1.heap.size u p3 k7 c3 W H (ixOf W H d dn pk b), brB_i (fun hb => ?_) fun hb => ?_, ?_⟩
  · have hb : pk ≠ 0 := by simpa using hb
    refine unrun_res (h.ext (hE1.trans hE2)) hg (hk hb) fun s3 n3 c3 ok3 w3 hE3 hr3 => ⟨_, _, _, _, rfl, hE3.keep _, _, _, _, _, rfl, hE2.trans hE3, ?_⟩
    unfold ixOf; rw [if_pos hb]; exact hr3.up hE2.size
  · have hb : ¬ pk ≠ 0 := by simpa using hb
    refine ⟨_, _, _, _, rfl, hE2, ?_⟩
    unfold ixOf; rw [if_neg hb]; exact hr2
  intro p3 k7 k8 c3 w4 hI k9 hk9
  obtain ⟨_, _, _, _, hv, hE4, hr⟩ := hI
  simp only [List.cons.injEq, Value.bool.injEq, Value.slice.injEq, true_and, and_true] at hv
  obtain ⟨⟨rfl, rfl, rfl⟩, rfl⟩ := hv
  have hs4 := hE4.size
  have hE04 := hE1.trans hE4
  have hs04 := hE04.size
  cases c3 with
  | false =>
    have hno : byIx W H d dn pk b pl = none := by unfold byIx; rw [hr.1 rfl]; rfl
    refine ⟨fun vs u => Ext w u ∧ ∃ x y s k c e f g z r t, vs = [i64 x, i64 y, i64 z, .slice s k c, i64 e, i64 f, .slice g r t], fun _ _ => 0, fun w5 hL5 => ⟨hE04.step hL5.chg (by simp; omega), _, _, _, _, _, _, _, _, _, _, _, rfl⟩, ?_⟩
    intro n1 n2 n3 p4 k10 k11 n4 n5 p5 k12 k13 w6 hI
    obtain ⟨hE6, _⟩ := hI
    refine brB_f (by simp) fun w10 hL10 => h1 hno _ _ _ _ _ _ (hE6.step hL10.chg ?_)
    have := hE6.size
    simp; omega
  | true =>
    obtain ⟨l, pb, rest, hl, hlen, rfl, rfl, hpb, hC, hnn⟩ := hr.2 rfl
    have hby : byIx W H d dn pk b pl = ixImg pl l := by unfold byIx; rw [hl]; rfl
    have hs1 := hE1.size
    have hpl := hC.lt
    refine ⟨fun vs u => ∃ (i : Nat) (s : Option Addr) (c : Nat), vs = [i64 i, i64 0, i64 0, .slice none 0 0, i64 W, i64 H, .slice s (4 * i) c] ∧ i ≤ l.length ∧ (∀ v ∈ l.take i, v < pl.length) ∧ Cs u pb (l.map i64 ++ rest) ∧ Fg [pb, k9, k2, k1] w u 1 s (4 * i) c (px (flat ((l.take i).map (palC pl)))),
      fun vs _ => match vs with | .int _ n :: _ => (l.length - n).toNat | _ => 0, fun w5 hL5 => ⟨0, none, 0, rfl, by omega, by simp, hC.locl hL5 (by simp; omega), ?_⟩, ?_⟩
    · have := Fg.nil' (bs := [pb, k9, k2, k1]) hE04 (locl_iff (hL5.wide (cs := [pb]) (by simpa using hpl)) (by intro b; simp; omega)) (by simp; omega) 1
      exact this
    · intro n1 n2 n3 p4 k10 k11 n4 n5 p5 k12 k13 w6 hI
      obtain ⟨i, s, c, hv, hi, hin, hC6, hF⟩ := hI
      simp only [List.cons.injEq, Value.int.injEq, Value.slice.injEq, true_and, and_true] at hv
      obtain ⟨rfl, rfl, rfl, ⟨rfl, rfl, rfl⟩, rfl, rfl, rfl, rfl, rfl⟩ := hv
      have hne : pb ∉ [k9, k2, k1] := by simp; omega
      refine brB_i (fun hb => ?_) fun hb w10 hL10 => ?_
      · have hb : i < l.length := by simp at hb; omega
        have hel : l.getD ((i : Int)).toNat 0 = l[i] := by rw [Int.toNat_natCast, List.getD, List.getElem?_eq_getElem hb]; rfl
        have hmem : l[i] ∈ l := List.getElem_mem hb
        have hsl : Sl w6.heap.size w6 (some ⟨pb, 0, none⟩) (l.map i64) := hC6.sl (by simp) hC6.lt
        refine ints_elem hsl.drew (by omega) (by omega) (by omega) fun a1 ha1 => ⟨_, ha1, ?_⟩
        rw [hel]
        refine brB_i (fun hge w7 hL7 => h1 ?_ _ _ _ _ _ _ (hF.dr.push hL7 (by simp)).ext) fun hlt => ?_
        · rw [hby]; exact ixImg_no hmem (by simp at hge; omega)
        have hlt : l[i] < pl.length := by simp at hlt; omega
        refine ints_elem hsl.drew.drew (by omega) (by omega) (by omega) fun a2 ha2 => ⟨_, ha2, ?_⟩
        rw [hel]
        have hnn' := hnn _ hmem
        refine cos_elem (hp.ext hF.dr.dr.ext) hql.symm hnn' (by omega) fun a3 ⟨ca, cb, cc, cd⟩ => ⟨_, _, _, _, ca, cb, cc, cd, ?_⟩
        refine Add_spec (c := palC pl l[i]) hF.dr.dr (by omega) fun p' c' w' hF' kp => ⟨_, _, _, _, _, rfl, fun x hx => kp x (List.mem_cons_of_mem _ hx), fun w9 hL9 => ⟨⟨i + 1, p', c', ?_, by omega, ?_, ?_, ?_⟩, ?_⟩⟩
        · rw [w64 (by omega) (by omega), show 4 * (i + 1) = 4 * i + 4 by omega]; rfl
        · intro v hv
          rw [List.take_succ_eq_append_getElem hb] at hv
          rcases List.mem_append.1 hv with hv | hv
          · exact hin v hv
          · simp at hv; rw [hv]; exact hlt
        · exact (hC6.drew.drew.keep kp (by simp)).locl hL9 hne
        · rw [List.take_succ_eq_append_getElem hb, List.map_append, List.map_singleton, show 4 * (i + 1) = 4 * i + 4 by omega]
          exact ((addpx hF').push hL9 (by simp)).mono (by simp)
        · rw [w64 (by omega) (by omega)]; show (l.length - ((i : Int) + 1)).toNat < (l.length - (i : Int)).toNat; omega
      · have hb : i = l.length := by simp at hb; omega
        subst hb
        rw [List.take_length] at hin hF
        have hyes := ixImg_yes hin
        have hF10 := hF.push hL10 (by simp)
        have := h2 _ (hby.trans hyes) (by rw [List.length_map]; exact hlen) p5 k13 w10 hF10.ext
        rw [List.length_map] at this
        exact this hF10.ow
end Go.Proofs.YtjdljddfiddnoaaDoor
