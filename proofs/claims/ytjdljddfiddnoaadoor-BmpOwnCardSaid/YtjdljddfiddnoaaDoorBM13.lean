/- Bmp: the program's pixels: behind an image, into runs. -/
import Derived.Test.YtjdljddfiddnoaaDoorBM12
namespace Go.Proofs.YtjdljddfiddnoaaDoor
open Go Go.Vc Go.RowKit
set_option maxRecDepth 100000
set_option linter.unusedVariables false
set_option linter.unusedSimpArgs false

/-- an image that grows, in its block; everything that was made at w0 stands -/
structure Im (w0 u : World) (av : List Nat) (mb : Nat) (W H : Int) (l : List Co) : Prop where
  cs : ∃ s c, Cs u mb [i64 W, i64 H, .slice s (4 * l.length) c] ∧ Fg av w0 u 1 s (4 * l.length) c (px (flat l))
  mem : mb ∈ av
section
variable {w0 u u' : World} {av : List Nat} {mb : Nat} {W H : Int} {l : List Co}
theorem Im.ext (h : Im w0 u av mb W H l) : Ext w0 u := by obtain ⟨s, c, _, h⟩ := h.cs; exact h.ext
theorem Im.locl {bs : List Nat} (h : Im w0 u av mb W H l) (hL : Locl bs u u') (hb : ∀ b, b ∈ bs → (b ∈ av ∧ b ≠ mb) ∨ u.heap.size ≤ b) : Im w0 u' (bs ++ av) mb W H l := by
  obtain ⟨s, c, hC, hF⟩ := h.cs
  refine ⟨⟨s, c, hC.locl hL fun hm => ?_, hF.push hL fun b hm => ?_⟩, List.mem_append_right _ h.mem⟩
  · have := hC.lt
    rcases hb mb hm with hx | hx
    · exact hx.2 rfl
    · omega
  · rcases hb b hm with hx | hx
    · exact .inl hx.1
    · exact .inr hx
theorem Im.mono {bs : List Nat} (h : Im w0 u av mb W H l) (hb : ∀ b, b ∈ bs → b ∈ av) (hm : mb ∈ bs) : Im w0 u bs mb W H l := by
  obtain ⟨s, c, hC, hF⟩ := h.cs
  exact ⟨⟨s, c, hC, hF.mono hb⟩, hm⟩
theorem Im.keepL {bs : List Nat} (h : Im w0 u av mb W H l) (hL : Locl bs u u') (hb : ∀ b, b ∈ bs → b ∈ av ∧ b ≠ mb) : Im w0 u' av mb W H l :=
  (h.locl hL fun b hm => .inl (hb b hm)).mono (fun b hm => List.mem_append_right _ hm) h.mem
theorem Im.step (h : Im w0 u av mb W H l) (hE : Ext u u') : Im w0 u' av mb W H l := by
  obtain ⟨s, c, hC, hF⟩ := h.cs
  exact ⟨⟨s, c, hC.ext hE, hF.step hE⟩, h.mem⟩
theorem Im.dr (h : Im w0 u av mb W H l) : Im w0 u.drew av mb W H l := h.step (Ext.refl u).drew
theorem Im.avs (h : Im w0 u av mb W H l) : ∀ b, b ∈ av → w0.heap.size ≤ b ∧ b < u.heap.size := by obtain ⟨s, c, _, h⟩ := h.cs; exact h.avs
/-- other blocks that are avoided, turned -/
theorem Im.turn {bs : List Nat} (h : Im w0 u av mb W H l) (hC : Chg (· ∈ bs) u u') (hs : u'.heap.size = u.heap.size) (hb : ∀ b, b ∈ bs → b ∈ av ∧ b ≠ mb) : Im w0 u' av mb W H l :=
  h.keepL ⟨hC.os, hC.tape, hC.output, hC.size, fun k hk hn => hC.block k hk hn, fun b hm => by rw [hs]; exact (h.avs b (hb b hm).1).2⟩ hb
end
theorem Cs.uniq {w : World} {b : Nat} {vs us : List Value} (h : Cs w b vs) (k : Cs w b us) : vs = us := by
  obtain ⟨e, h⟩ := h
  obtain ⟨f, k⟩ := k
  rw [h] at k
  exact (by simpa using k : vs = us ∧ e = f).1
/-- four samples more -/
theorem Im.app {w0 w : World} {av : List Nat} {mb : Nat} {m : List (Nat × Nat × List Value)} {W H : Int} {l : List Co} {c : Co} {elem : TypeId} {p : Option Addr} {len cap : Nat} {F : Option Addr → Nat → Nat → World → Prop} (h : Im w0 w av mb W H l)
    (hp : Cs w mb [i64 W, i64 H, .slice p len cap]) (hm : ∀ b, b ∈ blocks m → b ∈ av) (hsz : l.length ≤ 2 ^ 40)
    (hF : ∀ p' c' w3, (∃ v, w3.cell? ⟨mb, 2, none⟩ = some v) → w3.frozen? ⟨mb, 2, none⟩ = false → Im w0 (setCells w3 ⟨mb, 2, none⟩ [.slice p' (len + 4) c'] 0) av mb W H (l ++ [c]) →
      (∀ bs, (∀ b, b ∈ bs → b ∈ av ∧ b ≠ mb) → Keep bs w (setCells w3 ⟨mb, 2, none⟩ [.slice p' (len + 4) c'] 0)) → F p' (len + 4) c' w3) :
    appVC w m p len cap 4 1 2 elem [u16 0] [u16 c.1, u16 c.2.1, u16 c.2.2.1, u16 c.2.2.2] F := by
  obtain ⟨s, cc, hC, hFg⟩ := h.cs
  have he := Cs.uniq hC hp
  simp only [List.cons.injEq, Value.slice.injEq, true_and, and_true] at he
  obtain ⟨rfl, rfl, rfl⟩ := he
  refine hFg.app' hm rfl rfl (by omega) (by omega) fun p' c' w4 hF4 kp hs4 => ?_
  have hC4 := hC.keep kp h.mem
  have hL := set_locl (u := w4) (b := mb) (i := 2) (vs := [.slice p' (4 * l.length + 4) c']) hC4.lt
  refine hF p' c' _ ⟨_, hC4.cell (i := 2) rfl⟩ (hC4.frozen _) ⟨⟨p', c', ?_, ?_⟩, h.mem⟩ fun bs hb => ?_
  · have := hC4.set1 (off := 2) (v := .slice p' (4 * l.length + 4) c') (by simp)
    rw [List.length_append, List.length_singleton, show 4 * (l.length + 1) = 4 * l.length + 4 by omega]
    exact this
  · rw [List.length_append, List.length_singleton, show 4 * (l.length + 1) = 4 * l.length + 4 by omega]
    have := (hF4.push hL (by intro b hb; simp at hb; rw [hb]; exact .inl h.mem)).mono (bs := av) fun b hb => List.mem_append_right _ hb
    refine addpx (c := c) ?_
    rw [px_append]; exact this
  · exact (Keep.trans (fun b hm hlt => kp b (hb b hm).1 hlt) (hL.keep fun b hm _ => by simp; exact (hb b hm).2))
theorem index_spec {w0 u : World} {av : List Nat} {mb fb : Nat} {W H W' H' : Int} {l pl : List Co} {sl : Value} {dn : Bool} {d pk a m0 m1 m2 m3 v : Int} {q : Option Addr} {ql qc : Nat} {R : Ending → World → Prop} (h : Im w0 u av mb W H l)
    (hC : Cs w0 fb (fl sl W' H' dn d pk a m0 m1 m2 m3 (.slice q ql qc))) (hp : Sl w0.heap.size w0 q (cos pl)) (hql : ql = pl.length) (v0 : 0 ≤ v) (hsz : l.length ≤ 2 ^ 40)
    (h1 : (pl.length : Int) ≤ v → R (.returned (.bool false)) u)
    (h2 : v < pl.length → ∀ u', Im w0 u' av mb W H (l ++ [palC pl v]) → (∀ bs, (∀ b, b ∈ bs → b ∈ av ∧ b ≠ mb) → Keep bs u u') → R (.returned (.bool true)) u') :
    Calls P F.bmp_file_index #[.pointer (some ⟨fb, 0, none⟩), .pointer (some ⟨mb, 0, none⟩), i64 v] u R := by
  refine calls_bmp_file_index _ _ _ _ _ ?_
  unfold vc_bmp_file_index
  have hCu := hC.ext h.ext
  refine nn_i rfl ⟨_, _, _, hCu.cell (i := 11) rfl, brB_i (fun hb => h1 (by simp at hb; omega)) fun hb => nn_i rfl ⟨_, _, _, hCu.cell (i := 11) rfl, ?_⟩⟩
  have hb : v < pl.length := by simp at hb; omega
  refine cos_elem (hp.ext h.ext) hql.symm v0 (by omega) fun a3 ⟨ca, cb, cc, cd⟩ => ⟨_, _, _, _, ca, cb, cc, cd, fun k5 hk5 => nn_i rfl fun w1 hL1 => ?_⟩
  have hmlt := (h.avs mb h.mem).2
  have h1' := h.locl hL1 (by intro b hb; simp at hb; right; omega)
  obtain ⟨s, c, hcs, hF⟩ := h1'.cs
  have hs1 := hL1.size
  have ht1 := hL1.there k5 (by simp)
  refine ⟨_, _, _, hcs.cell (i := 2) rfl, fun k8 hk8 w2 hL2 => ?_⟩
  have hne5 : mb ≠ k5 := by omega
  have hne8 : mb ≠ k8 := by omega
  have h2' := h1'.locl hL2 (by intro b hb; simp at hb; rcases hb with rfl | rfl; right; omega; left; simp; omega)
  have hcs2 := hcs.locl hL2 (by simp; omega)
  refine Im.app (c := palC pl v) h2' hcs2 (by simp [blocks]) hsz fun p' c' w3 g1 g2 hI kp => nn_i rfl ⟨g1, g2, by show ¬ mb ∈ [k8, k5]; simp; omega, h2 hb _ (hI.mono (fun b hb => List.mem_append_right _ (List.mem_append_right _ hb)) h.mem) fun bs hbs => ?_⟩
  have e1 : Keep bs u w1 := hL1.keep fun b hb hlt => by simp; omega
  have e2 : Keep bs w1 w2 := hL2.keep fun b hb hlt => by have := (h.avs b (hbs b hb).1).2; simp; omega
  exact (e1.trans e2).trans (kp bs fun b hb => ⟨List.mem_append_right _ (List.mem_append_right _ (hbs b hb).1), (hbs b hb).2⟩)
end Go.Proofs.YtjdljddfiddnoaaDoor
