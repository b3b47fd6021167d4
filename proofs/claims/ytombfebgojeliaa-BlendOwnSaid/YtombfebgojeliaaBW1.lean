/- Walks over many slices: one state for all of them. -/
import Derived.Test.YtombfebgojeliaaBL8
namespace Go.Proofs.Ytombfebgojeliaa
open Go Go.Vc Go.RowKit
set_option maxRecDepth 100000
set_option linter.unusedVariables false
set_option linter.unusedSimpArgs false

section
variable {w u : World} {f : Nat → Nat} {L : List Nat} {l : List Tg}
theorem St.img (h : Ths w u f L l) {c len cap : Nat} {p : Option Addr} {xs : List Int} (ht : (⟨c, p, len, cap, 1, px xs⟩ : Tg) ∈ l) : Img u p len xs := ⟨(h.get ht).sl, by have := (h.get ht).len; rwa [px_length] at this⟩
theorem St.ints (h : Ths w u f L l) {c len cap : Nat} {p : Option Addr} {xs : List Int} (ht : (⟨c, p, len, cap, 1, i64s xs⟩ : Tg) ∈ l) (hs : len ≤ 2 ^ 44) : Ints u p len xs := ⟨(h.get ht).sl, by have := (h.get ht).len; rwa [i64s_length] at this, hs⟩
theorem St.room (h : Ths w u f L l) {c len cap sz : Nat} {p : Option Addr} {vs : List Value} (ht : (⟨c, p, len, cap, sz, vs⟩ : Tg) ∈ l) : len ≤ cap := (h.get ht).room
theorem St.start (w : World) : Ths w w (fun _ => 0) [] [] := ⟨⟨Ext.refl w, by simp⟩, by simp⟩
theorem St.locl {bs : List Nat} {X : World → Prop} (h : Ths w u f L l) (hb : ∀ b, b ∈ bs → b ∈ L ∨ u.heap.size ≤ b) (hX : ∀ u' f', Ths w u' f' bs l → X u') : ∀ u', Locl bs u u' → X u' := fun u' hL =>
  hX u' _ ((h.locl hL hb).mono (fun b hm => List.mem_append_left _ hm) fun t ht => ht)
theorem St.new (i : Nat) (vs : List Value) {n : Nat} {arr : Array Value} {e : TypeId} {X : Nat → World → Prop} (h : Ths w u f L l) (h0 : i ≠ 0) (hv : arr.toList = vs) (hn : n = vs.length) (hX : ∀ k u' f', Ext u u' → Ths w u' f' L (⟨i, some ⟨k, 0, none⟩, n, n, 1, vs⟩ :: l) → X k u') :
    ∀ k u', New u (.cells arr e (0, 0)) k u' → X k u' := fun k u' hN =>
  hX k u' _ hN.ext (h.new hN.ext h0 (hN.own (by rw [hv]; exact List.prefix_refl _) (by omega) (by rw [← Array.length_toList, hv]; omega) (Nat.le_refl _) (Nat.le_refl _) (Nat.le_refl _)))
theorem Ints.nil (u : World) : Ints u none 0 [] := ⟨Sl.nil _ _ _, rfl, by omega⟩
theorem own_st (i : Nat) {p : Option Addr} {len cap : Nat} {W H : Int} {xs : List Int} {R : Ending → World → Prop} (h : Ths w u f L l) (hi : Img u p len xs) (hsz : len * 2 ≤ 2 ^ 47) (h0 : i ≠ 0)
    (hK : ∀ p' c' u' f', Ext u u' → Ths w u' f' L (⟨i, p', len, c', 1, px xs⟩ :: l) → R (.returned (.agg #[i64 W, i64 H, .slice p' len c'])) u') : Calls P F.law23_own #[.agg #[i64 W, i64 H, .slice p len cap]] u R :=
  own_spec hi hsz fun p' c' u' hE ho => hK p' c' u' _ hE (h.new hE h0 ho)
theorem apply_st (i : Nat) (r : Int × Int × List Int × Int) {op : ByteArray} {pa p q : Option Addr} {la ca lp cp lq cq : Nat} {args xs ys : List Int} {W H V G : Int} {R : Ending → World → Prop} (h : Ths w u f L l) (ha : Ints u pa la args)
    (hp : Img u p lp xs) (hq : Img u q lq ys) (hcp : lp ≤ cp) (hcq : lq ≤ cq) (hxs : SmL xs) (hys : SmL ys) (h0 : i ≠ 0) (hr : appR op args W H xs V G ys = r)
    (hK : ∀ p' l' c' u' f', Ext u u' → Ths w u' f' L (⟨i, p', l', c', 1, px r.2.2.1⟩ :: l) → R (.returned (.tuple #[.agg #[i64 r.1, i64 r.2.1, .slice p' l' c'], i64 r.2.2.2])) u') :
    Calls P F.blend_Apply #[.string op, .slice pa la ca, .agg #[i64 W, i64 H, .slice p lp cp], .agg #[i64 V, i64 G, .slice q lq cq]] u R := by
  subst hr
  exact Apply_spec ha hp hq hcp hcq hxs hys fun p' l' c' u' hf => hK p' l' c' u' _ hf.ext (h.new hf.ext h0 hf.ow)
theorem refApply_st (i : Nat) {op : ByteArray} {pa p q : Option Addr} {la ca lp cp lq cq : Nat} {args xs ys : List Int} {W H V G : Int} {R : Ending → World → Prop} (h : Ths w u f L l) (ha : Ints u pa la args)
    (hp : Img u p lp xs) (hq : Img u q lq ys) (hxs : SmL xs) (hys : SmL ys) (h0 : i ≠ 0)
    (hK : ∀ p' l' c' u' f', Ext u u' → Ths w u' f' L (⟨i, p', l', c', 1, px (appR op args W H xs V G ys).2.2.1⟩ :: l) → R (.returned (.tuple #[.agg #[i64 (appR op args W H xs V G ys).1, i64 (appR op args W H xs V G ys).2.1, .slice p' l' c'], i64 (appR op args W H xs V G ys).2.2.2])) u') :
    Calls P F.ref23_Apply #[.string op, .slice pa la ca, .agg #[i64 W, i64 H, .slice p lp cp], .agg #[i64 V, i64 G, .slice q lq cq]] u R :=
  refApply_spec ha hp hq hxs hys fun p' l' c' u' hf => hK p' l' c' u' _ hf.ext (h.new hf.ext h0 hf.ow)
theorem St.len (h : Ths w u f L l) {c len cap : Nat} {p : Option Addr} {xs : List Int} (ht : (⟨c, p, len, cap, 1, px xs⟩ : Tg) ∈ l) : len = xs.length := (St.img h ht).len
end
theorem SmL.of {l : List Int} (h : l.all (fun n => decide (0 ≤ n ∧ n ≤ 65535)) = true) : SmL l := fun n hn => by simpa [Sm] using List.all_eq_true.1 h n hn
abbrev wkP : List Int := [100, 65535, 0, 9]
abbrev wkQ : List Int := [30, 5, 7, 65535]
theorem wk1 : appR sMinus [] 1 1 wkQ 1 1 wkP = (1, 1, [0, 0, 7, 65535], 0) := by decide +kernel
theorem wk2 : appR sOver [0, 0] 1 1 wkP 1 1 wkQ = (1, 1, wkQ, 0) := by decide +kernel
theorem wk3 : sizeR sBeside [] 2 3 4 3 = (6, 3, 0) := by decide +kernel
theorem wk4 : chkR sMix [] = 190 := by decide +kernel
theorem wk5 : chkR { data := #[102, 108, 121] } [] = 8 := by decide +kernel
end Go.Proofs.Ytombfebgojeliaa
