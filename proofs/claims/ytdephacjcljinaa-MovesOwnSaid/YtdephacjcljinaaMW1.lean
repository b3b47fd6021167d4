/- Walks over many slices: one state for all of them. -/
import Derived.Test.YtdephacjcljinaaML10
namespace Go.Proofs.Ytdephacjcljinaa
open Go Go.Vc Go.RowKit
set_option maxRecDepth 100000
set_option linter.unusedVariables false
set_option linter.unusedSimpArgs false

section
variable {w u : World} {f : Nat → Nat} {L : List Nat} {l : List Tg}
theorem St.img (h : Ths w u f L l) {c len cap : Nat} {p : Option Addr} {xs : List Int} (ht : (⟨c, p, len, cap, 1, px xs⟩ : Tg) ∈ l) : Img u p len xs := ⟨(h.get ht).sl, by have := (h.get ht).len; rwa [px_length] at this⟩
theorem St.ints (h : Ths w u f L l) {c len cap : Nat} {p : Option Addr} {xs : List Int} (ht : (⟨c, p, len, cap, 1, i64s xs⟩ : Tg) ∈ l) (hs : len ≤ 2 ^ 44) : Ints u p len xs := ⟨(h.get ht).sl, by have := (h.get ht).len; rwa [i64s_length] at this, hs⟩
theorem St.room (h : Ths w u f L l) {c len cap sz : Nat} {p : Option Addr} {vs : List Value} (ht : (⟨c, p, len, cap, sz, vs⟩ : Tg) ∈ l) : len ≤ cap := (h.get ht).room
theorem St.start (w : World) : Ths w w (fun _ => 0) [] [] := ⟨⟨Ext.refl w, by simp⟩, by simp⟩
theorem St.locl {bs : List Nat} {X : World → Prop} (h : Ths w u f L l) (hb : ∀ b, b ∈ bs → b ∈ L ∨ u.heap.size ≤ b) (hX : ∀ u' f', Ths w u' f' bs l → X u') : ∀ u', Locl bs u u' → X u' := fun u' hL =>
  hX u' _ ((h.locl hL hb).mono (fun b hm => List.mem_append_left _ hm) fun t ht => ht)
theorem St.new (i : Nat) (vs : List Value) {n : Nat} {arr : Array Value} {e : TypeId} {X : Nat → World → Prop} (h : Ths w u f L l) (h0 : i ≠ 0) (hv : arr.toList = vs) (hn : n = vs.length) (hX : ∀ k u' f', Ext u u' → Ths w u' f' L (⟨i, some ⟨k, 0, none⟩, n, n, 1, vs⟩ :: l) → X k u') :
    ∀ k u', New u (.cells arr e (0, 0)) k u' → X k u' := fun k u' hN =>
  hX k u' _ hN.ext (h.new hN.ext h0 (hN.own (by rw [hv]; exact List.prefix_refl _) (by omega) (by rw [← Array.length_toList, hv]; omega) (Nat.le_refl _) (Nat.le_refl _) (Nat.le_refl _)))
theorem Ints.nil (u : World) : Ints u none 0 [] := ⟨Sl.nil _ _ _, rfl, by omega⟩
theorem own_st (i : Nat) {p : Option Addr} {len cap : Nat} {W H : Int} {xs : List Int} {R : Ending → World → Prop} (h : Ths w u f L l) (hi : Img u p len xs) (hsz : len * 2 ≤ 2 ^ 47) (h0 : i ≠ 0)
    (hK : ∀ p' c' u' f', Ext u u' → Ths w u' f' L (⟨i, p', len, c', 1, px xs⟩ :: l) → R (.returned (.agg #[i64 W, i64 H, .slice p' len c'])) u') : Calls P F.law21_own #[.agg #[i64 W, i64 H, .slice p len cap]] u R :=
  own_spec hi hsz fun p' c' u' hE ho => hK p' c' u' _ hE (h.new hE h0 ho)
theorem apply_st (i : Nat) (r : Int × Int × List Int × Int) {op : ByteArray} {pa p : Option Addr} {la ca lp cp : Nat} {args xs : List Int} {W H : Int} {R : Ending → World → Prop} (h : Ths w u f L l) (ha : Ints u pa la args) (hca : la ≤ ca)
    (hp : Img u p lp xs) (hcp : lp ≤ cp) (hxs : SmL xs) (h0 : i ≠ 0) (hr : appR op args W H xs = r)
    (hK : ∀ p' l' c' u' f', Ext u u' → Ths w u' f' L (⟨i, p', l', c', 1, px r.2.2.1⟩ :: l) → R (.returned (.tuple #[.agg #[i64 r.1, i64 r.2.1, .slice p' l' c'], i64 r.2.2.2])) u') :
    Calls P F.moves_Apply #[.string op, .slice pa la ca, .agg #[i64 W, i64 H, .slice p lp cp]] u R := by
  subst hr
  exact Apply_spec ha hca hp hcp hxs fun p' l' c' u' hf => hK p' l' c' u' _ hf.ext (h.new hf.ext h0 hf.ow)
theorem refApply_st (i : Nat) {op : ByteArray} {pa p : Option Addr} {la ca lp cp : Nat} {args xs : List Int} {W H : Int} {R : Ending → World → Prop} (h : Ths w u f L l) (ha : Ints u pa la args)
    (hp : Img u p lp xs) (hxs : SmL xs) (h0 : i ≠ 0)
    (hK : ∀ p' l' c' u' f', Ext u u' → Ths w u' f' L (⟨i, p', l', c', 1, px (appR op args W H xs).2.2.1⟩ :: l) → R (.returned (.tuple #[.agg #[i64 (appR op args W H xs).1, i64 (appR op args W H xs).2.1, .slice p' l' c'], i64 (appR op args W H xs).2.2.2])) u') :
    Calls P F.ref21_Apply #[.string op, .slice pa la ca, .agg #[i64 W, i64 H, .slice p lp cp]] u R :=
  refApply_spec ha hp hxs fun p' l' c' u' hf => hK p' l' c' u' _ hf.ext (h.new hf.ext h0 hf.ow)
theorem St.len (h : Ths w u f L l) {c len cap : Nat} {p : Option Addr} {xs : List Int} (ht : (⟨c, p, len, cap, 1, px xs⟩ : Tg) ∈ l) : len = xs.length := (St.img h ht).len
end
theorem SmL.of {l : List Int} (h : l.all (fun n => decide (0 ≤ n ∧ n ≤ 65535)) = true) : SmL l := fun n hn => by simpa [Sm] using List.all_eq_true.1 h n hn
abbrev wkM : List Int := [1, 1, 1, 1, 2, 2, 2, 2, 3, 3, 3, 3]
theorem wk1 : appR sRotate [1] 3 1 wkM = (1, 3, wkM, 0) := by decide +kernel
theorem wk3 : sizeR sFrame [2, 0, 0, 0, 0] 3 1 = (7, 5, 0) := by decide +kernel
theorem wk4 : chkR sFlip [1] = 190 := by decide +kernel
set_option maxHeartbeats 4000000 in
theorem Names_spec {w : World} {R : Ending → World → Prop} (hR : ∀ p c w', Ext w w' → Sl w'.heap.size w' p (strs names14) → R (.returned (.slice p 14 c)) w') : Calls P F.moves_Names #[] w R := by
  refine calls_moves_Names _ _ ?_
  refine operators_spec fun k w1 rs hE1 hT => ⟨_, _, _, rfl, ?_⟩
  refine ⟨fun vs u => match vs with | [.slice p l c, .int _ n] => ∃ i : Nat, n = i ∧ i ≤ 14 ∧ l = i ∧ Fg [] w u 1 p l c (strs (names14.take i)) ∧ Tab w.heap.size w1.heap.size u k rs ∧ Fg [] w1 u 1 p l c (strs (names14.take i)) | _ => False, fun vs _ => match vs with | [_, .int _ n] => (14 - n).toNat | _ => 0,
    ⟨0, rfl, by omega, rfl, Fg.nil hE1 1, hT, Fg.nil (Ext.refl _) 1⟩, fun p l c n u hI => ?_⟩
  obtain ⟨i, rfl, hi, rfl, hf, hTu, hf1⟩ := hI
  refine brB_i (fun hlt => ?_) (fun hge => ?_)
  · have hlt : l < 14 := by simp at hlt; omega
    obtain ⟨r, hr, hrm, hnm⟩ := names_get hTu hlt
    refine hTu.row hr fun a1 c0 c1 c2 c3 => ⟨_, _, _, _, _, _, c0, c1, c2, c3, fun k7 hk7 => brB_t (one_row _ _ _ _ _ _) fun k8 hk8 w3 hL3 => ?_⟩
    have s1 := hf1.ext.size
    have f3 := hf1.push hL3 (by simp; omega)
    have hE3 : Ext w1 w3 := f3.ext
    have hname : strs (names14.take (l + 1)) = strs (names14.take l) ++ [.string r.nm] := by
      have hl14 : l < names14.length := hlt
      rw [hnm, List.take_add_one, strs, strs, List.map_append, List.getD, List.getElem?_eq_getElem hl14]
      rfl
    refine f3.app' (by simp [blocks]) rfl rfl (by omega) (by omega) fun p' c' w4 f4 _ _ => ?_
    have hT4 : Tab w.heap.size w1.heap.size w4 k rs := hT.ext f4.ext
    rw [w64 (by omega) (by omega)]
    rw [← hname] at f4
    exact ⟨⟨l + 1, by omega, by omega, rfl, (f4.weak).pre hE1, hT4, f4.weak⟩, by show ((14 : Int) - (l + 1)).toNat < ((14 : Int) - l).toNat; omega⟩
  · have hge : l = 14 := by simp at hge; omega
    subst hge
    exact hR p c u hf.ext hf.sl
end Go.Proofs.Ytdephacjcljinaa
