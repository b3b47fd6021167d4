/- Bmp: the program's palette; opening a file. -/
import Derived.Test.YtjdljddfiddnoaaDoorBM9
namespace Go.Proofs.YtjdljddfiddnoaaDoor
open Go Go.Vc Go.RowKit
set_option maxRecDepth 100000
set_option linter.unusedVariables false
set_option linter.unusedSimpArgs false

theorem set_locl {u : World} {b i : Nat} {vs : List Value} (hb : b < u.heap.size) : Locl [b] u (setCells u ⟨b, i, none⟩ vs 0) :=
  have h := setCells_same vs u ⟨b, i, none⟩ 0
  ⟨h.os, h.tape, h.output, Nat.le_of_eq h.size.symm, fun k _ hk => h.block k (by simpa using hk), fun x hx => by rw [h.size]; simp at hx; omega⟩
theorem getD_drop {l : List Int} {n i : Nat} : (l.drop n).getD i 0 = l.getD (n + i) 0 := by simp [List.getD, List.getElem?_drop]
theorem colours_spec {w0 w : World} {fb : Nat} {p : Option Addr} {len cap : Nat} {bs : List Int} {W H : Int} {dn : Bool} {pk a m0 m1 m2 m3 : Int} {R : Ending → World → Prop} (h : By w0 p len bs) (hcap : len ≤ cap) (ok : HdOk bs) (hd : fD bs ≤ 8) (hE : Ext w0 w) (hfb : w0.heap.size ≤ fb)
    (hC : Cs w fb (fl (.slice p len cap) W H dn (fD bs) pk a m0 m1 m2 m3 (.slice none 0 0)))
    (h1 : palOk bs = false → ∀ u, Ext w0 u → R (.returned (.bool false)) u)
    (h2 : palOk bs = true → ∀ u q n c, Ext w0 u → Cs u fb (fl (.slice p len cap) W H dn (fD bs) pk a m0 m1 m2 m3 (.slice q n c)) → n = (pal bs).length → Ow w0.heap.size u.heap.size u q n c 4 (cos (pal bs)) → R (.returned (.bool true)) u) :
    Calls P F.bmp_file_colours #[.pointer (some ⟨fb, 0, none⟩), i64 (14 + fS bs), i64 (fC bs)] w R := by
  have hlen := h.ln
  have hlim := h.lim
  have hS := ok.s
  have hall := ok.all
  have hd' : fD bs = 1 ∨ fD bs = 4 ∨ fD bs = 8 := by have := ok.d; omega
  have hpr := palN_range h.fit ok hd
  obtain ⟨e1, e2, e3⟩ := pow_shl hd'
  refine calls_bmp_file_colours _ _ _ _ _ ?_
  unfold vc_bmp_file_colours
  refine ⟨fun vs u => vs = [i64 (palN bs)] ∧ u = w, brB_i (fun hc => nn_i rfl ⟨_, hC.cell (i := 4) rfl, e3, ?_, rfl⟩) fun hc => ⟨?_, rfl⟩, fun n2 w1 hI => ?_⟩
  · have hc : fC bs = 0 := by simpa using hc
    rw [e1]; unfold palN; rw [if_pos hc]
  · have hc : ¬ fC bs = 0 := by simpa using hc
    unfold palN; rw [if_neg hc]
  obtain ⟨hv, rfl⟩ := hI
  obtain rfl : n2 = palN bs := by simpa using hv
  refine nn_i rfl ⟨_, _, _, hC.cell (i := 0) rfl, ?_⟩
  rw [w64 (x := 4 * palN bs) (by omega) (by omega), w64 (x := (len : Int) - (14 + fS bs)) (by omega) (by omega)]
  refine brB_i (fun hc => h1 ?_ _ hE) fun hc => ?_
  · unfold palOk; simp at hc ⊢; omega
  have hc : 4 * palN bs ≤ len - 14 - fS bs := by simp at hc; omega
  have hok : palOk bs = true := by unfold palOk; simp; omega
  have hF1 : Fg [fb] w0 w1 4 none 0 0 [] := ⟨hE, ⟨fun _ => False, fun _ h => h.elim, fun _ _ => id, OwB.nil _ _ _⟩, by have := hC.lt; simp; omega⟩
  refine ⟨fun vs u => ∃ (n : Nat) (q : Option Addr) (c : Nat), vs = [i64 n] ∧ (n : Int) ≤ palN bs ∧ Cs u fb (fl (.slice p len cap) W H dn (fD bs) pk a m0 m1 m2 m3 (.slice q n c)) ∧ Fg [fb] w0 u 4 q n c (cos (palL bs n)),
    fun vs _ => match vs with | [.int _ n] => (palN bs - n).toNat | _ => 0, ⟨0, none, 0, rfl, by omega, hC, hF1⟩, fun n3 w2 hI => ?_⟩
  obtain ⟨n, q, c, hv, hn, hC2, hF⟩ := hI
  obtain rfl : n3 = n := by simpa using hv
  refine brB_i (fun hb => ?_) fun hb => ?_
  · have hb : (n : Int) < palN bs := by simpa using hb
    rw [w64 (x := 4 * (n : Int)) (by omega) (by omega), w64 (x := 14 + fS bs + 4 * (n : Int)) (by omega) (by omega), w64 (x := (n : Int) + 1) (by omega) (by omega)]
    refine nn_i rfl ⟨_, _, _, hC2.cell (i := 0) rfl, by omega, by omega, by omega, nn_i rfl ⟨_, _, _, hC2.drew.cell (i := 11) rfl, ?_⟩⟩
    have hB := By.from_ (h.ext hF.ext.drew) hcap (n := (14 + fS bs + 4 * (n : Int)).toNat) (by omega)
    rw [Int.toNat_natCast]
    refine hB.get (by omega) (by omega) fun a1 ha1 => ⟨_, ha1, hB.get (by omega) (by omega) fun a2 ha2 => ⟨_, ha2, hB.get (by omega) (by omega) fun a3 ha3 => ⟨_, ha3, fun k9 hk9 w3 hL3 => ?_⟩⟩⟩
    rw [byte257 (fit_getD hB.fit _), byte257 (fit_getD hB.fit _), byte257 (fit_getD hB.fit _)]
    have hq : palAt bs n = (257 * (bs.drop (14 + fS bs + 4 * (n : Int)).toNat).getD (2 : Int).toNat 0, 257 * (bs.drop (14 + fS bs + 4 * (n : Int)).toNat).getD (1 : Int).toNat 0, 257 * (bs.drop (14 + fS bs + 4 * (n : Int)).toNat).getD (0 : Int).toNat 0, 65535) := by
      unfold palAt
      rw [getD_drop, getD_drop, getD_drop, show (14 + fS bs + 4 * (n : Int)).toNat = (14 + fS bs).toNat + 4 * n by omega]
      rfl
    have hlt := hC2.lt
    have hF3 := hF.dr.push hL3 (by intro b hb; simp at hb; right; omega)
    have hC3 := hC2.drew.locl hL3 (by have : w2.heap.size ≤ k9 := hk9; simp; omega)
    refine hF3.app' (by simp [blocks]) rfl rfl (by omega) (by omega) fun q' c' w4 hF4 kp hs4 => nn_i rfl ?_
    have hC4 := hC3.keep kp (by simp)
    have hne : fb ≠ k9 := by have : w2.heap.size ≤ k9 := hk9; omega
    have hF5 := hF4.push (set_locl (b := fb) (i := 11) (vs := [.slice q' (n + 1) c']) hC4.lt) (by simp)
    refine ⟨⟨_, hC4.cell (i := 11) rfl⟩, hC4.frozen _, by simpa [Addr.add] using hne, ⟨n + 1, q', c', rfl, by omega, hC4.set1 (off := 11) (by simp [fl, hdL]), ?_⟩, by show (palN bs - ((n : Int) + 1)).toNat < (palN bs - (n : Int)).toNat; omega⟩
    rw [palL_succ, cos_append, cos_one, hq]
    exact hF5.mono (by simp)
  · have hb : (n : Int) = palN bs := by simp at hb; omega
    have e : palL bs n = pal bs := by unfold pal; rw [← hb]; rfl
    rw [e] at hF
    exact h2 hok w2 q n c hF.ext hC2 (by rw [← e, palL_length]) hF.ow
/-! ## Opening -/
structure Opn (w u : World) (k1 k2 fb : Nat) (sl : Value) (m : Bool) (file : List Value) : Prop where
  ext : Ext w u
  c1 : Cs u k1 [sl]
  c2 : Cs u k2 [.bool m]
  cf : Cs u fb file
  ge : w.heap.size ≤ k1 ∧ w.heap.size ≤ k2 ∧ w.heap.size ≤ fb
  ne : k1 ≠ k2 ∧ k1 ≠ fb ∧ k2 ≠ fb
section
variable {w u : World} {k1 k2 fb : Nat} {sl : Value} {m : Bool} {file : List Value}
theorem Opn.dr (h : Opn w u k1 k2 fb sl m file) : Opn w u.drew k1 k2 fb sl m file := ⟨h.ext.drew, h.c1.drew, h.c2.drew, h.cf.drew, h.ge, h.ne⟩
theorem Opn.step {u' : World} (h : Opn w u k1 k2 fb sl m file) (hE : Ext u u') : Opn w u' k1 k2 fb sl m file := ⟨h.ext.trans hE, h.c1.ext hE, h.c2.ext hE, h.cf.ext hE, h.ge, h.ne⟩
theorem Opn.set (h : Opn w u k1 k2 fb sl m file) {i : Nat} {v : Value} (hi : i < file.length) : (∃ x, u.cell? ⟨fb, i, none⟩ = some x) ∧ u.frozen? ⟨fb, i, none⟩ = false ∧ Opn w (setCells u ⟨fb, i, none⟩ [v] 0) k1 k2 fb sl m (file.set i v) := by
  have hL := set_locl (u := u) (b := fb) (i := i) (vs := [v]) h.cf.lt
  refine ⟨⟨_, h.cf.cell (List.getElem?_eq_getElem hi)⟩, h.cf.frozen _, ⟨h.ext.step hL.chg (by have := h.ge; simp; omega), h.c1.locl hL (by have := h.ne; simp; omega), h.c2.locl hL (by have := h.ne; simp; omega), h.cf.set1 hi, h.ge, h.ne⟩⟩
theorem Opn.chg {u' : World} {m' : Bool} (h : Opn w u k1 k2 fb sl m file) (hc : Chg (· = k2) u u') (h2 : Cs u' k2 [.bool m']) : Opn w u' k1 k2 fb sl m' file :=
  ⟨h.ext.step hc fun i hi => by have hi : i = k2 := hi; rw [hi]; exact h.ge.2.1, h.c1.chg hc h.ne.1, h2, h.cf.chg hc (Ne.symm h.ne.2.2), h.ge, h.ne⟩
theorem Opn.num {p : Option Addr} {len cap : Nat} {bs : List Int} {a n v : Int} {R : Ending → World → Prop} (h : Opn w u k1 k2 fb (.slice p len cap) m file) (hB : By w p len bs) (n1 : 1 ≤ n) (n4 : n ≤ 4) (a0 : 0 ≤ a) (a1 : a + n ≤ len) (hv : litN bs a.toNat n.toNat = v)
    (hR : ∀ u', Opn w u' k1 k2 fb (.slice p len cap) m file → R (.returned (i64 v)) u') : Calls P F.bmp_open_fn1 #[i64 a, i64 n, .pointer (some ⟨k1, 0, none⟩), .pointer (some ⟨k2, 0, none⟩)] u R :=
  num_s (hB.ext h.ext) h.c1 h.c2 (fun he u' hc hcs => hv ▸ hR u' (h.chg hc hcs)) fun hne => (hne (by unfold thereE; rw [if_neg (by omega), if_neg (by omega)])).elim
end
def opE (bs : List Int) : Int := if hE bs ≠ 0 then hE bs else if (mkOk bs && (decide (8 < fD bs) || palOk bs)) = true then 0 else 9
theorem pk_hd {d pk h r : Int} (h0 : h ≠ 0) : (if d ≠ 1 ∧ d ≠ 4 ∧ d ≠ 8 ∧ d ≠ 16 ∧ d ≠ 24 ∧ d ≠ 32 then 9 else
  if pk = 4 ∨ pk = 5 then 10 else
  if (pk ≠ 0 ∧ ¬ (pk = 1 ∧ d = 8 ∨ pk = 2 ∧ d = 4) ∧ ¬ ((pk = 3 ∨ pk = 6) ∧ (d = 16 ∨ d = 32))) ∨ ((pk = 1 ∧ d = 8 ∨ pk = 2 ∧ d = 4) ∧ h < 0) then 9 else r) = if pkE d pk (decide (h < 0)) ≠ 0 then pkE d pk (decide (h < 0)) else r := by
  unfold pkE
  by_cases hn : h < 0
  · rw [decide_eq_true hn]
    simp only [Bool.true_eq_false, and_false, false_or, or_false]
    repeat' split
    all_goals first | omega | rfl
  · rw [decide_eq_false hn]
    simp only [and_true]
    repeat' split
    all_goals first | omega | rfl
theorem sg32 {v : Int} (h0 : 0 ≤ v) (h1 : v < 4294967296) : IntKind.i64.wrap (IntKind.i32.wrap v) = sg v := by
  have e : IntKind.i32.wrap v = sg v := by
    unfold sg
    simp [IntKind.wrap, IntKind.signed, IntKind.bits]
    split <;> omega
  rw [e]
  exact w64 (by unfold sg; split <;> omega) (by unfold sg; split <;> omega)
end Go.Proofs.YtjdljddfiddnoaaDoor
