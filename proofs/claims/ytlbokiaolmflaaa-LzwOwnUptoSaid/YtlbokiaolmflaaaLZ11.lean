/- LZW: packing: what is kept, and the writing of a code. -/
import Derived.Test.YtlbokiaolmflaaaLZ10
namespace Go.Proofs.Ytlbokiaolmflaaa
open Go Go.Vc Go.RowKit
set_option maxRecDepth 100000
set_option linter.unusedVariables false
set_option linter.unusedSimpArgs false

abbrev kdP : Kd := .agg [.i64, .u8]
def keyP (a : Nat) (x : Int) : Value := .agg #[i64 a, u8 x]
def fnd (a : Nat) (x : Int) : List (Nat × Int) → Nat → Option Nat
  | [], _ => none
  | e :: r, c => if e.1 = a ∧ e.2 = x then some c else fnd a x r (c + 1)
def kvsOf : List (Nat × Int) → Nat → List (Value × Value)
  | [], _ => []
  | e :: r, c => (keyP e.1 e.2, i64 c) :: kvsOf r (c + 1)
theorem keyEq_P (a b : Nat) (x y : Int) : keyEq (keyP a x) (keyP b y) = decide (b = a ∧ y = x) := by
  have e : keyEq (keyP a x) (keyP b y) = (decide ((a : Int) = b) && (decide (x = y) && true)) := rfl
  rw [e]
  by_cases h1 : a = b <;> by_cases h2 : x = y
  · subst h1; subst h2; simp
  · subst h1; simp [h2, Ne.symm h2]
  · have : ¬ (a : Int) = b := by omega
    simp [this, Ne.symm h1]
  · have : ¬ (a : Int) = b := by omega
    simp [this, Ne.symm h1]
theorem mfind_P (a : Nat) (x : Int) : ∀ (E : List (Nat × Int)) (c : Nat), mfind (keyP a x) (kvsOf E c) = (fnd a x E c).map fun n : Nat => i64 n
  | [], _ => rfl
  | e :: r, c => by
    have ih := mfind_P a x r (c + 1)
    show (match keyEq (keyP a x) (keyP e.1 e.2) with | true => some (i64 c) | false => mfind (keyP a x) (kvsOf r (c + 1))) = _
    rw [keyEq_P, fnd]
    by_cases h : e.1 = a ∧ e.2 = x
    · simp [h]
    · simp only [h, decide_false, if_false]; exact ih
theorem mput_P (a : Nat) (x : Int) : ∀ (E : List (Nat × Int)) (c : Nat), fnd a x E c = none → mput (keyP a x) (i64 (c + E.length : Nat)) (kvsOf E c) = kvsOf (E ++ [(a, x)]) c
  | [], _, _ => rfl
  | e :: r, c, h => by
    rw [fnd] at h
    split at h
    · cases h
    rename_i hne
    have ih := mput_P a x r (c + 1) h
    show (match keyEq (keyP a x) (keyP e.1 e.2) with | true => (keyP a x, i64 (c + (e :: r).length : Nat)) :: kvsOf r (c + 1) | false => (keyP e.1 e.2, i64 c) :: mput (keyP a x) (i64 (c + (e :: r).length : Nat)) (kvsOf r (c + 1))) = (keyP e.1 e.2, i64 c) :: kvsOf (r ++ [(a, x)]) (c + 1)
    rw [keyEq_P]
    simp only [hne, decide_false]
    rw [← ih, List.length_cons, show c + (r.length + 1) = c + 1 + r.length by omega]
theorem fnd_some {a : Nat} {x : Int} : ∀ {E : List (Nat × Int)} {c n : Nat}, fnd a x E c = some n → c ≤ n ∧ n < c + E.length ∧ E[n - c]? = some (a, x)
  | [], _, _, h => by cases h
  | e :: r, c, n, h => by
    rw [fnd] at h
    split at h
    · rename_i he
      cases h
      refine ⟨Nat.le_refl _, by simp, ?_⟩
      rw [Nat.sub_self]
      simp [← he.1, ← he.2]
    · obtain ⟨h1, h2, h3⟩ := fnd_some h
      refine ⟨by omega, by rw [List.length_cons]; omega, ?_⟩
      rw [show n - c = (n - (c + 1)) + 1 by omega]; simpa using h3
def wdN (early nx wd : Nat) : Nat := if nx + early = 2 ^ wd ∧ wd < 12 then wd + 1 else wd
def wdA (cl early : Nat) (E : List (Nat × Int)) (wd : Nat) : Nat := if E.length = 0 then wd else wdN early (cl + 2 + E.length) wd
/-- the codes that bytes are packed as, with their widths -/
def pk (cl w0 early : Nat) : List Int → List (Nat × Int) → Nat → Option Nat → List (Nat × Nat)
  | [], _, wd, none => [(cl + 1, wd)]
  | [], E, wd, some a => [(a, wd), (cl + 1, wdA cl early E wd)]
  | x :: r, E, wd, none => pk cl w0 early r E wd (some x.toNat)
  | x :: r, E, wd, some a => match fnd a x E (cl + 2) with
    | some c => pk cl w0 early r E wd (some c)
    | none => if 4090 ≤ cl + 2 + E.length then (a, wd) :: (cl, wdA cl early E wd) :: pk cl w0 early r [] w0 (some x.toNat)
      else (a, wd) :: pk cl w0 early r (E ++ [(a, x)]) (wdA cl early E wd) (some x.toNat)
/-- codes written -/
def putAll (up : Bool) : List (Nat × Nat) → List Int × Nat → List Int × Nat
  | [], s => s
  | e :: r, s => putAll up r (putV up s.1 s.2 e.1 e.2 e.2, s.2 + e.2)
def packL (bs : List Int) (cl w0 early : Nat) (up : Bool) : List Int := (putAll up ((cl, w0) :: pk cl w0 early bs [] w0 none) ([], 0)).1
theorem wdN_range {early nx wd : Nat} (h1 : 1 ≤ wd) (h : wd ≤ 12) : 1 ≤ wdN early nx wd ∧ wdN early nx wd ≤ 12 := by unfold wdN; split <;> omega
theorem wdA_range {cl early : Nat} {E : List (Nat × Int)} {wd : Nat} (h1 : 1 ≤ wd) (h : wd ≤ 12) : 1 ≤ wdA cl early E wd ∧ wdA cl early E wd ≤ 12 := by
  unfold wdA
  split
  · omega
  · exact wdN_range h1 h

/-! ## the memory -/
structure KM (w u : World) (k1 k2 kw kn km wb : Nat) (S : Nat → Prop) (cl w0 early : Nat) (up : Bool) (kvs : List (Value × Value)) (wd nx : Nat) (bs : List Int) (m : Nat) : Prop where
  ext : Ext w u
  ck : Cs u k1 [i64 cl, i64 w0, .bool up, i64 early]
  cr : Cs u k2 [.pointer (some ⟨wb, 0, none⟩)]
  cw : Cs u kw [i64 wd]
  cn : Cs u kn [i64 nx]
  mp : Mp kdP u km kvs
  wr : WrAt u (some ⟨wb, 0, none⟩) wb S bs m up
  ok : WOk up bs m
  lo : w.heap.size ≤ k1 ∧ w.heap.size ≤ k2 ∧ w.heap.size ≤ kw ∧ w.heap.size ≤ kn ∧ w.heap.size ≤ km ∧ w.heap.size ≤ wb
  sl : ∀ i, S i → w.heap.size ≤ i
  nd : (k1 ≠ k2 ∧ k1 ≠ kw ∧ k1 ≠ kn ∧ k1 ≠ km ∧ k1 ≠ wb) ∧ (k2 ≠ kw ∧ k2 ≠ kn ∧ k2 ≠ km ∧ k2 ≠ wb) ∧ (kw ≠ kn ∧ kw ≠ km ∧ kw ≠ wb) ∧ (kn ≠ km ∧ kn ≠ wb) ∧ km ≠ wb
  ns : ∀ i, S i → i ≠ k1 ∧ i ≠ k2 ∧ i ≠ kw ∧ i ≠ kn ∧ i ≠ km
theorem mp_lt {kd : Kd} {w : World} {b : Nat} {kvs : List (Value × Value)} (h : Mp kd w b kvs) : b < w.heap.size := by
  obtain ⟨⟨es, c, h1, _⟩, _⟩ := h
  rcases Nat.lt_or_ge b w.heap.size with h' | h'
  · exact h'
  · rw [Array.getElem?_eq_none h'] at h1; cases h1
section
variable {w u u' : World} {k1 k2 kw kn km wb : Nat} {S : Nat → Prop} {cl w0 early : Nat} {up : Bool} {kvs : List (Value × Value)} {wd nx : Nat} {bs : List Int} {m : Nat}
theorem KM.lts (h : KM w u k1 k2 kw kn km wb S cl w0 early up kvs wd nx bs m) : k1 < u.heap.size ∧ k2 < u.heap.size ∧ kw < u.heap.size ∧ kn < u.heap.size ∧ km < u.heap.size ∧ wb < u.heap.size ∧ ∀ i, S i → i < u.heap.size := by
  obtain ⟨_, _, _, ho⟩ := h.wr.obj
  exact ⟨h.ck.lt, h.cr.lt, h.cw.lt, h.cn.lt, mp_lt h.mp, h.wr.lt, ho.bd⟩
theorem KM.dr (h : KM w u k1 k2 kw kn km wb S cl w0 early up kvs wd nx bs m) : KM w u.drew k1 k2 kw kn km wb S cl w0 early up kvs wd nx bs m :=
  ⟨h.ext.drew, h.ck, h.cr, h.cw, h.cn, h.mp.same rfl, h.wr.ext (Ext.refl u).drew, h.ok, h.lo, h.sl, h.nd, h.ns⟩
theorem KM.put {S' : Nat → Prop} {bs' : List Int} {m' : Nat} (h : KM w u k1 k2 kw kn km wb S cl w0 early up kvs wd nx bs m) (hg : Gr S S' u u') (hC : Chg (fun k => k = wb ∨ S k) u u') (hw : WrAt u' (some ⟨wb, 0, none⟩) wb S' bs' m' up) (hok : WOk up bs' m') : KM w u' k1 k2 kw kn km wb S' cl w0 early up kvs wd nx bs' m' := by
  obtain ⟨l1, l2, l3, l4, l5, l6, l7⟩ := h.lts
  obtain ⟨⟨n1, n2, n3, n4, n5⟩, ⟨n6, n7, n8, n9⟩, ⟨n10, n11, n12⟩, ⟨n13, n14⟩, n15⟩ := h.nd
  have hs := hg.1
  have hws := h.ext.size
  refine ⟨h.ext.step hC fun i hi => ?_, h.ck.chg hC ?_, h.cr.chg hC ?_, h.cw.chg hC ?_, h.cn.chg hC ?_, h.mp.same (hC.block km l5 ?_), hw, hok, h.lo, fun i hi => ?_, h.nd, fun i hi => ?_⟩
  · rcases hi with rfl | hi
    · exact h.lo.2.2.2.2.2
    · exact h.sl i hi
  · rintro (e | hi)
    · exact n5 e
    · exact (h.ns _ hi).1 rfl
  · rintro (e | hi)
    · exact n9 e
    · exact (h.ns _ hi).2.1 rfl
  · rintro (e | hi)
    · exact n12 e
    · exact (h.ns _ hi).2.2.1 rfl
  · rintro (e | hi)
    · exact n14 e
    · exact (h.ns _ hi).2.2.2.1 rfl
  · rintro (e | hi)
    · exact n15 e
    · exact (h.ns _ hi).2.2.2.2 rfl
  · rcases hg.2 i hi with h' | h'
    · exact h.sl i h'
    · omega
  · rcases hg.2 i hi with h' | h'
    · exact h.ns i h'
    · omega
theorem KM.setw (h : KM w u k1 k2 kw kn km wb S cl w0 early up kvs wd nx bs m) (v : Nat) : KM w (setCells u ⟨kw, 0, none⟩ [i64 v] 0) k1 k2 kw kn km wb S cl w0 early up kvs v nx bs m := by
  obtain ⟨l1, l2, l3, l4, l5, l6, l7⟩ := h.lts
  obtain ⟨⟨n1, n2, n3, n4, n5⟩, ⟨n6, n7, n8, n9⟩, ⟨n10, n11, n12⟩, ⟨n13, n14⟩, n15⟩ := h.nd
  have hC := Chg.setCells u ⟨kw, 0, none⟩ [i64 v] 0
  have e : ∀ {k : Nat}, (· = (⟨kw, 0, none⟩ : Addr).block) k → k = kw := fun h => h
  refine ⟨h.ext.step hC fun i hi => by have := e hi; have := h.lo; omega, h.ck.chg hC fun hi => n2 (e hi), h.cr.chg hC fun hi => n6 (e hi), by have := h.cw.set1 (off := 0) (v := i64 v) (by simp); simpa using this, h.cn.chg hC fun hi => n10 (e hi).symm, h.mp.same (hC.block km l5 fun hi => n11 (e hi).symm), h.wr.chg hC (fun hi => n12 (e hi).symm) fun i hi hz => (h.ns i hi).2.2.1 (e hz), h.ok, h.lo, h.sl, h.nd, h.ns⟩
theorem KM.setn (h : KM w u k1 k2 kw kn km wb S cl w0 early up kvs wd nx bs m) (v : Nat) : KM w (setCells u ⟨kn, 0, none⟩ [i64 v] 0) k1 k2 kw kn km wb S cl w0 early up kvs wd v bs m := by
  obtain ⟨l1, l2, l3, l4, l5, l6, l7⟩ := h.lts
  obtain ⟨⟨n1, n2, n3, n4, n5⟩, ⟨n6, n7, n8, n9⟩, ⟨n10, n11, n12⟩, ⟨n13, n14⟩, n15⟩ := h.nd
  have hC := Chg.setCells u ⟨kn, 0, none⟩ [i64 v] 0
  have e : ∀ {k : Nat}, (· = (⟨kn, 0, none⟩ : Addr).block) k → k = kn := fun h => h
  refine ⟨h.ext.step hC fun i hi => by have := e hi; have := h.lo; omega, h.ck.chg hC fun hi => n3 (e hi), h.cr.chg hC fun hi => n7 (e hi), h.cw.chg hC fun hi => n10 (e hi), by have := h.cn.set1 (off := 0) (v := i64 v) (by simp); simpa using this, h.mp.same (hC.block km l5 fun hi => n13 (e hi).symm), h.wr.chg hC (fun hi => n14 (e hi).symm) fun i hi hz => (h.ns i hi).2.2.2.1 (e hz), h.ok, h.lo, h.sl, h.nd, h.ns⟩
theorem KM.setm {kvs' : List (Value × Value)} (h : KM w u k1 k2 kw kn km wb S cl w0 early up kvs wd nx bs m) (hP : Put km u u') (hm : Mp kdP u' km kvs') : KM w u' k1 k2 kw kn km wb S cl w0 early up kvs' wd nx bs m := by
  obtain ⟨l1, l2, l3, l4, l5, l6, l7⟩ := h.lts
  obtain ⟨⟨n1, n2, n3, n4, n5⟩, ⟨n6, n7, n8, n9⟩, ⟨n10, n11, n12⟩, ⟨n13, n14⟩, n15⟩ := h.nd
  have hC := hP.chg
  exact ⟨h.ext.step hC fun i hi => by have := h.lo; omega, h.ck.chg hC n4, h.cr.chg hC n8, h.cw.chg hC n11, h.cn.chg hC n13, hm, h.wr.chg hC (fun hi => n15 hi.symm) fun i hi hz => (h.ns i hi).2.2.2.2 hz, h.ok, h.lo, h.sl, h.nd, h.ns⟩
theorem KM.newm {k : Nat} (h : KM w u k1 k2 kw kn km wb S cl w0 early up kvs wd nx bs m) (hn : New u (.map #[] 0) k u') : KM w u' k1 k2 kw kn k wb S cl w0 early up [] wd nx bs m := by
  obtain ⟨l1, l2, l3, l4, l5, l6, l7⟩ := h.lts
  obtain ⟨⟨n1, n2, n3, n4, n5⟩, ⟨n6, n7, n8, n9⟩, ⟨n10, n11, n12⟩, ⟨n13, n14⟩, n15⟩ := h.nd
  have hE := hn.ext
  have hk := hn.1
  have hlo := h.lo
  have hs := h.ext.size
  refine ⟨h.ext.trans hE, h.ck.ext hE, h.cr.ext hE, h.cw.ext hE, h.cn.ext hE, hn.mp kdP, h.wr.ext hE, h.ok, by omega, h.sl, by omega, fun i hi => ?_⟩
  have := l7 i hi
  have := h.ns i hi
  omega
end
theorem putF_spec {w u : World} {k1 k2 kw kn km wb : Nat} {S : Nat → Prop} {cl w0 early : Nat} {up : Bool} {kvs : List (Value × Value)} {wd nx : Nat} {bs : List Int} {m : Nat} {R : Ending → World → Prop} {a : Nat} {fr : Bool}
    (h : KM w u k1 k2 kw kn km wb S cl w0 early up kvs wd nx bs m) (ha : a < 2 ^ 32) (h1 : 1 ≤ wd) (h2 : wd ≤ 12) (hm : m ≤ 2 ^ 48) (hnx : nx ≤ 2 ^ 20) (he : early ≤ 1)
    (hR : ∀ S' u', KM w u' k1 k2 kw kn km wb S' cl w0 early up kvs (if fr then wdN early (nx + 1) wd else wd) (if fr then nx + 1 else nx) (putV up bs m a wd wd) (m + wd) → R (.returned (.tuple #[])) u') :
    Calls P F.lzw_kind_pack_fn1 #[i64 a, .bool fr, .pointer (some ⟨k2, 0, none⟩), .pointer (some ⟨kw, 0, none⟩), .pointer (some ⟨kn, 0, none⟩), .pointer (some ⟨k1, 0, none⟩)] u R := by
  refine calls_lzw_kind_pack_fn1 _ _ _ _ _ _ _ _ ?_
  refine ⟨_, h.cr.cell (i := 0) rfl, _, h.cw.cell (i := 0) rfl, ?_⟩
  rw [wu32 (x := (a : Int)) (by omega) (by omega)]
  refine Put_spec h.wr h.ok (by omega) (by omega) (by omega) (fun hh => by omega) fun _ _ S' u1 hg hC hw => ⟨_, rfl, ?_⟩
  rw [Int.toNat_natCast] at hw
  have km1 := h.put hg hC hw (by have := putV_ok (v := a) (n := wd) h.ok wd; exact this)
  cases fr with
  | false => exact brB_f rfl (hR S' u1 km1)
  | true =>
    refine brB_t rfl ⟨_, km1.cn.cell (i := 0) rfl, ⟨_, km1.cn.cell (i := 0) rfl⟩, km1.cn.frozen 0, ?_⟩
    rw [w64 (x := (nx : Int) + 1) (by omega) (by omega)]
    have km2 := (km1.setn (nx + 1)).dr
    have e1 : ((nx + 1 : Nat) : Int) = (nx : Int) + 1 := by omega
    rw [e1] at km2
    refine ⟨_, km2.cn.cell (i := 0) rfl, _, km2.cw.cell (i := 0) rfl, by omega, early, by rw [loc_add]; exact km2.ck.cell (i := 3) rfl, ?_⟩
    rw [shl1 wd (by omega), e1]
    have hp := pow_small wd (by omega)
    rw [w64 (x := ((2 ^ wd : Nat) : Int) - early) (by omega) (by omega)]
    have hfin : ∀ wd', wd' = wdN early (nx + 1) wd → ∀ u', KM w u' k1 k2 kw kn km wb S' cl w0 early up kvs wd' (nx + 1) (putV up bs m a wd wd) (m + wd) → R (.returned (.tuple #[])) u' := fun wd' hwd u' hk => by
      subst hwd; exact hR S' u' hk
    refine brB_i (fun hb => ?_) (fun hb => ?_)
    · have hb : (nx : Int) + 1 = ((2 ^ wd : Nat) : Int) - early := by simpa using hb
      refine ⟨_, km2.cw.cell (i := 0) rfl, brB_i (fun hb2 => ?_) (fun hb2 => ?_)⟩
      · have hb2 : (wd : Int) < 12 := by simpa using hb2
        refine ⟨_, km2.cw.cell (i := 0) rfl, ⟨_, km2.cw.cell (i := 0) rfl⟩, km2.cw.frozen 0, ?_⟩
        rw [w64 (x := (wd : Int) + 1) (by omega) (by omega)]
        have km3 := km2.setw (wd + 1)
        have e2 : ((wd + 1 : Nat) : Int) = (wd : Int) + 1 := by omega
        rw [e2] at km3
        refine hfin (wd + 1) ?_ _ km3
        unfold wdN; rw [if_pos (by omega)]
      · have hb2 : ¬ (wd : Int) < 12 := by simpa using hb2
        refine hfin wd ?_ _ km2
        unfold wdN; rw [if_neg (by omega)]
    · have hb : ¬ (nx : Int) + 1 = ((2 ^ wd : Nat) : Int) - early := by simpa using hb
      refine hfin wd ?_ _ km2
      unfold wdN; rw [if_neg (by omega)]
end Go.Proofs.Ytlbokiaolmflaaa
