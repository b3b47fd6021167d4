/- LZW: what its codes mean, by a table of strings; the program's table of entries. -/
import Derived.Test.YtiiaihiliimcoaaRPA4
import Derived.Test.YtiiaihiliimcoaaRPA6
set_option linter.unusedVariables false
set_option linter.unusedSimpArgs false
namespace Go.Proofs.Ytiiaihiliimcoaa
open Go Go.Vc Go.RowKit
set_option maxRecDepth 100000
def strOf (cl : Nat) (T : List (List Int)) (c : Nat) : List Int := if c < cl then [(c : Int)] else T.getD (c - cl - 2) []
structure LS where
 pos : Nat
 wd : Nat
 ah : Option Nat
 A : List Nat
 T : List (List Int)
 out : List Int
def wid (early n wd : Nat) : Nat := if n + 1 + early = 2 ^ wd ∧ wd < 12 then wd + 1 else wd
def lz (bs : List Int) (up : Bool) (cl w0 early : Nat) (most : Int) : Nat → LS → List Int × Int
 | 0, _ => ([], 5)
 | F + 1, s =>
  if 8 * bs.length < s.pos + s.wd then ([], 5) else
  let v := (takeV bs up s.pos s.wd).toNat
  if v = cl then lz bs up cl w0 early most F ⟨s.pos + s.wd, w0, none, [], [], s.out⟩
  else if v = cl + 1 then (s.out, 0)
  else match s.ah with
   | none => if cl < v then ([], 32) else
    if most < (s.out.length + 1 : Nat) then ([], 3) else lz bs up cl w0 early most F ⟨s.pos + s.wd, s.wd, some v, s.A, s.T, s.out ++ [(v : Int)]⟩
   | some a =>
    if cl + 2 + s.T.length < v ∨ (v = cl + 2 + s.T.length ∧ 4096 ≤ cl + 2 + s.T.length) then ([], 32) else
    let t := if v = cl + 2 + s.T.length then strOf cl s.T a ++ [(strOf cl s.T a).headD 0] else strOf cl s.T v
    if most < (s.out.length + t.length : Nat) then ([], 3) else
    if cl + 2 + s.T.length < 4096 then lz bs up cl w0 early most F ⟨s.pos + s.wd, wid early (cl + 2 + s.T.length) s.wd, some v, s.A ++ [a], s.T ++ [strOf cl s.T a ++ [t.headD 0]], s.out ++ t⟩
    else lz bs up cl w0 early most F ⟨s.pos + s.wd, s.wd, some v, s.A, s.T, s.out ++ t⟩
def vcode (cl n : Nat) (c : Nat) : Prop := c < cl ∨ (cl + 2 ≤ c ∧ c < cl + 2 + n)
theorem vcode.mono {cl n m c : Nat} (h : vcode cl n c) (hnm : n ≤ m) : vcode cl m c := by unfold vcode at *; omega
structure Inv (cl : Nat) (s : LS) : Prop where
 cl256 : cl ≤ 256
 cl4 : 4 ≤ cl
 wd1 : 1 ≤ s.wd
 wd12 : s.wd ≤ 12
 full : cl + 2 + s.T.length ≤ 4096
 la : s.A.length = s.T.length
 tab : ∀ j, j < s.T.length → vcode cl j (s.A.getD j 0) ∧ (∃ l, s.T.getD j [] = strOf cl s.T (s.A.getD j 0) ++ [l]) ∧ (s.T.getD j []).length ≤ j + 2 ∧ Bs (s.T.getD j [])
 ahv : ∀ a, s.ah = some a → vcode cl s.T.length a
 none_ : s.ah = none → s.T = []
 fit : Bs s.out
 long : s.out.length ≤ 4096 * s.pos
theorem strOf_lt {cl c : Nat} (T : List (List Int)) (h : c < cl) : strOf cl T c = [(c : Int)] := by simp [strOf, h]
theorem strOf_ge {cl c : Nat} (T : List (List Int)) (h : cl + 2 ≤ c) : strOf cl T c = T.getD (c - cl - 2) [] := by
 have : ¬ c < cl := by omega
 simp [strOf, this]
theorem strOf_app {cl c : Nat} {T : List (List Int)} (x : List (List Int)) (h : vcode cl T.length c) : strOf cl (T ++ x) c = strOf cl T c := by
 unfold strOf
 split
 ·rfl
 ·have : c - cl - 2 < T.length := by unfold vcode at h; omega
  simp [List.getD, List.getElem?_append_left this]
theorem Inv.str {cl : Nat} {s : LS} (h : Inv cl s) {c : Nat} (hc : vcode cl s.T.length c) : Bs (strOf cl s.T c) ∧ 1 ≤ (strOf cl s.T c).length ∧ (strOf cl s.T c).length ≤ 4096 := by
 have h1 := h.cl256
 have h2 := h.full
 rcases hc with hc | hc
 ·rw [strOf_lt _ hc]
  refine ⟨fun n hn => ?_, by simp, by simp⟩
  simp at hn; omega
 ·rw [strOf_ge _ hc.1]
  obtain ⟨h3, ⟨l, h4⟩, h5, h6⟩ := h.tab (c - cl - 2) (by omega)
  refine ⟨h6, ?_, by omega⟩
  rw [h4]; simp
theorem getD_append_last {α : Type} (l : List α) (a d : α) : (l ++ [a]).getD l.length d = a := by simp [List.getD]
theorem getD_append_lt {α : Type} {l : List α} {i : Nat} (h : i < l.length) (x : List α) (d : α) : (l ++ x).getD i d = l.getD i d := by simp [List.getD, List.getElem?_append_left h]
theorem wid_range {early n wd : Nat} (h1 : 1 ≤ wd) (h : wd ≤ 12) : 1 ≤ wid early n wd ∧ wid early n wd ≤ 12 := by unfold wid; split <;> omega
theorem Bs.append {a b : List Int} (ha : Bs a) (hb : Bs b) : Bs (a ++ b) := fun n hn => by rcases List.mem_append.1 hn with h | h; exact ha n h; exact hb n h
theorem Bs.headD {a : List Int} (ha : Bs a) : 0 ≤ a.headD 0 ∧ a.headD 0 ≤ 255 := by cases a with | nil => simp | cons x l => exact ha x (by simp)
theorem Bs.single {n : Int} (h : 0 ≤ n ∧ n ≤ 255) : Bs [n] := fun m hm => by simp at hm; subst hm; exact h
theorem Inv.first {cl : Nat} {s : LS} (h : Inv cl s) {v : Nat} (hv : v < cl) : Inv cl ⟨s.pos + s.wd, s.wd, some v, s.A, s.T, s.out ++ [(v : Int)]⟩ := by
 have h1 := h.cl256
 have h2 := h.long
 have h3 := h.wd1
 exact ⟨h.cl256, h.cl4, h.wd1, h.wd12, h.full, h.la, h.tab, fun a ha => (by cases ha; exact .inl hv), fun e => (by cases e), h.fit.append (Bs.single (by omega)), by simp only [List.length_append, List.length_singleton]; omega⟩
theorem Inv.clear {cl w0 : Nat} {s : LS} (h : Inv cl s) (h1 : 1 ≤ w0) (h2 : w0 ≤ 12) : Inv cl ⟨s.pos + s.wd, w0, none, [], [], s.out⟩ := by
 have h3 := h.long
 have := h.cl256
 exact ⟨h.cl256, h.cl4, h1, h2, by simp; omega, rfl, by simp, by simp, fun _ => rfl, h.fit, by simp only; omega⟩
def givenS (cl : Nat) (s : LS) (a v : Nat) : List Int := if v = cl + 2 + s.T.length then strOf cl s.T a ++ [(strOf cl s.T a).headD 0] else strOf cl s.T v
theorem Inv.given {cl : Nat} {s : LS} (h : Inv cl s) {a v : Nat} (ha : s.ah = some a) (hv : vcode cl (s.T.length + 1) v) (hf : v = cl + 2 + s.T.length → cl + 2 + s.T.length < 4096) : Bs (givenS cl s a v) ∧ 1 ≤ (givenS cl s a v).length ∧ (givenS cl s a v).length ≤ 4096 := by
 have hva := h.ahv a ha
 obtain ⟨s1, s2, s3⟩ := h.str hva
 unfold givenS
 split
 ·rename_i e
  have h4 := hf e
  refine ⟨s1.append (Bs.single s1.headD), by simp, ?_⟩
  simp only [List.length_append, List.length_singleton]
  rcases hva with hva | hva
  ·rw [strOf_lt _ hva]; simp
  ·rw [strOf_ge _ hva.1]
   have := (h.tab (a - cl - 2) (by omega)).2.2.1
   omega
 ·exact h.str (by unfold vcode at *; omega)
theorem Inv.next {cl early : Nat} {s : LS} (h : Inv cl s) {a v : Nat} (ha : s.ah = some a) (hv : vcode cl (s.T.length + 1) v) (hf : v = cl + 2 + s.T.length → cl + 2 + s.T.length < 4096) (hn : cl + 2 + s.T.length < 4096) :
  Inv cl ⟨s.pos + s.wd, wid early (cl + 2 + s.T.length) s.wd, some v, s.A ++ [a], s.T ++ [strOf cl s.T a ++ [(givenS cl s a v).headD 0]], s.out ++ givenS cl s a v⟩ := by
 have hva := h.ahv a ha
 obtain ⟨s1, s2, s3⟩ := h.str hva
 obtain ⟨g1, g2, g3⟩ := h.given ha hv hf
 have hw := wid_range (early := early) (n := cl + 2 + s.T.length) h.wd1 h.wd12
 have hl := h.long
 have hw1 := h.wd1
 refine ⟨h.cl256, h.cl4, hw.1, hw.2, by simp only [List.length_append, List.length_singleton]; omega, by simp [h.la], fun j hj => ?_, fun b hb => (by cases hb; simpa using hv), fun e => (by cases e), h.fit.append g1, by simp only [List.length_append]; omega⟩
 simp only [List.length_append, List.length_singleton] at hj
 by_cases hjl : j < s.T.length
 ·obtain ⟨t1, ⟨l, t2⟩, t3, t4⟩ := h.tab j hjl
  simp only
  rw [getD_append_lt (by rw [h.la]; exact hjl), getD_append_lt hjl]
  exact ⟨t1, ⟨l, by rw [t2, strOf_app _ (t1.mono (by omega))]⟩, t3, t4⟩
 ·have : j = s.T.length := by omega
  subst this
  simp only
  rw [getD_append_last, show (s.A ++ [a]).getD s.T.length 0 = a by rw [← h.la, getD_append_last]]
  refine ⟨hva, ⟨_, by rw [strOf_app _ hva]⟩, ?_, s1.append (Bs.single g1.headD)⟩
  simp only [List.length_append, List.length_singleton]
  rcases hva with hva | hva
  ·rw [strOf_lt _ hva]; simp
  ·rw [strOf_ge _ hva.1]
   have := (h.tab (a - cl - 2) (by omega)).2.2.1
   omega
theorem Inv.keep {cl : Nat} {s : LS} (h : Inv cl s) {a v : Nat} (ha : s.ah = some a) (hv : vcode cl (s.T.length + 1) v) (hn : cl + 2 + s.T.length = 4096) (hf : v ≠ cl + 2 + s.T.length) :
  Inv cl ⟨s.pos + s.wd, s.wd, some v, s.A, s.T, s.out ++ givenS cl s a v⟩ := by
 obtain ⟨g1, g2, g3⟩ := h.given ha hv (fun e => absurd e hf)
 have hl := h.long
 have hw1 := h.wd1
 exact ⟨h.cl256, h.cl4, h.wd1, h.wd12, h.full, h.la, h.tab, fun b hb => (by cases hb; unfold vcode at *; simp only; omega), fun e => (by cases e), h.fit.append g1, by simp only [List.length_append]; omega⟩
abbrev En := Int × Int × Int × Int
def ent (e : En) : List Value := [i64 e.1, u8 e.2.1, u8 e.2.2.1, i64 e.2.2.2]
def enOf (a : Nat) (t : List Int) : En := ((a : Int), t.getLastD 0, t.headD 0, (t.length : Int))
def bases (cl : Nat) : List En := (List.range cl).map (fun i : Nat => ((-1, (i : Int), (i : Int), 1) : En)) ++ [(0, 0, 0, 0), (0, 0, 0, 0)]
def tabL (cl : Nat) (A : List Nat) (T : List (List Int)) : List En := bases cl ++ List.zipWith enOf A T
theorem bases_length (cl : Nat) : (bases cl).length = cl + 2 := by simp [bases]
theorem tabL_length {cl : Nat} {A : List Nat} {T : List (List Int)} (h : A.length = T.length) : (tabL cl A T).length = cl + 2 + T.length := by simp [tabL, bases_length, h]
theorem tabL_add {cl : Nat} {A : List Nat} {T : List (List Int)} (h : A.length = T.length) (a : Nat) (t : List Int) : tabL cl (A ++ [a]) (T ++ [t]) = tabL cl A T ++ [enOf a t] := by
 unfold tabL
 rw [List.zipWith_append h]
 simp
theorem tabL_cut {cl : Nat} {A : List Nat} {T : List (List Int)} : (tabL cl A T).take (cl + 2) = tabL cl [] [] := by
 unfold tabL
 rw [List.take_append_of_le_length (by rw [bases_length]; omega)]
 simp [← bases_length]
theorem Inv.at_ {cl : Nat} {s : LS} (h : Inv cl s) {c : Nat} (hc : vcode cl s.T.length c) :
  ∃ (a l : Int), (tabL cl s.A s.T)[c]? = some (a, l, (strOf cl s.T c).headD 0, ((strOf cl s.T c).length : Int)) ∧ ((a = -1 ∧ strOf cl s.T c = [l]) ∨ ∃ a' : Nat, a = a' ∧ vcode cl s.T.length a' ∧ a' < c ∧ strOf cl s.T c = strOf cl s.T a' ++ [l]) := by
 unfold tabL
 rcases hc with hc | hc
 ·refine ⟨-1, c, ?_, .inl ⟨rfl, strOf_lt _ hc⟩⟩
  rw [List.getElem?_append_left (by rw [bases_length]; omega), bases, List.getElem?_append_left (by simpa using hc), strOf_lt _ hc]
  simp [hc]
 ·have hj : c - cl - 2 < s.T.length := by omega
  obtain ⟨t1, ⟨l, t2⟩, t3, t4⟩ := h.tab (c - cl - 2) hj
  have hla := h.la
  refine ⟨(s.A.getD (c - cl - 2) 0 : Int), l, ?_, .inr ⟨s.A.getD (c - cl - 2) 0, rfl, t1.mono (by omega), by unfold vcode at t1; omega, by rw [strOf_ge _ hc.1]; exact t2⟩⟩
  rw [List.getElem?_append_right (by rw [bases_length]; omega), bases_length, strOf_ge _ hc.1, show c - (cl + 2) = c - cl - 2 by omega, List.getElem?_zipWith]
  have e1 : s.A[c - cl - 2]? = some (s.A.getD (c - cl - 2) 0) := by simp [List.getD, List.getElem?_eq_getElem (show c - cl - 2 < s.A.length by omega)]
  have e2 : s.T[c - cl - 2]? = some (s.T.getD (c - cl - 2) []) := by simp [List.getD, List.getElem?_eq_getElem hj]
  rw [e1, e2]
  simp only [enOf]
  have : (s.T.getD (c - cl - 2) []).getLastD 0 = l := by rw [t2]; simp
  rw [this]
end Go.Proofs.Ytiiaihiliimcoaa
namespace Go.Proofs.Ytiiaihiliimcoaa
open Go Go.Vc Go.RowKit
set_option maxRecDepth 100000
theorem cellsF_append {α : Type} (f : α → List Value) (a b : List α) : cellsF f (a ++ b) = cellsF f a ++ cellsF f b := by simp [cellsF]
theorem cellsF_one {α : Type} (f : α → List Value) (a : α) : cellsF f [a] = f a := by simp [cellsF]
theorem cellsF_take {α : Type} {f : α → List Value} {sz : Nat} (hf : ∀ a, (f a).length = sz) (xs : List α) (n : Nat) : (cellsF f xs).take (n * sz) = cellsF f (xs.take n) := by
 rcases Nat.lt_or_ge xs.length n with h | h
 ·rw [List.take_of_length_le (by rw [cellsF_length hf]; exact Nat.mul_le_mul_right _ (by omega)), List.take_of_length_le (by omega)]
 ·have h1 : cellsF f xs = cellsF f (xs.take n) ++ cellsF f (xs.drop n) := by rw [← cellsF_append, List.take_append_drop]
  have h2 : (cellsF f (xs.take n)).length = n * sz := by rw [cellsF_length hf, List.length_take]; congr 1; omega
  rw [h1, ← h2, List.take_left]
theorem cellsF_drop {α : Type} {f : α → List Value} {sz : Nat} (hf : ∀ a, (f a).length = sz) (xs : List α) (n : Nat) : (cellsF f xs).drop (n * sz) = cellsF f (xs.drop n) := by
 have h1 : cellsF f xs = cellsF f (xs.take n) ++ cellsF f (xs.drop n) := by rw [← cellsF_append, List.take_append_drop]
 have h3 := cellsF_take hf xs n
 have h4 : cellsF f (xs.take n) ++ (cellsF f xs).drop (n * sz) = cellsF f (xs.take n) ++ cellsF f (xs.drop n) := by rw [← h1, ← h3, List.take_append_drop]
 exact List.append_cancel_left h4
theorem cellsF_set {α : Type} {f : α → List Value} {sz : Nat} (hf : ∀ a, (f a).length = sz) {xs : List α} {i : Nat} (hi : i < xs.length) (a : α) : (cellsF f xs).take (i * sz) ++ f a ++ (cellsF f xs).drop (i * sz + (f a).length) = cellsF f (xs.set i a) := by
 rw [hf, show i * sz + sz = (i + 1) * sz by rw [Nat.add_mul]; omega, cellsF_take hf, cellsF_drop hf, List.set_eq_take_append_cons_drop, if_pos hi, ← cellsF_one f a, ← cellsF_append, ← cellsF_append]
 simp
theorem ent_length (e : En) : (ent e).length = 4 := rfl
theorem rep_cells {α : Type} (f : α → List Value) (n : Nat) (c : α) : rep n (f c) = cellsF f (List.replicate n c) := by
 induction n with
 | zero => rfl
 | succ n ih => rw [List.replicate_succ, rep, ih]; simp [cellsF]
def fromK (cl k : Nat) : List En := (List.range k).map (fun i : Nat => ((-1, (i : Int), (i : Int), 1) : En)) ++ List.replicate (4096 - k) (0, 0, 0, 0)
theorem fromK_length (cl k : Nat) (h : k ≤ 4096) : (fromK cl k).length = 4096 := by simp [fromK]; omega
theorem fromK_next (cl k : Nat) (h : k < 4096) : (fromK cl k).set k (-1, (k : Int), (k : Int), 1) = fromK cl (k + 1) := by
 unfold fromK
 rw [List.set_append_right _ _ (by simp), List.range_succ, List.map_append]
 simp only [List.length_map, List.length_range, Nat.sub_self]
 rw [show 4096 - k = (4096 - (k + 1)) + 1 by omega, List.replicate_succ]
 simp
theorem fromK_bases (cl : Nat) (h : cl + 2 ≤ 4096) : fromK cl cl = bases cl ++ List.replicate (4096 - (cl + 2)) (0, 0, 0, 0) := by
 unfold fromK bases
 rw [show 4096 - cl = (4096 - (cl + 2)) + 2 by omega, List.replicate_succ, List.replicate_succ, List.append_assoc]; rfl
theorem entries_spec {cl : Nat} {x2 x3 : Int} {up : Bool} {w : World} {R : Ending → World → Prop} (hcl : cl ≤ 256)
  (hR : ∀ p w', Ext w w' → Ow w.heap.size w'.heap.size w' p (cl + 2) 4096 4 (cellsF ent (tabL cl [] [])) → R (.returned (.slice p (cl + 2) 4096)) w') :
  Calls P F.lzw_kind_entries #[.agg #[i64 cl, i64 x2, .bool up, i64 x3]] w R := by
 refine calls_lzw_kind_entries _ _ _ _ _ _ ?_
 intro k1 hk1 w1 hL1
 rw [w64 (x := (cl : Int) + 2) (by omega) (by omega)]
 refine ⟨by omega, by omega, by omega, by omega, fun k2 w2 hn => ?_⟩
 have hE1 : Ext w w1 := hL1.ext (by simpa using hk1)
 have hs1 := hE1.size
 have hk2 := hn.1
 have hk1lt := hL1.there k1 (by simp)
 have hc := hn.cs
 rw [mkCells_rep, show [i64 0, u8 0, u8 0, i64 0] = ent (0, 0, 0, 0) from rfl, rep_cells] at hc
 refine ⟨fun vs u => match vs with | [.int _ n] => 0 ≤ n ∧ n ≤ cl ∧ Ext w u ∧ Cs u k2 (cellsF ent (fromK cl n.toNat)) | _ => False,
  fun vs _ => match vs with | [.int _ n] => ((cl : Int) - n).toNat | _ => 0, ⟨by omega, by omega, hE1.trans hn.ext, by simpa [fromK] using hc⟩, fun n u hI => ?_⟩
 obtain ⟨n0, n1, hE, hcs⟩ := hI
 refine brB_i (fun hlt => ?_) (fun hge => ?_)
 ·have hlt : n < cl := by simpa using hlt
  have hcl4 := fromK_length cl n.toNat (by omega)
  have hset := hcs.canSet (off := n.toNat * 4) (n := 4) (by rw [cellsF_length ent_length, hcl4]; omega)
  have hnew := hcs.set (off := n.toNat * 4) (us := ent (-1, n, n, 1)) (by rw [cellsF_length ent_length, hcl4, ent_length]; omega)
  rw [cellsF_set ent_length (by rw [hcl4]; omega)] at hnew
  have e : (n.toNat : Int) = n := by omega
  have hfn := fromK_next cl n.toNat (by omega)
  rw [e] at hfn
  rw [hfn] at hnew
  refine idx_i n0 (by omega) rfl ?_
  rw [loc_add]
  simp only [Nat.zero_add] at *
  have hu : IntKind.u8.wrap n = n := wu8 n0 (by omega)
  have h0 := hset 0 (by omega)
  rw [loc_add] at h0
  refine ⟨h0.1, h0.2, (hset 1 (by omega)).1, (hset 1 (by omega)).2, (hset 2 (by omega)).1, (hset 2 (by omega)).2, (hset 3 (by omega)).1, (hset 3 (by omega)).2, by simp; omega, ?_⟩
  rw [w64 (x := n + 1) (by omega) (by omega), hu]
  have hck := Chg.setCells u ⟨k2, n.toNat * 4, none⟩ (ent (-1, n, n, 1)) 0
  refine ⟨⟨by omega, by omega, hE.step hck fun i hi => by have hi : i = k2 := hi; omega, ?_⟩, by show (_ : Nat) < _; omega⟩
  rw [show (n + 1).toNat = n.toNat + 1 by omega]
  exact hnew
 ·have hge : ¬ n < cl := by simpa using hge
  have e : n.toNat = cl := by omega
  rw [e, fromK_bases cl (by omega), cellsF_append] at hcs
  rw [show ((cl : Int) + 2).toNat = cl + 2 by omega]
  refine hR _ _ hE ⟨?_, by omega, .inr ⟨k2, cellsF ent (List.replicate (4096 - (cl + 2)) (0, 0, 0, 0)), by omega, hcs.lt, rfl, ?_, ?_⟩⟩
  ·rw [cellsF_length ent_length, tabL_length rfl]; simp
  ·rw [cellsF_length ent_length, cellsF_length ent_length, tabL_length rfl]; simp; omega
  ·simpa [tabL] using hcs
end Go.Proofs.Ytiiaihiliimcoaa
namespace Go.Proofs.Ytiiaihiliimcoaa
open Go Go.Vc Go.RowKit
set_option maxRecDepth 100000
def initS (w0 : Nat) : LS := ⟨0, w0, none, [], [], []⟩
def ahI : Option Nat → Int
 | none => -1
 | some a => a
def tOf (cl : Nat) (s : LS) (v : Nat) : List Int := match s.ah with | none => [(v : Int)] | some a => givenS cl s a v
def nextS (cl early : Nat) (s : LS) (v : Nat) : LS := match s.ah with
 | none => ⟨s.pos + s.wd, s.wd, some v, s.A, s.T, s.out ++ [(v : Int)]⟩
 | some a => if cl + 2 + s.T.length < 4096 then ⟨s.pos + s.wd, wid early (cl + 2 + s.T.length) s.wd, some v, s.A ++ [a], s.T ++ [strOf cl s.T a ++ [(givenS cl s a v).headD 0]], s.out ++ givenS cl s a v⟩
  else ⟨s.pos + s.wd, s.wd, some v, s.A, s.T, s.out ++ givenS cl s a v⟩
def badC (cl : Nat) (s : LS) (v : Nat) : Prop := match s.ah with
 | none => cl < v
 | some _ => cl + 2 + s.T.length < v ∨ (v = cl + 2 + s.T.length ∧ 4096 ≤ cl + 2 + s.T.length)
instance (cl : Nat) (s : LS) (v : Nat) : Decidable (badC cl s v) := by unfold badC; split <;> infer_instance
theorem lz_step {bs : List Int} {up : Bool} {cl w0 early : Nat} {most : Int} {F : Nat} {s : LS} : lz bs up cl w0 early most (F + 1) s =
  if 8 * bs.length < s.pos + s.wd then ([], 5) else
  if (takeV bs up s.pos s.wd).toNat = cl then lz bs up cl w0 early most F ⟨s.pos + s.wd, w0, none, [], [], s.out⟩
  else if (takeV bs up s.pos s.wd).toNat = cl + 1 then (s.out, 0)
  else if badC cl s (takeV bs up s.pos s.wd).toNat then ([], 32)
  else if most < (s.out.length + (tOf cl s (takeV bs up s.pos s.wd).toNat).length : Nat) then ([], 3) else lz bs up cl w0 early most F (nextS cl early s (takeV bs up s.pos s.wd).toNat) := by
 obtain ⟨pos, wd, ah, A, T, out⟩ := s
 cases ah with
 | none => rfl
 | some a =>
  rw [lz]
  simp only [badC, tOf, nextS, givenS]
  repeat' split
  all_goals first | rfl | (simp_all; done) | omega
structure Nxt (cl early : Nat) (s : LS) (v : Nat) : Prop where
 inv : Inv cl (nextS cl early s v)
 out : (nextS cl early s v).out = s.out ++ tOf cl s v
 pos : (nextS cl early s v).pos = s.pos + s.wd
 ah : (nextS cl early s v).ah = some v
 str : strOf cl (nextS cl early s v).T v = tOf cl s v
 code : vcode cl (nextS cl early s v).T.length v
 fit : Bs (tOf cl s v)
 one : 1 ≤ (tOf cl s v).length
 most : (tOf cl s v).length ≤ 4096
theorem Inv.nxt {cl early : Nat} {s : LS} (h : Inv cl s) {v : Nat} (h1 : v ≠ cl) (h2 : v ≠ cl + 1) (hb : ¬ badC cl s v) : Nxt cl early s v := by
 have hcl := h.cl256
 rcases hah : s.ah with _ | a
 ·have hv : v < cl := by simp only [badC, hah] at hb; omega
  have e1 : nextS cl early s v = ⟨s.pos + s.wd, s.wd, some v, s.A, s.T, s.out ++ [(v : Int)]⟩ := by simp only [nextS, hah]
  have e2 : tOf cl s v = [(v : Int)] := by simp only [tOf, hah]
  have hn := h.first hv
  refine ⟨by rw [e1]; exact hn, by rw [e1, e2], by rw [e1], by rw [e1], by rw [e1, e2]; exact strOf_lt _ hv, by rw [e1]; exact .inl hv, by rw [e2]; exact Bs.single (by omega), by rw [e2]; simp, by rw [e2]; simp⟩
 ·have hb' : ¬ (cl + 2 + s.T.length < v ∨ (v = cl + 2 + s.T.length ∧ 4096 ≤ cl + 2 + s.T.length)) := by simpa only [badC, hah] using hb
  have hv : vcode cl (s.T.length + 1) v := by unfold vcode; omega
  have hf : v = cl + 2 + s.T.length → cl + 2 + s.T.length < 4096 := by omega
  have e2 : tOf cl s v = givenS cl s a v := by simp only [tOf, hah]
  obtain ⟨g1, g2, g3⟩ := h.given hah hv hf
  have hfull := h.full
  have hva := h.ahv a hah
  by_cases hn : cl + 2 + s.T.length < 4096
  ·have e1 : nextS cl early s v = ⟨s.pos + s.wd, wid early (cl + 2 + s.T.length) s.wd, some v, s.A ++ [a], s.T ++ [strOf cl s.T a ++ [(givenS cl s a v).headD 0]], s.out ++ givenS cl s a v⟩ := by simp only [nextS, hah, if_pos hn]
   refine ⟨by rw [e1]; exact h.next hah hv hf hn, by rw [e1, e2], by rw [e1], by rw [e1], ?_, by rw [e1]; simpa using hv, by rw [e2]; exact g1, by rw [e2]; exact g2, by rw [e2]; exact g3⟩
   rw [e1, e2]
   simp only
   by_cases hvn : v = cl + 2 + s.T.length
   ·have e3 : givenS cl s a v = strOf cl s.T a ++ [(strOf cl s.T a).headD 0] := by simp only [givenS, if_pos hvn]
    rw [strOf_ge _ (by omega), show v - cl - 2 = s.T.length by omega, getD_append_last, e3]
    have := (h.str hva).2.1
    cases hc : strOf cl s.T a with
    | nil => rw [hc] at this; simp at this
    | cons x l => rfl
   ·have e3 : givenS cl s a v = strOf cl s.T v := by simp only [givenS, if_neg hvn]
    rw [e3, strOf_app _ (by unfold vcode at *; omega)]
  ·have e1 : nextS cl early s v = ⟨s.pos + s.wd, s.wd, some v, s.A, s.T, s.out ++ givenS cl s a v⟩ := by simp only [nextS, hah, if_neg hn]
   have hvn : v ≠ cl + 2 + s.T.length := by omega
   refine ⟨by rw [e1]; exact h.keep hah hv (by omega) hvn, by rw [e1, e2], by rw [e1], by rw [e1], ?_, by rw [e1]; unfold vcode at *; simp only; omega, by rw [e2]; exact g1, by rw [e2]; exact g2, by rw [e2]; exact g3⟩
   rw [e1, e2]
   simp only [givenS, if_neg hvn]
def rdLeft (bs : List Int) (rb : Nat) (u : World) : Nat := match u.cell? ⟨rb, 1, none⟩ with
 | some (.int _ n) => (8 * bs.length - n).toNat
 | _ => 0
theorem RdAt.left {w : World} {q : Option Addr} {rb : Nat} {S : Nat → Prop} {bs : List Int} {k : Int} {up : Bool} (h : RdAt w q rb S bs k up) : rdLeft bs rb w = (8 * bs.length - k).toNat := by
 obtain ⟨base, cap, h3, h4⟩ := h.obj
 unfold rdLeft
 rw [h3.cell (i := 1) rfl]
structure UM (w u : World) (f : Nat → Nat) (L : List Nat) (rb : Nat) (S : Nat → Prop) (bs : List Int) (pos : Nat) (up : Bool) (tb : List En) (out : List Int) (p3 : Option Addr) (k4 k5 : Nat) (p4 : Option Addr) (k6 k7 : Nat) : Prop where
 pal : Pal w u f (rb :: L)
 rd : RdAt u (some ⟨rb, 0, none⟩) rb S bs pos up
 sf : ∀ b, S b → f b = 0 ∧ b < u.heap.size
 nk : ∀ b, b ∈ L → ¬ S b ∧ b ≠ rb
 tab : Th w u f 1 p3 k4 k5 4 (cellsF ent tb)
 out : Th w u f 2 p4 k6 k7 1 (bytes out)
section
variable {w u u' : World} {f : Nat → Nat} {L : List Nat} {rb : Nat} {S : Nat → Prop} {bs : List Int} {pos : Nat} {up : Bool} {tb : List En} {out : List Int} {p3 p4 : Option Addr} {k4 k5 k6 k7 : Nat}
theorem UM.dr (h : UM w u f L rb S bs pos up tb out p3 k4 k5 p4 k6 k7) : UM w u.drew f L rb S bs pos up tb out p3 k4 k5 p4 k6 k7 :=
 ⟨h.pal.same (Z := fun _ => False) (Ext.refl u).drew.chg fun _ _ h => h.elim, h.rd.ext (Ext.refl u).drew, h.sf, h.nk, h.tab, h.out⟩
theorem UM.mono {L' : List Nat} (h : UM w u f L rb S bs pos up tb out p3 k4 k5 p4 k6 k7) (hL : ∀ b, b ∈ L' → b ∈ L) : UM w u f L' rb S bs pos up tb out p3 k4 k5 p4 k6 k7 :=
 ⟨h.pal.mono fun b hb => by rcases List.mem_cons.1 hb with hb | hb; exact List.mem_cons.2 (.inl hb); exact List.mem_cons.2 (.inr (hL b hb)), h.rd, h.sf, fun b hb => h.nk b (hL b hb), h.tab, h.out⟩
theorem UM.k4e (h : UM w u f L rb S bs pos up tb out p3 k4 k5 p4 k6 k7) : k4 = tb.length := by
 have := h.tab.1
 rw [cellsF_length ent_length] at this; omega
theorem UM.k6e (h : UM w u f L rb S bs pos up tb out p3 k4 k5 p4 k6 k7) : k6 = out.length := by
 have := h.out.len
 rw [bytes_length] at this; omega
theorem UM.rb0 (h : UM w u f L rb S bs pos up tb out p3 k4 k5 p4 k6 k7) : f rb = 0 ∧ rb < u.heap.size ∧ w.heap.size ≤ rb := by
 have := h.pal.av rb (by simp); exact ⟨this.2.2, this.2.1, this.1⟩
theorem UM.take {k : Int} (h : UM w u f L rb S bs pos up tb out p3 k4 k5 p4 k6 k7) (hC : Chg (· = rb) u u') {pos' : Nat} (hr : RdAt u' (some ⟨rb, 0, none⟩) rb S bs k up) (hk : k = pos') : UM w u' f L rb S bs pos' up tb out p3 k4 k5 p4 k6 k7 := by
 subst hk
 have h0 := h.rb0
 refine ⟨h.pal.same hC fun b _ hb => by have hb : b = rb := hb; omega, hr, fun b hb => ⟨(h.sf b hb).1, Nat.lt_of_lt_of_le (h.sf b hb).2 hC.size⟩, h.nk, h.tab.same hC fun b _ hf _ hb => ?_, h.out.same hC fun b _ hf _ hb => ?_⟩
 ·have hb : b = rb := hb
  subst hb; omega
 ·have hb : b = rb := hb
  subst hb; omega
theorem UM.locl {bs' : List Nat} (h : UM w u f L rb S bs pos up tb out p3 k4 k5 p4 k6 k7) (hL : Locl bs' u u') (hb : ∀ b, b ∈ bs' → b ∈ L ∨ u.heap.size ≤ b) : UM w u' (fOn f u.heap.size 0) (bs' ++ L) rb S bs pos up tb out p3 k4 k5 p4 k6 k7 := by
 have h0 := h.rb0
 obtain ⟨hP, hT⟩ := h.pal.locl hL (fun b hm => by rcases hb b hm with h | h; exact .inl (List.mem_cons.2 (.inr h)); exact .inr h)
 have hno : ∀ b, b ∈ bs' → ¬ S b ∧ b ≠ rb := fun b hm => by
  rcases hb b hm with h' | h'
  ·exact h.nk b h'
  ·exact ⟨fun hs => by have := (h.sf b hs).2; omega, by omega⟩
 refine ⟨hP.mono fun b hm => ?_, h.rd.chg hL.chg (fun hm => (hno rb hm).2 rfl) (fun b hs _ hm => (hno b hm).1 hs), fun b hs => ⟨by rw [fOn_lt (h.sf b hs).2]; exact (h.sf b hs).1, Nat.lt_of_lt_of_le (h.sf b hs).2 hL.size⟩, fun b hm => ?_, hT (by omega) h.tab, hT (by omega) h.out⟩
 ·simp only [List.mem_cons, List.mem_append] at hm ⊢
  rcases hm with hm | hm | hm
  ·exact .inr (.inl hm)
  ·exact .inl hm
  ·exact .inr (.inr hm)
 ·rcases List.mem_append.1 hm with hm | hm
  ·exact hno b hm
  ·exact h.nk b hm
theorem UM.app1 {el : TypeId} {l : List (Nat × Nat × List Value)} {e : En} {F : Option Addr → Nat → Nat → World → Prop} (h : UM w u f L rb S bs pos up tb out p3 k4 k5 p4 k6 k7) (hl : ∀ b, b ∈ blocks l → b ∈ L) (h4 : tb.length ≤ 4096)
  (hF : ∀ p' c' u' f', UM w u' f' L rb S bs pos up (tb ++ [e]) out p' (k4 + 1) c' p4 k6 k7 → F p' (k4 + 1) c' u') : appVC u l p3 k4 k5 1 4 24 el [i64 0, u8 0, u8 0, i64 0] (ent e) F := by
 have h0 := h.rb0
 have hk4 := h.k4e
 refine h.tab.app h.pal (by omega) (fun b hb => List.mem_cons.2 (.inr (hl b hb))) rfl rfl (by omega) (by omega) fun p' c' u' hP hT hC => hF p' c' u' _ ⟨hP, h.rd.chg hC (fun hz => by have := hz.1; omega) (fun b hs _ hz => by have := hz.1; have := (h.sf b hs).1; omega), fun b hs => ⟨by rw [fOn_lt (h.sf b hs).2]; exact (h.sf b hs).1, Nat.lt_of_lt_of_le (h.sf b hs).2 hC.size⟩, h.nk, by rw [cellsF_append, cellsF_one]; exact hT, h.out.other hC (by omega)⟩
theorem UM.app2 {l : List (Nat × Nat × List Value)} {xs : List Int} {n : Nat} {F : Option Addr → Nat → Nat → World → Prop} (h : UM w u f L rb S bs pos up tb out p3 k4 k5 p4 k6 k7) (hl : ∀ b, b ∈ blocks l → b ∈ L) (hn : n = xs.length) (h4 : out.length + xs.length ≤ 2 ^ 47)
  (hF : ∀ p' c' u' f', UM w u' f' L rb S bs pos up tb (out ++ xs) p3 k4 k5 p' (k6 + n) c' → F p' (k6 + n) c' u') : appVC u l p4 k6 k7 n 1 1 5 [u8 0] (bytes xs) F := by
 have h0 := h.rb0
 have hk6 := h.k6e
 refine h.out.app h.pal (by omega) (fun b hb => List.mem_cons.2 (.inr (hl b hb))) rfl (by rw [bytes_length]; omega) (by omega) (by omega) fun p' c' u' hP hT hC => hF p' c' u' _ ⟨hP, h.rd.chg hC (fun hz => by have := hz.1; omega) (fun b hs _ hz => by have := hz.1; have := (h.sf b hs).1; omega), fun b hs => ⟨by rw [fOn_lt (h.sf b hs).2]; exact (h.sf b hs).1, Nat.lt_of_lt_of_le (h.sf b hs).2 hC.size⟩, h.nk, h.tab.other hC (by omega), by rw [bytes_append]; exact hT⟩
theorem UM.set2 (h : UM w u f L rb S bs pos up tb out p3 k4 k5 p4 k6 k7) {k : Nat} (hk : k < out.length) (l : Int) :
  ∃ b, p4 = some ⟨b, 0, none⟩ ∧ (∃ v, u.cell? ⟨b, k, none⟩ = some v) ∧ u.frozen? ⟨b, k, none⟩ = false ∧ b ∉ L ∧ UM w (setCells u ⟨b, k, none⟩ [u8 l] 0) f L rb S bs pos up tb (out.set k l) p3 k4 k5 p4 k6 k7 := by
 have h0 := h.rb0
 have hk6 := h.k6e
 obtain ⟨b, hb, hth, hcs, hT, hC⟩ := h.out.set (k := k) (us := [u8 l]) (by rw [bytes_length]; simp; omega) (by omega)
 have hc := hcs 0 (by simp)
 rw [loc_add, Nat.add_zero] at hc
 have hset : (bytes out).take k ++ [u8 l] ++ (bytes out).drop (k + [u8 l].length) = bytes (out.set k l) := by
  have : (bytes out).set k (u8 l) = bytes (out.set k l) := by simp [bytes, List.map_set]
  rw [← this, List.set_eq_take_append_cons_drop, if_pos (by rw [bytes_length]; exact hk)]; simp
 rw [hset] at hT
 refine ⟨b, hb, hc.1, hc.2, fun hm => ?_, ⟨h.pal.same hC fun b _ hz => hz.2.1, h.rd.chg hC (fun hz => by have := hz.1; omega) (fun b hs _ hz => by have := hz.1; have := (h.sf b hs).1; omega), fun b hs => ⟨(h.sf b hs).1, Nat.lt_of_lt_of_le (h.sf b hs).2 hC.size⟩, h.nk, h.tab.same hC fun b _ hf _ hz => by have := hz.1; omega, hT⟩⟩
 have := (h.pal.av b (List.mem_cons.2 (.inr hm))).2.2
 have := hth.1; omega
end
def UI (w : World) (k1 rb : Nat) (S : Nat → Prop) (bs : List Int) (up : Bool) (cl w0 early : Nat) (most : Int) (res : List Int × Int) (vs : List Value) (u : World) : Prop := match vs with
 | [.slice p3 k4 k5, .int _ n1, .int _ n2, .slice p4 k6 k7] => ∃ (f : Nat → Nat) (s : LS) (F : Nat), Inv cl s ∧ 8 * bs.length < s.pos + F ∧ lz bs up cl w0 early most F s = res ∧ n1 = s.wd ∧ n2 = ahI s.ah ∧ UM w u f [k1] rb S bs s.pos up (tabL cl s.A s.T) s.out p3 k4 k5 p4 k6 k7
 | _ => False
theorem shl1 : ∀ wd : Nat, wd < 13 → shiftZ .shl .i64 1 (wd : Int) = ((2 ^ wd : Nat) : Int) := by decide
theorem pow_small : ∀ wd : Nat, wd < 13 → 1 ≤ 2 ^ wd ∧ 2 ^ wd ≤ 4096 := by decide
end Go.Proofs.Ytiiaihiliimcoaa
namespace Go.Proofs.Ytiiaihiliimcoaa
open Go Go.Vc Go.RowKit
set_option maxRecDepth 100000
theorem fill_set (o d : List Int) (m : Nat) (l : Int) : (o ++ List.replicate (m + 1) 0 ++ d).set (o.length + m) l = o ++ List.replicate m 0 ++ l :: d := by
 rw [List.append_assoc, List.set_append_right _ _ (by omega), show o.length + m - o.length = m by omega, List.replicate_succ', List.append_assoc, List.append_assoc, List.set_append_right _ _ (by simp)]
 simp
theorem lz_pos {bs : List Int} {F : Nat} {s : LS} (h : 8 * bs.length < s.pos + F) (h' : s.pos ≤ 8 * bs.length) : ∃ G, F = G + 1 := ⟨F - 1, by omega⟩
theorem left_lt {n a b : Nat} (h : a + b ≤ 8 * n) (hb : 1 ≤ b) : (8 * (n : Int) - ((a + b : Nat) : Int)).toNat < (8 * (n : Int) - (a : Int)).toNat := by omega
set_option maxHeartbeats 4000000 in
theorem unpack_spec {N cl w0 early : Nat} {most : Int} {up : Bool} {w : World} {base : Option Addr} {len cap : Nat} {bs : List Int} {R : Ending → World → Prop}
  (h : Sl N w base (bytes bs)) (hl : len = bs.length) (hsz : len ≤ 2 ^ 24) (hf : Bs bs) (hcl : cl ≤ 256) (hc4 : 4 ≤ cl) (hw1 : 1 ≤ w0) (hw2 : w0 ≤ 12) (he : early ≤ 1) (m0 : 0 ≤ most) (m1 : most ≤ 9223372036854775807)
  (hR : ∀ p l c w', Fg [] w w' 1 p l c (bytes (lz bs up cl w0 early most (8 * bs.length + 1) (initS w0)).1) → R (.returned (.tuple #[.slice p l c, i64 (lz bs up cl w0 early most (8 * bs.length + 1) (initS w0)).2])) w') :
  Calls P F.lzw_kind_unpack #[.agg #[i64 cl, i64 w0, .bool up, i64 early], .slice base len cap, i64 most] w R := by
 refine calls_lzw_kind_unpack _ _ _ _ _ _ _ _ _ _ ?_
 generalize hres : lz bs up cl w0 early most (8 * bs.length + 1) (initS w0) = res at hR
 intro k1 hk1 w1 hL1
 have hE1 : Ext w w1 := hL1.ext (by simpa using hk1)
 have hs1 := hE1.size
 have hk1' := hL1.there k1 (by simp)
 refine NewReader_spec (h.ext hE1) hl (by omega) hf fun rb w2 hE2 hrb hrd => ⟨_, rfl, hE2.keep _, ?_⟩
 have hs2 := hE2.size
 have hrb2 : rb < w2.heap.size := by obtain ⟨_, _, hc, _⟩ := hrd.obj; exact hc.lt
 have hE2d : Ext w w2.drew := (hE1.trans hE2).drew
 refine entries_spec hcl fun p w3 hE3 ho => ⟨_, _, _, rfl, hE3.keep _, hE3.keeps, ?_⟩
 have hs3 : w2.heap.size ≤ w3.heap.size := hE3.size
 refine ⟨UI w k1 rb (fun i => w1.heap.size ≤ i ∧ i < rb) bs up cl w0 early most res, fun _ u => rdLeft bs rb u, ?_, ?_⟩
 ·refine ⟨fOn (fun _ => 0) w2.heap.size 1, initS w0, 8 * bs.length + 1, ?_, by simp only [initS]; omega, hres, rfl, rfl, ⟨⟨hE2d.trans hE3, fun b hb => ?_⟩, ?_, fun b hb => ⟨by rw [fOn_lt (by omega)], by omega⟩, fun b hb => ?_, Th.new ho (hE1.trans hE2), Th.nil _ _ _ _ _ _⟩⟩
  ·exact ⟨hcl, hc4, hw1, hw2, by simp [initS]; omega, rfl, by simp [initS], by simp [initS], fun _ => rfl, by simp [initS, Bs], by simp [initS]⟩
  ·simp only [List.mem_cons, List.not_mem_nil, or_false] at hb
   rcases hb with rfl | rfl
   ·exact ⟨by omega, by omega, by rw [fOn_lt hrb2]⟩
   ·exact ⟨by omega, by omega, by rw [fOn_lt (by omega)]⟩
  ·exact hrd.ext ((Ext.refl w2).drew.trans hE3)
  ·simp only [List.mem_cons, List.not_mem_nil, or_false] at hb
   subst hb
   exact ⟨fun hh => by omega, by omega⟩
 intro p3 k4 k5 n1 n2 p4 k6 k7 w4 hI
 obtain ⟨f, s, F, hi, hF, hlz, rfl, rfl, um⟩ := hI
 generalize hS : (fun i => w1.heap.size ≤ i ∧ i < rb) = S at *
 have hhi := um.rd.hi
 obtain ⟨G, rfl⟩ := lz_pos hF (by omega)
 rw [lz_step] at hlz
 have hwd := hi.wd12
 have hwd1 := hi.wd1
 have hlong := hi.long
 have hfull := hi.full
 have hk4 := um.k4e
 have hk6 := um.k6e
 rw [tabL_length hi.la] at hk4
 refine ⟨fun vs u => UI w k1 rb S bs up cl w0 early most res vs u ∧ rdLeft bs rb u < rdLeft bs rb w4, ?_, fun p10 k19 k20 n19 n20 p11 k21 k22 w13 hI2 => hI2⟩
 refine Take_spec um.rd (fun hh => by omega) (fun _ _ hgt => ?_) (fun _ _ hle w5 hC5 hrd5 => ?_)
 ·rw [if_pos (by omega)] at hlz
  subst hlz
  exact ⟨_, _, rfl, (Ext.refl w4).drew.keep _, brB_t rfl (hR none 0 0 _ (Fg.nil um.pal.ext.drew 1))⟩
 rw [if_neg (by omega)] at hlz
 have hvr := takeV_range bs up s.pos s.wd
 simp only [Int.toNat_natCast]
 obtain ⟨v, hv⟩ := Int.eq_ofNat_of_zero_le hvr.1
 have hv4 : v < 4096 := by
  have := pow_small s.wd (by omega)
  have h2 : ((2 : Int) ^ s.wd) = ((2 ^ s.wd : Nat) : Int) := by simp
  omega
 rw [hv] at hlz ⊢
 simp only [Int.toNat_natCast] at hlz
 have um5 := um.take hC5 hrd5 (pos' := s.pos + s.wd) (by omega)
 have hmea : rdLeft bs rb w4 = (8 * bs.length - s.pos : Int).toNat := um.rd.left
 have hnk1 := um.nk k1 (by simp)
 have hle' : s.pos + s.wd ≤ 8 * bs.length := by omega
 refine ⟨_, _, rfl, hC5.keep (by simpa using hnk1.2), brB_f rfl ?_⟩
 rw [w64 (x := (v : Int)) (by omega) (by omega), w64 (x := (cl : Int) + 2) (by omega) (by omega), w64 (x := (cl : Int) + 1) (by omega) (by omega)]
 have hahr : ahI s.ah = -1 ∧ s.ah = none ∨ ∃ a : Nat, ahI s.ah = a ∧ s.ah = some a := by
  cases hc : s.ah with
  | none => exact .inl ⟨rfl, rfl⟩
  | some a => exact .inr ⟨a, rfl, rfl⟩
 refine ⟨fun vs u => [.slice p3 k4 k5, i64 s.wd, i64 (ahI s.ah)] = vs ∧ w5 = u ∧ v ≠ cl ∧ v ≠ cl + 1 ∧ ¬ badC cl s v, ?_, ?_⟩
 ·refine brB_i (fun hb => ?_) (fun hb => ?_)
  ·have hb : v = cl := by have : (v : Int) = cl := by simpa using hb
                          omega
   rw [if_pos hb] at hlz
   have hr := um5.tab.room
   refine ⟨by omega, by omega, by omega, ?_⟩
   have hT := um5.tab.cut (n := cl + 2) (by omega)
   rw [cellsF_take ent_length, tabL_cut] at hT
   have e1 : ((cl : Int) + 2).toNat - (0 : Int).toNat = cl + 2 := by omega
   have e2 : k5 - (0 : Int).toNat = k5 := by simp
   rw [e1, e2, show (0 : Int).toNat = 0 from rfl]
   have umd := um5.dr
   refine ⟨⟨f, ⟨s.pos + s.wd, w0, none, [], [], s.out⟩, G, hi.clear hw1 hw2, by simp only; omega, hlz, rfl, rfl, ⟨umd.pal, umd.rd, umd.sf, umd.nk, hT, umd.out⟩⟩, ?_⟩
   rw [hmea, umd.rd.left]; exact left_lt hle' hwd1
  have hb : v ≠ cl := by have : ¬ (v : Int) = cl := by simpa using hb
                         omega
  rw [if_neg hb] at hlz
  refine brB_i (fun hb2 => ?_) (fun hb2 => ?_)
  ·have hb2 : v = cl + 1 := by have : (v : Int) = cl + 1 := by simpa using hb2
                               omega
   rw [if_pos hb2] at hlz
   subst hlz
   exact hR _ _ _ _ (um5.out.fg um5.pal.ext)
  have hb2 : v ≠ cl + 1 := by have : ¬ (v : Int) = cl + 1 := by simpa using hb2
                              omega
  rw [if_neg hb2] at hlz
  have hbad : badC cl s v → R (.returned (.tuple #[.slice none 0 0, i64 32])) w5 := fun hb3 => by
   rw [if_pos hb3] at hlz
   subst hlz
   exact hR none 0 0 _ (Fg.nil um5.pal.ext 1)
  refine brB_i (fun hb3 => ?_) (fun hb3 => ?_)
  ·refine brB_t hb3 (hbad ?_)
   simp only [Bool.and_eq_true, decide_eq_true_eq] at hb3
   rcases hahr with ⟨e1, e2⟩ | ⟨a, e1, e2⟩
   ·simp only [badC, e2]; omega
   ·omega
  have hb3' : ¬ (ahI s.ah < 0 ∧ (v : Int) > cl) := by simpa using hb3
  refine brB_i (fun hb4 => ?_) (fun hb4 => ?_)
  ·refine brB_t hb4 (hbad ?_)
   have hb4 : (v : Int) > k4 := by simpa using hb4
   rcases hahr with ⟨e1, e2⟩ | ⟨a, e1, e2⟩
   ·omega
   ·simp only [badC, e2]; omega
  have hb4' : ¬ (v : Int) > k4 := by simpa using hb4
  refine brB_i (fun hb5 => ?_) (fun hb5 => ?_)
  ·have hb5 : (v : Int) = k4 ∧ (k4 : Int) = 4096 := by simpa using hb5
   refine hbad ?_
   rcases hahr with ⟨e1, e2⟩ | ⟨a, e1, e2⟩
   ·omega
   ·simp only [badC, e2]; omega
  ·have hb5 : ¬ ((v : Int) = k4 ∧ (k4 : Int) = 4096) := by simpa using hb5
   refine ⟨rfl, rfl, hb, hb2, fun hbd => ?_⟩
   rcases hahr with ⟨e1, e2⟩ | ⟨a, e1, e2⟩
   ·simp only [badC, e2] at hbd; omega
   ·simp only [badC, e2] at hbd; omega
 intro p6 k10 k11 n5 n6 w6 hI3
 obtain ⟨e, rfl, hvc, hvc1, hnb⟩ := hI3
 simp only [List.cons.injEq, Value.slice.injEq, Value.int.injEq, true_and, and_true] at e
 obtain ⟨⟨rfl, rfl, rfl⟩, rfl, rfl⟩ := e
 have nx := hi.nxt (early := early) hvc hvc1 hnb
 rw [if_neg hvc, if_neg hvc1, if_neg hnb] at hlz
 have hmost := nx.most
 have hone := nx.one
 have hlong' : s.out.length ≤ 2 ^ 40 := by omega
 refine ⟨fun vs u => match vs with | [.slice p8 k15 k16, .int _ n12] => ∃ f, n12 = (nextS cl early s v).wd ∧ UM w u f [k1] rb S bs (s.pos + s.wd) up (tabL cl (nextS cl early s v).A (nextS cl early s v).T) s.out p8 k15 k16 p4 k6 k7 | _ => False, ?_, ?_⟩
 ·rcases hahr with ⟨e1, e2⟩ | ⟨a, e1, e2⟩
  ·rw [e1]
   refine brB_f (by simp) ⟨f, ?_, ?_⟩
   ·simp only [nextS, e2]
   ·simp only [nextS, e2]; exact um5
  ·rw [e1]
   have hva := hi.ahv a e2
   have hva4 : a < 4096 := by unfold vcode at hva; omega
   refine brB_i (fun hb => ?_) (fun hb => ?_)
   ·have hlt : cl + 2 + s.T.length < 4096 := by
     simp only [Bool.and_eq_true, decide_eq_true_eq] at hb; omega
    have hnx : nextS cl early s v = ⟨s.pos + s.wd, wid early (cl + 2 + s.T.length) s.wd, some v, s.A ++ [a], s.T ++ [strOf cl s.T a ++ [(givenS cl s a v).headD 0]], s.out ++ givenS cl s a v⟩ := by
     simp only [nextS, e2, if_pos hlt]
    obtain ⟨a', l', hat, -⟩ := hi.at_ hva
    have hnbv : v ≤ cl + 2 + s.T.length := by simp only [badC, e2] at hnb; omega
    have hgo := fun (u : World) (um : UM w u f [k1] rb S bs (s.pos + s.wd) up (tabL cl s.A s.T) s.out p3 k4 k5 p4 k6 k7) (F : Addr → Prop) => um.tab.sl.elem (F := F) (i := (a : Int)) (len := k4) ent_length (by omega) (by omega) (by rw [tabL_length hi.la]; omega) (by rw [Int.toNat_natCast]; exact hat)
    refine hgo w5 um5 _ fun c1 hc1 => ⟨_, hc1 2 _ rfl, fun vs u => [u8 ((givenS cl s a v).headD 0)] = vs ∧ w5 = u, ?_, ?_⟩
    ·refine brB_i (fun hb2 => ?_) (fun hb2 => ?_)
     ·have hb2 : (v : Int) < k4 := by simpa using hb2
      have hvv : vcode cl s.T.length v := by unfold vcode; omega
      obtain ⟨a2, l2, hat2, -⟩ := hi.at_ hvv
      refine um5.tab.sl.elem (i := (v : Int)) (len := k4) ent_length (by omega) (by omega) (by rw [tabL_length hi.la]; omega) (by rw [Int.toNat_natCast]; exact hat2) fun c2 hc2 => ⟨_, hc2 2 _ rfl, ?_, rfl⟩
      simp only [givenS, if_neg (show v ≠ cl + 2 + s.T.length by omega)]
     ·have hb2 : ¬ (v : Int) < k4 := by simpa using hb2
      refine ⟨?_, rfl⟩
      simp only [givenS, if_pos (show v = cl + 2 + s.T.length by omega)]
      have := (hi.str hva).2.1
      cases hc : strOf cl s.T a with
      | nil => rw [hc] at this; simp at this
      | cons x l => rfl
    intro n9 w7 hI5
    obtain ⟨e5, rfl⟩ := hI5
    simp only [List.cons.injEq, Value.int.injEq, true_and, and_true] at e5
    subst e5
    refine hgo _ um5.dr _ fun c3 hc3 => ⟨_, hc3 2 _ rfl, hgo _ um5.dr _ fun c4 hc4 => ⟨_, hc4 3 _ rfl, fun k12 hk12 w8 hL8 => ?_⟩⟩
    have um8 := um5.dr.locl hL8 (fun b hb => by
     simp only [List.mem_cons, List.not_mem_nil, or_false] at hb
     rcases hb with rfl | rfl
     ·exact .inr hk12
     ·exact .inl (by simp))
    have hstr := hi.str hva
    rw [w64 (x := ((strOf cl s.T a).length : Int) + 1) (by omega) (by omega)]
    refine um8.app1 (e := ((a : Int), (givenS cl s a v).headD 0, (strOf cl s.T a).headD 0, ((strOf cl s.T a).length : Int) + 1)) (by simp [blocks]) (by rw [tabL_length hi.la]; omega) fun p7 k14 w9 f9 um9 => ⟨by omega, ?_⟩
    have hent : enOf a (strOf cl s.T a ++ [(givenS cl s a v).headD 0]) = ((a : Int), (givenS cl s a v).headD 0, (strOf cl s.T a).headD 0, ((strOf cl s.T a).length : Int) + 1) := by
     have h1 : (strOf cl s.T a ++ [(givenS cl s a v).headD 0]).getLastD 0 = (givenS cl s a v).headD 0 := by simp
     have h2 : (strOf cl s.T a ++ [(givenS cl s a v).headD 0]).headD 0 = (strOf cl s.T a).headD 0 := by
      have := hstr.2.1
      cases hc : strOf cl s.T a with
      | nil => rw [hc] at this; simp at this
      | cons x l => rfl
     unfold enOf
     rw [h1, h2]; simp
    rw [← hent, ← tabL_add hi.la] at um9
    rw [shl1 s.wd (by omega)]
    have hp := pow_small s.wd (by omega)
    rw [w64 (x := ((2 ^ s.wd : Nat) : Int) - early) (by omega) (by omega), hnx]
    refine brB_i (fun hb3 => ?_) (fun hb3 => ?_)
    ·have hb3 : ((k4 + 1 : Nat) : Int) = ((2 ^ s.wd : Nat) : Int) - early ∧ (s.wd : Int) < 12 := by
      simp only [Bool.and_eq_true, decide_eq_true_eq, beq_iff_eq] at hb3; exact hb3
     refine ⟨f9, ?_, (um9.mono (by simp)).dr⟩
     rw [w64 (by omega) (by omega)]
     unfold wid
     rw [if_pos (by omega)]; rfl
    ·have hb3 : ¬ (((k4 + 1 : Nat) : Int) = ((2 ^ s.wd : Nat) : Int) - early ∧ (s.wd : Int) < 12) := by
      intro hh
      simp only [hh.1, hh.2, beq_self_eq_true, decide_true, Bool.and_self] at hb3
      cases hb3
     refine ⟨f9, ?_, (um9.mono (by simp)).dr⟩
     unfold wid
     rw [if_neg (by omega)]
   ·have hlt : ¬ cl + 2 + s.T.length < 4096 := fun h' => by
     have h1 : decide ((a : Int) ≥ 0) = true := by simp
     have h2 : decide ((k4 : Int) < 4096) = true := by simp; omega
     rw [h1, h2] at hb; cases hb
    refine ⟨f, ?_, ?_⟩
    ·simp only [nextS, e2, if_neg hlt]
    ·simp only [nextS, e2, if_neg hlt]; exact um5
 have hinv := nx.inv
 have hcode := nx.code
 have hstr := nx.str
 have hsout := nx.out
 have hspos := nx.pos
 have hsah := nx.ah
 have htf := nx.fit
 clear nx
 generalize nextS cl early s v = s' at *
 generalize tOf cl s v = t at *
 intro p8 k15 k16 n12 w10 hI4
 obtain ⟨f4, rfl, um10⟩ := hI4
 have hvl : v < cl + 2 + s'.T.length := by unfold vcode at hcode; omega
 have hk15 := um10.k4e
 rw [tabL_length hinv.la] at hk15
 have hlen : ((strOf cl s'.T v).length : Int) = t.length := by rw [hstr]
 obtain ⟨a', l', hat, -⟩ := hinv.at_ hcode
 rw [hlen] at hat
 have hgo := fun (F : Addr → Prop) => um10.tab.sl.elem (F := F) (i := (v : Int)) (len := k15) ent_length (by omega) (by omega) (by rw [tabL_length hinv.la]; omega) (by rw [Int.toNat_natCast]; exact hat)
 refine hgo _ fun c1 hc1 => ⟨_, hc1 3 _ rfl, ?_⟩
 rw [w64 (x := most - (k6 : Int)) (by omega) (by omega)]
 refine brB_i (fun hb => ?_) (fun hb => ?_)
 ·have hb : (t.length : Int) > most - k6 := by simpa using hb
  rw [if_pos (by omega)] at hlz
  subst hlz
  exact hR none 0 0 _ (Fg.nil um10.pal.ext 1)
 have hb : ¬ (t.length : Int) > most - k6 := by simpa using hb
 rw [if_neg (by omega)] at hlz
 refine hgo _ fun c2 hc2 => ⟨(t.length : Int), hc2 3 _ rfl, by omega, by omega, by omega, ?_⟩
 have hrep : rep ((t.length : Int)).toNat ((fun x : Value => x.cells.toList) (u8 0)) = bytes (List.replicate t.length 0) := by
  rw [Int.toNat_natCast]
  show rep t.length [u8 0] = _
  induction t.length with
  | zero => rfl
  | succ n ih => rw [rep, ih, List.replicate_succ]; rfl
 rw [hrep, Int.toNat_natCast]
 refine um10.app2 (by simp [blocks]) (by simp) (by simp; omega) fun p9 k18 w11 f11 um11 => ?_
 clear hgo hrep
 have hk6' := um10.k6e
 refine ⟨fun vs u => match vs with | [.int _ i, .int _ c] => ∃ (f : Nat → Nat) (done : List Int) (m : Nat), UM w u f [k1] rb S bs (s.pos + s.wd) up (tabL cl s'.A s'.T) (s.out ++ List.replicate m 0 ++ done) p8 k15 k16 p9 (k6 + t.length) k18 ∧ m + done.length = t.length ∧ i = (s.out.length + m : Nat) - (1 : Int) ∧ ((c = -1 ∧ done = t) ∨ ∃ c' : Nat, c = c' ∧ vcode cl s'.T.length c' ∧ strOf cl s'.T c' ++ done = t) | _ => False,
  fun vs _ => match vs with | [.int _ i, .int _ c] => (c + 1).toNat | _ => 0, ?_, fun n15 n16 w12 hI6 => ?_⟩
 ·rw [w64 (x := ((k6 + t.length : Nat) : Int) - 1) (by omega) (by omega)]
  exact ⟨f11, [], t.length, by simpa using um11, by simp, by omega, .inr ⟨v, rfl, hcode, by simpa using hstr⟩⟩
 obtain ⟨f12, done, m, um12, hm, rfl, hc⟩ := hI6
 rcases hc with ⟨rfl, rfl⟩ | ⟨c, rfl, hcc, hce⟩
 ·refine brB_f (by simp) ?_
  have hm0 : m = 0 := by omega
  subst hm0
  simp only [List.replicate_zero, List.append_nil] at um12
  rw [← hsout] at um12
  refine ⟨⟨f12, s', G, hinv, by rw [hspos]; omega, hlz, rfl, by rw [hsah]; rfl, by rw [hspos]; exact um12⟩, ?_⟩
  rw [hmea, um12.rd.left]; exact left_lt hle' hwd1
 ·refine brB_t (by simp) ?_
  obtain ⟨a2, l2, hat2, hcase⟩ := hinv.at_ hcc
  have hcl2 : c < cl + 2 + s'.T.length := by unfold vcode at hcc; omega
  have hgo2 := fun (u : World) (out : List Int) (k6 : Nat) (um : UM w u f12 [k1] rb S bs (s.pos + s.wd) up (tabL cl s'.A s'.T) out p8 k15 k16 p9 k6 k18) (F : Addr → Prop) => um.tab.sl.elem (F := F) (i := (c : Int)) (len := k15) ent_length (by omega) (by omega) (by rw [tabL_length hinv.la]; omega) (by rw [Int.toNat_natCast]; exact hat2)
  have hstrl := (hinv.str hcc).2.1
  have hml : m = (strOf cl s'.T c).length := by
   have := congrArg List.length hce
   rw [List.length_append] at this; omega
  obtain ⟨m', rfl⟩ : ∃ m', m = m' + 1 := ⟨m - 1, by omega⟩
  refine hgo2 _ _ _ um12 _ fun c3 hc3 => ⟨_, hc3 1 _ rfl, ?_⟩
  obtain ⟨b, hb9, hcell, hfz, hbk, um13⟩ := um12.set2 (k := s.out.length + m') (by simp; omega) l2
  have ei : ((s.out.length + (m' + 1) : Nat) : Int) - 1 = (s.out.length + m' : Nat) := by omega
  rw [ei]
  refine idx_i (by omega) (by omega) hb9 ?_
  rw [Int.toNat_natCast, Nat.mul_one, loc_add, Nat.zero_add]
  refine ⟨hcell, hfz, hbk, hgo2 _ _ _ um13.dr _ fun c4 hc4 => ⟨_, hc4 0 _ rfl, ?_⟩⟩
  rw [fill_set] at um13
  rw [w64 (by omega) (by omega)]
  rcases hcase with ⟨rfl, hs2⟩ | ⟨a', rfl, hva', hlt', hs2⟩
  ·refine ⟨⟨f12, l2 :: done, m', um13.dr, by simp; omega, by omega, .inl ⟨rfl, by rw [← hce, hs2]; rfl⟩⟩, by show ((-1 : Int) + 1).toNat < ((c : Int) + 1).toNat; omega⟩
  ·refine ⟨⟨f12, l2 :: done, m', um13.dr, by simp; omega, by omega, .inr ⟨a', rfl, hva', by rw [← hce, hs2, List.append_assoc]; rfl⟩⟩, by show ((a' : Int) + 1).toNat < ((c : Int) + 1).toNat; omega⟩
end Go.Proofs.Ytiiaihiliimcoaa
namespace Go.Proofs.Ytiiaihiliimcoaa
open Go Go.Vc Go.RowKit
set_option maxRecDepth 100000
def lzR (bs : List Int) (cl w0 : Nat) (up : Bool) (early : Nat) (most : Int) : List Int × Int := lz bs up cl w0 early (max most 0) (8 * bs.length + 1) (initS w0)
def gifR (bs : List Int) (size most : Int) : List Int × Int := if size < 2 ∨ size > 8 then ([], 2) else lzR bs (2 ^ size.toNat) (size.toNat + 1) false 0 most
theorem shl8 : ∀ n : Nat, n < 9 → shiftZ .shl .i64 1 (n : Int) = ((2 ^ n : Nat) : Int) := by decide
theorem pow8 : ∀ n : Nat, 2 ≤ n → n < 9 → 4 ≤ 2 ^ n ∧ 2 ^ n ≤ 256 := by
 intro n h1 h2
 have : ∀ n : Nat, n < 9 → 2 ≤ n → 4 ≤ 2 ^ n ∧ 2 ^ n ≤ 256 := by decide
 exact this n h2 h1
theorem gif_spec {w : World} {n : Nat} {R : Ending → World → Prop} (h1 : 2 ≤ n) (h2 : n < 9)
  (hR : ∀ w', Ext w w' → R (.returned (.agg #[i64 (2 ^ n : Nat), i64 (n + 1 : Nat), .bool false, i64 0])) w') : Calls P F.lzw_gif #[i64 n] w R := by
 refine calls_lzw_gif _ _ _ ?_
 intro k1 hk1
 refine ⟨by omega, fun w1 hL => ?_⟩
 rw [shl8 n h2, w64 (by omega) (by omega)]
 exact hR w1 (hL.ext (by simpa using hk1))
section
variable {N : Nat} {most size : Int} {w : World} {base : Option Addr} {len cap : Nat} {bs : List Int} {R : Ending → World → Prop}
theorem GifUnpack_spec (h : Sl N w base (bytes bs)) (hl : len = bs.length) (hsz : len ≤ 2 ^ 24) (hf : Bs bs) (m0 : -9223372036854775808 ≤ most) (m1 : most ≤ 9223372036854775807)
  (hR : ∀ p l c w', Fg [] w w' 1 p l c (bytes (gifR bs size most).1) → R (.returned (.tuple #[.slice p l c, i64 (gifR bs size most).2])) w') :
  Calls P F.lzw_GifUnpack #[.slice base len cap, i64 size, i64 most] w R := by
 refine calls_lzw_GifUnpack _ _ _ _ _ _ _ ?_
 refine brB_i (fun hb => ?_) (fun hb => ?_)
 ·have hb : size < 2 ∨ size > 8 := by simpa using hb
  rw [gifR, if_pos hb] at hR
  exact hR none 0 0 w (Fg.nil (Ext.refl w) 1)
 ·have hb : ¬ (size < 2 ∨ size > 8) := by simpa using hb
  rw [gifR, if_neg hb] at hR
  obtain ⟨n, rfl⟩ := Int.eq_ofNat_of_zero_le (show 0 ≤ size by omega)
  rw [Int.toNat_natCast] at hR
  have hp := pow8 n (by omega) (by omega)
  refine gif_spec (by omega) (by omega) fun w1 hE1 => ⟨_, _, _, _, rfl, ?_⟩
  refine unpack_spec (early := 0) (h.ext hE1) hl hsz hf hp.2 hp.1 (by omega) (by omega) (by omega) (by omega) (by omega) fun p l c w2 hF => ⟨_, _, _, _, rfl, hR p l c w2 (hF.from (bs := []) hE1 (by simp))⟩
end
/-- what bytes read az runs give -/
def rl (most : Int) : Nat → List Int → List Int → List Int × Int
 | 0, _, out => (out, 0)
 | F + 1, bs, out => match bs with
  | [] => (out, 0)
  | b :: r =>
   if b < 128 then (if (r.length : Int) < b + 1 then ([], 5) else if most < out.length + (b + 1) then ([], 3) else rl most F (r.drop (b + 1).toNat) (out ++ r.take (b + 1).toNat))
   else if b = 128 then rl most F r out
   else match r with
    | [] => ([], 5)
    | x :: r' => if most < out.length + (257 - b) then ([], 3) else rl most F r' (out ++ List.replicate (257 - b).toNat x)
end Go.Proofs.Ytiiaihiliimcoaa
namespace Go.Proofs.Ytiiaihiliimcoaa
open Go Go.Vc Go.RowKit
set_option maxRecDepth 100000
theorem drop_cons_of {bs : List Int} {n : Nat} (h : n < bs.length) : bs.drop n = bs.getD n 0 :: bs.drop (n + 1) := by
 rw [List.drop_eq_getElem_cons h]; simp [List.getD, List.getElem?_eq_getElem h]
end Go.Proofs.Ytiiaihiliimcoaa
namespace Go.Proofs.Ytiiaihiliimcoaa
open Go Go.Vc Go.RowKit
set_option maxRecDepth 100000
abbrev kdP : Kd := .agg [.i64, .u8]
def keyP (a : Nat) (x : Int) : Value := .agg #[i64 a, u8 x]
def fnd (a : Nat) (x : Int) : List (Nat × Int) → Nat → Option Nat
 | [], _ => none
 | e :: r, c => if e.1 = a ∧ e.2 = x then some c else fnd a x r (c + 1)
def kvsOf : List (Nat × Int) → Nat → List (Value × Value)
 | [], _ => []
 | e :: r, c => (keyP e.1 e.2, i64 c) :: kvsOf r (c + 1)
theorem keyEq_P (a b : Nat) (x y : Int) : keyEq (keyP a x) (keyP b y) = decide (b = a ∧ y = x) := by
 have e : keyEq (keyP a x) (keyP b y) = (decide ((a : Int) = b) && (decide (x = y) && true)) := rfl
 rw [e]
 by_cases h1 : a = b <;> by_cases h2 : x = y
 ·subst h1; subst h2; simp
 ·subst h1; simp [h2, Ne.symm h2]
 ·have : ¬ (a : Int) = b := by omega
  simp [this, Ne.symm h1]
 ·have : ¬ (a : Int) = b := by omega
  simp [this, Ne.symm h1]
theorem mfind_P (a : Nat) (x : Int) : ∀ (E : List (Nat × Int)) (c : Nat), mfind (keyP a x) (kvsOf E c) = (fnd a x E c).map fun n : Nat => i64 n
 | [], _ => rfl
 | e :: r, c => by
  have ih := mfind_P a x r (c + 1)
  show (match keyEq (keyP a x) (keyP e.1 e.2) with | true => some (i64 c) | false => mfind (keyP a x) (kvsOf r (c + 1))) = _
  rw [keyEq_P, fnd]
  by_cases h : e.1 = a ∧ e.2 = x
  ·simp [h]
  ·simp only [h, decide_false, if_false]; exact ih
theorem mput_P (a : Nat) (x : Int) : ∀ (E : List (Nat × Int)) (c : Nat), fnd a x E c = none → mput (keyP a x) (i64 (c + E.length : Nat)) (kvsOf E c) = kvsOf (E ++ [(a, x)]) c
 | [], _, _ => rfl
 | e :: r, c, h => by
  rw [fnd] at h
  split at h
  ·cases h
  rename_i hne
  have ih := mput_P a x r (c + 1) h
  show (match keyEq (keyP a x) (keyP e.1 e.2) with | true => (keyP a x, i64 (c + (e :: r).length : Nat)) :: kvsOf r (c + 1) | false => (keyP e.1 e.2, i64 c) :: mput (keyP a x) (i64 (c + (e :: r).length : Nat)) (kvsOf r (c + 1))) = (keyP e.1 e.2, i64 c) :: kvsOf (r ++ [(a, x)]) (c + 1)
  rw [keyEq_P]
  simp only [hne, decide_false]
  rw [← ih, List.length_cons, show c + (r.length + 1) = c + 1 + r.length by omega]
theorem fnd_some {a : Nat} {x : Int} : ∀ {E : List (Nat × Int)} {c n : Nat}, fnd a x E c = some n → c ≤ n ∧ n < c + E.length ∧ E[n - c]? = some (a, x)
 | [], _, _, h => by cases h
 | e :: r, c, n, h => by
  rw [fnd] at h
  split at h
  ·rename_i he
   cases h
   refine ⟨Nat.le_refl _, by simp, ?_⟩
   rw [Nat.sub_self]
   simp [← he.1, ← he.2]
  ·obtain ⟨h1, h2, h3⟩ := fnd_some h
   refine ⟨by omega, by rw [List.length_cons]; omega, ?_⟩
   rw [show n - c = (n - (c + 1)) + 1 by omega]; simpa using h3
def wdN (early nx wd : Nat) : Nat := if nx + early = 2 ^ wd ∧ wd < 12 then wd + 1 else wd
def wdA (cl early : Nat) (E : List (Nat × Int)) (wd : Nat) : Nat := if E.length = 0 then wd else wdN early (cl + 2 + E.length) wd
def pk (cl w0 early : Nat) : List Int → List (Nat × Int) → Nat → Option Nat → List (Nat × Nat)
 | [], _, wd, none => [(cl + 1, wd)]
 | [], E, wd, some a => [(a, wd), (cl + 1, wdA cl early E wd)]
 | x :: r, E, wd, none => pk cl w0 early r E wd (some x.toNat)
 | x :: r, E, wd, some a => match fnd a x E (cl + 2) with
  | some c => pk cl w0 early r E wd (some c)
  | none => if 4090 ≤ cl + 2 + E.length then (a, wd) :: (cl, wdA cl early E wd) :: pk cl w0 early r [] w0 (some x.toNat)
   else (a, wd) :: pk cl w0 early r (E ++ [(a, x)]) (wdA cl early E wd) (some x.toNat)
def putAll (up : Bool) : List (Nat × Nat) → List Int × Nat → List Int × Nat
 | [], s => s
 | e :: r, s => putAll up r (putV up s.1 s.2 e.1 e.2 e.2, s.2 + e.2)
def packL (bs : List Int) (cl w0 early : Nat) (up : Bool) : List Int := (putAll up ((cl, w0) :: pk cl w0 early bs [] w0 none) ([], 0)).1
theorem wdN_range {early nx wd : Nat} (h1 : 1 ≤ wd) (h : wd ≤ 12) : 1 ≤ wdN early nx wd ∧ wdN early nx wd ≤ 12 := by unfold wdN; split <;> omega
theorem wdA_range {cl early : Nat} {E : List (Nat × Int)} {wd : Nat} (h1 : 1 ≤ wd) (h : wd ≤ 12) : 1 ≤ wdA cl early E wd ∧ wdA cl early E wd ≤ 12 := by
 unfold wdA
 split
 ·omega
 ·exact wdN_range h1 h
structure KM (w u : World) (k1 k2 kw kn km wb : Nat) (S : Nat → Prop) (cl w0 early : Nat) (up : Bool) (kvs : List (Value × Value)) (wd nx : Nat) (bs : List Int) (m : Nat) : Prop where
 ext : Ext w u
 ck : Cs u k1 [i64 cl, i64 w0, .bool up, i64 early]
 cr : Cs u k2 [.pointer (some ⟨wb, 0, none⟩)]
 cw : Cs u kw [i64 wd]
 cn : Cs u kn [i64 nx]
 mp : Mp kdP u km kvs
 wr : WrAt u (some ⟨wb, 0, none⟩) wb S bs m up
 ok : WOk up bs m
 lo : w.heap.size ≤ k1 ∧ w.heap.size ≤ k2 ∧ w.heap.size ≤ kw ∧ w.heap.size ≤ kn ∧ w.heap.size ≤ km ∧ w.heap.size ≤ wb
 sl : ∀ i, S i → w.heap.size ≤ i
 nd : (k1 ≠ k2 ∧ k1 ≠ kw ∧ k1 ≠ kn ∧ k1 ≠ km ∧ k1 ≠ wb) ∧ (k2 ≠ kw ∧ k2 ≠ kn ∧ k2 ≠ km ∧ k2 ≠ wb) ∧ (kw ≠ kn ∧ kw ≠ km ∧ kw ≠ wb) ∧ (kn ≠ km ∧ kn ≠ wb) ∧ km ≠ wb
 ns : ∀ i, S i → i ≠ k1 ∧ i ≠ k2 ∧ i ≠ kw ∧ i ≠ kn ∧ i ≠ km
theorem mp_lt {kd : Kd} {w : World} {b : Nat} {kvs : List (Value × Value)} (h : Mp kd w b kvs) : b < w.heap.size := by
 obtain ⟨⟨es, c, h1, _⟩, _⟩ := h
 rcases Nat.lt_or_ge b w.heap.size with h' | h'
 ·exact h'
 ·rw [Array.getElem?_eq_none h'] at h1; cases h1
section
variable {w u u' : World} {k1 k2 kw kn km wb : Nat} {S : Nat → Prop} {cl w0 early : Nat} {up : Bool} {kvs : List (Value × Value)} {wd nx : Nat} {bs : List Int} {m : Nat}
theorem KM.lts (h : KM w u k1 k2 kw kn km wb S cl w0 early up kvs wd nx bs m) : k1 < u.heap.size ∧ k2 < u.heap.size ∧ kw < u.heap.size ∧ kn < u.heap.size ∧ km < u.heap.size ∧ wb < u.heap.size ∧ ∀ i, S i → i < u.heap.size := by
 obtain ⟨_, _, _, ho⟩ := h.wr.obj
 exact ⟨h.ck.lt, h.cr.lt, h.cw.lt, h.cn.lt, mp_lt h.mp, h.wr.lt, ho.bd⟩
theorem KM.dr (h : KM w u k1 k2 kw kn km wb S cl w0 early up kvs wd nx bs m) : KM w u.drew k1 k2 kw kn km wb S cl w0 early up kvs wd nx bs m :=
 ⟨h.ext.drew, h.ck, h.cr, h.cw, h.cn, h.mp.same rfl, h.wr.ext (Ext.refl u).drew, h.ok, h.lo, h.sl, h.nd, h.ns⟩
theorem KM.put {S' : Nat → Prop} {bs' : List Int} {m' : Nat} (h : KM w u k1 k2 kw kn km wb S cl w0 early up kvs wd nx bs m) (hg : Gr S S' u u') (hC : Chg (fun k => k = wb ∨ S k) u u') (hw : WrAt u' (some ⟨wb, 0, none⟩) wb S' bs' m' up) (hok : WOk up bs' m') : KM w u' k1 k2 kw kn km wb S' cl w0 early up kvs wd nx bs' m' := by
 obtain ⟨l1, l2, l3, l4, l5, l6, l7⟩ := h.lts
 obtain ⟨⟨n1, n2, n3, n4, n5⟩, ⟨n6, n7, n8, n9⟩, ⟨n10, n11, n12⟩, ⟨n13, n14⟩, n15⟩ := h.nd
 have hs := hg.1
 have hws := h.ext.size
 refine ⟨h.ext.step hC fun i hi => ?_, h.ck.chg hC ?_, h.cr.chg hC ?_, h.cw.chg hC ?_, h.cn.chg hC ?_, h.mp.same (hC.block km l5 ?_), hw, hok, h.lo, fun i hi => ?_, h.nd, fun i hi => ?_⟩
 ·rcases hi with rfl | hi
  ·exact h.lo.2.2.2.2.2
  ·exact h.sl i hi
 ·rintro (e | hi)
  ·exact n5 e
  ·exact (h.ns _ hi).1 rfl
 ·rintro (e | hi)
  ·exact n9 e
  ·exact (h.ns _ hi).2.1 rfl
 ·rintro (e | hi)
  ·exact n12 e
  ·exact (h.ns _ hi).2.2.1 rfl
 ·rintro (e | hi)
  ·exact n14 e
  ·exact (h.ns _ hi).2.2.2.1 rfl
 ·rintro (e | hi)
  ·exact n15 e
  ·exact (h.ns _ hi).2.2.2.2 rfl
 ·rcases hg.2 i hi with h' | h'
  ·exact h.sl i h'
  ·omega
 ·rcases hg.2 i hi with h' | h'
  ·exact h.ns i h'
  ·omega
theorem KM.setw (h : KM w u k1 k2 kw kn km wb S cl w0 early up kvs wd nx bs m) (v : Nat) : KM w (setCells u ⟨kw, 0, none⟩ [i64 v] 0) k1 k2 kw kn km wb S cl w0 early up kvs v nx bs m := by
 obtain ⟨l1, l2, l3, l4, l5, l6, l7⟩ := h.lts
 obtain ⟨⟨n1, n2, n3, n4, n5⟩, ⟨n6, n7, n8, n9⟩, ⟨n10, n11, n12⟩, ⟨n13, n14⟩, n15⟩ := h.nd
 have hC := Chg.setCells u ⟨kw, 0, none⟩ [i64 v] 0
 have e : ∀ {k : Nat}, (· = (⟨kw, 0, none⟩ : Addr).block) k → k = kw := fun h => h
 refine ⟨h.ext.step hC fun i hi => by have := e hi; have := h.lo; omega, h.ck.chg hC fun hi => n2 (e hi), h.cr.chg hC fun hi => n6 (e hi), by have := h.cw.set1 (off := 0) (v := i64 v) (by simp); simpa using this, h.cn.chg hC fun hi => n10 (e hi).symm, h.mp.same (hC.block km l5 fun hi => n11 (e hi).symm), h.wr.chg hC (fun hi => n12 (e hi).symm) fun i hi hz => (h.ns i hi).2.2.1 (e hz), h.ok, h.lo, h.sl, h.nd, h.ns⟩
theorem KM.setn (h : KM w u k1 k2 kw kn km wb S cl w0 early up kvs wd nx bs m) (v : Nat) : KM w (setCells u ⟨kn, 0, none⟩ [i64 v] 0) k1 k2 kw kn km wb S cl w0 early up kvs wd v bs m := by
 obtain ⟨l1, l2, l3, l4, l5, l6, l7⟩ := h.lts
 obtain ⟨⟨n1, n2, n3, n4, n5⟩, ⟨n6, n7, n8, n9⟩, ⟨n10, n11, n12⟩, ⟨n13, n14⟩, n15⟩ := h.nd
 have hC := Chg.setCells u ⟨kn, 0, none⟩ [i64 v] 0
 have e : ∀ {k : Nat}, (· = (⟨kn, 0, none⟩ : Addr).block) k → k = kn := fun h => h
 refine ⟨h.ext.step hC fun i hi => by have := e hi; have := h.lo; omega, h.ck.chg hC fun hi => n3 (e hi), h.cr.chg hC fun hi => n7 (e hi), h.cw.chg hC fun hi => n10 (e hi), by have := h.cn.set1 (off := 0) (v := i64 v) (by simp); simpa using this, h.mp.same (hC.block km l5 fun hi => n13 (e hi).symm), h.wr.chg hC (fun hi => n14 (e hi).symm) fun i hi hz => (h.ns i hi).2.2.2.1 (e hz), h.ok, h.lo, h.sl, h.nd, h.ns⟩
theorem KM.setm {kvs' : List (Value × Value)} (h : KM w u k1 k2 kw kn km wb S cl w0 early up kvs wd nx bs m) (hP : Put km u u') (hm : Mp kdP u' km kvs') : KM w u' k1 k2 kw kn km wb S cl w0 early up kvs' wd nx bs m := by
 obtain ⟨l1, l2, l3, l4, l5, l6, l7⟩ := h.lts
 obtain ⟨⟨n1, n2, n3, n4, n5⟩, ⟨n6, n7, n8, n9⟩, ⟨n10, n11, n12⟩, ⟨n13, n14⟩, n15⟩ := h.nd
 have hC := hP.chg
 exact ⟨h.ext.step hC fun i hi => by have := h.lo; omega, h.ck.chg hC n4, h.cr.chg hC n8, h.cw.chg hC n11, h.cn.chg hC n13, hm, h.wr.chg hC (fun hi => n15 hi.symm) fun i hi hz => (h.ns i hi).2.2.2.2 hz, h.ok, h.lo, h.sl, h.nd, h.ns⟩
theorem KM.newm {k : Nat} (h : KM w u k1 k2 kw kn km wb S cl w0 early up kvs wd nx bs m) (hn : New u (.map #[] 0) k u') : KM w u' k1 k2 kw kn k wb S cl w0 early up [] wd nx bs m := by
 obtain ⟨l1, l2, l3, l4, l5, l6, l7⟩ := h.lts
 obtain ⟨⟨n1, n2, n3, n4, n5⟩, ⟨n6, n7, n8, n9⟩, ⟨n10, n11, n12⟩, ⟨n13, n14⟩, n15⟩ := h.nd
 have hE := hn.ext
 have hk := hn.1
 have hlo := h.lo
 have hs := h.ext.size
 refine ⟨h.ext.trans hE, h.ck.ext hE, h.cr.ext hE, h.cw.ext hE, h.cn.ext hE, hn.mp kdP, h.wr.ext hE, h.ok, by omega, h.sl, by omega, fun i hi => ?_⟩
 have := l7 i hi
 have := h.ns i hi
 omega
end
theorem putF_spec {w u : World} {k1 k2 kw kn km wb : Nat} {S : Nat → Prop} {cl w0 early : Nat} {up : Bool} {kvs : List (Value × Value)} {wd nx : Nat} {bs : List Int} {m : Nat} {R : Ending → World → Prop} {a : Nat} {fr : Bool}
  (h : KM w u k1 k2 kw kn km wb S cl w0 early up kvs wd nx bs m) (ha : a < 2 ^ 32) (h1 : 1 ≤ wd) (h2 : wd ≤ 12) (hm : m ≤ 2 ^ 48) (hnx : nx ≤ 2 ^ 20) (he : early ≤ 1)
  (hR : ∀ S' u', KM w u' k1 k2 kw kn km wb S' cl w0 early up kvs (if fr then wdN early (nx + 1) wd else wd) (if fr then nx + 1 else nx) (putV up bs m a wd wd) (m + wd) → R (.returned (.tuple #[])) u') :
  Calls P F.lzw_kind_pack_fn1 #[i64 a, .bool fr, .pointer (some ⟨k2, 0, none⟩), .pointer (some ⟨kw, 0, none⟩), .pointer (some ⟨kn, 0, none⟩), .pointer (some ⟨k1, 0, none⟩)] u R := by
 refine calls_lzw_kind_pack_fn1 _ _ _ _ _ _ _ _ ?_
 refine ⟨_, h.cr.cell (i := 0) rfl, _, h.cw.cell (i := 0) rfl, ?_⟩
 rw [wu32 (x := (a : Int)) (by omega) (by omega)]
 refine Put_spec h.wr h.ok (by omega) (by omega) (by omega) (fun hh => by omega) fun _ _ S' u1 hg hC hw => ⟨_, rfl, ?_⟩
 rw [Int.toNat_natCast] at hw
 have km1 := h.put hg hC hw (by have := putV_ok (v := a) (n := wd) h.ok wd; exact this)
 cases fr with
 | false => exact brB_f rfl (hR S' u1 km1)
 | true =>
  refine brB_t rfl ⟨_, km1.cn.cell (i := 0) rfl, ⟨_, km1.cn.cell (i := 0) rfl⟩, km1.cn.frozen 0, ?_⟩
  rw [w64 (x := (nx : Int) + 1) (by omega) (by omega)]
  have km2 := (km1.setn (nx + 1)).dr
  have e1 : ((nx + 1 : Nat) : Int) = (nx : Int) + 1 := by omega
  rw [e1] at km2
  refine ⟨_, km2.cn.cell (i := 0) rfl, _, km2.cw.cell (i := 0) rfl, by omega, early, by rw [loc_add]; exact km2.ck.cell (i := 3) rfl, ?_⟩
  rw [shl1 wd (by omega), e1]
  have hp := pow_small wd (by omega)
  rw [w64 (x := ((2 ^ wd : Nat) : Int) - early) (by omega) (by omega)]
  have hfin : ∀ wd', wd' = wdN early (nx + 1) wd → ∀ u', KM w u' k1 k2 kw kn km wb S' cl w0 early up kvs wd' (nx + 1) (putV up bs m a wd wd) (m + wd) → R (.returned (.tuple #[])) u' := fun wd' hwd u' hk => by
   subst hwd; exact hR S' u' hk
  refine brB_i (fun hb => ?_) (fun hb => ?_)
  ·have hb : (nx : Int) + 1 = ((2 ^ wd : Nat) : Int) - early := by simpa using hb
   refine ⟨_, km2.cw.cell (i := 0) rfl, brB_i (fun hb2 => ?_) (fun hb2 => ?_)⟩
   ·have hb2 : (wd : Int) < 12 := by simpa using hb2
    refine ⟨_, km2.cw.cell (i := 0) rfl, ⟨_, km2.cw.cell (i := 0) rfl⟩, km2.cw.frozen 0, ?_⟩
    rw [w64 (x := (wd : Int) + 1) (by omega) (by omega)]
    have km3 := km2.setw (wd + 1)
    have e2 : ((wd + 1 : Nat) : Int) = (wd : Int) + 1 := by omega
    rw [e2] at km3
    refine hfin (wd + 1) ?_ _ km3
    unfold wdN; rw [if_pos (by omega)]
   ·have hb2 : ¬ (wd : Int) < 12 := by simpa using hb2
    refine hfin wd ?_ _ km2
    unfold wdN; rw [if_neg (by omega)]
  ·have hb : ¬ (nx : Int) + 1 = ((2 ^ wd : Nat) : Int) - early := by simpa using hb
   refine hfin wd ?_ _ km2
   unfold wdN; rw [if_neg (by omega)]
end Go.Proofs.Ytiiaihiliimcoaa
namespace Go.Proofs.Ytiiaihiliimcoaa
open Go Go.Vc Go.RowKit
set_option maxRecDepth 100000
structure IS (u0 : World) (ms cs : List Nat) (u : World) : Prop where
 ext : Ext u0 u
 fm : ∀ k, k ∈ ms → u0.heap.size ≤ k ∧ Mp kdP u k [] ∧ k ∉ cs
 fc : ∀ k, k ∈ cs → u0.heap.size ≤ k ∧ ∃ v, Cs u k [v]
 nd : cs.Nodup
theorem IS.init (u0 : World) : IS u0 [] [] u0 := ⟨Ext.refl u0, by simp, by simp, by simp⟩
theorem IS.map {u0 u u' : World} {ms cs : List Nat} {k : Nat} (h : IS u0 ms cs u) (hn : New u (.map #[] 0) k u') : IS u0 (k :: ms) cs u' := by
 have hk := hn.1
 have hs := h.ext.size
 refine ⟨h.ext.trans hn.ext, fun j hj => ?_, fun j hj => ?_, h.nd⟩
 ·rcases List.mem_cons.1 hj with rfl | hj
  ·exact ⟨by omega, hn.mp kdP, fun hm => by obtain ⟨_, v, hv⟩ := h.fc _ hm; have := hv.lt; omega⟩
  ·obtain ⟨h1, h2, h3⟩ := h.fm j hj
   exact ⟨h1, h2.same (hn.ext.block j (mp_lt h2)), h3⟩
 ·obtain ⟨h1, v, hv⟩ := h.fc j hj
  exact ⟨h1, v, hv.ext hn.ext⟩
theorem IS.cell {u0 u u' : World} {ms cs : List Nat} {k : Nat} (h : IS u0 ms cs u) (hn : New u (.cells #[i64 0] 3 (0, 0)) k u') : IS u0 ms (k :: cs) u' := by
 have hk := hn.1
 have hs := h.ext.size
 refine ⟨h.ext.trans hn.ext, fun j hj => ?_, fun j hj => ?_, List.nodup_cons.2 ⟨fun hm => ?_, h.nd⟩⟩
 ·obtain ⟨h1, h2, h3⟩ := h.fm j hj
  refine ⟨h1, h2.same (hn.ext.block j (mp_lt h2)), fun hm => ?_⟩
  rcases List.mem_cons.1 hm with rfl | hm
  ·have := mp_lt h2; omega
  ·exact h3 hm
 ·rcases List.mem_cons.1 hj with rfl | hj
  ·exact ⟨by omega, _, hn.cs⟩
  ·obtain ⟨h1, v, hv⟩ := h.fc j hj
   exact ⟨h1, v, hv.ext hn.ext⟩
 ·obtain ⟨_, v, hv⟩ := h.fc k hm
  have := hv.lt; omega
theorem IS.st {u0 u : World} {ms cs : List Nat} {a : Nat} {v : Value} (h : IS u0 ms cs u) (ha : a ∈ cs) : IS u0 ms cs (setCells u ⟨a, 0, none⟩ [v] 0) := by
 have hC := Chg.setCells u ⟨a, 0, none⟩ [v] 0
 have e : ∀ {k : Nat}, (· = (⟨a, 0, none⟩ : Addr).block) k → k = a := fun h => h
 refine ⟨h.ext.step hC fun i hi => by have := e hi; subst this; exact (h.fc i ha).1, fun j hj => ?_, fun j hj => ?_, h.nd⟩
 ·obtain ⟨h1, h2, h3⟩ := h.fm j hj
  exact ⟨h1, h2.same (hC.block j (mp_lt h2) fun hi => by have := e hi; subst this; exact h3 ha), h3⟩
 ·obtain ⟨h1, v', hv⟩ := h.fc j hj
  by_cases hja : j = a
  ·subst hja
   have := hv.set1 (off := 0) (v := v) (by simp)
   exact ⟨h1, v, by simpa using this⟩
  ·exact ⟨h1, v', hv.chg hC fun hi => hja (e hi)⟩
theorem IS.ex {u0 u : World} {ms cs : List Nat} {a : Nat} (h : IS u0 ms cs u) (ha : a ∈ cs) : ∃ v, u.cell? ⟨a, 0, none⟩ = some v := by
 obtain ⟨_, v, hv⟩ := h.fc a ha
 exact ⟨v, hv.cell rfl⟩
theorem IS.fz {u0 u : World} {ms cs : List Nat} {a : Nat} (h : IS u0 ms cs u) (ha : a ∈ cs) : u.frozen? ⟨a, 0, none⟩ = false := by
 obtain ⟨_, v, hv⟩ := h.fc a ha
 exact hv.frozen 0
theorem IS.ld {u0 u : World} {ms cs : List Nat} {k1 i : Nat} {vs : List Value} {v : Value} (h : IS u0 ms cs u) (hc : Cs u0 k1 vs) (hv : vs[i]? = some v) : u.cell? ⟨k1, i, none⟩ = some v := (hc.ext h.ext).cell hv
theorem IS.fin {w u0 u : World} {a b km k1 k2 wb : Nat} {cs : List Nat} {cl w0 early : Nat} {up : Bool} (h : IS u0 [km] cs u) (ha : a ∈ cs) (hb : b ∈ cs) (hab : a ≠ b) (hE : Ext w u0)
  (hk : Cs u0 k1 [i64 cl, i64 w0, .bool up, i64 early]) (hr : Cs u0 k2 [.pointer (some ⟨wb, 0, none⟩)]) (hw : WrAt u0 (some ⟨wb, 0, none⟩) wb (fun _ => False) [] 0 up)
  (hlo : w.heap.size ≤ k1 ∧ w.heap.size ≤ k2 ∧ w.heap.size ≤ wb) (hnd : k1 ≠ k2 ∧ k1 ≠ wb ∧ k2 ≠ wb) (hcl : cl ≤ 256) :
  KM w (setCells (setCells u ⟨a, 0, none⟩ [i64 w0] 0) ⟨b, 0, none⟩ [i64 (IntKind.i64.wrap ((cl : Int) + 2))] 0) k1 k2 a b km wb (fun _ => False) cl w0 early up [] w0 (cl + 2) [] 0 := by
 rw [w64 (by omega) (by omega)]
 have e1 : (cl : Int) + 2 = ((cl + 2 : Nat) : Int) := by omega
 rw [e1]
 obtain ⟨m1, m2, m3⟩ := h.fm km (by simp)
 obtain ⟨a1, va, a2⟩ := h.fc a ha
 obtain ⟨b1, vb, b2⟩ := h.fc b hb
 have hs := hE.size
 have hkl := hk.lt
 have hrl := hr.lt
 have hwl := hw.lt
 have hma : km ≠ a := fun e => m3 (e ▸ ha)
 have hmb : km ≠ b := fun e => m3 (e ▸ hb)
 have hE' := h.ext
 have base : KM w (setCells (setCells u ⟨a, 0, none⟩ [i64 w0] 0) ⟨b, 0, none⟩ [i64 (cl + 2 : Nat)] 0) k1 k2 a b km wb (fun _ => False) cl w0 early up [] w0 (cl + 2) [] 0 := by
  have hC1 := Chg.setCells u ⟨a, 0, none⟩ [i64 w0] 0
  have hC2 := Chg.setCells (setCells u ⟨a, 0, none⟩ [i64 w0] 0) ⟨b, 0, none⟩ [i64 (cl + 2 : Nat)] 0
  have e : ∀ {k : Nat}, (· = (⟨a, 0, none⟩ : Addr).block) k → k = a := fun h => h
  have e' : ∀ {k : Nat}, (· = (⟨b, 0, none⟩ : Addr).block) k → k = b := fun h => h
  have s1 := a2.set1 (off := 0) (v := i64 w0) (by simp)
  have s2 := (b2.chg hC1 (fun hi => hab (e hi).symm)).set1 (off := 0) (v := i64 (cl + 2 : Nat)) (by simp)
  have hEE : Ext u0 (setCells (setCells u ⟨a, 0, none⟩ [i64 w0] 0) ⟨b, 0, none⟩ [i64 (cl + 2 : Nat)] 0) := (hE'.step hC1 fun i hi => by have := e hi; omega).step hC2 fun i hi => by have := e' hi; omega
  have mm := (m2.same (hC1.block km (mp_lt m2) fun hi => hma (e hi)))
  refine ⟨hE.trans hEE, hk.ext hEE, hr.ext hEE, ?_, ?_, mm.same (hC2.block km (mp_lt mm) fun hi => hmb (e' hi)), hw.ext hEE, WOk.nil up, by omega, by simp, by omega, by simp⟩
  ·have := s1.chg hC2 (fun hi => hab (e' hi))
   simpa using this
  ·simpa using s2
 exact base
end Go.Proofs.Ytiiaihiliimcoaa
namespace Go.Proofs.Ytiiaihiliimcoaa
open Go Go.Vc
set_option maxRecDepth 100000
def vc_lzw_kind_pack (x1 x2 : Int) (b1 : Bool) (x3 : Int) (sa1 : Option Addr) (sl1 sc1 : Nat) (w : World) (R : Ending → World → Prop) : Prop :=
 ∀ (k1 : Nat) (w1 : World),
 (New w (Obj.cells #[.int .i64 x1, .int .i64 x2, .bool b1, .int .i64 x3] 100) k1 w1) →
 ∃ c1 : Bool,
 (w1.cell? { block := k1, off := 2 } = some (.bool c1)) ∧
 Calls P F.bits_NewWriter #[.bool c1] w1 fun e1 w2 =>
 ∃ p1 : Option Addr,
 (e1 = .returned (.pointer p1)) ∧
 ∀ (k2 : Nat) (w3 : World),
 (New w2 (Obj.cells #[.pointer none] 121) k2 w3) →
 (∃ v1 : Value,
 w3.cell? { block := k2, off := 0 } = some v1) ∧
 (w3.frozen? { block := k2, off := 0 } = false) ∧
 ∃ I1 : List Value → World → Prop,
 (∃ n1 : Int,
 ((setCells w3 { block := k2, off := 0 } [.pointer p1] 0).drew.cell? { block := k1, off := 1 } = some (.int .i64 n1)) ∧
 (∀ k3 : Nat,
 ∀ w4 : World,
 (New ((setCells w3 { block := k2, off := 0 } [.pointer p1] 0).drew) (Obj.map #[] 0) k3 w4) →
 (∃ n2 : Int,
 (w4.cell? { block := k1, off := 0 } = some (.int .i64 n2)) ∧
 (∀ k4 : Nat,
 ∀ w5 : World,
 (New w4 (Obj.cells #[.int .i64 0] 3) k4 w5) →
 ∀ (k5 : Nat) (w6 : World),
 (New w5 (Obj.cells #[.int .i64 0] 3) k5 w6) →
 (∃ v2 : Value,
 w6.cell? { block := k4, off := 0 } = some v2) ∧
 (w6.frozen? { block := k4, off := 0 } = false) ∧
 (∃ v3 : Value,
 (setCells w6 { block := k4, off := 0 } [.int .i64 n1] 0).cell? { block := k5, off := 0 } = some v3) ∧
 ((setCells w6 { block := k4, off := 0 } [.int .i64 n1] 0).frozen? { block := k5, off := 0 } = false) ∧
 I1 [.map (some k3), .pointer (some { block := k4, off := 0 }), .pointer (some { block := k5, off := 0 })] (setCells (setCells w6 { block := k4, off := 0 } [.int .i64 n1] 0) { block := k5, off := 0 } [.int .i64 (IntKind.i64.wrap (n2 + 2))] 0)) ∧
 ∀ (k6 : Nat) (w7 : World),
 (New w4 (Obj.cells #[.int .i64 0] 3) k6 w7) →
 ∀ (k7 : Nat) (w8 : World),
 (New w7 (Obj.cells #[.int .i64 0] 3) k7 w8) →
 (∃ v4 : Value,
 w8.cell? { block := k7, off := 0 } = some v4) ∧
 (w8.frozen? { block := k7, off := 0 } = false) ∧
 (∃ v5 : Value,
 (setCells w8 { block := k7, off := 0 } [.int .i64 n1] 0).cell? { block := k6, off := 0 } = some v5) ∧
 ((setCells w8 { block := k7, off := 0 } [.int .i64 n1] 0).frozen? { block := k6, off := 0 } = false) ∧
 I1 [.map (some k3), .pointer (some { block := k7, off := 0 }), .pointer (some { block := k6, off := 0 })] (setCells (setCells w8 { block := k7, off := 0 } [.int .i64 n1] 0) { block := k6, off := 0 } [.int .i64 (IntKind.i64.wrap (n2 + 2))] 0)) ∧
 (∀ k8 : Nat,
 ∀ w9 : World,
 (New w4 (Obj.cells #[.int .i64 0] 3) k8 w9) →
 (∃ n3 : Int,
 (w9.cell? { block := k1, off := 0 } = some (.int .i64 n3)) ∧
 ∀ (k9 : Nat) (w10 : World),
 (New w9 (Obj.cells #[.int .i64 0] 3) k9 w10) →
 (∃ v6 : Value,
 w10.cell? { block := k8, off := 0 } = some v6) ∧
 (w10.frozen? { block := k8, off := 0 } = false) ∧
 (∃ v7 : Value,
 (setCells w10 { block := k8, off := 0 } [.int .i64 n1] 0).cell? { block := k9, off := 0 } = some v7) ∧
 ((setCells w10 { block := k8, off := 0 } [.int .i64 n1] 0).frozen? { block := k9, off := 0 } = false) ∧
 I1 [.map (some k3), .pointer (some { block := k8, off := 0 }), .pointer (some { block := k9, off := 0 })] (setCells (setCells w10 { block := k8, off := 0 } [.int .i64 n1] 0) { block := k9, off := 0 } [.int .i64 (IntKind.i64.wrap (n3 + 2))] 0)) ∧
 ∀ (k10 : Nat) (w11 : World),
 (New w9 (Obj.cells #[.int .i64 0] 3) k10 w11) →
 (∃ n4 : Int,
 (w11.cell? { block := k1, off := 0 } = some (.int .i64 n4)) ∧
 (∃ v8 : Value,
 w11.cell? { block := k8, off := 0 } = some v8) ∧
 (w11.frozen? { block := k8, off := 0 } = false) ∧
 (∃ v9 : Value,
 (setCells w11 { block := k8, off := 0 } [.int .i64 n1] 0).cell? { block := k10, off := 0 } = some v9) ∧
 ((setCells w11 { block := k8, off := 0 } [.int .i64 n1] 0).frozen? { block := k10, off := 0 } = false) ∧
 I1 [.map (some k3), .pointer (some { block := k8, off := 0 }), .pointer (some { block := k10, off := 0 })] (setCells (setCells w11 { block := k8, off := 0 } [.int .i64 n1] 0) { block := k10, off := 0 } [.int .i64 (IntKind.i64.wrap (n4 + 2))] 0)) ∧
 (∃ v10 : Value,
 w11.cell? { block := k8, off := 0 } = some v10) ∧
 (w11.frozen? { block := k8, off := 0 } = false) ∧
 ∃ n5 : Int,
 ((setCells w11 { block := k8, off := 0 } [.int .i64 n1] 0).cell? { block := k1, off := 0 } = some (.int .i64 n5)) ∧
 (∃ v11 : Value,
 (setCells w11 { block := k8, off := 0 } [.int .i64 n1] 0).cell? { block := k10, off := 0 } = some v11) ∧
 ((setCells w11 { block := k8, off := 0 } [.int .i64 n1] 0).frozen? { block := k10, off := 0 } = false) ∧
 I1 [.map (some k3), .pointer (some { block := k8, off := 0 }), .pointer (some { block := k10, off := 0 })] (setCells (setCells w11 { block := k8, off := 0 } [.int .i64 n1] 0) { block := k10, off := 0 } [.int .i64 (IntKind.i64.wrap (n5 + 2))] 0)) ∧
 ∀ (k11 : Nat) (w12 : World),
 (New w4 (Obj.cells #[.int .i64 0] 3) k11 w12) →
 (∃ n6 : Int,
 (w12.cell? { block := k1, off := 0 } = some (.int .i64 n6)) ∧
 ∀ (k12 : Nat) (w13 : World),
 (New w12 (Obj.cells #[.int .i64 0] 3) k12 w13) →
 (∃ v12 : Value,
 w13.cell? { block := k12, off := 0 } = some v12) ∧
 (w13.frozen? { block := k12, off := 0 } = false) ∧
 (∃ v13 : Value,
 (setCells w13 { block := k12, off := 0 } [.int .i64 n1] 0).cell? { block := k11, off := 0 } = some v13) ∧
 ((setCells w13 { block := k12, off := 0 } [.int .i64 n1] 0).frozen? { block := k11, off := 0 } = false) ∧
 I1 [.map (some k3), .pointer (some { block := k12, off := 0 }), .pointer (some { block := k11, off := 0 })] (setCells (setCells w13 { block := k12, off := 0 } [.int .i64 n1] 0) { block := k11, off := 0 } [.int .i64 (IntKind.i64.wrap (n6 + 2))] 0)) ∧
 ∀ (k13 : Nat) (w14 : World),
 (New w12 (Obj.cells #[.int .i64 0] 3) k13 w14) →
 (∃ n7 : Int,
 (w14.cell? { block := k1, off := 0 } = some (.int .i64 n7)) ∧
 (∃ v14 : Value,
 w14.cell? { block := k13, off := 0 } = some v14) ∧
 (w14.frozen? { block := k13, off := 0 } = false) ∧
 (∃ v15 : Value,
 (setCells w14 { block := k13, off := 0 } [.int .i64 n1] 0).cell? { block := k11, off := 0 } = some v15) ∧
 ((setCells w14 { block := k13, off := 0 } [.int .i64 n1] 0).frozen? { block := k11, off := 0 } = false) ∧
 I1 [.map (some k3), .pointer (some { block := k13, off := 0 }), .pointer (some { block := k11, off := 0 })] (setCells (setCells w14 { block := k13, off := 0 } [.int .i64 n1] 0) { block := k11, off := 0 } [.int .i64 (IntKind.i64.wrap (n7 + 2))] 0)) ∧
 (∃ v16 : Value,
 w14.cell? { block := k13, off := 0 } = some v16) ∧
 (w14.frozen? { block := k13, off := 0 } = false) ∧
 ∃ n8 : Int,
 ((setCells w14 { block := k13, off := 0 } [.int .i64 n1] 0).cell? { block := k1, off := 0 } = some (.int .i64 n8)) ∧
 (∃ v17 : Value,
 (setCells w14 { block := k13, off := 0 } [.int .i64 n1] 0).cell? { block := k11, off := 0 } = some v17) ∧
 ((setCells w14 { block := k13, off := 0 } [.int .i64 n1] 0).frozen? { block := k11, off := 0 } = false) ∧
 I1 [.map (some k3), .pointer (some { block := k13, off := 0 }), .pointer (some { block := k11, off := 0 })] (setCells (setCells w14 { block := k13, off := 0 } [.int .i64 n1] 0) { block := k11, off := 0 } [.int .i64 (IntKind.i64.wrap (n8 + 2))] 0)) ∧
 (∃ n9 : Int,
 ((setCells w3 { block := k2, off := 0 } [.pointer p1] 0).drew.cell? { block := k1, off := 0 } = some (.int .i64 n9)) ∧
 (∀ k14 : Nat,
 ∀ w15 : World,
 (New ((setCells w3 { block := k2, off := 0 } [.pointer p1] 0).drew) (Obj.map #[] 0) k14 w15) →
 (∀ k15 : Nat,
 ∀ w16 : World,
 (New w15 (Obj.cells #[.int .i64 0] 3) k15 w16) →
 ∀ (k16 : Nat) (w17 : World),
 (New w16 (Obj.cells #[.int .i64 0] 3) k16 w17) →
 (∃ v18 : Value,
 w17.cell? { block := k15, off := 0 } = some v18) ∧
 (w17.frozen? { block := k15, off := 0 } = false) ∧
 (∃ v19 : Value,
 (setCells w17 { block := k15, off := 0 } [.int .i64 n1] 0).cell? { block := k16, off := 0 } = some v19) ∧
 ((setCells w17 { block := k15, off := 0 } [.int .i64 n1] 0).frozen? { block := k16, off := 0 } = false) ∧
 I1 [.map (some k14), .pointer (some { block := k15, off := 0 }), .pointer (some { block := k16, off := 0 })] (setCells (setCells w17 { block := k15, off := 0 } [.int .i64 n1] 0) { block := k16, off := 0 } [.int .i64 (IntKind.i64.wrap (n9 + 2))] 0)) ∧
 ∀ (k17 : Nat) (w18 : World),
 (New w15 (Obj.cells #[.int .i64 0] 3) k17 w18) →
 ∀ (k18 : Nat) (w19 : World),
 (New w18 (Obj.cells #[.int .i64 0] 3) k18 w19) →
 (∃ v20 : Value,
 w19.cell? { block := k18, off := 0 } = some v20) ∧
 (w19.frozen? { block := k18, off := 0 } = false) ∧
 (∃ v21 : Value,
 (setCells w19 { block := k18, off := 0 } [.int .i64 n1] 0).cell? { block := k17, off := 0 } = some v21) ∧
 ((setCells w19 { block := k18, off := 0 } [.int .i64 n1] 0).frozen? { block := k17, off := 0 } = false) ∧
 I1 [.map (some k14), .pointer (some { block := k18, off := 0 }), .pointer (some { block := k17, off := 0 })] (setCells (setCells w19 { block := k18, off := 0 } [.int .i64 n1] 0) { block := k17, off := 0 } [.int .i64 (IntKind.i64.wrap (n9 + 2))] 0)) ∧
 (∀ k19 : Nat,
 ∀ w20 : World,
 (New ((setCells w3 { block := k2, off := 0 } [.pointer p1] 0).drew) (Obj.cells #[.int .i64 0] 3) k19 w20) →
 (∀ k20 : Nat,
 ∀ w21 : World,
 (New w20 (Obj.map #[] 0) k20 w21) →
 ∀ (k21 : Nat) (w22 : World),
 (New w21 (Obj.cells #[.int .i64 0] 3) k21 w22) →
 (∃ v22 : Value,
 w22.cell? { block := k19, off := 0 } = some v22) ∧
 (w22.frozen? { block := k19, off := 0 } = false) ∧
 (∃ v23 : Value,
 (setCells w22 { block := k19, off := 0 } [.int .i64 n1] 0).cell? { block := k21, off := 0 } = some v23) ∧
 ((setCells w22 { block := k19, off := 0 } [.int .i64 n1] 0).frozen? { block := k21, off := 0 } = false) ∧
 I1 [.map (some k20), .pointer (some { block := k19, off := 0 }), .pointer (some { block := k21, off := 0 })] (setCells (setCells w22 { block := k19, off := 0 } [.int .i64 n1] 0) { block := k21, off := 0 } [.int .i64 (IntKind.i64.wrap (n9 + 2))] 0)) ∧
 ∀ (k22 : Nat) (w23 : World),
 (New w20 (Obj.cells #[.int .i64 0] 3) k22 w23) →
 ∀ (k23 : Nat) (w24 : World),
 (New w23 (Obj.map #[] 0) k23 w24) →
 (∃ v24 : Value,
 w24.cell? { block := k19, off := 0 } = some v24) ∧
 (w24.frozen? { block := k19, off := 0 } = false) ∧
 (∃ v25 : Value,
 (setCells w24 { block := k19, off := 0 } [.int .i64 n1] 0).cell? { block := k22, off := 0 } = some v25) ∧
 ((setCells w24 { block := k19, off := 0 } [.int .i64 n1] 0).frozen? { block := k22, off := 0 } = false) ∧
 I1 [.map (some k23), .pointer (some { block := k19, off := 0 }), .pointer (some { block := k22, off := 0 })] (setCells (setCells w24 { block := k19, off := 0 } [.int .i64 n1] 0) { block := k22, off := 0 } [.int .i64 (IntKind.i64.wrap (n9 + 2))] 0)) ∧
 ∀ (k24 : Nat) (w25 : World),
 (New ((setCells w3 { block := k2, off := 0 } [.pointer p1] 0).drew) (Obj.cells #[.int .i64 0] 3) k24 w25) →
 (∀ k25 : Nat,
 ∀ w26 : World,
 (New w25 (Obj.map #[] 0) k25 w26) →
 ∀ (k26 : Nat) (w27 : World),
 (New w26 (Obj.cells #[.int .i64 0] 3) k26 w27) →
 (∃ v26 : Value,
 w27.cell? { block := k26, off := 0 } = some v26) ∧
 (w27.frozen? { block := k26, off := 0 } = false) ∧
 (∃ v27 : Value,
 (setCells w27 { block := k26, off := 0 } [.int .i64 n1] 0).cell? { block := k24, off := 0 } = some v27) ∧
 ((setCells w27 { block := k26, off := 0 } [.int .i64 n1] 0).frozen? { block := k24, off := 0 } = false) ∧
 I1 [.map (some k25), .pointer (some { block := k26, off := 0 }), .pointer (some { block := k24, off := 0 })] (setCells (setCells w27 { block := k26, off := 0 } [.int .i64 n1] 0) { block := k24, off := 0 } [.int .i64 (IntKind.i64.wrap (n9 + 2))] 0)) ∧
 ∀ (k27 : Nat) (w28 : World),
 (New w25 (Obj.cells #[.int .i64 0] 3) k27 w28) →
 ∀ (k28 : Nat) (w29 : World),
 (New w28 (Obj.map #[] 0) k28 w29) →
 (∃ v28 : Value,
 w29.cell? { block := k27, off := 0 } = some v28) ∧
 (w29.frozen? { block := k27, off := 0 } = false) ∧
 (∃ v29 : Value,
 (setCells w29 { block := k27, off := 0 } [.int .i64 n1] 0).cell? { block := k24, off := 0 } = some v29) ∧
 ((setCells w29 { block := k27, off := 0 } [.int .i64 n1] 0).frozen? { block := k24, off := 0 } = false) ∧
 I1 [.map (some k28), .pointer (some { block := k27, off := 0 }), .pointer (some { block := k24, off := 0 })] (setCells (setCells w29 { block := k27, off := 0 } [.int .i64 n1] 0) { block := k24, off := 0 } [.int .i64 (IntKind.i64.wrap (n9 + 2))] 0)) ∧
 (∀ k29 : Nat,
 ∀ w30 : World,
 (New ((setCells w3 { block := k2, off := 0 } [.pointer p1] 0).drew) (Obj.cells #[.int .i64 0] 3) k29 w30) →
 (∀ k30 : Nat,
 ∀ w31 : World,
 (New w30 (Obj.map #[] 0) k30 w31) →
 (∃ n10 : Int,
 (w31.cell? { block := k1, off := 0 } = some (.int .i64 n10)) ∧
 ∀ (k31 : Nat) (w32 : World),
 (New w31 (Obj.cells #[.int .i64 0] 3) k31 w32) →
 (∃ v30 : Value,
 w32.cell? { block := k29, off := 0 } = some v30) ∧
 (w32.frozen? { block := k29, off := 0 } = false) ∧
 (∃ v31 : Value,
 (setCells w32 { block := k29, off := 0 } [.int .i64 n1] 0).cell? { block := k31, off := 0 } = some v31) ∧
 ((setCells w32 { block := k29, off := 0 } [.int .i64 n1] 0).frozen? { block := k31, off := 0 } = false) ∧
 I1 [.map (some k30), .pointer (some { block := k29, off := 0 }), .pointer (some { block := k31, off := 0 })] (setCells (setCells w32 { block := k29, off := 0 } [.int .i64 n1] 0) { block := k31, off := 0 } [.int .i64 (IntKind.i64.wrap (n10 + 2))] 0)) ∧
 ∀ (k32 : Nat) (w33 : World),
 (New w31 (Obj.cells #[.int .i64 0] 3) k32 w33) →
 (∃ n11 : Int,
 (w33.cell? { block := k1, off := 0 } = some (.int .i64 n11)) ∧
 (∃ v32 : Value,
 w33.cell? { block := k29, off := 0 } = some v32) ∧
 (w33.frozen? { block := k29, off := 0 } = false) ∧
 (∃ v33 : Value,
 (setCells w33 { block := k29, off := 0 } [.int .i64 n1] 0).cell? { block := k32, off := 0 } = some v33) ∧
 ((setCells w33 { block := k29, off := 0 } [.int .i64 n1] 0).frozen? { block := k32, off := 0 } = false) ∧
 I1 [.map (some k30), .pointer (some { block := k29, off := 0 }), .pointer (some { block := k32, off := 0 })] (setCells (setCells w33 { block := k29, off := 0 } [.int .i64 n1] 0) { block := k32, off := 0 } [.int .i64 (IntKind.i64.wrap (n11 + 2))] 0)) ∧
 (∃ v34 : Value,
 w33.cell? { block := k29, off := 0 } = some v34) ∧
 (w33.frozen? { block := k29, off := 0 } = false) ∧
 ∃ n12 : Int,
 ((setCells w33 { block := k29, off := 0 } [.int .i64 n1] 0).cell? { block := k1, off := 0 } = some (.int .i64 n12)) ∧
 (∃ v35 : Value,
 (setCells w33 { block := k29, off := 0 } [.int .i64 n1] 0).cell? { block := k32, off := 0 } = some v35) ∧
 ((setCells w33 { block := k29, off := 0 } [.int .i64 n1] 0).frozen? { block := k32, off := 0 } = false) ∧
 I1 [.map (some k30), .pointer (some { block := k29, off := 0 }), .pointer (some { block := k32, off := 0 })] (setCells (setCells w33 { block := k29, off := 0 } [.int .i64 n1] 0) { block := k32, off := 0 } [.int .i64 (IntKind.i64.wrap (n12 + 2))] 0)) ∧
 (∃ n13 : Int,
 (w30.cell? { block := k1, off := 0 } = some (.int .i64 n13)) ∧
 (∀ k33 : Nat,
 ∀ w34 : World,
 (New w30 (Obj.map #[] 0) k33 w34) →
 ∀ (k34 : Nat) (w35 : World),
 (New w34 (Obj.cells #[.int .i64 0] 3) k34 w35) →
 (∃ v36 : Value,
 w35.cell? { block := k29, off := 0 } = some v36) ∧
 (w35.frozen? { block := k29, off := 0 } = false) ∧
 (∃ v37 : Value,
 (setCells w35 { block := k29, off := 0 } [.int .i64 n1] 0).cell? { block := k34, off := 0 } = some v37) ∧
 ((setCells w35 { block := k29, off := 0 } [.int .i64 n1] 0).frozen? { block := k34, off := 0 } = false) ∧
 I1 [.map (some k33), .pointer (some { block := k29, off := 0 }), .pointer (some { block := k34, off := 0 })] (setCells (setCells w35 { block := k29, off := 0 } [.int .i64 n1] 0) { block := k34, off := 0 } [.int .i64 (IntKind.i64.wrap (n13 + 2))] 0)) ∧
 ∀ (k35 : Nat) (w36 : World),
 (New w30 (Obj.cells #[.int .i64 0] 3) k35 w36) →
 ∀ (k36 : Nat) (w37 : World),
 (New w36 (Obj.map #[] 0) k36 w37) →
 (∃ v38 : Value,
 w37.cell? { block := k29, off := 0 } = some v38) ∧
 (w37.frozen? { block := k29, off := 0 } = false) ∧
 (∃ v39 : Value,
 (setCells w37 { block := k29, off := 0 } [.int .i64 n1] 0).cell? { block := k35, off := 0 } = some v39) ∧
 ((setCells w37 { block := k29, off := 0 } [.int .i64 n1] 0).frozen? { block := k35, off := 0 } = false) ∧
 I1 [.map (some k36), .pointer (some { block := k29, off := 0 }), .pointer (some { block := k35, off := 0 })] (setCells (setCells w37 { block := k29, off := 0 } [.int .i64 n1] 0) { block := k35, off := 0 } [.int .i64 (IntKind.i64.wrap (n13 + 2))] 0)) ∧
 ∀ (k37 : Nat) (w38 : World),
 (New w30 (Obj.cells #[.int .i64 0] 3) k37 w38) →
 (∀ k38 : Nat,
 ∀ w39 : World,
 (New w38 (Obj.map #[] 0) k38 w39) →
 (∃ n14 : Int,
 (w39.cell? { block := k1, off := 0 } = some (.int .i64 n14)) ∧
 (∃ v40 : Value,
 w39.cell? { block := k29, off := 0 } = some v40) ∧
 (w39.frozen? { block := k29, off := 0 } = false) ∧
 (∃ v41 : Value,
 (setCells w39 { block := k29, off := 0 } [.int .i64 n1] 0).cell? { block := k37, off := 0 } = some v41) ∧
 ((setCells w39 { block := k29, off := 0 } [.int .i64 n1] 0).frozen? { block := k37, off := 0 } = false) ∧
 I1 [.map (some k38), .pointer (some { block := k29, off := 0 }), .pointer (some { block := k37, off := 0 })] (setCells (setCells w39 { block := k29, off := 0 } [.int .i64 n1] 0) { block := k37, off := 0 } [.int .i64 (IntKind.i64.wrap (n14 + 2))] 0)) ∧
 (∃ v42 : Value,
 w39.cell? { block := k29, off := 0 } = some v42) ∧
 (w39.frozen? { block := k29, off := 0 } = false) ∧
 ∃ n15 : Int,
 ((setCells w39 { block := k29, off := 0 } [.int .i64 n1] 0).cell? { block := k1, off := 0 } = some (.int .i64 n15)) ∧
 (∃ v43 : Value,
 (setCells w39 { block := k29, off := 0 } [.int .i64 n1] 0).cell? { block := k37, off := 0 } = some v43) ∧
 ((setCells w39 { block := k29, off := 0 } [.int .i64 n1] 0).frozen? { block := k37, off := 0 } = false) ∧
 I1 [.map (some k38), .pointer (some { block := k29, off := 0 }), .pointer (some { block := k37, off := 0 })] (setCells (setCells w39 { block := k29, off := 0 } [.int .i64 n1] 0) { block := k37, off := 0 } [.int .i64 (IntKind.i64.wrap (n15 + 2))] 0)) ∧
 ∃ n16 : Int,
 (w38.cell? { block := k1, off := 0 } = some (.int .i64 n16)) ∧
 ∀ (k39 : Nat) (w40 : World),
 (New w38 (Obj.map #[] 0) k39 w40) →
 (∃ v44 : Value,
 w40.cell? { block := k29, off := 0 } = some v44) ∧
 (w40.frozen? { block := k29, off := 0 } = false) ∧
 (∃ v45 : Value,
 (setCells w40 { block := k29, off := 0 } [.int .i64 n1] 0).cell? { block := k37, off := 0 } = some v45) ∧
 ((setCells w40 { block := k29, off := 0 } [.int .i64 n1] 0).frozen? { block := k37, off := 0 } = false) ∧
 I1 [.map (some k39), .pointer (some { block := k29, off := 0 }), .pointer (some { block := k37, off := 0 })] (setCells (setCells w40 { block := k29, off := 0 } [.int .i64 n1] 0) { block := k37, off := 0 } [.int .i64 (IntKind.i64.wrap (n16 + 2))] 0)) ∧
 ∀ (k40 : Nat) (w41 : World),
 (New ((setCells w3 { block := k2, off := 0 } [.pointer p1] 0).drew) (Obj.cells #[.int .i64 0] 3) k40 w41) →
 (∀ k41 : Nat,
 ∀ w42 : World,
 (New w41 (Obj.map #[] 0) k41 w42) →
 (∃ n17 : Int,
 (w42.cell? { block := k1, off := 0 } = some (.int .i64 n17)) ∧
 ∀ (k42 : Nat) (w43 : World),
 (New w42 (Obj.cells #[.int .i64 0] 3) k42 w43) →
 (∃ v46 : Value,
 w43.cell? { block := k42, off := 0 } = some v46) ∧
 (w43.frozen? { block := k42, off := 0 } = false) ∧
 (∃ v47 : Value,
 (setCells w43 { block := k42, off := 0 } [.int .i64 n1] 0).cell? { block := k40, off := 0 } = some v47) ∧
 ((setCells w43 { block := k42, off := 0 } [.int .i64 n1] 0).frozen? { block := k40, off := 0 } = false) ∧
 I1 [.map (some k41), .pointer (some { block := k42, off := 0 }), .pointer (some { block := k40, off := 0 })] (setCells (setCells w43 { block := k42, off := 0 } [.int .i64 n1] 0) { block := k40, off := 0 } [.int .i64 (IntKind.i64.wrap (n17 + 2))] 0)) ∧
 ∀ (k43 : Nat) (w44 : World),
 (New w42 (Obj.cells #[.int .i64 0] 3) k43 w44) →
 (∃ n18 : Int,
 (w44.cell? { block := k1, off := 0 } = some (.int .i64 n18)) ∧
 (∃ v48 : Value,
 w44.cell? { block := k43, off := 0 } = some v48) ∧
 (w44.frozen? { block := k43, off := 0 } = false) ∧
 (∃ v49 : Value,
 (setCells w44 { block := k43, off := 0 } [.int .i64 n1] 0).cell? { block := k40, off := 0 } = some v49) ∧
 ((setCells w44 { block := k43, off := 0 } [.int .i64 n1] 0).frozen? { block := k40, off := 0 } = false) ∧
 I1 [.map (some k41), .pointer (some { block := k43, off := 0 }), .pointer (some { block := k40, off := 0 })] (setCells (setCells w44 { block := k43, off := 0 } [.int .i64 n1] 0) { block := k40, off := 0 } [.int .i64 (IntKind.i64.wrap (n18 + 2))] 0)) ∧
 (∃ v50 : Value,
 w44.cell? { block := k43, off := 0 } = some v50) ∧
 (w44.frozen? { block := k43, off := 0 } = false) ∧
 ∃ n19 : Int,
 ((setCells w44 { block := k43, off := 0 } [.int .i64 n1] 0).cell? { block := k1, off := 0 } = some (.int .i64 n19)) ∧
 (∃ v51 : Value,
 (setCells w44 { block := k43, off := 0 } [.int .i64 n1] 0).cell? { block := k40, off := 0 } = some v51) ∧
 ((setCells w44 { block := k43, off := 0 } [.int .i64 n1] 0).frozen? { block := k40, off := 0 } = false) ∧
 I1 [.map (some k41), .pointer (some { block := k43, off := 0 }), .pointer (some { block := k40, off := 0 })] (setCells (setCells w44 { block := k43, off := 0 } [.int .i64 n1] 0) { block := k40, off := 0 } [.int .i64 (IntKind.i64.wrap (n19 + 2))] 0)) ∧
 (∃ n20 : Int,
 (w41.cell? { block := k1, off := 0 } = some (.int .i64 n20)) ∧
 (∀ k44 : Nat,
 ∀ w45 : World,
 (New w41 (Obj.map #[] 0) k44 w45) →
 ∀ (k45 : Nat) (w46 : World),
 (New w45 (Obj.cells #[.int .i64 0] 3) k45 w46) →
 (∃ v52 : Value,
 w46.cell? { block := k45, off := 0 } = some v52) ∧
 (w46.frozen? { block := k45, off := 0 } = false) ∧
 (∃ v53 : Value,
 (setCells w46 { block := k45, off := 0 } [.int .i64 n1] 0).cell? { block := k40, off := 0 } = some v53) ∧
 ((setCells w46 { block := k45, off := 0 } [.int .i64 n1] 0).frozen? { block := k40, off := 0 } = false) ∧
 I1 [.map (some k44), .pointer (some { block := k45, off := 0 }), .pointer (some { block := k40, off := 0 })] (setCells (setCells w46 { block := k45, off := 0 } [.int .i64 n1] 0) { block := k40, off := 0 } [.int .i64 (IntKind.i64.wrap (n20 + 2))] 0)) ∧
 ∀ (k46 : Nat) (w47 : World),
 (New w41 (Obj.cells #[.int .i64 0] 3) k46 w47) →
 ∀ (k47 : Nat) (w48 : World),
 (New w47 (Obj.map #[] 0) k47 w48) →
 (∃ v54 : Value,
 w48.cell? { block := k46, off := 0 } = some v54) ∧
 (w48.frozen? { block := k46, off := 0 } = false) ∧
 (∃ v55 : Value,
 (setCells w48 { block := k46, off := 0 } [.int .i64 n1] 0).cell? { block := k40, off := 0 } = some v55) ∧
 ((setCells w48 { block := k46, off := 0 } [.int .i64 n1] 0).frozen? { block := k40, off := 0 } = false) ∧
 I1 [.map (some k47), .pointer (some { block := k46, off := 0 }), .pointer (some { block := k40, off := 0 })] (setCells (setCells w48 { block := k46, off := 0 } [.int .i64 n1] 0) { block := k40, off := 0 } [.int .i64 (IntKind.i64.wrap (n20 + 2))] 0)) ∧
 ∀ (k48 : Nat) (w49 : World),
 (New w41 (Obj.cells #[.int .i64 0] 3) k48 w49) →
 (∀ k49 : Nat,
 ∀ w50 : World,
 (New w49 (Obj.map #[] 0) k49 w50) →
 (∃ n21 : Int,
 (w50.cell? { block := k1, off := 0 } = some (.int .i64 n21)) ∧
 (∃ v56 : Value,
 w50.cell? { block := k48, off := 0 } = some v56) ∧
 (w50.frozen? { block := k48, off := 0 } = false) ∧
 (∃ v57 : Value,
 (setCells w50 { block := k48, off := 0 } [.int .i64 n1] 0).cell? { block := k40, off := 0 } = some v57) ∧
 ((setCells w50 { block := k48, off := 0 } [.int .i64 n1] 0).frozen? { block := k40, off := 0 } = false) ∧
 I1 [.map (some k49), .pointer (some { block := k48, off := 0 }), .pointer (some { block := k40, off := 0 })] (setCells (setCells w50 { block := k48, off := 0 } [.int .i64 n1] 0) { block := k40, off := 0 } [.int .i64 (IntKind.i64.wrap (n21 + 2))] 0)) ∧
 (∃ v58 : Value,
 w50.cell? { block := k48, off := 0 } = some v58) ∧
 (w50.frozen? { block := k48, off := 0 } = false) ∧
 ∃ n22 : Int,
 ((setCells w50 { block := k48, off := 0 } [.int .i64 n1] 0).cell? { block := k1, off := 0 } = some (.int .i64 n22)) ∧
 (∃ v59 : Value,
 (setCells w50 { block := k48, off := 0 } [.int .i64 n1] 0).cell? { block := k40, off := 0 } = some v59) ∧
 ((setCells w50 { block := k48, off := 0 } [.int .i64 n1] 0).frozen? { block := k40, off := 0 } = false) ∧
 I1 [.map (some k49), .pointer (some { block := k48, off := 0 }), .pointer (some { block := k40, off := 0 })] (setCells (setCells w50 { block := k48, off := 0 } [.int .i64 n1] 0) { block := k40, off := 0 } [.int .i64 (IntKind.i64.wrap (n22 + 2))] 0)) ∧
 ∃ n23 : Int,
 (w49.cell? { block := k1, off := 0 } = some (.int .i64 n23)) ∧
 ∀ (k50 : Nat) (w51 : World),
 (New w49 (Obj.map #[] 0) k50 w51) →
 (∃ v60 : Value,
 w51.cell? { block := k48, off := 0 } = some v60) ∧
 (w51.frozen? { block := k48, off := 0 } = false) ∧
 (∃ v61 : Value,
 (setCells w51 { block := k48, off := 0 } [.int .i64 n1] 0).cell? { block := k40, off := 0 } = some v61) ∧
 ((setCells w51 { block := k48, off := 0 } [.int .i64 n1] 0).frozen? { block := k40, off := 0 } = false) ∧
 I1 [.map (some k50), .pointer (some { block := k48, off := 0 }), .pointer (some { block := k40, off := 0 })] (setCells (setCells w51 { block := k48, off := 0 } [.int .i64 n1] 0) { block := k40, off := 0 } [.int .i64 (IntKind.i64.wrap (n23 + 2))] 0)) ∧
 ∀ (p2 : Option Nat) (p3 p4 : Option Addr) (w52 : World),
 (I1 [.map p2, .pointer p3, .pointer p4] w52) →
 ∃ p5 : Option Addr,
 (w52.cell? { block := k2, off := 0 } = some (.pointer p5)) ∧
 ∃ n24 : Int,
 (w52.cell? { block := k1, off := 0 } = some (.int .i64 n24)) ∧
 nn (p3) fun a1 =>
 ∃ n25 : Int,
 (w52.cell? a1 = some (.int .i64 n25)) ∧
 Calls P F.bits_Writer_Put #[.pointer p5, .int .u32 (IntKind.u32.wrap n24), .int .i64 n25] w52 fun e2 w53 =>
 ∃ n26 : Int,
 (e2 = .returned (.int .i64 n26)) ∧
 ∃ (I2 : List Value → World → Prop) (m1 : List Value → World → Nat),
 (I2 [.map p2, .int .i64 (-1), .bool false, .int .i64 0] w53) ∧
 ∀ (p6 : Option Nat) (n27 : Int) (c2 : Bool) (n28 : Int) (w54 : World),
 (I2 [.map p6, .int .i64 n27, .bool c2, .int .i64 n28] w54) →
 brB (decide (n28 < (sl1 : Int)))
 (∃ I3 : List Value → World → Prop,
 (idx (sa1) (sl1) (n28) (1) fun a2 =>
 ∃ n29 : Int,
 (w54.cell? a2 = some (.int .u8 n29)) ∧
 brB (decide (n27 < 0))
 (I3 [.map p6, .int .i64 (IntKind.i64.wrap n29), .bool c2] w54)
 (mapIn (Kd.agg [.i64, .u8]) (w54) (.map p6) fun l1 =>
 ∃ (n30 : Int) (c3 : Bool),
 (mgot l1 (.agg #[.int .i64 n27, .int .u8 n29]) (.int .i64 0) = (.int .i64 n30, c3)) ∧
 brB (c3)
 (I3 [.map p6, .int .i64 n30, .bool c2] w54)
 (Calls P F.lzw_kind_pack_fn1 #[.int .i64 n27, .bool c2, .pointer (some { block := k2, off := 0 }), .pointer p3, .pointer p4, .pointer (some { block := k1, off := 0 })] w54 fun e3 w55 =>
 (e3 = .returned (.tuple #[])) ∧
 nn (p4) fun a3 =>
 ∃ n31 : Int,
 (w55.cell? a3 = some (.int .i64 n31)) ∧
 mapTo (Kd.agg [.i64, .u8]) (w55) (.map p6) fun b1 l2 =>
 ∀ w56 : World,
 (Put b1 w55 w56) →
 (Mp (Kd.agg [.i64, .u8]) w56 b1 (mput (.agg #[.int .i64 n27, .int .u8 n29]) (.int .i64 n31) l2)) →
 nn (p4) fun a4 =>
 ∃ n32 : Int,
 (w56.cell? a4 = some (.int .i64 n32)) ∧
 brB (decide (n32 ≥ 4090))
 (∃ p7 : Option Addr,
 (w56.cell? { block := k2, off := 0 } = some (.pointer p7)) ∧
 ∃ n33 : Int,
 (w56.cell? { block := k1, off := 0 } = some (.int .i64 n33)) ∧
 nn (p3) fun a5 =>
 ∃ n34 : Int,
 (w56.cell? a5 = some (.int .i64 n34)) ∧
 Calls P F.bits_Writer_Put #[.pointer p7, .int .u32 (IntKind.u32.wrap n33), .int .i64 n34] w56 fun e4 w57 =>
 ∃ n35 : Int,
 (e4 = .returned (.int .i64 n35)) ∧
 ∃ n36 : Int,
 (w57.drew.cell? { block := k1, off := 1 } = some (.int .i64 n36)) ∧
 (∀ k51 : Nat,
 ∀ w58 : World,
 (New (w57.drew) (Obj.map #[] 0) k51 w58) →
 (∃ n37 : Int,
 (w58.cell? { block := k1, off := 0 } = some (.int .i64 n37)) ∧
 nn (p3) fun a6 =>
 (∃ v62 : Value,
 w58.cell? a6 = some v62) ∧
 (w58.frozen? a6 = false) ∧
 nn (p4) fun a7 =>
 (∃ v63 : Value,
 (setCells w58 a6 [.int .i64 n36] 0).cell? a7 = some v63) ∧
 ((setCells w58 a6 [.int .i64 n36] 0).frozen? a7 = false) ∧
 I3 [.map (some k51), .int .i64 (IntKind.i64.wrap n29), .bool false] (setCells (setCells w58 a6 [.int .i64 n36] 0) a7 [.int .i64 (IntKind.i64.wrap (n37 + 2))] 0)) ∧
 nn (p3) fun a8 =>
 (∃ v64 : Value,
 w58.cell? a8 = some v64) ∧
 (w58.frozen? a8 = false) ∧
 ∃ n38 : Int,
 ((setCells w58 a8 [.int .i64 n36] 0).cell? { block := k1, off := 0 } = some (.int .i64 n38)) ∧
 nn (p4) fun a9 =>
 (∃ v65 : Value,
 (setCells w58 a8 [.int .i64 n36] 0).cell? a9 = some v65) ∧
 ((setCells w58 a8 [.int .i64 n36] 0).frozen? a9 = false) ∧
 I3 [.map (some k51), .int .i64 (IntKind.i64.wrap n29), .bool false] (setCells (setCells w58 a8 [.int .i64 n36] 0) a9 [.int .i64 (IntKind.i64.wrap (n38 + 2))] 0)) ∧
 ∃ n39 : Int,
 (w57.drew.cell? { block := k1, off := 0 } = some (.int .i64 n39)) ∧
 ∀ (k52 : Nat) (w59 : World),
 (New (w57.drew) (Obj.map #[] 0) k52 w59) →
 nn (p3) fun a10 =>
 (∃ v66 : Value,
 w59.cell? a10 = some v66) ∧
 (w59.frozen? a10 = false) ∧
 nn (p4) fun a11 =>
 (∃ v67 : Value,
 (setCells w59 a10 [.int .i64 n36] 0).cell? a11 = some v67) ∧
 ((setCells w59 a10 [.int .i64 n36] 0).frozen? a11 = false) ∧
 I3 [.map (some k52), .int .i64 (IntKind.i64.wrap n29), .bool false] (setCells (setCells w59 a10 [.int .i64 n36] 0) a11 [.int .i64 (IntKind.i64.wrap (n39 + 2))] 0))
 (I3 [.map p6, .int .i64 (IntKind.i64.wrap n29), .bool true] w56)))) ∧
 ∀ (p8 : Option Nat) (n40 : Int) (c4 : Bool) (w60 : World),
 (I3 [.map p8, .int .i64 n40, .bool c4] w60) →
 (I2 [.map p8, .int .i64 n40, .bool c4, .int .i64 (IntKind.i64.wrap (n28 + 1))] w60) ∧
 m1 [.map p8, .int .i64 n40, .bool c4, .int .i64 (IntKind.i64.wrap (n28 + 1))] w60 < m1 [.map p6, .int .i64 n27, .bool c2, .int .i64 n28] w54)
 (∃ I4 : List Value → World → Prop,
 (brB (decide (n27 ≥ 0))
 (Calls P F.lzw_kind_pack_fn1 #[.int .i64 n27, .bool c2, .pointer (some { block := k2, off := 0 }), .pointer p3, .pointer p4, .pointer (some { block := k1, off := 0 })] w54 fun e5 w61 =>
 (e5 = .returned (.tuple #[])) ∧
 I4 [] w61)
 (I4 [] w54)) ∧
 ∀ w62 : World,
 (I4 [] w62) →
 ∃ p9 : Option Addr,
 (w62.cell? { block := k2, off := 0 } = some (.pointer p9)) ∧
 ∃ n41 : Int,
 (w62.cell? { block := k1, off := 0 } = some (.int .i64 n41)) ∧
 nn (p3) fun a12 =>
 ∃ n42 : Int,
 (w62.cell? a12 = some (.int .i64 n42)) ∧
 Calls P F.bits_Writer_Put #[.pointer p9, .int .u32 (IntKind.u32.wrap (IntKind.i64.wrap (n41 + 1))), .int .i64 n42] w62 fun e6 w63 =>
 ∃ n43 : Int,
 (e6 = .returned (.int .i64 n43)) ∧
 ∃ p10 : Option Addr,
 (w63.cell? { block := k2, off := 0 } = some (.pointer p10)) ∧
 Calls P F.bits_Writer_Bytes #[.pointer p10] w63 fun e7 w64 =>
 ∃ (p11 : Option Addr) (k53 k54 : Nat),
 (e7 = .returned (.slice p11 k53 k54)) ∧
 R (.returned (.slice p11 k53 k54)) w64)
theorem calls_lzw_kind_pack (x1 x2 : Int) (b1 : Bool) (x3 : Int) (sa1 : Option Addr) (sl1 sc1 : Nat) (w : World) (R : Ending → World → Prop) (h : vc_lzw_kind_pack x1 x2 b1 x3 sa1 sl1 sc1 w R) : Calls P F.lzw_kind_pack #[.agg #[.int .i64 x1, .int .i64 x2, .bool b1, .int .i64 x3], .slice sa1 sl1 sc1] w R :=
  calls_of_vc (ac := ac_lzw_kind_pack) mixed Try.func53 (by kernel_rfl) (cast (by unfold vc_lzw_kind_pack FnVc; kernel_rfl) h)
end Go.Proofs.Ytiiaihiliimcoaa
namespace Go.Proofs.Ytiiaihiliimcoaa
open Go Go.Vc Go.RowKit
set_option maxRecDepth 100000
def KI (w : World) (k1 k2 kw kn wb : Nat) (bs : List Int) (cl w0 early : Nat) (up : Bool) (res : List Int) (i : Nat) (vs : List Value) (u : World) : Prop := match vs with
 | [.map (some km), .int _ at_, .bool fr] => ∃ (S : Nat → Prop) (E : List (Nat × Int)) (wd : Nat) (ato : Option Nat) (bsW : List Int) (m : Nat),
   KM w u k1 k2 kw kn km wb S cl w0 early up (kvsOf E (cl + 2)) wd (cl + 2 + (E.length - 1)) bsW m ∧ at_ = ahI ato ∧ fr = decide (E.length ≠ 0) ∧ cl + 2 + E.length ≤ 4090 ∧ 1 ≤ wd ∧ wd ≤ 12 ∧ (∀ a, ato = some a → a < 4096) ∧
   (putAll up (pk cl w0 early (bs.drop i) E wd ato) (bsW, m)).1 = res ∧ m ≤ 24 * i + 12 ∧ i ≤ bs.length
 | _ => False
set_option maxHeartbeats 8000000 in
theorem packK_spec {N cl w0 early : Nat} {up : Bool} {w : World} {base : Option Addr} {len cap : Nat} {bs : List Int} {R : Ending → World → Prop}
  (h : Sl N w base (bytes bs)) (hl : len = bs.length) (hsz : len ≤ 2 ^ 24) (hf : Bs bs) (hcl : cl ≤ 256) (hw1 : 1 ≤ w0) (hw2 : w0 ≤ 12) (he : early ≤ 1)
  (hR : ∀ p l c w', Fg [] w w' 1 p l c (bytes (packL bs cl w0 early up)) → R (.returned (.slice p l c)) w') :
  Calls P F.lzw_kind_pack #[.agg #[i64 cl, i64 w0, .bool up, i64 early], .slice base len cap] w R := by
 refine calls_lzw_kind_pack _ _ _ _ _ _ _ _ _ ?_
 unfold vc_lzw_kind_pack
 generalize hres : packL bs cl w0 early up = res at hR
 unfold packL at hres
 intro k1 w1 hn1
 have hk1 := hn1.1
 have hs1 := hn1.size
 have he1 := hn1.ext.size
 refine ⟨up, hn1.cs.cell (i := 2) rfl, ?_⟩
 refine NewWriter_spec fun wb w2 hE2 hwb hw2' => ⟨_, rfl, fun k2 w3 hn3 => ?_⟩
 have hs2 := hE2.size
 have hwl := hw2'.lt
 have hk2 := hn3.1
 have hs3 := hn3.size
 have he3 := hn3.ext.size
 refine ⟨⟨_, hn3.cs.cell (i := 0) rfl⟩, hn3.cs.frozen 0, ?_⟩
 have hC4 := Chg.setCells w3 ⟨k2, 0, none⟩ [.pointer (some ⟨wb, 0, none⟩)] 0
 have e4 : ∀ {k : Nat}, (· = (⟨k2, 0, none⟩ : Addr).block) k → k = k2 := fun h => h
 have hs4 := hC4.size
 have hsz4 : (setCells w3 ⟨k2, 0, none⟩ [.pointer (some ⟨wb, 0, none⟩)] 0).heap.size = w3.heap.size := (setCells_same _ _ _ _).size
 have hE12 := hn1.ext.trans hE2
 have hE3 : Ext w w3 := hE12.trans hn3.ext
 have hE4 : Ext w (setCells w3 ⟨k2, 0, none⟩ [.pointer (some ⟨wb, 0, none⟩)] 0).drew := (hE3.step hC4 fun i hi => by have := e4 hi; omega).drew
 have ck4 : Cs (setCells w3 ⟨k2, 0, none⟩ [.pointer (some ⟨wb, 0, none⟩)] 0).drew k1 [i64 cl, i64 w0, .bool up, i64 early] :=
  (((hn1.cs.ext hE2).ext hn3.ext).chg hC4 fun hi => by have := e4 hi; omega).drew
 have cr4 : Cs (setCells w3 ⟨k2, 0, none⟩ [.pointer (some ⟨wb, 0, none⟩)] 0).drew k2 [.pointer (some ⟨wb, 0, none⟩)] := by
  have := hn3.cs.set1 (off := 0) (v := .pointer (some ⟨wb, 0, none⟩)) (by simp)
  exact (show Cs _ _ _ by simpa using this).drew
 have wr4 : WrAt (setCells w3 ⟨k2, 0, none⟩ [.pointer (some ⟨wb, 0, none⟩)] 0).drew (some ⟨wb, 0, none⟩) wb (fun _ => False) [] 0 up :=
  ((hw2'.ext hn3.ext).chg hC4 (fun hi => by have := e4 hi; omega) (fun _ h => h.elim)).ext (Ext.refl _).drew
 generalize (setCells w3 ⟨k2, 0, none⟩ [.pointer (some ⟨wb, 0, none⟩)] 0).drew = u0 at *
 have hlo : w.heap.size ≤ k1 ∧ w.heap.size ≤ k2 ∧ w.heap.size ≤ wb := by omega
 have hnd : k1 ≠ k2 ∧ k1 ≠ wb ∧ k2 ≠ wb := by omega
 have hI0 := IS.init u0
 refine ⟨fun vs u => match vs with | [.map (some km), .pointer (some pw), .pointer (some pn)] => ∃ kw kn, pw = ⟨kw, 0, none⟩ ∧ pn = ⟨kn, 0, none⟩ ∧ KM w u k1 k2 kw kn km wb (fun _ => False) cl w0 early up [] w0 (cl + 2) [] 0 | _ => False, ?_, ?_⟩
 ·have fin : ∀ {a b km : Nat} {u : World} {cs : List Nat}, IS u0 [km] cs u → a ∈ cs → b ∈ cs → a ≠ b → ∃ kw kn, (⟨a, 0, none⟩ : Addr) = ⟨kw, 0, none⟩ ∧ (⟨b, 0, none⟩ : Addr) = ⟨kn, 0, none⟩ ∧
    KM w (setCells (setCells u ⟨a, 0, none⟩ [i64 w0] 0) ⟨b, 0, none⟩ [i64 (IntKind.i64.wrap ((cl : Int) + 2))] 0) k1 k2 kw kn km wb (fun _ => False) cl w0 early up [] w0 (cl + 2) [] 0 := fun hI ha hb hab =>
   ⟨_, _, rfl, rfl, hI.fin ha hb hab hE4 ck4 cr4 wr4 hlo hnd hcl⟩
  have hne : ∀ {ms cs : List Nat} {u : World} {a b : Nat}, IS u0 ms (a :: b :: cs) u → a ≠ b := fun hI e => by
   have := hI.nd
   subst e
   simp at this
  have l0 : ∀ {ms cs : List Nat} {u : World}, IS u0 ms cs u → u.cell? ⟨k1, 0, none⟩ = some (i64 cl) := fun hI => hI.ld ck4 rfl
  have l1 : ∀ {ms cs : List Nat} {u : World}, IS u0 ms cs u → u.cell? ⟨k1, 1, none⟩ = some (i64 w0) := fun hI => hI.ld ck4 rfl
  clear hres h hR
  repeat' first
   | (intro k u hn; have hI := IS.map (by assumption) hn; clear hn)
   | (intro k u hn; have hI := IS.cell (by assumption) hn; clear hn)
   | exact fin (by assumption) (by simp) (by simp) (hne (by assumption))
   | exact fin (by assumption) (by simp) (by simp) (hne (by assumption)).symm
   | exact IS.ex (by assumption) (by simp)
   | exact IS.ex (IS.st (by assumption) (by simp)) (by simp)
   | exact IS.fz (by assumption) (by simp)
   | exact IS.fz (IS.st (by assumption) (by simp)) (by simp)
   | refine ⟨_, l1 (by assumption), ?_⟩
   | refine ⟨_, l0 (by assumption), ?_⟩
   | refine ⟨_, l0 (IS.st (by assumption) (by simp)), ?_⟩
   | refine And.intro ?_ ?_
 intro p2 p3 p4 w52 hI1
 obtain ⟨km, rfl⟩ : ∃ km, p2 = some km := by cases p2 with | none => exact hI1.elim | some km => exact ⟨km, rfl⟩
 obtain ⟨pw, rfl⟩ : ∃ pw, p3 = some pw := by cases p3 with | none => exact hI1.elim | some pw => exact ⟨pw, rfl⟩
 obtain ⟨pn, rfl⟩ : ∃ pn, p4 = some pn := by cases p4 with | none => exact hI1.elim | some pn => exact ⟨pn, rfl⟩
 obtain ⟨kw, kn, rfl, rfl, km52⟩ := hI1
 clear hI0 ck4 cr4 wr4 hE4
 refine ⟨_, km52.cr.cell (i := 0) rfl, _, km52.ck.cell (i := 0) rfl, nn_i rfl ⟨_, km52.cw.cell (i := 0) rfl, ?_⟩⟩
 rw [wu32 (x := (cl : Int)) (by omega) (by omega)]
 refine Put_spec km52.wr km52.ok (by omega) (by omega) (by omega) (fun hh => by omega) fun _ _ S1 w53 hg1 hC1 hwr1 => ⟨_, rfl, ?_⟩
 rw [Int.toNat_natCast] at hwr1
 have km53 := km52.put hg1 hC1 hwr1 (by have := putV_ok (v := cl) (n := w0) km52.ok w0; exact this)
 rw [putAll] at hres
 refine ⟨fun vs u => match vs with | [.map p6, .int k a, .bool fr, .int _ i] => ∃ n : Nat, i = n ∧ KI w k1 k2 kw kn wb bs cl w0 early up res n [.map p6, .int k a, .bool fr] u | _ => False,
  fun vs _ => match vs with | [.map _, .int _ _, .bool _, .int _ i] => (bs.length - i).toNat | _ => 0, ⟨0, rfl, S1, [], w0, none, _, _, km53, rfl, rfl, by simp; omega, hw1, hw2, by simp, hres, by omega, by omega⟩, ?_⟩
 intro p6 n27 c2 n28 w54 hI2
 obtain ⟨i, rfl, hI2⟩ := hI2
 obtain ⟨km', rfl⟩ : ∃ km, p6 = some km := by cases p6 with | none => exact hI2.elim | some km => exact ⟨km, rfl⟩
 obtain ⟨S, E, wd, ato, bsW, m, km54, rfl, rfl, hE90, hwd1, hwd2, hat, hpk, hm, hi⟩ := hI2
 clear km52 km53 hres hwr1 hg1 hC1
 have hputA : ∀ {a : Nat} {R' : Ending → World → Prop}, a < 4096 → (∀ S' u', KM w u' k1 k2 kw kn km' wb S' cl w0 early up (kvsOf E (cl + 2)) (wdA cl early E wd) (cl + 2 + E.length) (putV up bsW m a wd wd) (m + wd) → R' (.returned (.tuple #[])) u') →
   Calls P F.lzw_kind_pack_fn1 #[i64 a, .bool (decide (E.length ≠ 0)), .pointer (some ⟨k2, 0, none⟩), .pointer (some ⟨kw, 0, none⟩), .pointer (some ⟨kn, 0, none⟩), .pointer (some ⟨k1, 0, none⟩)] w54 R' := fun {a R'} ha hK => by
  refine putF_spec km54 (by omega) hwd1 hwd2 (by omega) (by omega) he fun S' u' hkm => hK S' u' ?_
  by_cases hE0 : E.length = 0
  ·simp only [hE0, ne_eq, not_true_eq_false, decide_false, Bool.false_eq_true, if_false] at hkm
   unfold wdA
   rw [if_pos hE0, hE0]; exact hkm
  ·simp only [hE0, ne_eq, not_false_eq_true, decide_true, if_true] at hkm
   unfold wdA
   rw [if_neg hE0, show cl + 2 + E.length = cl + 2 + (E.length - 1) + 1 by omega]; exact hkm
 refine brB_i (fun hb => ?_) (fun hb => ?_)
 ·have hb : (i : Int) < len := by simpa using hb
  have hil : i < bs.length := by omega
  have hxr : 0 ≤ bs.getD i 0 ∧ bs.getD i 0 ≤ 255 := by
   obtain ⟨v, h1, h2⟩ := getD_fit hf i
   omega
  rw [drop_cons_of hil] at hpk
  generalize hxv : bs.getD i 0 = x at *
  have hxe : x = (x.toNat : Int) := by omega
  refine ⟨fun vs u => KI w k1 k2 kw kn wb bs cl w0 early up res (i + 1) vs u, ?_, fun p8 n40 c4 w60 hI3 => ?_⟩
  rotate_left
  ·rw [w64 (x := (i : Int) + 1) (by omega) (by omega)]
   exact ⟨⟨i + 1, by omega, hI3⟩, by show ((bs.length : Int) - (i + 1)).toNat < ((bs.length : Int) - i).toNat; omega⟩
  refine (h.ext km54.ext).get (by omega) (by rw [bytes_length]; omega) (v := u8 x) (by rw [Int.toNat_natCast, bytes_get hil, hxv]) fun a2 ha2 => ⟨_, ha2, ?_⟩
  rw [w64 (x := x) (by omega) (by omega)]
  cases ato with
  | none =>
   refine brB_t (by simp [ahI]) ⟨S, E, wd, some x.toNat, bsW, m, km54, hxe, rfl, hE90, hwd1, hwd2, fun a ha => by cases ha; omega, hpk, by omega, by omega⟩
  | some a =>
   have ha4 := hat a rfl
   refine brB_f (decide_eq_false (by show ¬ (a : Int) < 0; omega)) ⟨_, km54.mp, ?_⟩
   have hkey : (Value.agg #[i64 (ahI (some a)), u8 x]) = keyP a x := rfl
   rw [hkey]
   rw [pk] at hpk
   cases hfd : fnd a x E (cl + 2) with
   | some c =>
    rw [hfd] at hpk
    have hfc := fnd_some hfd
    refine ⟨c, true, by unfold mgot; rw [mfind_P, hfd]; rfl, brB_t rfl ⟨S, E, wd, some c, bsW, m, km54, rfl, rfl, hE90, hwd1, hwd2, fun a ha => by cases ha; omega, hpk, by omega, by omega⟩⟩
   | none =>
    rw [hfd] at hpk
    simp only at hpk
    have hwdr := wdA_range (cl := cl) (early := early) (E := E) hwd1 hwd2
    refine ⟨0, false, by unfold mgot; rw [mfind_P, hfd]; rfl, brB_f rfl ?_⟩
    refine hputA ha4 fun S5 w55 km55 => ⟨rfl, nn_i rfl ⟨_, km55.cn.cell (i := 0) rfl, _, km55.mp, fun w56 hP56 hm56 => ?_⟩⟩
    rw [mput_P a x E (cl + 2) hfd] at hm56
    have km56 := km55.setm hP56 hm56
    refine nn_i rfl ⟨_, km56.cn.cell (i := 0) rfl, brB_i (fun hb2 => ?_) (fun hb2 => ?_)⟩
    ·have hb2 : 4090 ≤ cl + 2 + E.length := by
      have : ((cl + 2 + E.length : Nat) : Int) ≥ 4090 := by simpa using hb2
      omega
     rw [if_pos hb2, putAll, putAll] at hpk
     refine ⟨_, km56.cr.cell (i := 0) rfl, _, km56.ck.cell (i := 0) rfl, nn_i rfl ⟨_, km56.cw.cell (i := 0) rfl, ?_⟩⟩
     rw [wu32 (x := (cl : Int)) (by omega) (by omega)]
     refine Put_spec km56.wr km56.ok (by omega) (by omega) (by omega) (fun hh => by omega) fun _ _ S7 w57 hg7 hC7 hwr7 => ⟨_, rfl, ?_⟩
     rw [Int.toNat_natCast] at hwr7
     have km57 := (km56.put hg7 hC7 hwr7 (by have := putV_ok (v := cl) (n := wdA cl early E wd) km56.ok (wdA cl early E wd); exact this)).dr
     have hfin : ∀ (k51 : Nat) (w58 : World), New w57.drew (.map #[] 0) k51 w58 → KM w w58 k1 k2 kw kn k51 wb S7 cl w0 early up [] (wdA cl early E wd) (cl + 2 + E.length) (putV up (putV up bsW m a wd wd) (m + wd) cl (wdA cl early E wd) (wdA cl early E wd)) (m + wd + wdA cl early E wd) ∧
       KI w k1 k2 kw kn wb bs cl w0 early up res (i + 1) [.map (some k51), i64 x, .bool false] (setCells (setCells w58 ⟨kw, 0, none⟩ [i64 w0] 0) ⟨kn, 0, none⟩ [i64 (IntKind.i64.wrap ((cl : Int) + 2))] 0) := fun k51 w58 hn58 => by
      have km58 := km57.newm hn58
      refine ⟨km58, S7, [], w0, some x.toNat, _, _, ?_, hxe, rfl, by simp; omega, hw1, hw2, fun a ha => by cases ha; omega, hpk, by omega, by omega⟩
      rw [w64 (by omega) (by omega)]
      exact (km58.setw w0).setn (cl + 2)
     refine ⟨_, km57.ck.cell (i := 1) rfl, fun k51 w58 hn58 => ?_, _, km57.ck.cell (i := 0) rfl, fun k52 w59 hn59 => ?_⟩
     ·obtain ⟨km58, hki⟩ := hfin k51 w58 hn58
      have kmw := km58.setw w0
      refine ⟨⟨_, km58.ck.cell (i := 0) rfl, nn_i rfl ⟨⟨_, km58.cw.cell (i := 0) rfl⟩, km58.cw.frozen 0, nn_i rfl ⟨⟨_, kmw.cn.cell (i := 0) rfl⟩, kmw.cn.frozen 0, hki⟩⟩⟩,
       nn_i rfl ⟨⟨_, km58.cw.cell (i := 0) rfl⟩, km58.cw.frozen 0, _, kmw.ck.cell (i := 0) rfl, nn_i rfl ⟨⟨_, kmw.cn.cell (i := 0) rfl⟩, kmw.cn.frozen 0, hki⟩⟩⟩
     ·obtain ⟨km58, hki⟩ := hfin k52 w59 hn59
      have kmw := km58.setw w0
      exact nn_i rfl ⟨⟨_, km58.cw.cell (i := 0) rfl⟩, km58.cw.frozen 0, nn_i rfl ⟨⟨_, kmw.cn.cell (i := 0) rfl⟩, kmw.cn.frozen 0, hki⟩⟩
    ·have hb2 : ¬ 4090 ≤ cl + 2 + E.length := by
      have : ¬ ((cl + 2 + E.length : Nat) : Int) ≥ 4090 := by simpa using hb2
      omega
     rw [if_neg hb2, putAll] at hpk
     refine ⟨S5, E ++ [(a, x)], wdA cl early E wd, some x.toNat, _, _, ?_, hxe, by simp, by simp; omega, hwdr.1, hwdr.2, fun a ha => by cases ha; omega, hpk, by omega, by omega⟩
     rw [show (E ++ [(a, x)]).length - 1 = E.length by simp]; exact km56
 ·have hb : ¬ (i : Int) < len := by simpa using hb
  rw [List.drop_of_length_le (by omega)] at hpk
  have hwdr := wdA_range (cl := cl) (early := early) (E := E) hwd1 hwd2
  refine ⟨fun vs u => vs = [] ∧ ∃ S wd nx bsW m, KM w u k1 k2 kw kn km' wb S cl w0 early up (kvsOf E (cl + 2)) wd nx bsW m ∧ putV up bsW m (cl + 1 : Nat) wd wd = res ∧ 1 ≤ wd ∧ wd ≤ 12 ∧ m ≤ 2 ^ 40, ?_, ?_⟩
  ·cases ato with
   | none =>
    refine brB_f (by simp [ahI]) ⟨rfl, S, wd, _, bsW, m, km54, by simpa [pk, putAll] using hpk, hwd1, hwd2, by omega⟩
   | some a =>
    refine brB_t (by simp [ahI]) (hputA (hat a rfl) fun S5 w55 km55 => ⟨rfl, rfl, S5, _, _, _, _, km55, by simpa [pk, putAll] using hpk, hwdr.1, hwdr.2, by omega⟩)
  ·intro w62 hI4
   obtain ⟨-, S6, wd6, nx6, bs6, m6, km62, hr, hwd61, hwd62, hm6⟩ := hI4
   refine ⟨_, km62.cr.cell (i := 0) rfl, _, km62.ck.cell (i := 0) rfl, nn_i rfl ⟨_, km62.cw.cell (i := 0) rfl, ?_⟩⟩
   rw [w64 (x := (cl : Int) + 1) (by omega) (by omega), wu32 (x := (cl : Int) + 1) (by omega) (by omega), show (cl : Int) + 1 = ((cl + 1 : Nat) : Int) by omega]
   refine Put_spec km62.wr km62.ok (by omega) (by omega) (by omega) (fun hh => by omega) fun _ _ S7 w63 hg7 hC7 hwr7 => ⟨_, rfl, ?_⟩
   rw [Int.toNat_natCast] at hwr7
   have hok7 := putV_ok (v := (cl + 1 : Nat)) (n := wd6) km62.ok wd6
   have km63 := km62.put hg7 hC7 hwr7 hok7
   refine ⟨_, km63.cr.cell (i := 0) rfl, ?_⟩
   have hlen := hok7.hi
   refine WBytes_spec km63.wr (by omega) fun p k w64' hE64 ho64 => ⟨_, _, _, rfl, ?_⟩
   have hfg := Fg.ofOw (bs := []) ho64 km63.ext hE64 (by simp)
   rw [hr] at hfg ⊢
   exact hR _ _ _ _ hfg
end Go.Proofs.Ytiiaihiliimcoaa
namespace Go.Proofs.Ytiiaihiliimcoaa
open Go Go.Vc Go.RowKit
set_option maxRecDepth 100000
def gfitsB (bs : List Int) (size : Int) : Bool := bs.all fun x => decide (x < 2 ^ size.toNat)
def gifPackR (bs : List Int) (size : Int) : List Int × Int := if size < 2 ∨ size > 8 then ([], 2) else if gfitsB bs size then (packL bs (2 ^ size.toNat) (size.toNat + 1) 0 false, 0) else ([], 2)
theorem fitsB_iff {bs : List Int} {size : Int} : gfitsB bs size = true ↔ ∀ i, i < bs.length → bs.getD i 0 < 2 ^ size.toNat := by
 unfold gfitsB
 rw [List.all_eq_true]
 constructor
 ·intro h i hi
  have := h (bs.getD i 0) (by simp [List.getD, List.getElem?_eq_getElem hi])
  simpa using this
 ·intro h x hx
  obtain ⟨i, hi, rfl⟩ := List.getElem_of_mem hx
  have := h i hi
  simpa [List.getD, List.getElem?_eq_getElem hi] using this
section
variable {N : Nat} {size : Int} {w : World} {base : Option Addr} {len cap : Nat} {bs : List Int} {R : Ending → World → Prop}
theorem GifPack_spec (h : Sl N w base (bytes bs)) (hl : len = bs.length) (hsz : len ≤ 2 ^ 24) (hf : Bs bs)
  (hR : ∀ p l c w', Fg [] w w' 1 p l c (bytes (gifPackR bs size).1) → R (.returned (.tuple #[.slice p l c, i64 (gifPackR bs size).2])) w') :
  Calls P F.lzw_GifPack #[.slice base len cap, i64 size] w R := by
 refine calls_lzw_GifPack _ _ _ _ _ _ ?_
 refine brB_i (fun hb => ?_) (fun hb => ?_)
 ·have hb : size < 2 ∨ size > 8 := by simpa using hb
  rw [gifPackR, if_pos hb] at hR
  exact hR none 0 0 w (Fg.nil (Ext.refl w) 1)
 have hb : ¬ (size < 2 ∨ size > 8) := by simpa using hb
 rw [gifPackR, if_neg hb] at hR
 obtain ⟨n, rfl⟩ := Int.eq_ofNat_of_zero_le (show 0 ≤ size by omega)
 rw [Int.toNat_natCast] at hR
 have hp := pow8 n (by omega) (by omega)
 refine ⟨fun vs u => match vs with | [.int _ k] => ∃ i : Nat, k = i ∧ i ≤ bs.length ∧ Ext w u ∧ ∀ j, j < i → bs.getD j 0 < 2 ^ n | _ => False, fun vs _ => match vs with | [.int _ k] => (bs.length - k).toNat | _ => 0, ⟨0, rfl, by omega, Ext.refl w, by simp⟩, fun k w1 hI => ?_⟩
 obtain ⟨i, rfl, hi, hE1, hall⟩ := hI
 have e2 : ((2 : Int) ^ n) = ((2 ^ n : Nat) : Int) := by simp
 refine brB_i (fun hlt => ?_) (fun hge => ?_)
 ·have hlt : (i : Int) < len := by simpa using hlt
  have hil : i < bs.length := by omega
  have hxr : 0 ≤ bs.getD i 0 ∧ bs.getD i 0 ≤ 255 := by
   obtain ⟨v, h1, h2⟩ := getD_fit hf i
   omega
  refine (h.ext hE1).get (by omega) (by rw [bytes_length]; omega) (v := u8 (bs.getD i 0)) (by rw [Int.toNat_natCast, bytes_get hil]) fun a ha => ⟨_, ha, by omega, ?_⟩
  rw [w64 (x := bs.getD i 0) (by omega) (by omega), shl8 n (by omega)]
  refine brB_i (fun hb2 => ?_) (fun hb2 => ?_)
  ·have hb2 : bs.getD i 0 ≥ ((2 ^ n : Nat) : Int) := by simpa using hb2
   have : gfitsB bs (n : Int) = false := by
    rw [← Bool.not_eq_true, fitsB_iff]
    intro hh
    have := hh i hil
    rw [Int.toNat_natCast] at this; omega
   rw [this] at hR
   exact hR none 0 0 w1 (Fg.nil hE1 1)
  ·have hb2 : ¬ bs.getD i 0 ≥ ((2 ^ n : Nat) : Int) := by simpa using hb2
   rw [w64 (by omega) (by omega)]
   refine ⟨⟨i + 1, by omega, by omega, hE1, fun j hj => ?_⟩, by show ((bs.length : Int) - (i + 1)).toNat < ((bs.length : Int) - i).toNat; omega⟩
   by_cases hji : j < i
   ·exact hall j hji
   ·have : j = i := by omega
    subst this; omega
 ·have hge : ¬ (i : Int) < len := by simpa using hge
  have : gfitsB bs (n : Int) = true := by
   rw [fitsB_iff, Int.toNat_natCast]
   exact fun j hj => hall j (by omega)
  rw [this] at hR
  simp only [if_true] at hR
  refine gif_spec (by omega) (by omega) fun w2 hE2 => ⟨_, _, _, _, rfl, ?_⟩
  have hE := hE1.trans hE2
  exact packK_spec (early := 0) (h.ext hE) hl hsz hf hp.2 (by omega) (by omega) (by omega) fun p l c w3 hF => ⟨_, _, _, rfl, hR p l c w3 (hF.from (bs := []) hE (by simp))⟩
end
end Go.Proofs.Ytiiaihiliimcoaa
namespace Go.Proofs.Ytiiaihiliimcoaa
open Go Go.Vc Go.RowKit
set_option maxRecDepth 100000
theorem putV_bits {up : Bool} {bs : List Int} {m : Nat} {v : Int} {n : Nat} (h : WOk up bs m) : ∀ k j, bitAt (putV up bs m v n k) up j = if m ≤ j ∧ j < m + k then bitOf up v n (j - m) else bitAt bs up j
 | 0, j => by rw [if_neg (by omega)]; rfl
 | k + 1, j => by
  rw [putV, ((putV_ok h k).add (bitOf_01 up v n k)).2.1, putV_bits h k]
  by_cases e : j = m + k
  ·subst e; rw [if_pos rfl, if_pos (by omega), Nat.add_sub_cancel_left]
  ·rw [if_neg e]
   by_cases h2 : m ≤ j ∧ j < m + k
   ·rw [if_pos h2, if_pos (by omega)]
   ·rw [if_neg h2, if_neg (by omega)]
theorem imod_mul {v a b : Int} (v0 : 0 ≤ v) (a0 : 0 ≤ a) (b0 : 0 ≤ b) : v % (a * b) = v % a + a * (v / a % b) := by
 obtain ⟨v, rfl⟩ := Int.eq_ofNat_of_zero_le v0
 obtain ⟨a, rfl⟩ := Int.eq_ofNat_of_zero_le a0
 obtain ⟨b, rfl⟩ := Int.eq_ofNat_of_zero_le b0
 have := Nat.mod_mul (x := v) (a := a) (b := b)
 exact_mod_cast this
theorem takeV_wrote {up : Bool} {bs : List Int} {m n : Nat} {v : Int} (v0 : 0 ≤ v) (hb : ∀ j, j < n → bitAt bs up (m + j) = bitOf up v n j) : takeV bs up m n = v % 2 ^ n := by
 cases up
 ·have key : ∀ k, k ≤ n → takeV bs false m k = v % 2 ^ k := by
   intro k
   induction k with
   | zero => intro _; simp [takeV] <;> omega
   | succ k ih =>
    intro hk
    rw [takeV, if_neg (by simp), ih (by omega), hb k (by omega)]
    unfold bitOf
    rw [if_neg (by simp), Int.pow_succ, imod_mul v0 (Int.le_of_lt (Int.pow_pos (by omega))) (by omega)]
    rw [Int.mul_comm]
  exact key n (Nat.le_refl _)
 ·have key : ∀ k, k ≤ n → takeV bs true m k = v / 2 ^ (n - k) % 2 ^ k := by
   intro k
   induction k with
   | zero => intro _; simp [takeV] <;> omega
   | succ k ih =>
    intro hk
    rw [takeV, if_pos rfl, ih (by omega), hb k (by omega)]
    unfold bitOf
    rw [if_pos rfl, show n - 1 - k = n - (k + 1) by omega]
    generalize hu : v / 2 ^ (n - (k + 1)) = u
    have e : v / 2 ^ (n - k) = u / 2 := by
     rw [← hu, show n - k = (n - (k + 1)) + 1 by omega, Int.pow_succ, Int.ediv_ediv_of_nonneg (Int.le_of_lt (Int.pow_pos (by omega)))]
    have u0 : 0 ≤ u := hu ▸ Int.ediv_nonneg v0 (Int.le_of_lt (Int.pow_pos (by omega)))
    rw [e, Int.pow_succ, Int.mul_comm (2 ^ k) 2, imod_mul u0 (by omega) (Int.le_of_lt (Int.pow_pos (by omega)))]
    omega
  have := key n (Nat.le_refl _)
  rwa [Nat.sub_self, Int.pow_zero, Int.ediv_one] at this
def Reads (up : Bool) (W : List Int) : Nat → List (Nat × Nat) → Prop
 | _, [] => True
 | p, e :: r => p + e.2 ≤ 8 * W.length ∧ takeV W up p e.2 = e.1 ∧ Reads up W (p + e.2) r
def FitC (l : List (Nat × Nat)) : Prop := ∀ e ∈ l, e.1 < 2 ^ e.2 ∧ 1 ≤ e.2 ∧ e.2 ≤ 12
theorem putAll_ok {up : Bool} : ∀ (l : List (Nat × Nat)) (s : List Int × Nat), WOk up s.1 s.2 → WOk up (putAll up l s).1 (putAll up l s).2 ∧ s.2 ≤ (putAll up l s).2 ∧ ∀ j, j < s.2 → bitAt (putAll up l s).1 up j = bitAt s.1 up j
 | [], s, h => ⟨h, Nat.le_refl _, fun _ _ => rfl⟩
 | e :: r, s, h => by
  have h1 := putV_ok (v := e.1) (n := e.2) h e.2
  obtain ⟨h2, h3, h4⟩ := putAll_ok r (putV up s.1 s.2 e.1 e.2 e.2, s.2 + e.2) h1
  rw [putAll]
  simp only at h3 h4
  refine ⟨h2, by omega, fun j hj => ?_⟩
  rw [h4 j (by omega), putV_bits h, if_neg (by omega)]
theorem reads_putAll {up : Bool} : ∀ (l : List (Nat × Nat)) (s : List Int × Nat), WOk up s.1 s.2 → FitC l → Reads up (putAll up l s).1 s.2 l
 | [], s, h, hf => trivial
 | e :: r, s, h, hf => by
  have h1 := putV_ok (v := e.1) (n := e.2) h e.2
  obtain ⟨h2, h3, h4⟩ := putAll_ok r (putV up s.1 s.2 e.1 e.2 e.2, s.2 + e.2) h1
  have ih := reads_putAll r (putV up s.1 s.2 e.1 e.2 e.2, s.2 + e.2) h1 (fun x hx => hf x (by simp [hx]))
  have he := hf e (by simp)
  rw [putAll]
  simp only at h3 h4 ih
  refine ⟨Nat.le_trans h3 h2.lo, ?_, ih⟩
  rw [takeV_wrote (v := e.1) (by omega) fun j hj => by rw [h4 _ (by omega), putV_bits h, if_pos (by omega), Nat.add_sub_cancel_left]]
  refine Int.emod_eq_of_lt (by omega) ?_
  have e2 : ((2 : Int) ^ e.2) = ((2 ^ e.2 : Nat) : Int) := by simp
  rw [e2]; omega
theorem putAll_len {up : Bool} : ∀ (l : List (Nat × Nat)) (s : List Int × Nat), FitC l → (putAll up l s).2 ≤ s.2 + 12 * l.length
 | [], s, _ => by simp [putAll]
 | e :: r, s, hf => by
  have ih := putAll_len (up := up) r (putV up s.1 s.2 e.1 e.2 e.2, s.2 + e.2) (fun x hx => hf x (by simp [hx]))
  have he := hf e (by simp)
  rw [putAll, List.length_cons]
  simp only at ih
  omega
theorem pk_length {cl w0 early : Nat} : ∀ (l : List Int) (E : List (Nat × Int)) (wd : Nat) (ato : Option Nat), (pk cl w0 early l E wd ato).length ≤ 2 * l.length + 2
 | [], E, wd, none => by simp [pk]
 | [], E, wd, some a => by simp [pk]
 | x :: r, E, wd, none => by
  rw [pk]
  have := pk_length (cl := cl) (w0 := w0) (early := early) r E wd (some x.toNat)
  rw [List.length_cons]; omega
 | x :: r, E, wd, some a => by
  rw [pk]
  split
  ·rename_i c _
   have := pk_length (cl := cl) (w0 := w0) (early := early) r E wd (some c)
   rw [List.length_cons]; omega
  ·split
   ·have := pk_length (cl := cl) (w0 := w0) (early := early) r [] w0 (some x.toNat)
    simp only [List.length_cons]; omega
   ·have := pk_length (cl := cl) (w0 := w0) (early := early) r (E ++ [(a, x)]) (wdA cl early E wd) (some x.toNat)
    simp only [List.length_cons]; omega
structure Wide (cl early : Nat) (n wd : Nat) : Prop where
 one : 1 ≤ wd
 most : wd ≤ 12
 fit : cl + 2 + n + early ≤ 2 ^ wd
theorem Wide.next {cl early n wd : Nat} (h : Wide cl early n wd) (h90 : cl + 2 + n ≤ 4090) (he : early ≤ 1) (h1 : n = 0 → cl + 3 + early ≤ 2 ^ wd) {E : List (Nat × Int)} (hE : E.length = n) : Wide cl early (n + 1) (wdA cl early E wd) := by
 obtain ⟨h2, h3, h4⟩ := h
 have hr := wdA_range (cl := cl) (early := early) (E := E) h2 h3
 refine ⟨hr.1, hr.2, ?_⟩
 unfold wdA
 split
 ·have := h1 (by omega)
  rw [show cl + 2 + (n + 1) + early = cl + 3 + early + n by omega]
  omega
 ·unfold wdN
  rw [hE]
  split
  ·rename_i hc
   rw [Nat.pow_succ]; omega
  ·rename_i hc
   by_cases h12 : wd < 12
   ·have : ¬ cl + 2 + n + early = 2 ^ wd := fun e => hc ⟨e, h12⟩
    omega
   ·have : wd = 12 := by omega
    subst this
    have : (2 : Nat) ^ 12 = 4096 := by decide
    omega
theorem pk_fit {cl w0 early : Nat} (hw0 : Wide cl early 1 w0) (he : early ≤ 1) : ∀ (l : List Int) (E : List (Nat × Int)) (wd : Nat) (ato : Option Nat), Wide cl early E.length wd → cl + 2 + E.length ≤ 4090 → (E.length = 0 → wd = w0) →
  (∀ x ∈ l, 0 ≤ x ∧ x < cl) → (∀ a, ato = some a → a < cl + 2 + E.length) → FitC (pk cl w0 early l E wd ato)
 | [], E, wd, none, hw, h90, h0, hl, ha => by
  intro e he
  simp only [pk, List.mem_singleton] at he
  subst he
  exact ⟨by have := hw.fit; simp only; omega, hw.one, hw.most⟩
 | [], E, wd, some a, hw, h90, h0, hl, ha => by
  have hn := hw.next h90 he (fun e => by have := hw0.fit; rw [h0 e]; omega) rfl
  intro e he
  simp only [pk, List.mem_cons, List.not_mem_nil, or_false] at he
  rcases he with rfl | rfl
  ·exact ⟨by have := hw.fit; have := ha a rfl; simp only; omega, hw.one, hw.most⟩
  ·exact ⟨by have := hn.fit; simp only; omega, hn.one, hn.most⟩
 | x :: r, E, wd, none, hw, h90, h0, hl, ha => by
  rw [pk]
  have hx := hl x (by simp)
  exact pk_fit hw0 he r E wd _ hw h90 h0 (fun y hy => hl y (by simp [hy])) (fun a ha => by cases ha; omega)
 | x :: r, E, wd, some a, hw, h90, h0, hl, ha => by
  have hx := hl x (by simp)
  have hr : ∀ y ∈ r, 0 ≤ y ∧ y < cl := fun y hy => hl y (by simp [hy])
  have hn := hw.next h90 he (fun e => by have := hw0.fit; rw [h0 e]; omega) rfl
  have h1 : (a, wd).1 < 2 ^ (a, wd).2 ∧ 1 ≤ (a, wd).2 ∧ (a, wd).2 ≤ 12 := ⟨by have := hw.fit; have := ha a rfl; simp only; omega, hw.one, hw.most⟩
  rw [pk]
  cases hfd : fnd a x E (cl + 2) with
  | some c =>
   have := fnd_some hfd
   exact pk_fit hw0 he r E wd _ hw h90 h0 hr (fun b hb => by cases hb; omega)
  | none =>
   simp only
   split
   ·have ih := pk_fit hw0 he r [] w0 (some x.toNat) ⟨hw0.one, hw0.most, by have := hw0.fit; simp only [List.length_nil]; omega⟩ (by simp; omega) (fun _ => rfl) hr (fun b hb => by cases hb; simp; omega)
    intro e hm
    simp only [List.mem_cons] at hm
    rcases hm with rfl | rfl | hm
    ·exact h1
    ·exact ⟨by have := hn.fit; simp only; omega, hn.one, hn.most⟩
    ·exact ih e hm
   ·rename_i h4
    have ih := pk_fit hw0 he r (E ++ [(a, x)]) (wdA cl early E wd) (some x.toNat) (by rw [List.length_append]; exact hn) (by simp; omega) (fun e => by simp at e) hr (fun b hb => by cases hb; simp; omega)
    intro e hm
    simp only [List.mem_cons] at hm
    rcases hm with rfl | hm
    ·exact h1
    ·exact ih e hm
end Go.Proofs.Ytiiaihiliimcoaa
namespace Go.Proofs.Ytiiaihiliimcoaa
open Go Go.Vc Go.RowKit
set_option maxRecDepth 100000
def Tab (cl : Nat) (E : List (Nat × Int)) (T : List (List Int)) : Prop := E.length = T.length ∧ ∀ j, j < T.length → ∃ a x, E[j]? = some (a, x) ∧ T[j]? = some (strOf cl T a ++ [x]) ∧ vcode cl j a
theorem Tab.add {cl : Nat} {E : List (Nat × Int)} {T : List (List Int)} (h : Tab cl E T) {c : Nat} (hc : vcode cl T.length c) (x : Int) : Tab cl (E ++ [(c, x)]) (T ++ [strOf cl T c ++ [x]]) := by
 obtain ⟨h1, h2⟩ := h
 refine ⟨by simp [h1], fun j hj => ?_⟩
 rw [List.length_append, List.length_singleton] at hj
 by_cases hlt : j < T.length
 ·obtain ⟨a, y, e1, e2, e3⟩ := h2 j hlt
  refine ⟨a, y, by rw [List.getElem?_append_left (by omega)]; exact e1, ?_, e3⟩
  rw [List.getElem?_append_left hlt, strOf_app _ (e3.mono (by omega))]; exact e2
 ·have : j = T.length := by omega
  subst this
  refine ⟨c, x, by rw [← h1]; simp, ?_, hc⟩
  rw [strOf_app _ hc]; simp
def Sy (cl : Nat) (E : List (Nat × Int)) (ato : Option Nat) (pend : List Int) (s : LS) : Prop :=
 (E = [] ∧ s.ah = none ∧ s.T = [] ∧ ((ato = none ∧ pend = []) ∨ ∃ c, c < cl ∧ ato = some c ∧ pend = [(c : Int)])) ∨
 (∃ (a c : Nat) (x : Int), s.ah = some a ∧ vcode cl s.T.length a ∧ ato = some c ∧ Tab cl E (s.T ++ [strOf cl s.T a ++ [x]]) ∧ vcode cl (s.T.length + 1) c ∧ strOf cl (s.T ++ [strOf cl s.T a ++ [x]]) c = pend ∧ pend.headD 0 = x ∧ pend ≠ [])
def fin (most : Int) (l : List Int) : List Int × Int := if most < (l.length : Nat) then ([], 3) else (l, 0)
theorem headD_append {l m : List Int} (h : l ≠ []) : (l ++ m).headD 0 = l.headD 0 := by cases l with | nil => exact (h rfl).elim | cons x r => rfl
theorem Sy.more {cl : Nat} {E : List (Nat × Int)} {a c : Nat} {x : Int} {pend : List Int} {s : LS} (h : Sy cl E (some a) pend s) (hf : fnd a x E (cl + 2) = some c) : Sy cl E (some c) (pend ++ [x]) s := by
 rcases h with ⟨rfl, _⟩ | ⟨b, c0, y, h1, h2, h3, h4, h5, h6, h7, h8⟩
 ·cases hf
 ·cases h3
  obtain ⟨f1, f2, f3⟩ := fnd_some hf
  have hEl := h4.1
  rw [List.length_append, List.length_singleton] at hEl
  obtain ⟨a', x', e1, e2, e3⟩ := h4.2 (c - (cl + 2)) (by rw [List.length_append, List.length_singleton]; omega)
  rw [f3] at e1
  cases e1
  refine .inr ⟨b, c, y, h1, h2, rfl, h4, .inr (by omega), ?_, by rw [headD_append h8]; exact h7, by simp⟩
  rw [strOf_ge _ f1, show c - cl - 2 = c - (cl + 2) by omega]
  simp only [List.getD, e2, Option.getD_some, h6]
theorem Sy.emit {cl early : Nat} {E : List (Nat × Int)} {c : Nat} {pend : List Int} {s : LS} (hi : Inv cl s) (h : Sy cl E (some c) pend s) (h90 : cl + 2 + E.length ≤ 4090) :
  c ≠ cl ∧ c ≠ cl + 1 ∧ ¬ badC cl s c ∧ tOf cl s c = pend ∧ (nextS cl early s c).wd = wdA cl early E s.wd ∧
  ∀ x : Int, 0 ≤ x → x < cl → Sy cl (E ++ [(c, x)]) (some x.toNat) [x] (nextS cl early s c) := by
 rcases h with ⟨rfl, h1, h2, ⟨h3, _⟩ | ⟨c', h3, h4, h5⟩⟩ | ⟨b, c0, y, h1, h2, h3, h4, h5, h6, h7, h8⟩
 ·cases h3
 ·cases h4
  refine ⟨by omega, by omega, by simp only [badC, h1]; omega, by simp only [tOf, h1, h5], ?_, fun x x0 x1 => .inr ⟨c, x.toNat, x, ?_, ?_, rfl, ?_, .inl (by omega), ?_, rfl, by simp⟩⟩
  ·simp only [nextS, h1, wdA]; simp
  ·simp only [nextS, h1]
  ·exact .inl h3
  ·simp only [nextS, h1, h2]
   exact (Tab.add (E := []) (T := []) ⟨rfl, fun j hj => by simp at hj⟩ (.inl h3) x)
  ·rw [strOf_lt _ (by omega)]
   congr 1; omega
 ·cases h3
  have hEl := h4.1
  rw [List.length_append, List.length_singleton] at hEl
  have hsb := hi.str h2
  have hnb : strOf cl s.T b ≠ [] := fun e => by rw [e] at hsb; simp at hsb
  have hbad : ¬ badC cl s c := by
   simp only [badC, h1]
   unfold vcode at h5; omega
  have hgiv : givenS cl s b c = pend := by
   unfold givenS
   by_cases hc : c = cl + 2 + s.T.length
   ·rw [if_pos hc]
    rw [strOf_ge _ (by omega), show c - cl - 2 = s.T.length by omega, getD_append_last] at h6
    have : (strOf cl s.T b).headD 0 = y := by rw [← h7, ← h6, headD_append hnb]
    rw [this]; exact h6
   ·rw [if_neg hc, ← h6, strOf_app _ (by unfold vcode at *; omega)]
  have hn : cl + 2 + s.T.length < 4096 := by omega
  have hns : nextS cl early s c = ⟨s.pos + s.wd, wid early (cl + 2 + s.T.length) s.wd, some c, s.A ++ [b], s.T ++ [strOf cl s.T b ++ [y]], s.out ++ pend⟩ := by
   simp only [nextS, h1, if_pos hn, hgiv, h7]
  refine ⟨by unfold vcode at h5; omega, by unfold vcode at h5; omega, hbad, by simp only [tOf, h1, hgiv], ?_, fun x x0 x1 => .inr ⟨c, x.toNat, x, by rw [hns], by rw [hns]; simpa using h5, rfl, ?_, .inl (by omega), ?_, rfl, by simp⟩⟩
  ·rw [hns]
   simp only [wdA, wdN, wid, hEl]
   rw [if_neg (show ¬ s.T.length + 1 = 0 by omega)]
   rfl
  ·rw [hns]
   simp only
   exact h4.add (by simpa using h5) x
  ·rw [strOf_lt _ (by omega)]
   congr 1; omega
theorem lz_take {bs : List Int} {up : Bool} {cl w0 early : Nat} {most : Int} {F v : Nat} {s : LS} (h1 : s.pos + s.wd ≤ 8 * bs.length) (h2 : takeV bs up s.pos s.wd = v) : lz bs up cl w0 early most (F + 1) s =
  if v = cl then lz bs up cl w0 early most F ⟨s.pos + s.wd, w0, none, [], [], s.out⟩
  else if v = cl + 1 then (s.out, 0)
  else if badC cl s v then ([], 32)
  else if most < (s.out.length + (tOf cl s v).length : Nat) then ([], 3) else lz bs up cl w0 early most F (nextS cl early s v) := by
 rw [lz_step, if_neg (by omega), h2, Int.toNat_natCast]
theorem fin_long {most : Int} {l m : List Int} (h : most < (l.length : Nat)) : fin most (l ++ m) = ([], 3) := by
 unfold fin
 rw [if_pos]
 rw [List.length_append]; omega
theorem dec_pk {up : Bool} {W : List Int} {cl w0 early : Nat} {most : Int} (hw1 : 1 ≤ w0) (hw2 : w0 ≤ 12) : ∀ (l : List Int) (E : List (Nat × Int)) (ato : Option Nat) (pend : List Int) (s : LS) (F : Nat),
  Inv cl s → Sy cl E ato pend s → Reads up W s.pos (pk cl w0 early l E s.wd ato) → (pk cl w0 early l E s.wd ato).length ≤ F → (∀ x ∈ l, 0 ≤ x ∧ x < cl) → cl + 2 + E.length ≤ 4090 → (s.out.length : Int) ≤ most →
  lz W up cl w0 early most F s = fin most (s.out ++ (pend ++ l))
 | [], E, none, pend, s, F, hi, hs, hr, hF, hl, h90, hm => by
  have hp : pend = [] := by
   rcases hs with ⟨_, _, _, ⟨_, h⟩ | ⟨c, _, h, _⟩⟩ | ⟨b, c0, y, _, _, h, _⟩
   ·exact h
   ·cases h
   ·cases h
  subst hp
  rw [pk] at hr hF
  obtain ⟨G, rfl⟩ : ∃ G, F = G + 1 := ⟨F - 1, by simp at hF; omega⟩
  rw [lz_take hr.1 hr.2.1, if_neg (by omega), if_pos rfl]
  unfold fin
  rw [if_neg (by simp; omega)]; simp
 | [], E, some c, pend, s, F, hi, hs, hr, hF, hl, h90, hm => by
  rw [pk] at hr hF
  obtain ⟨e1, e2, e3, e4, e5, e6⟩ := hs.emit (early := early) hi h90
  have nx := hi.nxt (early := early) e1 e2 e3
  obtain ⟨G, rfl⟩ : ∃ G, F = G + 1 + 1 := ⟨F - 2, by simp at hF; omega⟩
  rw [lz_take hr.1 hr.2.1, if_neg e1, if_neg e2, if_neg e3, e4]
  split
  ·rename_i hlt
   rw [List.append_nil]
   unfold fin
   rw [if_pos (by rw [List.length_append]; omega)]
  ·rename_i hge
   obtain ⟨-, -, hr2⟩ := hr
   have ho := nx.out
   rw [e4] at ho
   rw [← nx.pos, ← e5] at hr2
   rw [lz_take hr2.1 hr2.2.1, if_neg (by omega), if_pos rfl, ho, List.append_nil]
   unfold fin
   rw [if_neg (by rw [List.length_append]; omega)]
 | x :: r, E, none, pend, s, F, hi, hs, hr, hF, hl, h90, hm => by
  have hx := hl x (by simp)
  have hp : E = [] ∧ s.ah = none ∧ s.T = [] ∧ pend = [] := by
   rcases hs with ⟨h1, h2, h3, ⟨_, h⟩ | ⟨c, _, h, _⟩⟩ | ⟨b, c0, y, _, _, h, _⟩
   ·exact ⟨h1, h2, h3, h⟩
   ·cases h
   ·cases h
  obtain ⟨rfl, h2, h3, rfl⟩ := hp
  rw [pk] at hr hF
  have hex : (x.toNat : Int) = x := by omega
  have ih := dec_pk (most := most) hw1 hw2 r [] (some x.toNat) [x] s F hi (.inl ⟨rfl, h2, h3, .inr ⟨x.toNat, by omega, rfl, by rw [hex]⟩⟩) hr hF (fun y hy => hl y (by simp [hy])) h90 hm
  rw [ih]; rfl
 | x :: r, E, some a, pend, s, F, hi, hs, hr, hF, hl, h90, hm => by
  have hx := hl x (by simp)
  have hlr : ∀ y ∈ r, 0 ≤ y ∧ y < cl := fun y hy => hl y (by simp [hy])
  rw [pk] at hr hF
  cases hfd : fnd a x E (cl + 2) with
  | some c =>
   rw [hfd] at hr hF
   have ih := dec_pk (most := most) hw1 hw2 r E (some c) (pend ++ [x]) s F hi (hs.more hfd) hr hF hlr h90 hm
   rw [ih, List.append_assoc]; rfl
  | none =>
   rw [hfd] at hr hF
   simp only at hr hF
   obtain ⟨e1, e2, e3, e4, e5, e6⟩ := hs.emit (early := early) hi h90
   have nx := hi.nxt (early := early) e1 e2 e3
   have ho := nx.out
   rw [e4] at ho
   have hsy := e6 x hx.1 hx.2
   have hlong : ∀ m : List Int, most < ((s.out.length + pend.length : Nat) : Int) → fin most (s.out ++ (pend ++ m)) = ([], 3) := fun m hh => by
    rw [← List.append_assoc]; exact fin_long (by rw [List.length_append]; exact hh)
   have hex : (x.toNat : Int) = x := by omega
   split at hr
   ·rename_i h4
    rw [if_pos h4] at hF
    obtain ⟨G, rfl⟩ : ∃ G, F = G + 1 + 1 := ⟨F - 2, by simp at hF; omega⟩
    rw [lz_take hr.1 hr.2.1, if_neg e1, if_neg e2, if_neg e3, e4]
    split
    ·rename_i hlt; exact (hlong _ hlt).symm
    ·rename_i hge
     obtain ⟨-, -, hr2⟩ := hr
     rw [← nx.pos, ← e5] at hr2
     rw [lz_take hr2.1 hr2.2.1, if_pos rfl]
     have ih := dec_pk (most := most) hw1 hw2 r [] (some x.toNat) [x] ⟨(nextS cl early s a).pos + (nextS cl early s a).wd, w0, none, [], [], (nextS cl early s a).out⟩ G (nx.inv.clear hw1 hw2) (.inl ⟨rfl, rfl, rfl, .inr ⟨x.toNat, by omega, rfl, by rw [hex]⟩⟩) hr2.2.2 (by simp at hF; simp only; omega) hlr (by simp; omega) (by simp only [ho, List.length_append]; omega)
     rw [ih]
     simp only [ho, List.append_assoc]; rfl
   ·rename_i h4
    rw [if_neg h4] at hF
    obtain ⟨G, rfl⟩ : ∃ G, F = G + 1 := ⟨F - 1, by simp at hF; omega⟩
    rw [lz_take hr.1 hr.2.1, if_neg e1, if_neg e2, if_neg e3, e4]
    split
    ·rename_i hlt; exact (hlong _ hlt).symm
    ·rename_i hge
     obtain ⟨-, -, hr2⟩ := hr
     have ih := dec_pk (most := most) hw1 hw2 r (E ++ [(a, x)]) (some x.toNat) [x] (nextS cl early s a) G nx.inv hsy (by rw [nx.pos, e5]; exact hr2) (by rw [e5]; simp at hF; omega) hlr (by simp; omega) (by rw [ho, List.length_append]; omega)
     rw [ih]
     simp only [ho, List.append_assoc]; rfl
theorem lz_pack {up : Bool} {bs : List Int} {cl w0 early : Nat} {most : Int} (hcl : cl ≤ 256) (hc4 : 4 ≤ cl) (hw0 : Wide cl early 1 w0) (he : early ≤ 1) (hb : ∀ x ∈ bs, 0 ≤ x ∧ x < cl) (hm : 0 ≤ most) :
  lz (packL bs cl w0 early up) up cl w0 early most (8 * (packL bs cl w0 early up).length + 1) (initS w0) = fin most bs := by
 have hfit := pk_fit hw0 he bs [] w0 none ⟨hw0.one, hw0.most, by have := hw0.fit; simp only [List.length_nil]; omega⟩ (by simp; omega) (fun _ => rfl) hb (fun a ha => by cases ha)
 have hfit' : FitC ((cl, w0) :: pk cl w0 early bs [] w0 none) := fun e hm => by
  rcases List.mem_cons.1 hm with rfl | hm
  ·exact ⟨by have := hw0.fit; simp only; omega, hw0.one, hw0.most⟩
  ·exact hfit e hm
 have hr := reads_putAll (up := up) _ ([], 0) (WOk.nil up) hfit'
 have hok := (putAll_ok (up := up) ((cl, w0) :: pk cl w0 early bs [] w0 none) ([], 0) (WOk.nil up)).1
 have hlen : (pk cl w0 early bs [] w0 none).length + 1 ≤ 8 * (packL bs cl w0 early up).length := by
  have hge : ∀ (l : List (Nat × Nat)) (s : List Int × Nat), FitC l → s.2 + l.length ≤ (putAll up l s).2 := by
   intro l
   induction l with
   | nil => intro s _; simp [putAll]
   | cons e r ih =>
    intro s hf
    have := ih (putV up s.1 s.2 e.1 e.2 e.2, s.2 + e.2) (fun x hx => hf x (by simp [hx]))
    have he := hf e (by simp)
    rw [putAll, List.length_cons]; simp only at this; omega
  have h1 := hge _ ([], 0) hfit'
  have h2 := hok.lo
  rw [List.length_cons] at h1
  unfold packL
  simp only at h1
  omega
 change Reads up (packL bs cl w0 early up) 0 ((cl, w0) :: pk cl w0 early bs [] w0 none) at hr
 obtain ⟨r1, r2, r3⟩ := hr
 generalize packL bs cl w0 early up = W at *
 have h1 := hw0.one
 have h2 := hw0.most
 have hi0 : Inv cl (initS w0) := ⟨hcl, hc4, h1, h2, by simp [initS]; omega, rfl, by simp [initS], by simp [initS], fun _ => rfl, by simp [initS, Bs], by simp [initS]⟩
 rw [lz_take (s := initS w0) (v := cl) r1 r2, if_pos rfl]
 have := dec_pk (up := up) (W := W) (early := early) (most := most) h1 h2 bs [] none [] ⟨(initS w0).pos + (initS w0).wd, w0, none, [], [], (initS w0).out⟩ (8 * W.length) (hi0.clear h1 h2) (.inl ⟨rfl, rfl, rfl, .inl ⟨rfl, rfl⟩⟩) r3 (by simp only; omega) hb (by simp; omega) (by simp [initS]; omega)
 rw [this]; simp [initS]
theorem packL_bs {bs : List Int} {cl w0 early : Nat} {up : Bool} : Bs (packL bs cl w0 early up) := (putAll_ok (up := up) ((cl, w0) :: pk cl w0 early bs [] w0 none) ([], 0) (WOk.nil up)).1.fit
theorem packL_len {bs : List Int} {cl w0 early : Nat} {up : Bool} (hcl : cl ≤ 256) (hw0 : Wide cl early 1 w0) (he : early ≤ 1) (hb : ∀ x ∈ bs, 0 ≤ x ∧ x < cl) : (packL bs cl w0 early up).length ≤ 3 * bs.length + 6 := by
 have hfit := pk_fit hw0 he bs [] w0 none ⟨hw0.one, hw0.most, by have := hw0.fit; simp only [List.length_nil]; omega⟩ (by simp; omega) (fun _ => rfl) hb (fun a ha => by cases ha)
 have hfit' : FitC ((cl, w0) :: pk cl w0 early bs [] w0 none) := fun e hm => by
  rcases List.mem_cons.1 hm with rfl | hm
  ·exact ⟨by have := hw0.fit; simp only; omega, hw0.one, hw0.most⟩
  ·exact hfit e hm
 have hok := (putAll_ok (up := up) ((cl, w0) :: pk cl w0 early bs [] w0 none) ([], 0) (WOk.nil up)).1
 have h1 := putAll_len (up := up) _ ([], 0) hfit'
 have h2 := hok.hi
 have h3 := pk_length (cl := cl) (w0 := w0) (early := early) bs [] w0 none
 rw [List.length_cons] at h1
 unfold packL
 simp only at h1
 omega
end Go.Proofs.Ytiiaihiliimcoaa
namespace Go.Proofs.Ytiiaihiliimcoaa
open Go Go.Vc Go.RowKit
set_option maxRecDepth 100000
theorem mk_sl {D : Nat} {w w' : World} {N : Nat} {base : Option Addr} {vs : List Value} (h : Mk D w w') (hs : Sl N w base vs) : Sl N w' base vs := by
 intro j v hj
 obtain ⟨a, h1, h2, h3⟩ := hs j v hj
 exact ⟨a, h1, h2, by rw [h.cell]; exact h3⟩
theorem wide_gif {n : Nat} (h1 : 2 ≤ n) (h2 : n < 9) : Wide (2 ^ n) 0 1 (n + 1) := by
 have : ∀ n : Nat, n < 9 → 2 ≤ n → 2 ^ n + 2 + 1 + 0 ≤ 2 ^ (n + 1) := by decide
 exact ⟨by omega, by omega, this n h2 h1⟩
theorem fin_ok {most : Int} {l : List Int} (h : (l.length : Int) ≤ most) : fin most l = (l, 0) := by unfold fin; rw [if_neg (by omega)]
theorem bs_of {l : List Int} (h : l.all (fun n => decide (0 ≤ n ∧ n ≤ 255)) = true) : Bs l := fun n hn => by simpa using List.all_eq_true.1 h n hn
end Go.Proofs.Ytiiaihiliimcoaa
namespace Go.Proofs.Ytiiaihiliimcoaa
open Go Go.Vc Go.RowKit Go.Qn
set_option maxRecDepth 100000
def Si (u : World) (b n : Nat) (D : Nat → Int) : Prop := ∃ rest, Cs u b ((seg D 0 n).map i64 ++ rest)
def updI (D : Nat → Int) (i : Nat) (c : Int) : Nat → Int := fun k => if k = i then c else D k
section
variable {u u' : World} {b n : Nat} {D : Nat → Int}
theorem Si.ext (h : Si u b n D) (hE : Ext u u') : Si u' b n D := by obtain ⟨r, h⟩ := h; exact ⟨r, h.ext hE⟩
theorem Si.drew (h : Si u b n D) : Si u.drew b n D := h
theorem Si.cell (h : Si u b n D) {i : Nat} (hi : i < n) : u.cell? ⟨b, i, none⟩ = some (i64 (D i)) := by
 obtain ⟨r, h⟩ := h
 refine h.cell ?_
 rw [List.getElem?_append_left (by rw [List.length_map, seg_len]; omega), List.getElem?_map, seg_get D (by omega), Nat.zero_add]; rfl
theorem Si.ld (h : Si u b n D) {i : Int} (h0 : 0 ≤ i) (h1 : i < n) {F : Addr → Prop} (hF : u.cell? ⟨b, i.toNat, none⟩ = some (i64 (D i.toNat)) → F ⟨b, i.toNat, none⟩) : idx (some ⟨b, 0, none⟩) n i 1 F := by
 refine idx_i h0 (by omega) rfl ?_
 rw [loc_add, Nat.zero_add, Nat.mul_one]
 exact hF (h.cell (by omega))
theorem Si.st (h : Si u b n D) {i : Int} (h0 : 0 ≤ i) (h1 : i < n) {K : Addr → Prop} (hK : K ⟨b, i.toNat, none⟩) :
  idx (some ⟨b, 0, none⟩) n i 1 fun a => (∃ v, u.cell? a = some v) ∧ (u.frozen? a = false) ∧ K a := by
 refine idx_i h0 (by omega) rfl ?_
 rw [loc_add, Nat.zero_add, Nat.mul_one]
 obtain ⟨r, h'⟩ := id h
 exact ⟨⟨_, h.cell (by omega)⟩, h'.frozen _, hK⟩
theorem Si.put (h : Si u b n D) {i : Nat} (hi : i < n) (c : Int) : Si (setCells u ⟨b, i, none⟩ [i64 c] 0) b n (updI D i c) := by
 obtain ⟨r, h⟩ := h
 refine ⟨r, ?_⟩
 have := h.set1 (off := i) (v := i64 c) (by rw [List.length_append, List.length_map, seg_len]; omega)
 rw [List.set_append_left _ _ (by rw [List.length_map, seg_len]; omega)] at this
 have e : ((seg D 0 n).map i64).set i (i64 c) = (seg (updI D i c) 0 n).map i64 := by
  rw [← List.map_set]
  congr 1
  refine List.ext_getElem? fun j => ?_
  rw [List.getElem?_set]
  rcases Nat.lt_or_ge j n with hj | hj
  ·rw [seg_get D (by omega), seg_get (updI D i c) (by omega), seg_len, Nat.zero_add]
   by_cases e : i = j
   ·subst e; rw [if_pos rfl, if_pos (by omega)]; simp [updI]
   ·rw [if_neg e]; simp [updI, show j ≠ i from fun h => e h.symm]
  ·rw [if_neg (by omega), List.getElem?_eq_none (by rw [seg_len]; omega), List.getElem?_eq_none (by rw [seg_len]; omega)]
 rwa [e] at this
theorem Si.two (h : Si u b n D) {i j : Nat} (hi : i < n) (hj : j < n) : Si (setCells (setCells u ⟨b, i, none⟩ [i64 (D j)] 0) ⟨b, j, none⟩ [i64 (D i)] 0) b n (swp D i j) ∧ Chg (· = b) u (setCells (setCells u ⟨b, i, none⟩ [i64 (D j)] 0) ⟨b, j, none⟩ [i64 (D i)] 0) := by
 refine ⟨?_, ?_⟩
 ·have := (h.put hi (D j)).put hj (D i)
  have e : updI (updI D i (D j)) j (D i) = swp D i j := by
   funext k; simp only [updI, swp]
   repeat' split
   all_goals first | rfl | (exfalso; omega) | (congr 1; omega)
  rwa [e] at this
 ·exact ((Chg.setCells u ⟨b, i, none⟩ [i64 (D j)] 0 :)).trans (Chg.setCells _ ⟨b, j, none⟩ [i64 (D i)] 0 :) fun i hi _ => hi
end
theorem swpI_comm (D : Nat → Int) (i j : Nat) : swp D i j = swp D j i := by
 funext k; simp only [swp]
 repeat' split
 all_goals first | rfl | (exfalso; omega) | (congr 1; omega)
theorem swapRI_spec {va : Value} {w : World} {b n cap p q m : Nat} {D : Nat → Int} {R : Ending → World → Prop} (h : Si w b n D) (hp : p + m ≤ q) (hq : q + m ≤ n) (hn : n ≤ 2 ^ 40)
  (hR : ∀ w', Si w' b n (swr D p q m) → Chg (· = b) w w' → R (.returned (.tuple #[])) w') :
  Calls P F.slices_swapRangeCmpFunc_int #[.slice (some ⟨b, 0, none⟩) n cap, i64 p, i64 q, i64 m, va] w R := by
 refine calls_slices_swapRangeCmpFunc_int _ _ _ _ _ _ _ _ _ ?_
 unfold vc_slices_swapRangeCmpFunc_int
 refine ⟨fun vs u => ∃ k : Nat, vs = [i64 k] ∧ k ≤ m ∧ Si u b n (swr D p q k) ∧ Chg (· = b) w u, fun vs _ => match vs with | [.int _ k] => (m - k).toNat | _ => 0,
  ⟨0, rfl, Nat.zero_le _, by rw [swr_zero]; exact h, Chg.refl _ _⟩, fun k' w1 hI => ?_⟩
 obtain ⟨k, hv, hk, hS, hC⟩ := hI
 obtain rfl : k' = k := by simpa using hv
 refine brB_i (fun hlt => ?_) fun hge => ?_
 ·have hlt : k < m := by simp at hlt; omega
  rw [w64 (x := (q : Int) + k) (by omega) (by omega), w64 (x := (p : Int) + k) (by omega) (by omega), w64 (x := (k : Int) + 1) (by omega) (by omega)]
  refine hS.drew.ld (by omega) (by omega) fun e1 => ⟨_, e1, ?_⟩
  refine hS.drew.ld (by omega) (by omega) fun e1 => ⟨_, e1, ?_⟩
  have ep : ((p : Int) + k).toNat = p + k := by omega
  have eq : ((q : Int) + k).toNat = q + k := by omega
  refine hS.drew.st (by omega) (by omega) ?_
  have h1 := hS.drew.put (i := p + k) (by omega) (swr D p q k (q + k))
  rw [ep, eq]
  refine h1.st (i := (q : Int) + k) (by omega) (by omega) ?_
  rw [eq]
  obtain ⟨h2, h3⟩ := hS.drew.two (i := p + k) (j := q + k) (by omega) (by omega)
  rw [swr_step D (by omega)] at h2
  exact ⟨⟨k + 1, by simp, by omega, h2, chgb (chg_dr hC) h3⟩, by show ((m : Int) - ((k : Int) + 1)).toNat < ((m : Int) - k).toNat; omega⟩
 ·have hge : k = m := by simp at hge; omega
  subst hge
  exact hR w1 hS hC
theorem rotateI_spec {va : Value} {w : World} {b n cap a m e : Nat} {D : Nat → Int} {R : Ending → World → Prop} (h : Si w b n D) (ham : a < m) (hme : m < e) (he : e ≤ n) (hn : n ≤ 2 ^ 40)
  (hR : ∀ w', Si w' b n (rot D a m e) → Chg (· = b) w w' → R (.returned (.tuple #[])) w') :
  Calls P F.slices_rotateCmpFunc_int #[.slice (some ⟨b, 0, none⟩) n cap, i64 a, i64 m, i64 e, va] w R := by
 refine calls_slices_rotateCmpFunc_int _ _ _ _ _ _ _ _ _ ?_
 unfold vc_slices_rotateCmpFunc_int
 rw [w64 (x := (m : Int) - a) (by omega) (by omega), w64 (x := (e : Int) - m) (by omega) (by omega)]
 refine ⟨fun vs u => ∃ (i j : Nat) (E : Nat → Int), vs = [i64 i, i64 j] ∧ 0 < i ∧ 0 < j ∧ i ≤ m - a ∧ j ≤ e - m ∧ Si u b n E ∧ Chg (· = b) w u ∧ rot E (m - i) m (m + j) = rot D a m e,
  fun vs _ => match vs with | [.int _ i, .int _ j] => (i + j).toNat | _ => 0,
  ⟨m - a, e - m, D, by simp; omega, by omega, by omega, Nat.le_refl _, Nat.le_refl _, h, Chg.refl _ _, by rw [show m - (m - a) = a by omega, show m + (e - m) = e by omega]⟩, fun i' j' w1 hI => ?_⟩
 obtain ⟨i, j, E, hv, hi, hj, hi2, hj2, hS, hC, hE⟩ := hI
 obtain ⟨rfl, rfl⟩ : i' = i ∧ j' = j := by simpa using hv
 rw [w64 (x := (m : Int) - i) (by omega) (by omega)]
 have e1 : (m : Int) - i = ((m - i : Nat) : Int) := by omega
 refine brB_i (fun hne => ?_) fun heq => ?_
 ·have hne : i ≠ j := by simp at hne; omega
  refine ⟨fun vs u => ∃ (i' j' : Nat) (E : Nat → Int), vs = [i64 i', i64 j'] ∧ 0 < i' ∧ 0 < j' ∧ i' ≤ m - a ∧ j' ≤ e - m ∧ i' + j' < i + j ∧ Si u b n E ∧ Chg (· = b) w u ∧ rot E (m - i') m (m + j') = rot D a m e, ?_, fun n3 n4 w4 hI => ?_⟩
  ·refine brB_i (fun hgt => ?_) fun hle => ?_
   ·have hgt : j < i := by simp at hgt; omega
    rw [e1]
    refine swapRI_spec hS (by omega) (by omega) hn fun w' h1 h2 => ⟨rfl, i - j, j, _, ?_, by omega, hj, by omega, hj2, by omega, h1, chgb hC h2, ?_⟩
    ·rw [w64 (x := (i : Int) - j) (by omega) (by omega)]; simp; omega
    ·have := rot_left E (a := m - i) (m := m) (b := m + j) (by omega) (by omega) (by omega)
     rw [show m + j - m = j by omega, show m - i + j = m - (i - j) by omega] at this
     rw [this]; exact hE
   ·have hle : i < j := by simp at hle; omega
    rw [w64 (x := (m : Int) + j) (by omega) (by omega), w64 (x := (m : Int) + j - i) (by omega) (by omega), e1, show (m : Int) + j - i = ((m + j - i : Nat) : Int) by omega]
    refine swapRI_spec hS (by omega) (by omega) hn fun w' h1 h2 => ⟨rfl, i, j - i, _, ?_, hi, by omega, hi2, by omega, by omega, h1, chgb hC h2, ?_⟩
    ·rw [w64 (x := (j : Int) - i) (by omega) (by omega)]; simp; omega
    ·have := rot_right E (a := m - i) (m := m) (b := m + j) (by omega) (by omega) (by omega)
     rw [show m - (m - i) = i by omega] at this
     rw [show m + (j - i) = m + j - i by omega, this]; exact hE
  ·obtain ⟨i2, j2, E2, hv2, h1, h2, h3, h4, h5, h6, h7, h8⟩ := hI
   obtain ⟨rfl, rfl⟩ : n3 = i2 ∧ n4 = j2 := by simpa using hv2
   exact ⟨⟨i2, j2, E2, rfl, h1, h2, h3, h4, h6, h7, h8⟩, by show ((i2 : Int) + j2).toNat < ((i : Int) + j).toNat; omega⟩
 ·have heq : i = j := by simp at heq; omega
  subst heq
  rw [e1]
  refine swapRI_spec hS (by omega) (by omega) hn fun w' h1 h2 => ⟨rfl, hR w' ?_ (chgb hC h2)⟩
  have := rot_even E (a := m - i) (m := m) (b := m + i) (by omega) (by omega) (by omega)
  rw [show m - (m - i) = i by omega] at this
  rw [← hE, ← this]; exact h1
end Go.Proofs.Ytiiaihiliimcoaa
