/- LZW: what its codes mean, by a table of strings; the program's table of entries. -/
import Derived.Test.YtiiaihiliimcoaaGreatRPB4
import Derived.Test.YtiiaihiliimcoaaGreatRPB6
set_option linter.unusedVariables false
set_option linter.unusedSimpArgs false
namespace Go.Proofs.YtiiaihiliimcoaaGreat
open Go Go.Vc Go.RowKit
set_option maxRecDepth 100000
def strOf (cl : Nat) (T : List (List Int)) (c : Nat) : List Int := if c < cl then [(c : Int)] else T.getD (c - cl - 2) []
structure LS where
 pos : Nat
 wd : Nat
 ah : Option Nat
 A : List Nat
 T : List (List Int)
 out : List Int
def wid (early n wd : Nat) : Nat := if n + 1 + early = 2 ^ wd ∧ wd < 12 then wd + 1 else wd
def lz (bs : List Int) (up : Bool) (cl w0 early : Nat) (most : Int) : Nat → LS → List Int × Int
 | 0, _ => ([], 5)
 | F + 1, s =>
  if 8 * bs.length < s.pos + s.wd then ([], 5) else
  let v := (takeV bs up s.pos s.wd).toNat
  if v = cl then lz bs up cl w0 early most F ⟨s.pos + s.wd, w0, none, [], [], s.out⟩
  else if v = cl + 1 then (s.out, 0)
  else match s.ah with
   | none => if cl < v then ([], 32) else
    if most < (s.out.length + 1 : Nat) then ([], 3) else lz bs up cl w0 early most F ⟨s.pos + s.wd, s.wd, some v, s.A, s.T, s.out ++ [(v : Int)]⟩
   | some a =>
    if cl + 2 + s.T.length < v ∨ (v = cl + 2 + s.T.length ∧ 4096 ≤ cl + 2 + s.T.length) then ([], 32) else
    let t := if v = cl + 2 + s.T.length then strOf cl s.T a ++ [(strOf cl s.T a).headD 0] else strOf cl s.T v
    if most < (s.out.length + t.length : Nat) then ([], 3) else
    if cl + 2 + s.T.length < 4096 then lz bs up cl w0 early most F ⟨s.pos + s.wd, wid early (cl + 2 + s.T.length) s.wd, some v, s.A ++ [a], s.T ++ [strOf cl s.T a ++ [t.headD 0]], s.out ++ t⟩
    else lz bs up cl w0 early most F ⟨s.pos + s.wd, s.wd, some v, s.A, s.T, s.out ++ t⟩
def vcode (cl n : Nat) (c : Nat) : Prop := c < cl ∨ (cl + 2 ≤ c ∧ c < cl + 2 + n)
theorem vcode.mono {cl n m c : Nat} (h : vcode cl n c) (hnm : n ≤ m) : vcode cl m c := by unfold vcode at *; omega
structure Inv (cl : Nat) (s : LS) : Prop where
 cl256 : cl ≤ 256
 cl4 : 4 ≤ cl
 wd1 : 1 ≤ s.wd
 wd12 : s.wd ≤ 12
 full : cl + 2 + s.T.length ≤ 4096
 la : s.A.length = s.T.length
 tab : ∀ j, j < s.T.length → vcode cl j (s.A.getD j 0) ∧ (∃ l, s.T.getD j [] = strOf cl s.T (s.A.getD j 0) ++ [l]) ∧ (s.T.getD j []).length ≤ j + 2 ∧ Bs (s.T.getD j [])
 ahv : ∀ a, s.ah = some a → vcode cl s.T.length a
 none_ : s.ah = none → s.T = []
 fit : Bs s.out
 long : s.out.length ≤ 4096 * s.pos
theorem strOf_lt {cl c : Nat} (T : List (List Int)) (h : c < cl) : strOf cl T c = [(c : Int)] := by simp [strOf, h]
theorem strOf_ge {cl c : Nat} (T : List (List Int)) (h : cl + 2 ≤ c) : strOf cl T c = T.getD (c - cl - 2) [] := by
 have : ¬ c < cl := by omega
 simp [strOf, this]
theorem strOf_app {cl c : Nat} {T : List (List Int)} (x : List (List Int)) (h : vcode cl T.length c) : strOf cl (T ++ x) c = strOf cl T c := by
 unfold strOf
 split
 ·rfl
 ·have : c - cl - 2 < T.length := by unfold vcode at h; omega
  simp [List.getD, List.getElem?_append_left this]
theorem Inv.str {cl : Nat} {s : LS} (h : Inv cl s) {c : Nat} (hc : vcode cl s.T.length c) : Bs (strOf cl s.T c) ∧ 1 ≤ (strOf cl s.T c).length ∧ (strOf cl s.T c).length ≤ 4096 := by
 have h1 := h.cl256
 have h2 := h.full
 rcases hc with hc | hc
 ·rw [strOf_lt _ hc]
  refine ⟨fun n hn => ?_, by simp, by simp⟩
  simp at hn; omega
 ·rw [strOf_ge _ hc.1]
  obtain ⟨h3, ⟨l, h4⟩, h5, h6⟩ := h.tab (c - cl - 2) (by omega)
  refine ⟨h6, ?_, by omega⟩
  rw [h4]; simp
theorem getD_append_last {α : Type} (l : List α) (a d : α) : (l ++ [a]).getD l.length d = a := by simp [List.getD]
theorem getD_append_lt {α : Type} {l : List α} {i : Nat} (h : i < l.length) (x : List α) (d : α) : (l ++ x).getD i d = l.getD i d := by simp [List.getD, List.getElem?_append_left h]
theorem wid_range {early n wd : Nat} (h1 : 1 ≤ wd) (h : wd ≤ 12) : 1 ≤ wid early n wd ∧ wid early n wd ≤ 12 := by unfold wid; split <;> omega
theorem Bs.append {a b : List Int} (ha : Bs a) (hb : Bs b) : Bs (a ++ b) := fun n hn => by rcases List.mem_append.1 hn with h | h; exact ha n h; exact hb n h
theorem Bs.headD {a : List Int} (ha : Bs a) : 0 ≤ a.headD 0 ∧ a.headD 0 ≤ 255 := by cases a with | nil => simp | cons x l => exact ha x (by simp)
theorem Bs.single {n : Int} (h : 0 ≤ n ∧ n ≤ 255) : Bs [n] := fun m hm => by simp at hm; subst hm; exact h
theorem Inv.first {cl : Nat} {s : LS} (h : Inv cl s) {v : Nat} (hv : v < cl) : Inv cl ⟨s.pos + s.wd, s.wd, some v, s.A, s.T, s.out ++ [(v : Int)]⟩ := by
 have h1 := h.cl256
 have h2 := h.long
 have h3 := h.wd1
 exact ⟨h.cl256, h.cl4, h.wd1, h.wd12, h.full, h.la, h.tab, fun a ha => (by cases ha; exact .inl hv), fun e => (by cases e), h.fit.append (Bs.single (by omega)), by simp only [List.length_append, List.length_singleton]; omega⟩
theorem Inv.clear {cl w0 : Nat} {s : LS} (h : Inv cl s) (h1 : 1 ≤ w0) (h2 : w0 ≤ 12) : Inv cl ⟨s.pos + s.wd, w0, none, [], [], s.out⟩ := by
 have h3 := h.long
 have := h.cl256
 exact ⟨h.cl256, h.cl4, h1, h2, by simp; omega, rfl, by simp, by simp, fun _ => rfl, h.fit, by simp only; omega⟩
def givenS (cl : Nat) (s : LS) (a v : Nat) : List Int := if v = cl + 2 + s.T.length then strOf cl s.T a ++ [(strOf cl s.T a).headD 0] else strOf cl s.T v
theorem Inv.given {cl : Nat} {s : LS} (h : Inv cl s) {a v : Nat} (ha : s.ah = some a) (hv : vcode cl (s.T.length + 1) v) (hf : v = cl + 2 + s.T.length → cl + 2 + s.T.length < 4096) : Bs (givenS cl s a v) ∧ 1 ≤ (givenS cl s a v).length ∧ (givenS cl s a v).length ≤ 4096 := by
 have hva := h.ahv a ha
 obtain ⟨s1, s2, s3⟩ := h.str hva
 unfold givenS
 split
 ·rename_i e
  have h4 := hf e
  refine ⟨s1.append (Bs.single s1.headD), by simp, ?_⟩
  simp only [List.length_append, List.length_singleton]
  rcases hva with hva | hva
  ·rw [strOf_lt _ hva]; simp
  ·rw [strOf_ge _ hva.1]
   have := (h.tab (a - cl - 2) (by omega)).2.2.1
   omega
 ·exact h.str (by unfold vcode at *; omega)
theorem Inv.next {cl early : Nat} {s : LS} (h : Inv cl s) {a v : Nat} (ha : s.ah = some a) (hv : vcode cl (s.T.length + 1) v) (hf : v = cl + 2 + s.T.length → cl + 2 + s.T.length < 4096) (hn : cl + 2 + s.T.length < 4096) :
  Inv cl ⟨s.pos + s.wd, wid early (cl + 2 + s.T.length) s.wd, some v, s.A ++ [a], s.T ++ [strOf cl s.T a ++ [(givenS cl s a v).headD 0]], s.out ++ givenS cl s a v⟩ := by
 have hva := h.ahv a ha
 obtain ⟨s1, s2, s3⟩ := h.str hva
 obtain ⟨g1, g2, g3⟩ := h.given ha hv hf
 have hw := wid_range (early := early) (n := cl + 2 + s.T.length) h.wd1 h.wd12
 have hl := h.long
 have hw1 := h.wd1
 refine ⟨h.cl256, h.cl4, hw.1, hw.2, by simp only [List.length_append, List.length_singleton]; omega, by simp [h.la], fun j hj => ?_, fun b hb => (by cases hb; simpa using hv), fun e => (by cases e), h.fit.append g1, by simp only [List.length_append]; omega⟩
 simp only [List.length_append, List.length_singleton] at hj
 by_cases hjl : j < s.T.length
 ·obtain ⟨t1, ⟨l, t2⟩, t3, t4⟩ := h.tab j hjl
  simp only
  rw [getD_append_lt (by rw [h.la]; exact hjl), getD_append_lt hjl]
  exact ⟨t1, ⟨l, by rw [t2, strOf_app _ (t1.mono (by omega))]⟩, t3, t4⟩
 ·have : j = s.T.length := by omega
  subst this
  simp only
  rw [getD_append_last, show (s.A ++ [a]).getD s.T.length 0 = a by rw [← h.la, getD_append_last]]
  refine ⟨hva, ⟨_, by rw [strOf_app _ hva]⟩, ?_, s1.append (Bs.single g1.headD)⟩
  simp only [List.length_append, List.length_singleton]
  rcases hva with hva | hva
  ·rw [strOf_lt _ hva]; simp
  ·rw [strOf_ge _ hva.1]
   have := (h.tab (a - cl - 2) (by omega)).2.2.1
   omega
theorem Inv.keep {cl : Nat} {s : LS} (h : Inv cl s) {a v : Nat} (ha : s.ah = some a) (hv : vcode cl (s.T.length + 1) v) (hn : cl + 2 + s.T.length = 4096) (hf : v ≠ cl + 2 + s.T.length) :
  Inv cl ⟨s.pos + s.wd, s.wd, some v, s.A, s.T, s.out ++ givenS cl s a v⟩ := by
 obtain ⟨g1, g2, g3⟩ := h.given ha hv (fun e => absurd e hf)
 have hl := h.long
 have hw1 := h.wd1
 exact ⟨h.cl256, h.cl4, h.wd1, h.wd12, h.full, h.la, h.tab, fun b hb => (by cases hb; unfold vcode at *; simp only; omega), fun e => (by cases e), h.fit.append g1, by simp only [List.length_append]; omega⟩
abbrev En := Int × Int × Int × Int
def ent (e : En) : List Value := [i64 e.1, u8 e.2.1, u8 e.2.2.1, i64 e.2.2.2]
def enOf (a : Nat) (t : List Int) : En := ((a : Int), t.getLastD 0, t.headD 0, (t.length : Int))
def bases (cl : Nat) : List En := (List.range cl).map (fun i : Nat => ((-1, (i : Int), (i : Int), 1) : En)) ++ [(0, 0, 0, 0), (0, 0, 0, 0)]
def tabL (cl : Nat) (A : List Nat) (T : List (List Int)) : List En := bases cl ++ List.zipWith enOf A T
theorem bases_length (cl : Nat) : (bases cl).length = cl + 2 := by simp [bases]
theorem tabL_length {cl : Nat} {A : List Nat} {T : List (List Int)} (h : A.length = T.length) : (tabL cl A T).length = cl + 2 + T.length := by simp [tabL, bases_length, h]
theorem tabL_add {cl : Nat} {A : List Nat} {T : List (List Int)} (h : A.length = T.length) (a : Nat) (t : List Int) : tabL cl (A ++ [a]) (T ++ [t]) = tabL cl A T ++ [enOf a t] := by
 unfold tabL
 rw [List.zipWith_append h]
 simp
theorem tabL_cut {cl : Nat} {A : List Nat} {T : List (List Int)} : (tabL cl A T).take (cl + 2) = tabL cl [] [] := by
 unfold tabL
 rw [List.take_append_of_le_length (by rw [bases_length]; omega)]
 simp [← bases_length]
theorem Inv.at_ {cl : Nat} {s : LS} (h : Inv cl s) {c : Nat} (hc : vcode cl s.T.length c) :
  ∃ (a l : Int), (tabL cl s.A s.T)[c]? = some (a, l, (strOf cl s.T c).headD 0, ((strOf cl s.T c).length : Int)) ∧ ((a = -1 ∧ strOf cl s.T c = [l]) ∨ ∃ a' : Nat, a = a' ∧ vcode cl s.T.length a' ∧ a' < c ∧ strOf cl s.T c = strOf cl s.T a' ++ [l]) := by
 unfold tabL
 rcases hc with hc | hc
 ·refine ⟨-1, c, ?_, .inl ⟨rfl, strOf_lt _ hc⟩⟩
  rw [List.getElem?_append_left (by rw [bases_length]; omega), bases, List.getElem?_append_left (by simpa using hc), strOf_lt _ hc]
  simp [hc]
 ·have hj : c - cl - 2 < s.T.length := by omega
  obtain ⟨t1, ⟨l, t2⟩, t3, t4⟩ := h.tab (c - cl - 2) hj
  have hla := h.la
  refine ⟨(s.A.getD (c - cl - 2) 0 : Int), l, ?_, .inr ⟨s.A.getD (c - cl - 2) 0, rfl, t1.mono (by omega), by unfold vcode at t1; omega, by rw [strOf_ge _ hc.1]; exact t2⟩⟩
  rw [List.getElem?_append_right (by rw [bases_length]; omega), bases_length, strOf_ge _ hc.1, show c - (cl + 2) = c - cl - 2 by omega, List.getElem?_zipWith]
  have e1 : s.A[c - cl - 2]? = some (s.A.getD (c - cl - 2) 0) := by simp [List.getD, List.getElem?_eq_getElem (show c - cl - 2 < s.A.length by omega)]
  have e2 : s.T[c - cl - 2]? = some (s.T.getD (c - cl - 2) []) := by simp [List.getD, List.getElem?_eq_getElem hj]
  rw [e1, e2]
  simp only [enOf]
  have : (s.T.getD (c - cl - 2) []).getLastD 0 = l := by rw [t2]; simp
  rw [this]
end Go.Proofs.YtiiaihiliimcoaaGreat
namespace Go.Proofs.YtiiaihiliimcoaaGreat
open Go Go.Vc Go.RowKit
set_option maxRecDepth 100000
theorem cellsF_append {α : Type} (f : α → List Value) (a b : List α) : cellsF f (a ++ b) = cellsF f a ++ cellsF f b := by simp [cellsF]
theorem cellsF_one {α : Type} (f : α → List Value) (a : α) : cellsF f [a] = f a := by simp [cellsF]
theorem cellsF_take {α : Type} {f : α → List Value} {sz : Nat} (hf : ∀ a, (f a).length = sz) (xs : List α) (n : Nat) : (cellsF f xs).take (n * sz) = cellsF f (xs.take n) := by
 rcases Nat.lt_or_ge xs.length n with h | h
 ·rw [List.take_of_length_le (by rw [cellsF_length hf]; exact Nat.mul_le_mul_right _ (by omega)), List.take_of_length_le (by omega)]
 ·have h1 : cellsF f xs = cellsF f (xs.take n) ++ cellsF f (xs.drop n) := by rw [← cellsF_append, List.take_append_drop]
  have h2 : (cellsF f (xs.take n)).length = n * sz := by rw [cellsF_length hf, List.length_take]; congr 1; omega
  rw [h1, ← h2, List.take_left]
theorem cellsF_drop {α : Type} {f : α → List Value} {sz : Nat} (hf : ∀ a, (f a).length = sz) (xs : List α) (n : Nat) : (cellsF f xs).drop (n * sz) = cellsF f (xs.drop n) := by
 have h1 : cellsF f xs = cellsF f (xs.take n) ++ cellsF f (xs.drop n) := by rw [← cellsF_append, List.take_append_drop]
 have h3 := cellsF_take hf xs n
 have h4 : cellsF f (xs.take n) ++ (cellsF f xs).drop (n * sz) = cellsF f (xs.take n) ++ cellsF f (xs.drop n) := by rw [← h1, ← h3, List.take_append_drop]
 exact List.append_cancel_left h4
theorem cellsF_set {α : Type} {f : α → List Value} {sz : Nat} (hf : ∀ a, (f a).length = sz) {xs : List α} {i : Nat} (hi : i < xs.length) (a : α) : (cellsF f xs).take (i * sz) ++ f a ++ (cellsF f xs).drop (i * sz + (f a).length) = cellsF f (xs.set i a) := by
 rw [hf, show i * sz + sz = (i + 1) * sz by rw [Nat.add_mul]; omega, cellsF_take hf, cellsF_drop hf, List.set_eq_take_append_cons_drop, if_pos hi, ← cellsF_one f a, ← cellsF_append, ← cellsF_append]
 simp
theorem ent_length (e : En) : (ent e).length = 4 := rfl
theorem rep_cells {α : Type} (f : α → List Value) (n : Nat) (c : α) : rep n (f c) = cellsF f (List.replicate n c) := by
 induction n with
 | zero => rfl
 | succ n ih => rw [List.replicate_succ, rep, ih]; simp [cellsF]
def fromK (cl k : Nat) : List En := (List.range k).map (fun i : Nat => ((-1, (i : Int), (i : Int), 1) : En)) ++ List.replicate (4096 - k) (0, 0, 0, 0)
theorem fromK_length (cl k : Nat) (h : k ≤ 4096) : (fromK cl k).length = 4096 := by simp [fromK]; omega
theorem fromK_next (cl k : Nat) (h : k < 4096) : (fromK cl k).set k (-1, (k : Int), (k : Int), 1) = fromK cl (k + 1) := by
 unfold fromK
 rw [List.set_append_right _ _ (by simp), List.range_succ, List.map_append]
 simp only [List.length_map, List.length_range, Nat.sub_self]
 rw [show 4096 - k = (4096 - (k + 1)) + 1 by omega, List.replicate_succ]
 simp
theorem fromK_bases (cl : Nat) (h : cl + 2 ≤ 4096) : fromK cl cl = bases cl ++ List.replicate (4096 - (cl + 2)) (0, 0, 0, 0) := by
 unfold fromK bases
 rw [show 4096 - cl = (4096 - (cl + 2)) + 2 by omega, List.replicate_succ, List.replicate_succ, List.append_assoc]; rfl
theorem entries_spec {cl : Nat} {x2 x3 : Int} {up : Bool} {w : World} {R : Ending → World → Prop} (hcl : cl ≤ 256)
  (hR : ∀ p w', Ext w w' → Ow w.heap.size w'.heap.size w' p (cl + 2) 4096 4 (cellsF ent (tabL cl [] [])) → R (.returned (.slice p (cl + 2) 4096)) w') :
  Calls P F.lzw_kind_entries #[.agg #[i64 cl, i64 x2, .bool up, i64 x3]] w R := by
 refine calls_lzw_kind_entries _ _ _ _ _ _ ?_
 intro k1 hk1 w1 hL1
 rw [w64 (x := (cl : Int) + 2) (by omega) (by omega)]
 refine ⟨by omega, by omega, by omega, by omega, fun k2 w2 hn => ?_⟩
 have hE1 : Ext w w1 := hL1.ext (by simpa using hk1)
 have hs1 := hE1.size
 have hk2 := hn.1
 have hk1lt := hL1.there k1 (by simp)
 have hc := hn.cs
 rw [mkCells_rep, show [i64 0, u8 0, u8 0, i64 0] = ent (0, 0, 0, 0) from rfl, rep_cells] at hc
 refine ⟨fun vs u => match vs with | [.int _ n] => 0 ≤ n ∧ n ≤ cl ∧ Ext w u ∧ Cs u k2 (cellsF ent (fromK cl n.toNat)) | _ => False,
  fun vs _ => match vs with | [.int _ n] => ((cl : Int) - n).toNat | _ => 0, ⟨by omega, by omega, hE1.trans hn.ext, by simpa [fromK] using hc⟩, fun n u hI => ?_⟩
 obtain ⟨n0, n1, hE, hcs⟩ := hI
 refine brB_i (fun hlt => ?_) (fun hge => ?_)
 ·have hlt : n < cl := by simpa using hlt
  have hcl4 := fromK_length cl n.toNat (by omega)
  have hset := hcs.canSet (off := n.toNat * 4) (n := 4) (by rw [cellsF_length ent_length, hcl4]; omega)
  have hnew := hcs.set (off := n.toNat * 4) (us := ent (-1, n, n, 1)) (by rw [cellsF_length ent_length, hcl4, ent_length]; omega)
  rw [cellsF_set ent_length (by rw [hcl4]; omega)] at hnew
  have e : (n.toNat : Int) = n := by omega
  have hfn := fromK_next cl n.toNat (by omega)
  rw [e] at hfn
  rw [hfn] at hnew
  refine idx_i n0 (by omega) rfl ?_
  rw [loc_add]
  simp only [Nat.zero_add] at *
  have hu : IntKind.u8.wrap n = n := wu8 n0 (by omega)
  have h0 := hset 0 (by omega)
  rw [loc_add] at h0
  refine ⟨h0.1, h0.2, (hset 1 (by omega)).1, (hset 1 (by omega)).2, (hset 2 (by omega)).1, (hset 2 (by omega)).2, (hset 3 (by omega)).1, (hset 3 (by omega)).2, by simp; omega, ?_⟩
  rw [w64 (x := n + 1) (by omega) (by omega), hu]
  have hck := Chg.setCells u ⟨k2, n.toNat * 4, none⟩ (ent (-1, n, n, 1)) 0
  refine ⟨⟨by omega, by omega, hE.step hck fun i hi => by have hi : i = k2 := hi; omega, ?_⟩, by show (_ : Nat) < _; omega⟩
  rw [show (n + 1).toNat = n.toNat + 1 by omega]
  exact hnew
 ·have hge : ¬ n < cl := by simpa using hge
  have e : n.toNat = cl := by omega
  rw [e, fromK_bases cl (by omega), cellsF_append] at hcs
  rw [show ((cl : Int) + 2).toNat = cl + 2 by omega]
  refine hR _ _ hE ⟨?_, by omega, .inr ⟨k2, cellsF ent (List.replicate (4096 - (cl + 2)) (0, 0, 0, 0)), by omega, hcs.lt, rfl, ?_, ?_⟩⟩
  ·rw [cellsF_length ent_length, tabL_length rfl]; simp
  ·rw [cellsF_length ent_length, cellsF_length ent_length, tabL_length rfl]; simp; omega
  ·simpa [tabL] using hcs
end Go.Proofs.YtiiaihiliimcoaaGreat
namespace Go.Proofs.YtiiaihiliimcoaaGreat
open Go Go.Vc Go.RowKit
set_option maxRecDepth 100000
def initS (w0 : Nat) : LS := ⟨0, w0, none, [], [], []⟩
def ahI : Option Nat → Int
 | none => -1
 | some a => a
def tOf (cl : Nat) (s : LS) (v : Nat) : List Int := match s.ah with | none => [(v : Int)] | some a => givenS cl s a v
def nextS (cl early : Nat) (s : LS) (v : Nat) : LS := match s.ah with
 | none => ⟨s.pos + s.wd, s.wd, some v, s.A, s.T, s.out ++ [(v : Int)]⟩
 | some a => if cl + 2 + s.T.length < 4096 then ⟨s.pos + s.wd, wid early (cl + 2 + s.T.length) s.wd, some v, s.A ++ [a], s.T ++ [strOf cl s.T a ++ [(givenS cl s a v).headD 0]], s.out ++ givenS cl s a v⟩
  else ⟨s.pos + s.wd, s.wd, some v, s.A, s.T, s.out ++ givenS cl s a v⟩
def badC (cl : Nat) (s : LS) (v : Nat) : Prop := match s.ah with
 | none => cl < v
 | some _ => cl + 2 + s.T.length < v ∨ (v = cl + 2 + s.T.length ∧ 4096 ≤ cl + 2 + s.T.length)
instance (cl : Nat) (s : LS) (v : Nat) : Decidable (badC cl s v) := by unfold badC; split <;> infer_instance
theorem lz_step {bs : List Int} {up : Bool} {cl w0 early : Nat} {most : Int} {F : Nat} {s : LS} : lz bs up cl w0 early most (F + 1) s =
  if 8 * bs.length < s.pos + s.wd then ([], 5) else
  if (takeV bs up s.pos s.wd).toNat = cl then lz bs up cl w0 early most F ⟨s.pos + s.wd, w0, none, [], [], s.out⟩
  else if (takeV bs up s.pos s.wd).toNat = cl + 1 then (s.out, 0)
  else if badC cl s (takeV bs up s.pos s.wd).toNat then ([], 32)
  else if most < (s.out.length + (tOf cl s (takeV bs up s.pos s.wd).toNat).length : Nat) then ([], 3) else lz bs up cl w0 early most F (nextS cl early s (takeV bs up s.pos s.wd).toNat) := by
 obtain ⟨pos, wd, ah, A, T, out⟩ := s
 cases ah with
 | none => rfl
 | some a =>
  rw [lz]
  simp only [badC, tOf, nextS, givenS]
  repeat' split
  all_goals first | rfl | (simp_all; done) | omega
structure Nxt (cl early : Nat) (s : LS) (v : Nat) : Prop where
 inv : Inv cl (nextS cl early s v)
 out : (nextS cl early s v).out = s.out ++ tOf cl s v
 pos : (nextS cl early s v).pos = s.pos + s.wd
 ah : (nextS cl early s v).ah = some v
 str : strOf cl (nextS cl early s v).T v = tOf cl s v
 code : vcode cl (nextS cl early s v).T.length v
 fit : Bs (tOf cl s v)
 one : 1 ≤ (tOf cl s v).length
 most : (tOf cl s v).length ≤ 4096
theorem Inv.nxt {cl early : Nat} {s : LS} (h : Inv cl s) {v : Nat} (h1 : v ≠ cl) (h2 : v ≠ cl + 1) (hb : ¬ badC cl s v) : Nxt cl early s v := by
 have hcl := h.cl256
 rcases hah : s.ah with _ | a
 ·have hv : v < cl := by simp only [badC, hah] at hb; omega
  have e1 : nextS cl early s v = ⟨s.pos + s.wd, s.wd, some v, s.A, s.T, s.out ++ [(v : Int)]⟩ := by simp only [nextS, hah]
  have e2 : tOf cl s v = [(v : Int)] := by simp only [tOf, hah]
  have hn := h.first hv
  refine ⟨by rw [e1]; exact hn, by rw [e1, e2], by rw [e1], by rw [e1], by rw [e1, e2]; exact strOf_lt _ hv, by rw [e1]; exact .inl hv, by rw [e2]; exact Bs.single (by omega), by rw [e2]; simp, by rw [e2]; simp⟩
 ·have hb' : ¬ (cl + 2 + s.T.length < v ∨ (v = cl + 2 + s.T.length ∧ 4096 ≤ cl + 2 + s.T.length)) := by simpa only [badC, hah] using hb
  have hv : vcode cl (s.T.length + 1) v := by unfold vcode; omega
  have hf : v = cl + 2 + s.T.length → cl + 2 + s.T.length < 4096 := by omega
  have e2 : tOf cl s v = givenS cl s a v := by simp only [tOf, hah]
  obtain ⟨g1, g2, g3⟩ := h.given hah hv hf
  have hfull := h.full
  have hva := h.ahv a hah
  by_cases hn : cl + 2 + s.T.length < 4096
  ·have e1 : nextS cl early s v = ⟨s.pos + s.wd, wid early (cl + 2 + s.T.length) s.wd, some v, s.A ++ [a], s.T ++ [strOf cl s.T a ++ [(givenS cl s a v).headD 0]], s.out ++ givenS cl s a v⟩ := by simp only [nextS, hah, if_pos hn]
   refine ⟨by rw [e1]; exact h.next hah hv hf hn, by rw [e1, e2], by rw [e1], by rw [e1], ?_, by rw [e1]; simpa using hv, by rw [e2]; exact g1, by rw [e2]; exact g2, by rw [e2]; exact g3⟩
   rw [e1, e2]
   simp only
   by_cases hvn : v = cl + 2 + s.T.length
   ·have e3 : givenS cl s a v = strOf cl s.T a ++ [(strOf cl s.T a).headD 0] := by simp only [givenS, if_pos hvn]
    rw [strOf_ge _ (by omega), show v - cl - 2 = s.T.length by omega, getD_append_last, e3]
    have := (h.str hva).2.1
    cases hc : strOf cl s.T a with
    | nil => rw [hc] at this; simp at this
    | cons x l => rfl
   ·have e3 : givenS cl s a v = strOf cl s.T v := by simp only [givenS, if_neg hvn]
    rw [e3, strOf_app _ (by unfold vcode at *; omega)]
  ·have e1 : nextS cl early s v = ⟨s.pos + s.wd, s.wd, some v, s.A, s.T, s.out ++ givenS cl s a v⟩ := by simp only [nextS, hah, if_neg hn]
   have hvn : v ≠ cl + 2 + s.T.length := by omega
   refine ⟨by rw [e1]; exact h.keep hah hv (by omega) hvn, by rw [e1, e2], by rw [e1], by rw [e1], ?_, by rw [e1]; unfold vcode at *; simp only; omega, by rw [e2]; exact g1, by rw [e2]; exact g2, by rw [e2]; exact g3⟩
   rw [e1, e2]
   simp only [givenS, if_neg hvn]
def rdLeft (bs : List Int) (rb : Nat) (u : World) : Nat := match u.cell? ⟨rb, 1, none⟩ with
 | some (.int _ n) => (8 * bs.length - n).toNat
 | _ => 0
theorem RdAt.left {w : World} {q : Option Addr} {rb : Nat} {S : Nat → Prop} {bs : List Int} {k : Int} {up : Bool} (h : RdAt w q rb S bs k up) : rdLeft bs rb w = (8 * bs.length - k).toNat := by
 obtain ⟨base, cap, h3, h4⟩ := h.obj
 unfold rdLeft
 rw [h3.cell (i := 1) rfl]
structure UM (w u : World) (f : Nat → Nat) (L : List Nat) (rb : Nat) (S : Nat → Prop) (bs : List Int) (pos : Nat) (up : Bool) (tb : List En) (out : List Int) (p3 : Option Addr) (k4 k5 : Nat) (p4 : Option Addr) (k6 k7 : Nat) : Prop where
 pal : Pal w u f (rb :: L)
 rd : RdAt u (some ⟨rb, 0, none⟩) rb S bs pos up
 sf : ∀ b, S b → f b = 0 ∧ b < u.heap.size
 nk : ∀ b, b ∈ L → ¬ S b ∧ b ≠ rb
 tab : Th w u f 1 p3 k4 k5 4 (cellsF ent tb)
 out : Th w u f 2 p4 k6 k7 1 (bytes out)
section
variable {w u u' : World} {f : Nat → Nat} {L : List Nat} {rb : Nat} {S : Nat → Prop} {bs : List Int} {pos : Nat} {up : Bool} {tb : List En} {out : List Int} {p3 p4 : Option Addr} {k4 k5 k6 k7 : Nat}
theorem UM.dr (h : UM w u f L rb S bs pos up tb out p3 k4 k5 p4 k6 k7) : UM w u.drew f L rb S bs pos up tb out p3 k4 k5 p4 k6 k7 :=
 ⟨h.pal.same (Z := fun _ => False) (Ext.refl u).drew.chg fun _ _ h => h.elim, h.rd.ext (Ext.refl u).drew, h.sf, h.nk, h.tab, h.out⟩
theorem UM.mono {L' : List Nat} (h : UM w u f L rb S bs pos up tb out p3 k4 k5 p4 k6 k7) (hL : ∀ b, b ∈ L' → b ∈ L) : UM w u f L' rb S bs pos up tb out p3 k4 k5 p4 k6 k7 :=
 ⟨h.pal.mono fun b hb => by rcases List.mem_cons.1 hb with hb | hb; exact List.mem_cons.2 (.inl hb); exact List.mem_cons.2 (.inr (hL b hb)), h.rd, h.sf, fun b hb => h.nk b (hL b hb), h.tab, h.out⟩
theorem UM.k4e (h : UM w u f L rb S bs pos up tb out p3 k4 k5 p4 k6 k7) : k4 = tb.length := by
 have := h.tab.1
 rw [cellsF_length ent_length] at this; omega
theorem UM.k6e (h : UM w u f L rb S bs pos up tb out p3 k4 k5 p4 k6 k7) : k6 = out.length := by
 have := h.out.len
 rw [bytes_length] at this; omega
theorem UM.rb0 (h : UM w u f L rb S bs pos up tb out p3 k4 k5 p4 k6 k7) : f rb = 0 ∧ rb < u.heap.size ∧ w.heap.size ≤ rb := by
 have := h.pal.av rb (by simp); exact ⟨this.2.2, this.2.1, this.1⟩
theorem UM.take {k : Int} (h : UM w u f L rb S bs pos up tb out p3 k4 k5 p4 k6 k7) (hC : Chg (· = rb) u u') {pos' : Nat} (hr : RdAt u' (some ⟨rb, 0, none⟩) rb S bs k up) (hk : k = pos') : UM w u' f L rb S bs pos' up tb out p3 k4 k5 p4 k6 k7 := by
 subst hk
 have h0 := h.rb0
 refine ⟨h.pal.same hC fun b _ hb => by have hb : b = rb := hb; omega, hr, fun b hb => ⟨(h.sf b hb).1, Nat.lt_of_lt_of_le (h.sf b hb).2 hC.size⟩, h.nk, h.tab.same hC fun b _ hf _ hb => ?_, h.out.same hC fun b _ hf _ hb => ?_⟩
 ·have hb : b = rb := hb
  subst hb; omega
 ·have hb : b = rb := hb
  subst hb; omega
theorem UM.locl {bs' : List Nat} (h : UM w u f L rb S bs pos up tb out p3 k4 k5 p4 k6 k7) (hL : Locl bs' u u') (hb : ∀ b, b ∈ bs' → b ∈ L ∨ u.heap.size ≤ b) : UM w u' (fOn f u.heap.size 0) (bs' ++ L) rb S bs pos up tb out p3 k4 k5 p4 k6 k7 := by
 have h0 := h.rb0
 obtain ⟨hP, hT⟩ := h.pal.locl hL (fun b hm => by rcases hb b hm with h | h; exact .inl (List.mem_cons.2 (.inr h)); exact .inr h)
 have hno : ∀ b, b ∈ bs' → ¬ S b ∧ b ≠ rb := fun b hm => by
  rcases hb b hm with h' | h'
  ·exact h.nk b h'
  ·exact ⟨fun hs => by have := (h.sf b hs).2; omega, by omega⟩
 refine ⟨hP.mono fun b hm => ?_, h.rd.chg hL.chg (fun hm => (hno rb hm).2 rfl) (fun b hs _ hm => (hno b hm).1 hs), fun b hs => ⟨by rw [fOn_lt (h.sf b hs).2]; exact (h.sf b hs).1, Nat.lt_of_lt_of_le (h.sf b hs).2 hL.size⟩, fun b hm => ?_, hT (by omega) h.tab, hT (by omega) h.out⟩
 ·simp only [List.mem_cons, List.mem_append] at hm ⊢
  rcases hm with hm | hm | hm
  ·exact .inr (.inl hm)
  ·exact .inl hm
  ·exact .inr (.inr hm)
 ·rcases List.mem_append.1 hm with hm | hm
  ·exact hno b hm
  ·exact h.nk b hm
theorem UM.app1 {el : TypeId} {l : List (Nat × Nat × List Value)} {e : En} {F : Option Addr → Nat → Nat → World → Prop} (h : UM w u f L rb S bs pos up tb out p3 k4 k5 p4 k6 k7) (hl : ∀ b, b ∈ blocks l → b ∈ L) (h4 : tb.length ≤ 4096)
  (hF : ∀ p' c' u' f', UM w u' f' L rb S bs pos up (tb ++ [e]) out p' (k4 + 1) c' p4 k6 k7 → F p' (k4 + 1) c' u') : appVC u l p3 k4 k5 1 4 24 el [i64 0, u8 0, u8 0, i64 0] (ent e) F := by
 have h0 := h.rb0
 have hk4 := h.k4e
 refine h.tab.app h.pal (by omega) (fun b hb => List.mem_cons.2 (.inr (hl b hb))) rfl rfl (by omega) (by omega) fun p' c' u' hP hT hC => hF p' c' u' _ ⟨hP, h.rd.chg hC (fun hz => by have := hz.1; omega) (fun b hs _ hz => by have := hz.1; have := (h.sf b hs).1; omega), fun b hs => ⟨by rw [fOn_lt (h.sf b hs).2]; exact (h.sf b hs).1, Nat.lt_of_lt_of_le (h.sf b hs).2 hC.size⟩, h.nk, by rw [cellsF_append, cellsF_one]; exact hT, h.out.other hC (by omega)⟩
theorem UM.app2 {l : List (Nat × Nat × List Value)} {xs : List Int} {n : Nat} {F : Option Addr → Nat → Nat → World → Prop} (h : UM w u f L rb S bs pos up tb out p3 k4 k5 p4 k6 k7) (hl : ∀ b, b ∈ blocks l → b ∈ L) (hn : n = xs.length) (h4 : out.length + xs.length ≤ 2 ^ 47)
  (hF : ∀ p' c' u' f', UM w u' f' L rb S bs pos up tb (out ++ xs) p3 k4 k5 p' (k6 + n) c' → F p' (k6 + n) c' u') : appVC u l p4 k6 k7 n 1 1 5 [u8 0] (bytes xs) F := by
 have h0 := h.rb0
 have hk6 := h.k6e
 refine h.out.app h.pal (by omega) (fun b hb => List.mem_cons.2 (.inr (hl b hb))) rfl (by rw [bytes_length]; omega) (by omega) (by omega) fun p' c' u' hP hT hC => hF p' c' u' _ ⟨hP, h.rd.chg hC (fun hz => by have := hz.1; omega) (fun b hs _ hz => by have := hz.1; have := (h.sf b hs).1; omega), fun b hs => ⟨by rw [fOn_lt (h.sf b hs).2]; exact (h.sf b hs).1, Nat.lt_of_lt_of_le (h.sf b hs).2 hC.size⟩, h.nk, h.tab.other hC (by omega), by rw [bytes_append]; exact hT⟩
theorem UM.set2 (h : UM w u f L rb S bs pos up tb out p3 k4 k5 p4 k6 k7) {k : Nat} (hk : k < out.length) (l : Int) :
  ∃ b, p4 = some ⟨b, 0, none⟩ ∧ (∃ v, u.cell? ⟨b, k, none⟩ = some v) ∧ u.frozen? ⟨b, k, none⟩ = false ∧ b ∉ L ∧ UM w (setCells u ⟨b, k, none⟩ [u8 l] 0) f L rb S bs pos up tb (out.set k l) p3 k4 k5 p4 k6 k7 := by
 have h0 := h.rb0
 have hk6 := h.k6e
 obtain ⟨b, hb, hth, hcs, hT, hC⟩ := h.out.set (k := k) (us := [u8 l]) (by rw [bytes_length]; simp; omega) (by omega)
 have hc := hcs 0 (by simp)
 rw [loc_add, Nat.add_zero] at hc
 have hset : (bytes out).take k ++ [u8 l] ++ (bytes out).drop (k + [u8 l].length) = bytes (out.set k l) := by
  have : (bytes out).set k (u8 l) = bytes (out.set k l) := by simp [bytes, List.map_set]
  rw [← this, List.set_eq_take_append_cons_drop, if_pos (by rw [bytes_length]; exact hk)]; simp
 rw [hset] at hT
 refine ⟨b, hb, hc.1, hc.2, fun hm => ?_, ⟨h.pal.same hC fun b _ hz => hz.2.1, h.rd.chg hC (fun hz => by have := hz.1; omega) (fun b hs _ hz => by have := hz.1; have := (h.sf b hs).1; omega), fun b hs => ⟨(h.sf b hs).1, Nat.lt_of_lt_of_le (h.sf b hs).2 hC.size⟩, h.nk, h.tab.same hC fun b _ hf _ hz => by have := hz.1; omega, hT⟩⟩
 have := (h.pal.av b (List.mem_cons.2 (.inr hm))).2.2
 have := hth.1; omega
end
def UI (w : World) (k1 rb : Nat) (S : Nat → Prop) (bs : List Int) (up : Bool) (cl w0 early : Nat) (most : Int) (res : List Int × Int) (vs : List Value) (u : World) : Prop := match vs with
 | [.slice p3 k4 k5, .int _ n1, .int _ n2, .slice p4 k6 k7] => ∃ (f : Nat → Nat) (s : LS) (F : Nat), Inv cl s ∧ 8 * bs.length < s.pos + F ∧ lz bs up cl w0 early most F s = res ∧ n1 = s.wd ∧ n2 = ahI s.ah ∧ UM w u f [k1] rb S bs s.pos up (tabL cl s.A s.T) s.out p3 k4 k5 p4 k6 k7
 | _ => False
theorem shl1 : ∀ wd : Nat, wd < 13 → shiftZ .shl .i64 1 (wd : Int) = ((2 ^ wd : Nat) : Int) := by decide
theorem pow_small : ∀ wd : Nat, wd < 13 → 1 ≤ 2 ^ wd ∧ 2 ^ wd ≤ 4096 := by decide
end Go.Proofs.YtiiaihiliimcoaaGreat
namespace Go.Proofs.YtiiaihiliimcoaaGreat
open Go Go.Vc Go.RowKit
set_option maxRecDepth 100000
theorem fill_set (o d : List Int) (m : Nat) (l : Int) : (o ++ List.replicate (m + 1) 0 ++ d).set (o.length + m) l = o ++ List.replicate m 0 ++ l :: d := by
 rw [List.append_assoc, List.set_append_right _ _ (by omega), show o.length + m - o.length = m by omega, List.replicate_succ', List.append_assoc, List.append_assoc, List.set_append_right _ _ (by simp)]
 simp
theorem lz_pos {bs : List Int} {F : Nat} {s : LS} (h : 8 * bs.length < s.pos + F) (h' : s.pos ≤ 8 * bs.length) : ∃ G, F = G + 1 := ⟨F - 1, by omega⟩
theorem left_lt {n a b : Nat} (h : a + b ≤ 8 * n) (hb : 1 ≤ b) : (8 * (n : Int) - ((a + b : Nat) : Int)).toNat < (8 * (n : Int) - (a : Int)).toNat := by omega
set_option maxHeartbeats 4000000 in
theorem unpack_spec {N cl w0 early : Nat} {most : Int} {up : Bool} {w : World} {base : Option Addr} {len cap : Nat} {bs : List Int} {R : Ending → World → Prop}
  (h : Sl N w base (bytes bs)) (hl : len = bs.length) (hsz : len ≤ 2 ^ 24) (hf : Bs bs) (hcl : cl ≤ 256) (hc4 : 4 ≤ cl) (hw1 : 1 ≤ w0) (hw2 : w0 ≤ 12) (he : early ≤ 1) (m0 : 0 ≤ most) (m1 : most ≤ 9223372036854775807)
  (hR : ∀ p l c w', Fg [] w w' 1 p l c (bytes (lz bs up cl w0 early most (8 * bs.length + 1) (initS w0)).1) → R (.returned (.tuple #[.slice p l c, i64 (lz bs up cl w0 early most (8 * bs.length + 1) (initS w0)).2])) w') :
  Calls P F.lzw_kind_unpack #[.agg #[i64 cl, i64 w0, .bool up, i64 early], .slice base len cap, i64 most] w R := by
 refine calls_lzw_kind_unpack _ _ _ _ _ _ _ _ _ _ ?_
 generalize hres : lz bs up cl w0 early most (8 * bs.length + 1) (initS w0) = res at hR
 intro k1 hk1 w1 hL1
 have hE1 : Ext w w1 := hL1.ext (by simpa using hk1)
 have hs1 := hE1.size
 have hk1' := hL1.there k1 (by simp)
 refine NewReader_spec (h.ext hE1) hl (by omega) hf fun rb w2 hE2 hrb hrd => ⟨_, rfl, hE2.keep _, ?_⟩
 have hs2 := hE2.size
 have hrb2 : rb < w2.heap.size := by obtain ⟨_, _, hc, _⟩ := hrd.obj; exact hc.lt
 have hE2d : Ext w w2.drew := (hE1.trans hE2).drew
 refine entries_spec hcl fun p w3 hE3 ho => ⟨_, _, _, rfl, hE3.keep _, hE3.keeps, ?_⟩
 have hs3 : w2.heap.size ≤ w3.heap.size := hE3.size
 refine ⟨UI w k1 rb (fun i => w1.heap.size ≤ i ∧ i < rb) bs up cl w0 early most res, fun _ u => rdLeft bs rb u, ?_, ?_⟩
 ·refine ⟨fOn (fun _ => 0) w2.heap.size 1, initS w0, 8 * bs.length + 1, ?_, by simp only [initS]; omega, hres, rfl, rfl, ⟨⟨hE2d.trans hE3, fun b hb => ?_⟩, ?_, fun b hb => ⟨by rw [fOn_lt (by omega)], by omega⟩, fun b hb => ?_, Th.new ho (hE1.trans hE2), Th.nil _ _ _ _ _ _⟩⟩
  ·exact ⟨hcl, hc4, hw1, hw2, by simp [initS]; omega, rfl, by simp [initS], by simp [initS], fun _ => rfl, by simp [initS, Bs], by simp [initS]⟩
  ·simp only [List.mem_cons, List.not_mem_nil, or_false] at hb
   rcases hb with rfl | rfl
   ·exact ⟨by omega, by omega, by rw [fOn_lt hrb2]⟩
   ·exact ⟨by omega, by omega, by rw [fOn_lt (by omega)]⟩
  ·exact hrd.ext ((Ext.refl w2).drew.trans hE3)
  ·simp only [List.mem_cons, List.not_mem_nil, or_false] at hb
   subst hb
   exact ⟨fun hh => by omega, by omega⟩
 intro p3 k4 k5 n1 n2 p4 k6 k7 w4 hI
 obtain ⟨f, s, F, hi, hF, hlz, rfl, rfl, um⟩ := hI
 generalize hS : (fun i => w1.heap.size ≤ i ∧ i < rb) = S at *
 have hhi := um.rd.hi
 obtain ⟨G, rfl⟩ := lz_pos hF (by omega)
 rw [lz_step] at hlz
 have hwd := hi.wd12
 have hwd1 := hi.wd1
 have hlong := hi.long
 have hfull := hi.full
 have hk4 := um.k4e
 have hk6 := um.k6e
 rw [tabL_length hi.la] at hk4
 refine ⟨fun vs u => UI w k1 rb S bs up cl w0 early most res vs u ∧ rdLeft bs rb u < rdLeft bs rb w4, ?_, fun p10 k19 k20 n19 n20 p11 k21 k22 w13 hI2 => hI2⟩
 refine Take_spec um.rd (fun hh => by omega) (fun _ _ hgt => ?_) (fun _ _ hle w5 hC5 hrd5 => ?_)
 ·rw [if_pos (by omega)] at hlz
  subst hlz
  exact ⟨_, _, rfl, (Ext.refl w4).drew.keep _, brB_t rfl (hR none 0 0 _ (Fg.nil um.pal.ext.drew 1))⟩
 rw [if_neg (by omega)] at hlz
 have hvr := takeV_range bs up s.pos s.wd
 simp only [Int.toNat_natCast]
 obtain ⟨v, hv⟩ := Int.eq_ofNat_of_zero_le hvr.1
 have hv4 : v < 4096 := by
  have := pow_small s.wd (by omega)
  have h2 : ((2 : Int) ^ s.wd) = ((2 ^ s.wd : Nat) : Int) := by simp
  omega
 rw [hv] at hlz ⊢
 simp only [Int.toNat_natCast] at hlz
 have um5 := um.take hC5 hrd5 (pos' := s.pos + s.wd) (by omega)
 have hmea : rdLeft bs rb w4 = (8 * bs.length - s.pos : Int).toNat := um.rd.left
 have hnk1 := um.nk k1 (by simp)
 have hle' : s.pos + s.wd ≤ 8 * bs.length := by omega
 refine ⟨_, _, rfl, hC5.keep (by simpa using hnk1.2), brB_f rfl ?_⟩
 rw [w64 (x := (v : Int)) (by omega) (by omega), w64 (x := (cl : Int) + 2) (by omega) (by omega), w64 (x := (cl : Int) + 1) (by omega) (by omega)]
 have hahr : ahI s.ah = -1 ∧ s.ah = none ∨ ∃ a : Nat, ahI s.ah = a ∧ s.ah = some a := by
  cases hc : s.ah with
  | none => exact .inl ⟨rfl, rfl⟩
  | some a => exact .inr ⟨a, rfl, rfl⟩
 refine ⟨fun vs u => [.slice p3 k4 k5, i64 s.wd, i64 (ahI s.ah)] = vs ∧ w5 = u ∧ v ≠ cl ∧ v ≠ cl + 1 ∧ ¬ badC cl s v, ?_, ?_⟩
 ·refine brB_i (fun hb => ?_) (fun hb => ?_)
  ·have hb : v = cl := by have : (v : Int) = cl := by simpa using hb
                          omega
   rw [if_pos hb] at hlz
   have hr := um5.tab.room
   refine ⟨by omega, by omega, by omega, ?_⟩
   have hT := um5.tab.cut (n := cl + 2) (by omega)
   rw [cellsF_take ent_length, tabL_cut] at hT
   have e1 : ((cl : Int) + 2).toNat - (0 : Int).toNat = cl + 2 := by omega
   have e2 : k5 - (0 : Int).toNat = k5 := by simp
   rw [e1, e2, show (0 : Int).toNat = 0 from rfl]
   have umd := um5.dr
   refine ⟨⟨f, ⟨s.pos + s.wd, w0, none, [], [], s.out⟩, G, hi.clear hw1 hw2, by simp only; omega, hlz, rfl, rfl, ⟨umd.pal, umd.rd, umd.sf, umd.nk, hT, umd.out⟩⟩, ?_⟩
   rw [hmea, umd.rd.left]; exact left_lt hle' hwd1
  have hb : v ≠ cl := by have : ¬ (v : Int) = cl := by simpa using hb
                         omega
  rw [if_neg hb] at hlz
  refine brB_i (fun hb2 => ?_) (fun hb2 => ?_)
  ·have hb2 : v = cl + 1 := by have : (v : Int) = cl + 1 := by simpa using hb2
                               omega
   rw [if_pos hb2] at hlz
   subst hlz
   exact hR _ _ _ _ (um5.out.fg um5.pal.ext)
  have hb2 : v ≠ cl + 1 := by have : ¬ (v : Int) = cl + 1 := by simpa using hb2
                              omega
  rw [if_neg hb2] at hlz
  have hbad : badC cl s v → R (.returned (.tuple #[.slice none 0 0, i64 32])) w5 := fun hb3 => by
   rw [if_pos hb3] at hlz
   subst hlz
   exact hR none 0 0 _ (Fg.nil um5.pal.ext 1)
  refine brB_i (fun hb3 => ?_) (fun hb3 => ?_)
  ·refine brB_t hb3 (hbad ?_)
   simp only [Bool.and_eq_true, decide_eq_true_eq] at hb3
   rcases hahr with ⟨e1, e2⟩ | ⟨a, e1, e2⟩
   ·simp only [badC, e2]; omega
   ·omega
  have hb3' : ¬ (ahI s.ah < 0 ∧ (v : Int) > cl) := by simpa using hb3
  refine brB_i (fun hb4 => ?_) (fun hb4 => ?_)
  ·refine brB_t hb4 (hbad ?_)
   have hb4 : (v : Int) > k4 := by simpa using hb4
   rcases hahr with ⟨e1, e2⟩ | ⟨a, e1, e2⟩
   ·omega
   ·simp only [badC, e2]; omega
  have hb4' : ¬ (v : Int) > k4 := by simpa using hb4
  refine brB_i (fun hb5 => ?_) (fun hb5 => ?_)
  ·have hb5 : (v : Int) = k4 ∧ (k4 : Int) = 4096 := by simpa using hb5
   refine hbad ?_
   rcases hahr with ⟨e1, e2⟩ | ⟨a, e1, e2⟩
   ·omega
   ·simp only [badC, e2]; omega
  ·have hb5 : ¬ ((v : Int) = k4 ∧ (k4 : Int) = 4096) := by simpa using hb5
   refine ⟨rfl, rfl, hb, hb2, fun hbd => ?_⟩
   rcases hahr with ⟨e1, e2⟩ | ⟨a, e1, e2⟩
   ·simp only [badC, e2] at hbd; omega
   ·simp only [badC, e2] at hbd; omega
 intro p6 k10 k11 n5 n6 w6 hI3
 obtain ⟨e, rfl, hvc, hvc1, hnb⟩ := hI3
 simp only [List.cons.injEq, Value.slice.injEq, Value.int.injEq, true_and, and_true] at e
 obtain ⟨⟨rfl, rfl, rfl⟩, rfl, rfl⟩ := e
 have nx := hi.nxt (early := early) hvc hvc1 hnb
 rw [if_neg hvc, if_neg hvc1, if_neg hnb] at hlz
 have hmost := nx.most
 have hone := nx.one
 have hlong' : s.out.length ≤ 2 ^ 40 := by omega
 refine ⟨fun vs u => match vs with | [.slice p8 k15 k16, .int _ n12] => ∃ f, n12 = (nextS cl early s v).wd ∧ UM w u f [k1] rb S bs (s.pos + s.wd) up (tabL cl (nextS cl early s v).A (nextS cl early s v).T) s.out p8 k15 k16 p4 k6 k7 | _ => False, ?_, ?_⟩
 ·rcases hahr with ⟨e1, e2⟩ | ⟨a, e1, e2⟩
  ·rw [e1]
   refine brB_f (by simp) ⟨f, ?_, ?_⟩
   ·simp only [nextS, e2]
   ·simp only [nextS, e2]; exact um5
  ·rw [e1]
   have hva := hi.ahv a e2
   have hva4 : a < 4096 := by unfold vcode at hva; omega
   refine brB_i (fun hb => ?_) (fun hb => ?_)
   ·have hlt : cl + 2 + s.T.length < 4096 := by
     simp only [Bool.and_eq_true, decide_eq_true_eq] at hb; omega
    have hnx : nextS cl early s v = ⟨s.pos + s.wd, wid early (cl + 2 + s.T.length) s.wd, some v, s.A ++ [a], s.T ++ [strOf cl s.T a ++ [(givenS cl s a v).headD 0]], s.out ++ givenS cl s a v⟩ := by
     simp only [nextS, e2, if_pos hlt]
    obtain ⟨a', l', hat, -⟩ := hi.at_ hva
    have hnbv : v ≤ cl + 2 + s.T.length := by simp only [badC, e2] at hnb; omega
    have hgo := fun (u : World) (um : UM w u f [k1] rb S bs (s.pos + s.wd) up (tabL cl s.A s.T) s.out p3 k4 k5 p4 k6 k7) (F : Addr → Prop) => um.tab.sl.elem (F := F) (i := (a : Int)) (len := k4) ent_length (by omega) (by omega) (by rw [tabL_length hi.la]; omega) (by rw [Int.toNat_natCast]; exact hat)
    refine hgo w5 um5 _ fun c1 hc1 => ⟨_, hc1 2 _ rfl, fun vs u => [u8 ((givenS cl s a v).headD 0)] = vs ∧ w5 = u, ?_, ?_⟩
    ·refine brB_i (fun hb2 => ?_) (fun hb2 => ?_)
     ·have hb2 : (v : Int) < k4 := by simpa using hb2
      have hvv : vcode cl s.T.length v := by unfold vcode; omega
      obtain ⟨a2, l2, hat2, -⟩ := hi.at_ hvv
      refine um5.tab.sl.elem (i := (v : Int)) (len := k4) ent_length (by omega) (by omega) (by rw [tabL_length hi.la]; omega) (by rw [Int.toNat_natCast]; exact hat2) fun c2 hc2 => ⟨_, hc2 2 _ rfl, ?_, rfl⟩
      simp only [givenS, if_neg (show v ≠ cl + 2 + s.T.length by omega)]
     ·have hb2 : ¬ (v : Int) < k4 := by simpa using hb2
      refine ⟨?_, rfl⟩
      simp only [givenS, if_pos (show v = cl + 2 + s.T.length by omega)]
      have := (hi.str hva).2.1
      cases hc : strOf cl s.T a with
      | nil => rw [hc] at this; simp at this
      | cons x l => rfl
    intro n9 w7 hI5
    obtain ⟨e5, rfl⟩ := hI5
    simp only [List.cons.injEq, Value.int.injEq, true_and, and_true] at e5
    subst e5
    refine hgo _ um5.dr _ fun c3 hc3 => ⟨_, hc3 2 _ rfl, hgo _ um5.dr _ fun c4 hc4 => ⟨_, hc4 3 _ rfl, fun k12 hk12 w8 hL8 => ?_⟩⟩
    have um8 := um5.dr.locl hL8 (fun b hb => by
     simp only [List.mem_cons, List.not_mem_nil, or_false] at hb
     rcases hb with rfl | rfl
     ·exact .inr hk12
     ·exact .inl (by simp))
    have hstr := hi.str hva
    rw [w64 (x := ((strOf cl s.T a).length : Int) + 1) (by omega) (by omega)]
    refine um8.app1 (e := ((a : Int), (givenS cl s a v).headD 0, (strOf cl s.T a).headD 0, ((strOf cl s.T a).length : Int) + 1)) (by simp [blocks]) (by rw [tabL_length hi.la]; omega) fun p7 k14 w9 f9 um9 => ⟨by omega, ?_⟩
    have hent : enOf a (strOf cl s.T a ++ [(givenS cl s a v).headD 0]) = ((a : Int), (givenS cl s a v).headD 0, (strOf cl s.T a).headD 0, ((strOf cl s.T a).length : Int) + 1) := by
     have h1 : (strOf cl s.T a ++ [(givenS cl s a v).headD 0]).getLastD 0 = (givenS cl s a v).headD 0 := by simp
     have h2 : (strOf cl s.T a ++ [(givenS cl s a v).headD 0]).headD 0 = (strOf cl s.T a).headD 0 := by
      have := hstr.2.1
      cases hc : strOf cl s.T a with
      | nil => rw [hc] at this; simp at this
      | cons x l => rfl
     unfold enOf
     rw [h1, h2]; simp
    rw [← hent, ← tabL_add hi.la] at um9
    rw [shl1 s.wd (by omega)]
    have hp := pow_small s.wd (by omega)
    rw [w64 (x := ((2 ^ s.wd : Nat) : Int) - early) (by omega) (by omega), hnx]
    refine brB_i (fun hb3 => ?_) (fun hb3 => ?_)
    ·have hb3 : ((k4 + 1 : Nat) : Int) = ((2 ^ s.wd : Nat) : Int) - early ∧ (s.wd : Int) < 12 := by
      simp only [Bool.and_eq_true, decide_eq_true_eq, beq_iff_eq] at hb3; exact hb3
     refine ⟨f9, ?_, (um9.mono (by simp)).dr⟩
     rw [w64 (by omega) (by omega)]
     unfold wid
     rw [if_pos (by omega)]; rfl
    ·have hb3 : ¬ (((k4 + 1 : Nat) : Int) = ((2 ^ s.wd : Nat) : Int) - early ∧ (s.wd : Int) < 12) := by
      intro hh
      simp only [hh.1, hh.2, beq_self_eq_true, decide_true, Bool.and_self] at hb3
      cases hb3
     refine ⟨f9, ?_, (um9.mono (by simp)).dr⟩
     unfold wid
     rw [if_neg (by omega)]
   ·have hlt : ¬ cl + 2 + s.T.length < 4096 := fun h' => by
     have h1 : decide ((a : Int) ≥ 0) = true := by simp
     have h2 : decide ((k4 : Int) < 4096) = true := by simp; omega
     rw [h1, h2] at hb; cases hb
    refine ⟨f, ?_, ?_⟩
    ·simp only [nextS, e2, if_neg hlt]
    ·simp only [nextS, e2, if_neg hlt]; exact um5
 have hinv := nx.inv
 have hcode := nx.code
 have hstr := nx.str
 have hsout := nx.out
 have hspos := nx.pos
 have hsah := nx.ah
 have htf := nx.fit
 clear nx
 generalize nextS cl early s v = s' at *
 generalize tOf cl s v = t at *
 intro p8 k15 k16 n12 w10 hI4
 obtain ⟨f4, rfl, um10⟩ := hI4
 have hvl : v < cl + 2 + s'.T.length := by unfold vcode at hcode; omega
 have hk15 := um10.k4e
 rw [tabL_length hinv.la] at hk15
 have hlen : ((strOf cl s'.T v).length : Int) = t.length := by rw [hstr]
 obtain ⟨a', l', hat, -⟩ := hinv.at_ hcode
 rw [hlen] at hat
 have hgo := fun (F : Addr → Prop) => um10.tab.sl.elem (F := F) (i := (v : Int)) (len := k15) ent_length (by omega) (by omega) (by rw [tabL_length hinv.la]; omega) (by rw [Int.toNat_natCast]; exact hat)
 refine hgo _ fun c1 hc1 => ⟨_, hc1 3 _ rfl, ?_⟩
 rw [w64 (x := most - (k6 : Int)) (by omega) (by omega)]
 refine brB_i (fun hb => ?_) (fun hb => ?_)
 ·have hb : (t.length : Int) > most - k6 := by simpa using hb
  rw [if_pos (by omega)] at hlz
  subst hlz
  exact hR none 0 0 _ (Fg.nil um10.pal.ext 1)
 have hb : ¬ (t.length : Int) > most - k6 := by simpa using hb
 rw [if_neg (by omega)] at hlz
 refine hgo _ fun c2 hc2 => ⟨(t.length : Int), hc2 3 _ rfl, by omega, by omega, by omega, ?_⟩
 have hrep : rep ((t.length : Int)).toNat ((fun x : Value => x.cells.toList) (u8 0)) = bytes (List.replicate t.length 0) := by
  rw [Int.toNat_natCast]
  show rep t.length [u8 0] = _
  induction t.length with
  | zero => rfl
  | succ n ih => rw [rep, ih, List.replicate_succ]; rfl
 rw [hrep, Int.toNat_natCast]
 refine um10.app2 (by simp [blocks]) (by simp) (by simp; omega) fun p9 k18 w11 f11 um11 => ?_
 clear hgo hrep
 have hk6' := um10.k6e
 refine ⟨fun vs u => match vs with | [.int _ i, .int _ c] => ∃ (f : Nat → Nat) (done : List Int) (m : Nat), UM w u f [k1] rb S bs (s.pos + s.wd) up (tabL cl s'.A s'.T) (s.out ++ List.replicate m 0 ++ done) p8 k15 k16 p9 (k6 + t.length) k18 ∧ m + done.length = t.length ∧ i = (s.out.length + m : Nat) - (1 : Int) ∧ ((c = -1 ∧ done = t) ∨ ∃ c' : Nat, c = c' ∧ vcode cl s'.T.length c' ∧ strOf cl s'.T c' ++ done = t) | _ => False,
  fun vs _ => match vs with | [.int _ i, .int _ c] => (c + 1).toNat | _ => 0, ?_, fun n15 n16 w12 hI6 => ?_⟩
 ·rw [w64 (x := ((k6 + t.length : Nat) : Int) - 1) (by omega) (by omega)]
  exact ⟨f11, [], t.length, by simpa using um11, by simp, by omega, .inr ⟨v, rfl, hcode, by simpa using hstr⟩⟩
 obtain ⟨f12, done, m, um12, hm, rfl, hc⟩ := hI6
 rcases hc with ⟨rfl, rfl⟩ | ⟨c, rfl, hcc, hce⟩
 ·refine brB_f (by simp) ?_
  have hm0 : m = 0 := by omega
  subst hm0
  simp only [List.replicate_zero, List.append_nil] at um12
  rw [← hsout] at um12
  refine ⟨⟨f12, s', G, hinv, by rw [hspos]; omega, hlz, rfl, by rw [hsah]; rfl, by rw [hspos]; exact um12⟩, ?_⟩
  rw [hmea, um12.rd.left]; exact left_lt hle' hwd1
 ·refine brB_t (by simp) ?_
  obtain ⟨a2, l2, hat2, hcase⟩ := hinv.at_ hcc
  have hcl2 : c < cl + 2 + s'.T.length := by unfold vcode at hcc; omega
  have hgo2 := fun (u : World) (out : List Int) (k6 : Nat) (um : UM w u f12 [k1] rb S bs (s.pos + s.wd) up (tabL cl s'.A s'.T) out p8 k15 k16 p9 k6 k18) (F : Addr → Prop) => um.tab.sl.elem (F := F) (i := (c : Int)) (len := k15) ent_length (by omega) (by omega) (by rw [tabL_length hinv.la]; omega) (by rw [Int.toNat_natCast]; exact hat2)
  have hstrl := (hinv.str hcc).2.1
  have hml : m = (strOf cl s'.T c).length := by
   have := congrArg List.length hce
   rw [List.length_append] at this; omega
  obtain ⟨m', rfl⟩ : ∃ m', m = m' + 1 := ⟨m - 1, by omega⟩
  refine hgo2 _ _ _ um12 _ fun c3 hc3 => ⟨_, hc3 1 _ rfl, ?_⟩
  obtain ⟨b, hb9, hcell, hfz, hbk, um13⟩ := um12.set2 (k := s.out.length + m') (by simp; omega) l2
  have ei : ((s.out.length + (m' + 1) : Nat) : Int) - 1 = (s.out.length + m' : Nat) := by omega
  rw [ei]
  refine idx_i (by omega) (by omega) hb9 ?_
  rw [Int.toNat_natCast, Nat.mul_one, loc_add, Nat.zero_add]
  refine ⟨hcell, hfz, hbk, hgo2 _ _ _ um13.dr _ fun c4 hc4 => ⟨_, hc4 0 _ rfl, ?_⟩⟩
  rw [fill_set] at um13
  rw [w64 (by omega) (by omega)]
  rcases hcase with ⟨rfl, hs2⟩ | ⟨a', rfl, hva', hlt', hs2⟩
  ·refine ⟨⟨f12, l2 :: done, m', um13.dr, by simp; omega, by omega, .inl ⟨rfl, by rw [← hce, hs2]; rfl⟩⟩, by show ((-1 : Int) + 1).toNat < ((c : Int) + 1).toNat; omega⟩
  ·refine ⟨⟨f12, l2 :: done, m', um13.dr, by simp; omega, by omega, .inr ⟨a', rfl, hva', by rw [← hce, hs2, List.append_assoc]; rfl⟩⟩, by show ((a' : Int) + 1).toNat < ((c : Int) + 1).toNat; omega⟩
end Go.Proofs.YtiiaihiliimcoaaGreat
namespace Go.Proofs.YtiiaihiliimcoaaGreat
open Go Go.Vc Go.RowKit
set_option maxRecDepth 100000
def aC (A : List Nat) : List Value := A.map fun a : Nat => i64 a
def lC (T : List (List Int)) : List Value := bytes (T.map fun t => t.getLastD 0)
def sC (T : List (List Int)) : List Value := T.map fun t => i64 t.length
theorem aC_length (A : List Nat) : (aC A).length = A.length := by simp [aC]
theorem lC_length (T : List (List Int)) : (lC T).length = T.length := by simp [lC, bytes]
theorem sC_length (T : List (List Int)) : (sC T).length = T.length := by simp [sC]
theorem code_idx {cl c : Nat} (h1 : ¬ c < cl) (hcl : cl ≤ 256) (hc : cl + 2 ≤ c) (h4 : c < 4096) : IntKind.i64.wrap (IntKind.i64.wrap ((c : Int) - cl) - 2) = ((c - cl - 2 : Nat) : Int) := by
 rw [w64 (x := (c : Int) - cl) (by omega) (by omega), w64 (by omega) (by omega)]; omega
theorem refSize_spec {N : Nat} {cl : Nat} {s : LS} {w : World} {p3 p4 p5 : Option Addr} {k7 k8 k9 k10 k11 k12 c : Nat} {R : Ending → World → Prop} (hi : Inv cl s) (h : Sl N w p5 (sC s.T)) (hl : k11 = s.T.length) (hc : vcode cl s.T.length c)
  (hR : ∀ w', Ext w w' → R (.returned (i64 (strOf cl s.T c).length)) w') :
  Calls P F.ref06_size #[.agg #[i64 cl, .slice p3 k7 k8, .slice p4 k9 k10, .slice p5 k11 k12], i64 c] w R := by
 refine calls_ref06_size _ _ _ _ _ _ _ _ _ _ _ _ _ ?_
 have hcl := hi.cl256
 have hfull := hi.full
 intro k1 hk1
 refine brB_i (fun hb => fun w1 hL => ?_) (fun hb => ?_)
 ·have hb : c < cl := by simpa using hb
  rw [strOf_lt _ hb] at hR
  exact hR w1 (hL.ext (by simpa using hk1))
 ·have hb : ¬ c < cl := by simpa using hb
  have hcg : cl + 2 ≤ c ∧ c < cl + 2 + s.T.length := by unfold vcode at hc; omega
  rw [code_idx hb hcl hcg.1 (by omega)]
  have hj : c - cl - 2 < s.T.length := by omega
  have hv : (sC s.T)[c - cl - 2]? = some (i64 (strOf cl s.T c).length) := by
   rw [strOf_ge _ hcg.1]
   simp [sC, List.getElem?_eq_getElem hj, List.getD]
  refine h.get (by omega) (by rw [sC_length]; omega) (by rw [Int.toNat_natCast]; exact hv) fun a ha w2 hL => ⟨_, (hL.ext (by simpa using hk1)).cell ha, hR w2 (hL.ext (by simpa using hk1))⟩
theorem refText_spec {N : Nat} {cl : Nat} {s : LS} {w : World} {p3 p4 p5 : Option Addr} {k7 k8 k9 k10 k11 k12 c : Nat} {R : Ending → World → Prop} (hi : Inv cl s) (h1 : Sl N w p3 (aC s.A)) (h2 : Sl N w p4 (lC s.T)) (h : Sl N w p5 (sC s.T)) (hl1 : k7 = s.T.length) (hl2 : k9 = s.T.length) (hl : k11 = s.T.length) (hc : vcode cl s.T.length c)
  (hR : ∀ p w', Ext w w' → Ow w.heap.size w'.heap.size w' p (strOf cl s.T c).length (strOf cl s.T c).length 1 (bytes (strOf cl s.T c)) → R (.returned (.slice p (strOf cl s.T c).length (strOf cl s.T c).length)) w') :
  Calls P F.ref06_text #[.agg #[i64 cl, .slice p3 k7 k8, .slice p4 k9 k10, .slice p5 k11 k12], i64 c] w R := by
 refine calls_ref06_text _ _ _ _ _ _ _ _ _ _ _ _ _ ?_
 have hcl := hi.cl256
 have hfull := hi.full
 have hstr := hi.str hc
 intro k1 hk1 w1 hL1
 have hE1 : Ext w w1 := hL1.ext (by simpa using hk1)
 have hs1 := hE1.size
 have hk1' := hL1.there k1 (by simp)
 refine refSize_spec hi (h.ext hE1) hl hc fun w2 hE2 => ⟨_, rfl, hE2.keep _, by omega, Int.le_refl _, by omega, by omega, fun k2 w3 hn => ?_⟩
 have hs2 := hE2.size
 have hk2 := hn.1
 have hcs := hn.cs
 rw [Int.toNat_natCast]
 generalize ht : strOf cl s.T c = t at *
 rw [mkCells_rep, Int.toNat_natCast] at hcs
 have hrep : rep t.length [u8 0] = bytes (List.replicate t.length 0) := by
  induction t.length with
  | zero => rfl
  | succ n ih => rw [rep, ih, List.replicate_succ]; rfl
 rw [show ((rep t.length [u8 0]).toArray).toList = rep t.length [u8 0] by simp, hrep] at hcs
 have hE3 : Ext w w3 := (hE1.trans hE2).trans hn.ext
 refine ⟨fun vs u => match vs with | [.int _ c', .int _ i] => ∃ (done : List Int) (m : Nat), Ext w u ∧ Cs u k2 (bytes (List.replicate m 0 ++ done)) ∧ m + done.length = t.length ∧ i = (m : Int) - 1 ∧ ((m = 0 ∧ done = t) ∨ ∃ c2 : Nat, c' = c2 ∧ vcode cl s.T.length c2 ∧ strOf cl s.T c2 ++ done = t) | _ => False,
  fun vs _ => match vs with | [.int _ c', .int _ i] => (i + 1).toNat | _ => 0, ?_, ?_⟩
 ·rw [w64 (by omega) (by omega)]
  exact ⟨[], t.length, hE3, by simpa using hcs, by simp, rfl, .inr ⟨c, rfl, hc, by simpa using ht⟩⟩
 intro n2 n3 u hI
 obtain ⟨done, m, hE, hcu, hm, rfl, hcase⟩ := hI
 refine brB_i (fun hb => ?_) (fun hb => ?_)
 ·have hb : 0 < m := by have : (m : Int) - 1 ≥ 0 := by simpa using hb
                        omega
  obtain ⟨m', rfl⟩ : ∃ m', m = m' + 1 := ⟨m - 1, by omega⟩
  rcases hcase with ⟨h0, _⟩ | ⟨c2, rfl, hc2, hst⟩
  ·omega
  have e1 : ((m' + 1 : Nat) : Int) - 1 = m' := by omega
  rw [e1]
  have hcan := hcu.canSet (off := m') (n := 1) (by simp [bytes]) 0 (by omega)
  rw [loc_add, Nat.add_zero] at hcan
  have hset := fun x : Int => hcu.set1 (off := m') (v := u8 x) (by simp [bytes]; omega)
  have hset' : ∀ x : Int, Cs (setCells u ⟨k2, m', none⟩ [u8 x] 0) k2 (bytes (List.replicate m' 0 ++ x :: done)) := fun x => by
   have h3 := hset x
   have h4 := fill_set [] done m' x
   simp only [List.nil_append, List.length_nil, Nat.zero_add] at h4
   have h5 : (bytes (List.replicate (m' + 1) 0 ++ done)).set m' (u8 x) = bytes ((List.replicate (m' + 1) 0 ++ done).set m' x) := by simp [bytes, List.map_set]
   rw [h5, h4] at h3; exact h3
  have hC := fun x : Int => Chg.setCells u ⟨k2, m', none⟩ [u8 x] 0
  have hEx : ∀ x : Int, Ext w (setCells u ⟨k2, m', none⟩ [u8 x] 0) := fun x => hE.step (hC x) fun i hi => by have hi : i = k2 := hi; omega
  refine ⟨fun vs u' => match vs with | [.int _ c'] => ∃ (x : Int), Ext w u' ∧ Cs u' k2 (bytes (List.replicate m' 0 ++ x :: done)) ∧ ((m' = 0 ∧ x :: done = t) ∨ ∃ c2 : Nat, c' = c2 ∧ vcode cl s.T.length c2 ∧ strOf cl s.T c2 ++ x :: done = t) | _ => False, ?_, ?_⟩
  ·refine brB_i (fun hb2 => ?_) (fun hb2 => ?_)
   ·have hb2 : c2 < cl := by simpa using hb2
    refine idx_i (by omega) (by omega) rfl ?_
    rw [Int.toNat_natCast, Nat.mul_one, loc_add, Nat.zero_add]
    refine ⟨hcan.1, hcan.2, by simp; omega, ?_⟩
    rw [wu8 (by omega) (by omega)]
    rw [strOf_lt _ hb2] at hst
    refine ⟨c2, hEx _, hset' _, .inl ⟨?_, hst⟩⟩
    have := congrArg List.length hst
    simp at this; omega
   ·have hb2 : ¬ c2 < cl := by simpa using hb2
    have hcg : cl + 2 ≤ c2 ∧ c2 < cl + 2 + s.T.length := by unfold vcode at hc2; omega
    rw [code_idx hb2 hcl hcg.1 (by omega)]
    have hj : c2 - cl - 2 < s.T.length := by omega
    obtain ⟨t1, ⟨l, t2⟩, t3, t4⟩ := hi.tab _ hj
    have hA : (aC s.A)[c2 - cl - 2]? = some (i64 (s.A.getD (c2 - cl - 2) 0)) := by
     have := hi.la
     simp [aC, List.getElem?_eq_getElem (show c2 - cl - 2 < s.A.length by omega), List.getD]
    have hLv : (lC s.T)[c2 - cl - 2]? = some (u8 l) := by
     have e : (s.T.map fun t => t.getLastD 0)[c2 - cl - 2]? = some ((s.T.getD (c2 - cl - 2) []).getLastD 0) := by
      simp [List.getElem?_eq_getElem hj, List.getD]
     rw [t2, show (strOf cl s.T (s.A.getD (c2 - cl - 2) 0) ++ [l]).getLastD 0 = l by simp] at e
     simp only [lC, bytes, List.getElem?_map (f := u8), e]; rfl
    refine (h2.ext hE).get (by omega) (by rw [lC_length]; omega) (by rw [Int.toNat_natCast]; exact hLv) fun a2 ha2 => ⟨_, ha2, ?_⟩
    refine idx_i (by omega) (by omega) rfl ?_
    rw [Int.toNat_natCast, Nat.mul_one, loc_add, Nat.zero_add]
    refine ⟨hcan.1, hcan.2, by simp; omega, ?_⟩
    refine (h1.ext (hEx l)).get (by omega) (by rw [aC_length, hi.la]; omega) (by rw [Int.toNat_natCast]; exact hA) fun a4 ha4 => ⟨_, ha4, ?_⟩
    rw [strOf_ge _ hcg.1, t2, List.append_assoc] at hst
    exact ⟨l, hEx _, hset' _, .inr ⟨_, rfl, t1.mono (by omega), hst⟩⟩
  ·intro n6 w5 hI2
   obtain ⟨x, hE5, hc5, hca⟩ := hI2
   rw [w64 (by omega) (by omega)]
   exact ⟨⟨x :: done, m', hE5, hc5, by simp; omega, rfl, hca⟩, by show ((m' : Int) - 1 + 1).toNat < ((m' : Int) + 1).toNat; omega⟩
 ·have hb : m = 0 := by have : ¬ (m : Int) - 1 ≥ 0 := by simpa using hb
                        omega
  subst hb
  have hd : done = t := by
   rcases hcase with ⟨_, h⟩ | ⟨c2, _, hc2, hst⟩
   ·exact h
   ·have h3 := congrArg List.length hst
    have h4 := (hi.str hc2).2.1
    rw [List.length_append] at h3; omega
  subst hd
  refine hR _ u hE ⟨by rw [bytes_length]; omega, Nat.le_refl _, .inr ⟨k2, [], by omega, hcu.lt, rfl, by simp [bytes], by simpa using hcu⟩⟩
end Go.Proofs.YtiiaihiliimcoaaGreat
namespace Go.Proofs.YtiiaihiliimcoaaGreat
open Go Go.Vc
set_option maxRecDepth 100000
def vc_ref06_unpack (sa1 : Option Addr) (sl1 sc1 : Nat) (x1 x2 : Int) (b1 : Bool) (x3 x4 : Int) (w : World) (R : Ending → World → Prop) : Prop :=
 ∃ I1 : List Value → World → Prop,
 (brB (decide (x4 < 0))
 (I1 [.int .i64 0] w)
 (I1 [.int .i64 x4] w)) ∧
 ∀ (n1 : Int) (w1 : World),
 (I1 [.int .i64 n1] w1) →
 ∀ k1 : Nat,
 w1.heap.size ≤ k1 →
 ∀ k2 : Nat,
 w1.heap.size ≤ k2 →
 ∃ (I2 : List Value → World → Prop) (m1 : List Value → World → Nat),
 (∀ w2 : World,
 Locl [k2, k1] w1 w2 →
 I2 [.int .i64 x2, .slice none 0 0, .int .i64 (-1), .slice sa1 sl1 sc1, .bool b1, .int .i64 0, .int .i64 x1, .slice none 0 0, .slice none 0 0, .slice none 0 0] w2) ∧
 ∀ (n2 : Int) (p1 : Option Addr) (k3 k4 : Nat) (n3 : Int) (p2 : Option Addr) (k5 k6 : Nat) (c1 : Bool) (n4 n5 : Int) (p3 : Option Addr) (k7 k8 : Nat) (p4 : Option Addr) (k9 k10 : Nat) (p5 : Option Addr) (k11 k12 : Nat) (w3 : World),
 (I2 [.int .i64 n2, .slice p1 k3 k4, .int .i64 n3, .slice p2 k5 k6, .bool c1, .int .i64 n4, .int .i64 n5, .slice p3 k7 k8, .slice p4 k9 k10, .slice p5 k11 k12] w3) →
 ∃ I3 : List Value → World → Prop,
 (Calls P F.ref01_Take #[.agg #[.slice p2 k5 k6, .bool c1, .int .i64 n4], .int .i64 n2] w3 fun e1 w4 =>
 ∃ (p6 : Option Addr) (k13 k14 : Nat) (c2 : Bool) (n6 n7 n8 : Int),
 (e1 = .returned (.tuple #[.agg #[.slice p6 k13 k14, .bool c2, .int .i64 n6], .int .u32 n7, .int .i64 n8])) ∧
 Keep [k2, k1] w3 w4 ∧
 ∀ k15 : Nat,
 w4.heap.size ≤ k15 →
 brB (n8 != 0)
 (∀ w5 : World,
 Locl [k15, k2, k1] w4 w5 →
 R (.returned (.tuple #[.slice none 0 0, .int .i64 5])) w5)
 (brB (IntKind.i64.wrap n7 == x1)
 (∀ w6 : World,
 Locl [k15, k2, k1] w4 w6 →
 I3 [.int .i64 x2, .slice p1 k3 k4, .int .i64 (-1), .slice p6 k13 k14, .bool c2, .int .i64 n6, .int .i64 x1, .slice none 0 0, .slice none 0 0, .slice none 0 0] w6)
 (brB (IntKind.i64.wrap n7 == IntKind.i64.wrap (x1 + 1))
 (∀ w7 : World,
 Locl [k15, k2, k1] w4 w7 →
 R (.returned (.tuple #[.slice p1 k3 k4, .int .i64 0])) w7)
 (∃ I4 : List Value → World → Prop,
 (brB (decide (n3 < 0) && decide (IntKind.i64.wrap n7 > x1))
 (∀ w8 : World,
 Locl [k15, k2, k1] w4 w8 →
 R (.returned (.tuple #[.slice none 0 0, .int .i64 32])) w8)
 (brB (decide (n3 ≥ 0))
 (brB (decide (IntKind.i64.wrap n7 > IntKind.i64.wrap (IntKind.i64.wrap (x1 + 2) + (k7 : Int))))
 (∀ w9 : World,
 Locl [k15, k2, k1] w4 w9 →
 R (.returned (.tuple #[.slice none 0 0, .int .i64 32])) w9)
 (brB (IntKind.i64.wrap n7 == IntKind.i64.wrap (IntKind.i64.wrap (x1 + 2) + (k7 : Int)))
 (brB (decide (IntKind.i64.wrap (IntKind.i64.wrap (x1 + 2) + (k7 : Int)) ≥ 4096))
 (∀ w10 : World,
 Locl [k15, k2, k1] w4 w10 →
 R (.returned (.tuple #[.slice none 0 0, .int .i64 32])) w10)
 (∀ w11 : World,
 Locl [k15, k2, k1] w4 w11 →
 I4 [] w11))
 (∀ w12 : World,
 Locl [k15, k2, k1] w4 w12 →
 I4 [] w12)))
 (∀ w13 : World,
 Locl [k15, k2, k1] w4 w13 →
 I4 [] w13))) ∧
 ∀ w14 : World,
 (I4 [] w14) →
 ∃ I5 : List Value → World → Prop,
 (brB (decide (n3 ≥ 0) && IntKind.i64.wrap n7 == IntKind.i64.wrap (IntKind.i64.wrap (x1 + 2) + (k7 : Int)))
 (I5 [.int .i64 n3] w14)
 (I5 [.int .i64 (IntKind.i64.wrap n7)] w14)) ∧
 ∀ (n9 : Int) (w15 : World),
 (I5 [.int .i64 n9] w15) →
 Calls P F.ref06_size #[.agg #[.int .i64 n5, .slice p3 k7 k8, .slice p4 k9 k10, .slice p5 k11 k12], .int .i64 n9] w15 fun e2 w16 =>
 ∃ n10 : Int,
 (e2 = .returned (.int .i64 n10)) ∧
 Keep [k15, k2, k1] w15 w16 ∧
 ∃ I6 : List Value → World → Prop,
 (brB (decide (n3 ≥ 0) && IntKind.i64.wrap n7 == IntKind.i64.wrap (IntKind.i64.wrap (x1 + 2) + (k7 : Int)))
 (I6 [.int .i64 (IntKind.i64.wrap (n10 + 1))] w16)
 (I6 [.int .i64 n10] w16)) ∧
 ∀ (n11 : Int) (w17 : World),
 (I6 [.int .i64 n11] w17) →
 brB (decide (n11 > IntKind.i64.wrap (n1 - (k3 : Int))))
 (R (.returned (.tuple #[.slice none 0 0, .int .i64 3])) w17)
 (Calls P F.ref06_text #[.agg #[.int .i64 n5, .slice p3 k7 k8, .slice p4 k9 k10, .slice p5 k11 k12], .int .i64 n9] w17 fun e3 w18 =>
 ∃ (p7 : Option Addr) (k16 k17 : Nat),
 (e3 = .returned (.slice p7 k16 k17)) ∧
 Keep [k15, k2, k1] w17 w18 ∧
 ∃ l1 : List Value,
 (l1.length = k16 * 1) ∧
 (oneAll l1 = true) ∧
 (CellsAre w18 p7 l1) ∧
 appVC (w18) ([(19, k15, [.slice p6 k13 k14, .bool c2, .int .i64 n6]), (15, k2, [.int .i64 n5, .slice p3 k7 k8, .slice p4 k9 k10, .slice p5 k11 k12]), (14, k1, [.slice p6 k13 k14, .bool c2, .int .i64 n6])]) (p1) (k3) (k4) (k16) (1) (1) (5) ([.int .u8 0]) (l1) fun p8 k18 k19 w19 =>
 ∃ I7 : List Value → World → Prop,
 (brB (decide (n3 ≥ 0) && IntKind.i64.wrap n7 == IntKind.i64.wrap (IntKind.i64.wrap (x1 + 2) + (k7 : Int)))
 (idx (p7) (k16) (0) (1) fun a1 =>
 ∃ n12 : Int,
 (w19.cell? a1 = some (.int .u8 n12)) ∧
 ∀ k20 : Nat,
 w19.heap.size ≤ k20 →
 ∀ w20 : World,
 Locl [k20, k15, k2, k1] w19 w20 →
 appVC (w20) ([(133, k20, [.int .u8 n12]), (19, k15, [.slice p6 k13 k14, .bool c2, .int .i64 n6]), (15, k2, [.int .i64 n5, .slice p3 k7 k8, .slice p4 k9 k10, .slice p5 k11 k12]), (14, k1, [.slice p6 k13 k14, .bool c2, .int .i64 n6])]) (p8) (k18) (k19) (1) (1) (1) (5) ([.int .u8 0]) ([.int .u8 n12]) fun p9 k21 k22 w21 =>
 I7 [.slice p9 k21 k22] w21)
 (I7 [.slice p8 k18 k19] w19)) ∧
 ∀ (p10 : Option Addr) (k23 k24 : Nat) (w22 : World),
 (I7 [.slice p10 k23 k24] w22) →
 brB (decide (n3 ≥ 0) && decide (IntKind.i64.wrap (IntKind.i64.wrap (x1 + 2) + (k7 : Int)) < 4096))
 (∀ k25 : Nat,
 w22.heap.size ≤ k25 →
 ∀ w23 : World,
 Locl [k25, k15, k2, k1] w22 w23 →
 appVC (w23) ([(144, k25, [.int .i64 n3]), (19, k15, [.slice p6 k13 k14, .bool c2, .int .i64 n6]), (15, k2, [.int .i64 n5, .slice p3 k7 k8, .slice p4 k9 k10, .slice p5 k11 k12]), (14, k1, [.slice p6 k13 k14, .bool c2, .int .i64 n6])]) (p3) (k7) (k8) (1) (1) (8) (3) ([.int .i64 0]) ([.int .i64 n3]) fun p11 k26 k27 w24 =>
 idx (p7) (k16) (0) (1) fun a2 =>
 ∀ w25 : World,
 Locl [k25, k15, k2, k1] w24 w25 →
 ∃ n13 : Int,
 (w25.cell? a2 = some (.int .u8 n13)) ∧
 ∀ k28 : Nat,
 w25.heap.size ≤ k28 →
 ∀ w26 : World,
 Locl [k28, k25, k15, k2, k1] w25 w26 →
 appVC (w26) ([(152, k28, [.int .u8 n13]), (144, k25, [.int .i64 n3]), (19, k15, [.slice p6 k13 k14, .bool c2, .int .i64 n6]), (15, k2, [.int .i64 n5, .slice p11 k26 k27, .slice p4 k9 k10, .slice p5 k11 k12]), (14, k1, [.slice p6 k13 k14, .bool c2, .int .i64 n6])]) (p4) (k9) (k10) (1) (1) (1) (5) ([.int .u8 0]) ([.int .u8 n13]) fun p12 k29 k30 w27 =>
 ∀ w28 : World,
 Locl [k28, k25, k15, k2, k1] w27 w28 →
 Calls P F.ref06_size #[.agg #[.int .i64 n5, .slice p11 k26 k27, .slice p12 k29 k30, .slice p5 k11 k12], .int .i64 n3] w28 fun e4 w29 =>
 ∃ n14 : Int,
 (e4 = .returned (.int .i64 n14)) ∧
 Keep [k28, k25, k15, k2, k1] w28 w29 ∧
 (Keeps w28 w29) ∧
 ∀ k31 : Nat,
 w29.heap.size ≤ k31 →
 ∀ w30 : World,
 Locl [k31, k28, k25, k15, k2, k1] w29 w30 →
 appVC (w30) ([(161, k31, [.int .i64 (IntKind.i64.wrap (n14 + 1))]), (152, k28, [.int .u8 n13]), (144, k25, [.int .i64 n3]), (19, k15, [.slice p6 k13 k14, .bool c2, .int .i64 n6]), (15, k2, [.int .i64 n5, .slice p11 k26 k27, .slice p12 k29 k30, .slice p5 k11 k12]), (14, k1, [.slice p6 k13 k14, .bool c2, .int .i64 n6])]) (p5) (k11) (k12) (1) (1) (8) (3) ([.int .i64 0]) ([.int .i64 (IntKind.i64.wrap (n14 + 1))]) fun p13 k32 k33 w31 =>
 (0 ≤ IntKind.u64.wrap n2) ∧
 brB (IntKind.i64.wrap (IntKind.i64.wrap (IntKind.i64.wrap (x1 + 2) + (k7 : Int)) + 1) == IntKind.i64.wrap (shiftZ .shl .i64 1 (IntKind.u64.wrap n2) - x3) && decide (n2 < 12))
 (∀ w32 : World,
 Locl [k31, k28, k25, k15, k2, k1] w31 w32 →
 I3 [.int .i64 (IntKind.i64.wrap (n2 + 1)), .slice p10 k23 k24, .int .i64 (IntKind.i64.wrap n7), .slice p6 k13 k14, .bool c2, .int .i64 n6, .int .i64 n5, .slice p11 k26 k27, .slice p12 k29 k30, .slice p13 k32 k33] w32)
 (∀ w33 : World,
 Locl [k31, k28, k25, k15, k2, k1] w31 w33 →
 I3 [.int .i64 n2, .slice p10 k23 k24, .int .i64 (IntKind.i64.wrap n7), .slice p6 k13 k14, .bool c2, .int .i64 n6, .int .i64 n5, .slice p11 k26 k27, .slice p12 k29 k30, .slice p13 k32 k33] w33))
 (I3 [.int .i64 n2, .slice p10 k23 k24, .int .i64 (IntKind.i64.wrap n7), .slice p6 k13 k14, .bool c2, .int .i64 n6, .int .i64 n5, .slice p3 k7 k8, .slice p4 k9 k10, .slice p5 k11 k12] w22)))))) ∧
 ∀ (n15 : Int) (p14 : Option Addr) (k34 k35 : Nat) (n16 : Int) (p15 : Option Addr) (k36 k37 : Nat) (c3 : Bool) (n17 n18 : Int) (p16 : Option Addr) (k38 k39 : Nat) (p17 : Option Addr) (k40 k41 : Nat) (p18 : Option Addr) (k42 k43 : Nat) (w34 : World),
 (I3 [.int .i64 n15, .slice p14 k34 k35, .int .i64 n16, .slice p15 k36 k37, .bool c3, .int .i64 n17, .int .i64 n18, .slice p16 k38 k39, .slice p17 k40 k41, .slice p18 k42 k43] w34) →
 (I2 [.int .i64 n15, .slice p14 k34 k35, .int .i64 n16, .slice p15 k36 k37, .bool c3, .int .i64 n17, .int .i64 n18, .slice p16 k38 k39, .slice p17 k40 k41, .slice p18 k42 k43] w34) ∧
 m1 [.int .i64 n15, .slice p14 k34 k35, .int .i64 n16, .slice p15 k36 k37, .bool c3, .int .i64 n17, .int .i64 n18, .slice p16 k38 k39, .slice p17 k40 k41, .slice p18 k42 k43] w34 < m1 [.int .i64 n2, .slice p1 k3 k4, .int .i64 n3, .slice p2 k5 k6, .bool c1, .int .i64 n4, .int .i64 n5, .slice p3 k7 k8, .slice p4 k9 k10, .slice p5 k11 k12] w3
theorem calls_ref06_unpack (sa1 : Option Addr) (sl1 sc1 : Nat) (x1 x2 : Int) (b1 : Bool) (x3 x4 : Int) (w : World) (R : Ending → World → Prop) (h : vc_ref06_unpack sa1 sl1 sc1 x1 x2 b1 x3 x4 w R) : Calls P F.ref06_unpack #[.slice sa1 sl1 sc1, .int .i64 x1, .int .i64 x2, .bool b1, .int .i64 x3, .int .i64 x4] w R :=
  calls_of_vc (ac := ac_ref06_unpack) mixed Tryz.func65 (by kernel_rfl) (cast (by unfold vc_ref06_unpack FnVc; kernel_rfl) h)
end Go.Proofs.YtiiaihiliimcoaaGreat
namespace Go.Proofs.YtiiaihiliimcoaaGreat
open Go Go.Vc Go.RowKit
set_option maxRecDepth 100000
abbrev DT (A : List Nat) (T : List (List Int)) (out : List Int) (p3 : Option Addr) (k7 k8 : Nat) (p4 : Option Addr) (k9 k10 : Nat) (p5 : Option Addr) (k11 k12 : Nat) (p1 : Option Addr) (k3 k4 : Nat) : List Tg :=
 [⟨1, p3, k7, k8, 1, aC A⟩, ⟨2, p4, k9, k10, 1, lC T⟩, ⟨3, p5, k11, k12, 1, sC T⟩, ⟨4, p1, k3, k4, 1, bytes out⟩]
def DI (w : World) (L : List Nat) (base : Option Addr) (len cap : Nat) (bs : List Int) (up : Bool) (cl w0 early : Nat) (most : Int) (res : List Int × Int) (vs : List Value) (u : World) : Prop := match vs with
 | [.int _ n2, .slice p1 k3 k4, .int _ n3, .slice p2 k5 k6, .bool c1, .int _ n4, .int _ n5, .slice p3 k7 k8, .slice p4 k9 k10, .slice p5 k11 k12] =>
  p2 = base ∧ k5 = len ∧ k6 = cap ∧ c1 = up ∧ n5 = cl ∧ ∃ (f : Nat → Nat) (s : LS) (G : Nat), Inv cl s ∧ 8 * bs.length < s.pos + G ∧ s.pos ≤ 8 * bs.length ∧ lz bs up cl w0 early most G s = res ∧ n2 = s.wd ∧ n3 = ahI s.ah ∧ n4 = s.pos ∧
   Ths w u f L (DT s.A s.T s.out p3 k7 k8 p4 k9 k10 p5 k11 k12 p1 k3 k4)
 | _ => False
set_option maxHeartbeats 8000000 in
theorem refUnpack_spec {N cl w0 early : Nat} {most : Int} {up : Bool} {w : World} {base : Option Addr} {len cap : Nat} {bs : List Int} {R : Ending → World → Prop}
  (h : Sl N w base (bytes bs)) (hl : len = bs.length) (hsz : len ≤ 2 ^ 24) (hf : Bs bs) (hcl : cl ≤ 256) (hc4 : 4 ≤ cl) (hw1 : 1 ≤ w0) (hw2 : w0 ≤ 12) (he : early ≤ 1) (m0 : -9223372036854775808 ≤ most) (m1 : most ≤ 9223372036854775807)
  (hR : ∀ p l c w', Fg [] w w' 1 p l c (bytes (lz bs up cl w0 early (max most 0) (8 * bs.length + 1) (initS w0)).1) → R (.returned (.tuple #[.slice p l c, i64 (lz bs up cl w0 early (max most 0) (8 * bs.length + 1) (initS w0)).2])) w') :
  Calls P F.ref06_unpack #[.slice base len cap, i64 cl, i64 w0, .bool up, i64 early, i64 most] w R := by
 refine calls_ref06_unpack _ _ _ _ _ _ _ _ _ _ ?_
 refine ⟨fun vs u => [i64 (max most 0)] = vs ∧ w = u, brB_i (fun hb => ?_) (fun hb => ?_), ?_⟩
 ·have hb : most < 0 := by simpa using hb
  rw [show max most 0 = 0 by omega]; exact ⟨rfl, rfl⟩
 ·have hb : ¬ most < 0 := by simpa using hb
  rw [show max most 0 = most by omega]; exact ⟨rfl, rfl⟩
 intro n1 w1 hI1
 obtain ⟨e, rfl⟩ := hI1
 simp only [List.cons.injEq, Value.int.injEq, true_and, and_true] at e
 subst e
 have hm0 : 0 ≤ max most 0 := by omega
 have hm1 : max most 0 ≤ 9223372036854775807 := by omega
 generalize max most 0 = most at *
 generalize hres : lz bs up cl w0 early most (8 * bs.length + 1) (initS w0) = res at hR
 intro k1 hk1 k2 hk2
 refine ⟨DI w [k2, k1] base len cap bs up cl w0 early most res, fun vs _ => match vs with
  | [.int _ n2, .slice p1 k3 k4, .int _ n3, .slice p2 k5 k6, .bool c1, .int _ n4, .int _ n5, .slice p3 k7 k8, .slice p4 k9 k10, .slice p5 k11 k12] => (8 * bs.length - n4).toNat | _ => 0, fun w2 hL2 => ?_, ?_⟩
 ·have hE : Ext w w2 := hL2.ext (by simp; omega)
  refine ⟨rfl, rfl, rfl, rfl, rfl, fun _ => 0, initS w0, 8 * bs.length + 1, ?_, by simp only [initS]; omega, by simp only [initS]; omega, hres, rfl, rfl, rfl, ⟨hE, fun b hb => ?_⟩, fun t ht => ?_⟩
  ·exact ⟨hcl, hc4, hw1, hw2, by simp [initS]; omega, rfl, by simp [initS], by simp [initS], fun _ => rfl, by simp [initS, Bs], by simp [initS]⟩
  ·refine ⟨?_, hL2.there b hb, rfl⟩
   simp only [List.mem_cons, List.not_mem_nil, or_false] at hb
   rcases hb with rfl | rfl <;> assumption
  ·simp only [List.mem_cons, List.not_mem_nil, or_false] at ht
   rcases ht with rfl | rfl | rfl | rfl <;> exact ⟨by simp, OwnS.nil _ _ _ _⟩
 intro n2 p1 k3 k4 n3 p2 k5 k6 c1 n4 n5 p3 k7 k8 p4 k9 k10 p5 k11 k12 w3 hI
 obtain ⟨rfl, rfl, rfl, rfl, rfl, f, s, G', hi, hG, hpos, hlz, rfl, rfl, rfl, tm⟩ := hI
 obtain ⟨G, rfl⟩ := lz_pos hG hpos
 rw [lz_step] at hlz
 have hwd := hi.wd12
 have hwd1 := hi.wd1
 have hlong := hi.long
 have hfull := hi.full
 have hk7 : k7 = s.T.length := by have := (tm.get (t := ⟨1, p3, k7, k8, 1, aC s.A⟩) (by simp)).len; rw [aC_length, hi.la] at this; exact this
 have hk9 : k9 = s.T.length := by have := (tm.get (t := ⟨2, p4, k9, k10, 1, lC s.T⟩) (by simp)).len; rw [lC_length] at this; exact this
 have hk11 : k11 = s.T.length := by have := (tm.get (t := ⟨3, p5, k11, k12, 1, sC s.T⟩) (by simp)).len; rw [sC_length] at this; exact this
 have hk3 : k3 = s.out.length := by have := (tm.get (t := ⟨4, p1, k3, k4, 1, bytes s.out⟩) (by simp)).len; rw [bytes_length] at this; exact this
 refine ⟨fun vs u => DI w [k2, k1] p2 k5 k6 bs c1 cl w0 early most res vs u ∧ (match vs with
  | [.int _ n2, .slice p1 k3 k4, .int _ n3, .slice p2 k5 k6, .bool c1, .int _ n4, .int _ n5, .slice p3 k7 k8, .slice p4 k9 k10, .slice p5 k11 k12] => (8 * bs.length - n4).toNat | _ => 0) < (8 * (bs.length : Int) - s.pos).toNat, ?_, fun _ _ _ _ _ _ _ _ _ _ _ _ _ _ _ _ _ _ _ _ _ hI3 => hI3⟩
 refine refTake_spec (h.ext tm.pal.ext) hl hf (by omega) (by omega) (by omega) (fun hh => by omega) (fun _ _ hgt w4 hE4 => ?_) (fun _ _ hle w4 hE4 => ?_)
 ·rw [if_pos (by omega)] at hlz
  subst hlz
  refine ⟨_, _, _, _, _, _, _, rfl, hE4.keep _, fun k15 hk15 => brB_t rfl fun w5 hL5 => hR none 0 0 _ (Fg.nil ((tm.step hE4 0).locl hL5 (fun b hb => ?_)).pal.ext 1)⟩
  simp only [List.mem_cons, List.not_mem_nil, or_false] at hb ⊢
  rcases hb with rfl | rfl | rfl
  ·exact .inr hk15
  ·exact .inl (.inl rfl)
  ·exact .inl (.inr rfl)
 rw [if_neg (by omega)] at hlz
 have hvr := takeV_range bs c1 s.pos s.wd
 simp only [Int.toNat_natCast]
 obtain ⟨v, hv⟩ := Int.eq_ofNat_of_zero_le hvr.1
 have hv4 : v < 4096 := by
  have := pow_small s.wd (by omega)
  have h2 : ((2 : Int) ^ s.wd) = ((2 ^ s.wd : Nat) : Int) := by simp
  omega
 rw [hv] at hlz ⊢
 simp only [Int.toNat_natCast] at hlz
 refine ⟨_, _, _, _, _, _, _, rfl, hE4.keep _, fun k15 hk15 => brB_f rfl ?_⟩
 have hle' : s.pos + s.wd ≤ 8 * bs.length := by omega
 have hgoL : ∀ {w5 : World}, Locl [k15, k2, k1] w4 w5 → ∃ g, Ths w w5 g [k15, k2, k1] (DT s.A s.T s.out p3 k7 k8 p4 k9 k10 p5 k11 k12 p1 k3 k4) := fun {w5} hL5 => by
  refine ⟨_, ((tm.step hE4 0).locl hL5 (fun b hb => ?_)).mono (by simp) (fun t ht => ht)⟩
  simp only [List.mem_cons, List.not_mem_nil, or_false] at hb ⊢
  rcases hb with rfl | rfl | rfl
  ·exact .inr hk15
  ·exact .inl (.inl rfl)
  ·exact .inl (.inr rfl)
 rw [w64 (x := (v : Int)) (by omega) (by omega), w64 (x := (cl : Int) + 2) (by omega) (by omega), w64 (x := (cl : Int) + 1) (by omega) (by omega), w64 (x := (cl : Int) + 2 + (k7 : Int)) (by omega) (by omega)]
 have hahr : ahI s.ah = -1 ∧ s.ah = none ∨ ∃ a : Nat, ahI s.ah = a ∧ s.ah = some a := by
  cases hc : s.ah with
  | none => exact .inl ⟨rfl, rfl⟩
  | some a => exact .inr ⟨a, rfl, rfl⟩
 refine brB_i (fun hb => ?_) (fun hb => ?_)
 ·have hb : v = cl := by have : (v : Int) = cl := by simpa using hb
                         omega
  rw [if_pos hb] at hlz
  intro w6 hL6
  obtain ⟨g, tm6⟩ := hgoL hL6
  refine ⟨⟨rfl, rfl, rfl, rfl, rfl, g, ⟨s.pos + s.wd, w0, none, [], [], s.out⟩, G, hi.clear hw1 hw2, by simp only; omega, hle', hlz, rfl, rfl, by simp, tm6.pal.mono (by simp), fun t ht => ?_⟩, by show (8 * (bs.length : Int) - ((s.pos : Int) + s.wd)).toNat < _; omega⟩
  simp only [List.mem_cons, List.not_mem_nil, or_false] at ht
  rcases ht with rfl | rfl | rfl | rfl
  ·exact ⟨by simp, OwnS.nil _ _ _ _⟩
  ·exact ⟨by simp, OwnS.nil _ _ _ _⟩
  ·exact ⟨by simp, OwnS.nil _ _ _ _⟩
  ·exact tm6.th _ (by simp)
 have hb : v ≠ cl := by have : ¬ (v : Int) = cl := by simpa using hb
                        omega
 rw [if_neg hb] at hlz
 refine brB_i (fun hb2 => ?_) (fun hb2 => ?_)
 ·have hb2 : v = cl + 1 := by have : (v : Int) = cl + 1 := by simpa using hb2
                              omega
  rw [if_pos hb2] at hlz
  subst hlz
  intro w7 hL7
  obtain ⟨g, tm7⟩ := hgoL hL7
  exact hR _ _ _ _ ((tm7.get (t := ⟨4, p1, k3, k4, 1, bytes s.out⟩) (by simp)).fg tm7.pal.ext)
 have hb2 : v ≠ cl + 1 := by have : ¬ (v : Int) = cl + 1 := by simpa using hb2
                             omega
 rw [if_neg hb2] at hlz
 have hbad : badC cl s v → ∀ w5, Locl [k15, k2, k1] w4 w5 → R (.returned (.tuple #[.slice none 0 0, i64 32])) w5 := fun hb3 w5 hL5 => by
  rw [if_pos hb3] at hlz
  subst hlz
  obtain ⟨g, tm5⟩ := hgoL hL5
  exact hR none 0 0 _ (Fg.nil tm5.pal.ext 1)
 refine ⟨fun vs u => vs = [] ∧ ¬ badC cl s v ∧ ∃ g, Ths w u g [k15, k2, k1] (DT s.A s.T s.out p3 k7 k8 p4 k9 k10 p5 k11 k12 p1 k3 k4), ?_, ?_⟩
 ·refine brB_i (fun hb3 => ?_) (fun hb3 => ?_)
  ·have hb3 : ahI s.ah < 0 ∧ (v : Int) > cl := by simpa using hb3
   refine hbad ?_
   rcases hahr with ⟨e1, e2⟩ | ⟨a, e1, e2⟩
   ·simp only [badC, e2]; omega
   ·omega
  have hb3' : ¬ (ahI s.ah < 0 ∧ (v : Int) > cl) := by simpa using hb3
  refine brB_i (fun hb4 => ?_) (fun hb4 => ?_)
  ·have hb4 : ahI s.ah ≥ 0 := by simpa using hb4
   rcases hahr with ⟨e1, e2⟩ | ⟨a, e1, e2⟩
   ·omega
   refine brB_i (fun hb5 => ?_) (fun hb5 => ?_)
   ·have hb5 : (v : Int) > cl + 2 + k7 := by simpa using hb5
    refine hbad ?_
    simp only [badC, e2]; omega
   have hb5 : ¬ (v : Int) > cl + 2 + k7 := by simpa using hb5
   refine brB_i (fun hb6 => ?_) (fun hb6 => ?_)
   ·have hb6 : (v : Int) = cl + 2 + k7 := by simpa using hb6
    refine brB_i (fun hb7 => ?_) (fun hb7 => ?_)
    ·have hb7 : (cl : Int) + 2 + k7 ≥ 4096 := by simpa using hb7
     refine hbad ?_
     simp only [badC, e2]; omega
    ·have hb7 : ¬ (cl : Int) + 2 + k7 ≥ 4096 := by simpa using hb7
     exact fun w5 hL5 => ⟨rfl, fun hbd => by simp only [badC, e2] at hbd; omega, hgoL hL5⟩
   ·have hb6 : ¬ (v : Int) = cl + 2 + k7 := by simpa using hb6
    exact fun w5 hL5 => ⟨rfl, fun hbd => by simp only [badC, e2] at hbd; omega, hgoL hL5⟩
  ·have hb4 : ¬ ahI s.ah ≥ 0 := by simpa using hb4
   rcases hahr with ⟨e1, e2⟩ | ⟨a, e1, e2⟩
   ·exact fun w5 hL5 => ⟨rfl, fun hbd => by simp only [badC, e2] at hbd; omega, hgoL hL5⟩
   ·omega
 intro w14 hI4
 obtain ⟨-, hnb, g14, tm14⟩ := hI4
 have nx := hi.nxt (early := early) hb hb2 hnb
 rw [if_neg hnb] at hlz
 have hfr : ∃ fr : Nat, vcode cl s.T.length fr ∧ (v = cl + 2 + s.T.length → s.ah = some fr ∧ tOf cl s v = strOf cl s.T fr ++ [(strOf cl s.T fr).headD 0]) ∧ (v ≠ cl + 2 + s.T.length → fr = v ∧ tOf cl s v = strOf cl s.T fr) ∧ (tOf cl s v).headD 0 = (strOf cl s.T fr).headD 0 := by
  rcases hahr with ⟨e1, e2⟩ | ⟨a, e1, e2⟩
  ·have hT := hi.none_ e2
   have hvl : v < cl := by simp only [badC, e2] at hnb; omega
   have e3 : tOf cl s v = strOf cl s.T v := by rw [strOf_lt _ hvl]; simp only [tOf, e2]
   exact ⟨v, .inl hvl, fun hh => by omega, fun _ => ⟨rfl, e3⟩, by rw [e3]⟩
  ·have hva := hi.ahv a e2
   simp only [badC, e2] at hnb
   by_cases hvn : v = cl + 2 + s.T.length
   ·have e3 : tOf cl s v = strOf cl s.T a ++ [(strOf cl s.T a).headD 0] := by simp only [tOf, e2, givenS, if_pos hvn]
    refine ⟨a, hva, fun _ => ⟨e2, e3⟩, fun hh => absurd hvn hh, ?_⟩
    rw [e3]
    have := (hi.str hva).2.1
    cases hc : strOf cl s.T a with
    | nil => rw [hc] at this; simp at this
    | cons x l => rfl
   ·have e3 : tOf cl s v = strOf cl s.T v := by simp only [tOf, e2, givenS, if_neg hvn]
    exact ⟨v, by unfold vcode; omega, fun hh => absurd hh hvn, fun _ => ⟨rfl, e3⟩, by rw [e3]⟩
 obtain ⟨fr, hfc, hfn, hfo, hhd⟩ := hfr
 have hstr := hi.str hfc
 have hnewb : (decide (ahI s.ah ≥ 0) && ((v : Int) == (cl : Int) + 2 + (k7 : Int))) = decide (v = cl + 2 + s.T.length) := by
  by_cases hvn : v = cl + 2 + s.T.length
  ·obtain ⟨e1, -⟩ := hfn hvn
   rw [e1]
   have : ((v : Int) == (cl : Int) + 2 + (k7 : Int)) = true := by rw [beq_iff_eq]; omega
   rw [this]; simp [ahI, hvn]
  ·have : ((v : Int) == (cl : Int) + 2 + (k7 : Int)) = false := by rw [beq_eq_false_iff_ne]; omega
   rw [this]; simp [hvn]
 rw [hnewb]
 have hmost := nx.most
 refine ⟨fun vs u => [i64 fr] = vs ∧ w14 = u, brB_i (fun hb3 => ?_) (fun hb3 => ?_), ?_⟩
 ·obtain ⟨e1, -⟩ := hfn (by simpa using hb3)
  rw [e1]; exact ⟨rfl, rfl⟩
 ·obtain ⟨e1, -⟩ := hfo (by simpa using hb3)
  rw [e1]; exact ⟨rfl, rfl⟩
 intro n9 w15 hI5
 obtain ⟨e, rfl⟩ := hI5
 simp only [List.cons.injEq, Value.int.injEq, true_and, and_true] at e
 subst e
 have hk4096 : s.T.length ≤ 4096 := by omega
 refine refSize_spec hi (tm14.get (t := ⟨3, p5, k11, k12, 1, sC s.T⟩) (by simp)).sl hk11 hfc fun w16 hE16 => ⟨_, rfl, hE16.keep _, fun vs u => [i64 (tOf cl s v).length] = vs ∧ w16 = u, brB_i (fun hb3 => ?_) (fun hb3 => ?_), ?_⟩
 ·obtain ⟨-, e1⟩ := hfn (by simpa using hb3)
  rw [w64 (by omega) (by omega), e1]; exact ⟨by simp, rfl⟩
 ·obtain ⟨-, e1⟩ := hfo (by simpa using hb3)
  rw [e1]; exact ⟨rfl, rfl⟩
 intro n11 w17 hI6
 obtain ⟨e, rfl⟩ := hI6
 simp only [List.cons.injEq, Value.int.injEq, true_and, and_true] at e
 subst e
 have tm16 := tm14.step hE16 0
 rw [w64 (x := most - (k3 : Int)) (by omega) (by omega)]
 refine brB_i (fun hb3 => ?_) (fun hb3 => ?_)
 ·have hb3 : ((tOf cl s v).length : Int) > most - k3 := by simpa using hb3
  rw [if_pos (by omega)] at hlz
  subst hlz
  exact hR none 0 0 _ (Fg.nil tm16.pal.ext 1)
 have hb3 : ¬ ((tOf cl s v).length : Int) > most - k3 := by simpa using hb3
 rw [if_neg (by omega)] at hlz
 refine refText_spec hi (tm16.get (t := ⟨1, p3, k7, k8, 1, aC s.A⟩) (by simp)).sl (tm16.get (t := ⟨2, p4, k9, k10, 1, lC s.T⟩) (by simp)).sl (tm16.get (t := ⟨3, p5, k11, k12, 1, sC s.T⟩) (by simp)).sl hk7 hk9 hk11 hfc fun p7 w18 hE18 ho18 => ⟨_, _, _, rfl, hE18.keep _, bytes (strOf cl s.T fr), by rw [bytes_length]; omega, bytes_oneAll _, ho18.sl.cells, ?_⟩
 have hlong' : s.out.length ≤ 2 ^ 40 := by omega
 obtain ⟨x0, hx0, hx0'⟩ : ∃ x, (bytes (strOf cl s.T fr))[0]? = some (u8 x) ∧ x = (strOf cl s.T fr).headD 0 := by
  have := hstr.2.1
  cases hc : strOf cl s.T fr with
  | nil => rw [hc] at this; simp at this
  | cons x l => exact ⟨x, rfl, rfl⟩
 have htl : 1 ≤ (strOf cl s.T fr).length ∧ (strOf cl s.T fr).length ≤ 4096 := hstr.2
 have tm18 := tm16.new hE18 (i := 5) (by omega) ho18
 have ha0 : ∃ a0, p7 = some a0 := by
  obtain ⟨a0, h1, _⟩ := ho18.sl 0 _ hx0
  exact ⟨a0, h1⟩
 obtain ⟨a0, rfl⟩ := ha0
 generalize hls : (strOf cl s.T fr).length = ls at *
 have hcellAt : ∀ {u : World} {g : Nat → Nat} {L : List Nat} {l : List Tg}, Ths w u g L l → (⟨5, some a0, ls, ls, 1, bytes (strOf cl s.T fr)⟩ : Tg) ∈ l → u.cell? (a0.add ((0 : Int).toNat * 1)) = some (u8 x0) := fun {u g L l} tm hm => by
  obtain ⟨a1, h1, _, h3⟩ := (tm.get hm).sl 0 _ hx0
  cases h1
  exact h3
 refine (tm18.mono (l' := [⟨4, p1, k3, k4, 1, bytes s.out⟩, ⟨1, p3, k7, k8, 1, aC s.A⟩, ⟨2, p4, k9, k10, 1, lC s.T⟩, ⟨3, p5, k11, k12, 1, sC s.T⟩, ⟨5, some a0, ls, ls, 1, bytes (strOf cl s.T fr)⟩]) (fun b hb => hb) (by simp)).app (by simp) (by simp [blocks]) rfl (by rw [bytes_length]; simp only; omega) (by simp only; omega) (by simp only; omega) fun p8 k19 w19 g19 tm19 => ?_
 simp only at tm19
 rw [← bytes_append] at tm19
 refine ⟨fun vs u => match vs with | [.slice p10 k23 k24] => ∃ g, Ths w u g [k15, k2, k1] [⟨4, p10, k23, k24, 1, bytes (s.out ++ tOf cl s v)⟩, ⟨1, p3, k7, k8, 1, aC s.A⟩, ⟨2, p4, k9, k10, 1, lC s.T⟩, ⟨3, p5, k11, k12, 1, sC s.T⟩, ⟨5, some a0, ls, ls, 1, bytes (strOf cl s.T fr)⟩] | _ => False, brB_i (fun hb4 => ?_) (fun hb4 => ?_), ?_⟩
 ·obtain ⟨-, e1⟩ := hfn (by simpa using hb4)
  refine idx_i (by omega) (by omega) rfl ⟨_, hcellAt tm19 (by simp), fun k20 hk20 w20 hL20 => ?_⟩
  refine ((tm19.locl hL20 (fun b hb => ?_)).mono (L' := [k20, k15, k2, k1]) (by simp) (fun t ht => ht)).app (by simp) (by simp [blocks]) rfl rfl (by simp only; omega) (by simp only; omega) fun p9 k22 w21 g21 tm21 => ⟨g21, ?_⟩
  ·simp only [List.mem_cons, List.not_mem_nil, or_false] at hb ⊢
   rcases hb with rfl | hb
   ·exact .inr hk20
   ·exact .inl hb
  ·have e2 : bytes (s.out ++ strOf cl s.T fr) ++ [u8 x0] = bytes (s.out ++ tOf cl s v) := by
    rw [e1, ← hx0', ← List.append_assoc, bytes_append _ [x0]]; rfl
   simp only at tm21
   rw [e2] at tm21
   exact tm21.mono (by simp) (fun t ht => ht)
 ·obtain ⟨-, e1⟩ := hfo (by simpa using hb4)
  refine ⟨g19, ?_⟩
  rw [e1]; exact tm19
 intro p10 k23 k24 w22 hI7
 obtain ⟨g22, tm22⟩ := hI7
 have hsout := nx.out
 have hspos := nx.pos
 have hsah := nx.ah
 have hinv := nx.inv
 have hmeas : (8 * (bs.length : Int) - ((s.pos : Int) + s.wd)).toNat < (8 * (bs.length : Int) - s.pos).toNat := by omega
 refine brB_i (fun hb4 => ?_) (fun hb4 => ?_)
 ·have hlt : ahI s.ah ≥ 0 ∧ (cl : Int) + 2 + k7 < 4096 := by simpa only [Bool.and_eq_true, decide_eq_true_eq] using hb4
  rcases hahr with ⟨e1, e2⟩ | ⟨a, e1, e2⟩
  ·omega
  have hlt' : cl + 2 + s.T.length < 4096 := by omega
  have hva := hi.ahv a e2
  have hstra := hi.str hva
  have hnx : nextS cl early s v = ⟨s.pos + s.wd, wid early (cl + 2 + s.T.length) s.wd, some v, s.A ++ [a], s.T ++ [strOf cl s.T a ++ [(tOf cl s v).headD 0]], s.out ++ tOf cl s v⟩ := by
   simp only [nextS, tOf, e2, if_pos hlt']
  rw [e1]
  have hadd : ∀ {k : Nat} {bs' : List Nat} {u : World}, u.heap.size ≤ k → ∀ b, b ∈ k :: bs' → b ∈ bs' ∨ u.heap.size ≤ b := fun {k bs' u} hk b hb => by
   rcases List.mem_cons.1 hb with rfl | hb
   ·exact .inr hk
   ·exact .inl hb
  refine fun k25 hk25 w23 hL23 => ((tm22.locl hL23 (hadd hk25)).mono (L' := [k25, k15, k2, k1]) (l' := [⟨1, p3, k7, k8, 1, aC s.A⟩, ⟨4, p10, k23, k24, 1, bytes (s.out ++ tOf cl s v)⟩, ⟨2, p4, k9, k10, 1, lC s.T⟩, ⟨3, p5, k11, k12, 1, sC s.T⟩, ⟨5, some a0, ls, ls, 1, bytes (strOf cl s.T fr)⟩]) (by simp) (by simp)).app (by simp) (by simp [blocks]) rfl rfl (by simp only; omega) (by simp only; omega) fun p11 k27 w24 g24 tm24 => ?_
  refine idx_i (by omega) (by omega) rfl fun w25 hL25 => ?_
  have tm25 := tm24.locl hL25 (fun b hb => .inl hb)
  refine ⟨x0, hcellAt tm25 (by simp), fun k28 hk28 w26 hL26 => ?_⟩
  refine ((tm25.locl hL26 (fun b hb => ?_)).mono (L' := [k28, k25, k15, k2, k1]) (l' := [⟨2, p4, k9, k10, 1, lC s.T⟩, ⟨1, p11, k7 + 1, k27, 1, aC s.A ++ [i64 a]⟩, ⟨4, p10, k23, k24, 1, bytes (s.out ++ tOf cl s v)⟩, ⟨3, p5, k11, k12, 1, sC s.T⟩, ⟨5, some a0, ls, ls, 1, bytes (strOf cl s.T fr)⟩]) (by simp) (by simp)).app (by simp) (by simp [blocks]) rfl rfl (by simp only; omega) (by simp only; omega) fun p12 k30 w27 g27 tm27 => ?_
  ·rcases List.mem_cons.1 hb with rfl | hb
   ·exact .inr hk28
   ·exact .inl (List.mem_append_left _ hb)
  intro w28 hL28
  have tm28 := tm27.locl hL28 (fun b hb => .inl hb)
  refine refSize_spec hi (tm28.get (t := ⟨3, p5, k11, k12, 1, sC s.T⟩) (by simp)).sl hk11 hva fun w29 hE29 => ⟨_, rfl, hE29.keep _, hE29.keeps, fun k31 hk31 w30 hL30 => ?_⟩
  rw [w64 (x := ((strOf cl s.T a).length : Int) + 1) (by omega) (by omega)]
  refine (((tm28.step hE29 0).locl hL30 (fun b hb => ?_)).mono (L' := [k31, k28, k25, k15, k2, k1]) (l' := [⟨3, p5, k11, k12, 1, sC s.T⟩, ⟨2, p12, k9 + 1, k30, 1, lC s.T ++ [u8 x0]⟩, ⟨1, p11, k7 + 1, k27, 1, aC s.A ++ [i64 a]⟩, ⟨4, p10, k23, k24, 1, bytes (s.out ++ tOf cl s v)⟩]) (by simp) (by simp)).app (by simp) (by simp [blocks]) rfl rfl (by simp only; omega) (by simp only; omega) fun p13 k33 w31 g31 tm31 => ?_
  ·rcases List.mem_cons.1 hb with rfl | hb
   ·exact .inr hk31
   ·exact .inl (List.mem_append_left _ hb)
  have hwu : IntKind.u64.wrap (s.wd : Int) = s.wd := wu64 (by omega) (by omega)
  rw [hwu, shl1 s.wd (by omega)]
  have hp := pow_small s.wd (by omega)
  rw [w64 (x := ((2 ^ s.wd : Nat) : Int) - early) (by omega) (by omega), w64 (x := (cl : Int) + 2 + (k7 : Int) + 1) (by omega) (by omega), w64 (x := (s.wd : Int) + 1) (by omega) (by omega)]
  have eA : aC s.A ++ [i64 a] = aC (nextS cl early s v).A := by rw [hnx]; simp [aC]
  have eL : lC s.T ++ [u8 x0] = lC (nextS cl early s v).T := by
   rw [hnx]; simp only [lC, bytes, List.map_append, List.map_cons, List.map_nil]
   rw [show (strOf cl s.T a ++ [(tOf cl s v).headD 0]).getLastD 0 = (tOf cl s v).headD 0 by simp, hhd, hx0']
  have eS : sC s.T ++ [i64 ((strOf cl s.T a).length + 1)] = sC (nextS cl early s v).T := by rw [hnx]; simp [sC]
  simp only at tm31
  rw [eA, eL, eS] at tm31
  have hfin : ∀ w32, Locl [k31, k28, k25, k15, k2, k1] w31 w32 → ∃ g, Ths w w32 g [k2, k1] (DT (nextS cl early s v).A (nextS cl early s v).T (nextS cl early s v).out p11 (k7 + 1) k27 p12 (k9 + 1) k30 p13 (k11 + 1) k33 p10 k23 k24) := fun w32 hL32 =>
   ⟨_, (tm31.locl hL32 (fun b hb => .inl hb)).mono (by simp) (by rw [hsout]; simp)⟩
  refine ⟨by omega, brB_i (fun hb5 => ?_) (fun hb5 => ?_)⟩
  ·have hb5 : (cl : Int) + 2 + k7 + 1 = ((2 ^ s.wd : Nat) : Int) - early ∧ (s.wd : Int) < 12 := by
    simp only [Bool.and_eq_true, decide_eq_true_eq, beq_iff_eq] at hb5; exact hb5
   intro w32 hL32
   obtain ⟨g, tm32⟩ := hfin w32 hL32
   have hw : (nextS cl early s v).wd = s.wd + 1 := by
    rw [hnx]; unfold wid; rw [if_pos (by omega)]
   exact ⟨⟨rfl, rfl, rfl, rfl, rfl, g, nextS cl early s v, G, hinv, by rw [hspos]; omega, by rw [hspos]; omega, hlz, by rw [hw]; rfl, by rw [hsah]; rfl, by rw [hspos]; simp, tm32⟩, hmeas⟩
  ·have hb5 : ¬ ((cl : Int) + 2 + k7 + 1 = ((2 ^ s.wd : Nat) : Int) - early ∧ (s.wd : Int) < 12) := by
    intro hh
    simp only [hh.1, hh.2, beq_self_eq_true, decide_true, Bool.and_self] at hb5
    cases hb5
   intro w32 hL32
   obtain ⟨g, tm32⟩ := hfin w32 hL32
   have hw : (nextS cl early s v).wd = s.wd := by
    rw [hnx]; unfold wid; rw [if_neg (by omega)]
   exact ⟨⟨rfl, rfl, rfl, rfl, rfl, g, nextS cl early s v, G, hinv, by rw [hspos]; omega, by rw [hspos]; omega, hlz, by rw [hw], by rw [hsah]; rfl, by rw [hspos]; simp, tm32⟩, hmeas⟩
 ·have hns : (nextS cl early s v).wd = s.wd ∧ (nextS cl early s v).A = s.A ∧ (nextS cl early s v).T = s.T := by
   rcases hahr with ⟨e1, e2⟩ | ⟨a, e1, e2⟩
   ·simp only [nextS, e2]; simp
   ·rw [e1] at hb4
    have hlt : ¬ cl + 2 + s.T.length < 4096 := fun h' => by
     have h1 : decide ((a : Int) ≥ 0) = true := by simp
     have h2 : decide ((cl : Int) + 2 + (k7 : Int) < 4096) = true := by simp; omega
     rw [h1, h2] at hb4; cases hb4
    simp only [nextS, e2, if_neg hlt]; simp
  refine ⟨⟨rfl, rfl, rfl, rfl, rfl, g22, nextS cl early s v, G, hinv, by rw [hspos]; omega, by rw [hspos]; omega, hlz, by rw [hns.1], by rw [hsah]; rfl, by rw [hspos]; simp, ?_⟩, hmeas⟩
  rw [hns.2.1, hns.2.2, hsout]
  exact tm22.mono (by simp) (by simp)
end Go.Proofs.YtiiaihiliimcoaaGreat
namespace Go.Proofs.YtiiaihiliimcoaaGreat
open Go Go.Vc Go.RowKit
set_option maxRecDepth 100000
def lzR (bs : List Int) (cl w0 : Nat) (up : Bool) (early : Nat) (most : Int) : List Int × Int := lz bs up cl w0 early (max most 0) (8 * bs.length + 1) (initS w0)
def gifR (bs : List Int) (size most : Int) : List Int × Int := if size < 2 ∨ size > 8 then ([], 2) else lzR bs (2 ^ size.toNat) (size.toNat + 1) false 0 most
theorem shl8 : ∀ n : Nat, n < 9 → shiftZ .shl .i64 1 (n : Int) = ((2 ^ n : Nat) : Int) := by decide
theorem pow8 : ∀ n : Nat, 2 ≤ n → n < 9 → 4 ≤ 2 ^ n ∧ 2 ^ n ≤ 256 := by
 intro n h1 h2
 have : ∀ n : Nat, n < 9 → 2 ≤ n → 4 ≤ 2 ^ n ∧ 2 ^ n ≤ 256 := by decide
 exact this n h2 h1
theorem gif_spec {w : World} {n : Nat} {R : Ending → World → Prop} (h1 : 2 ≤ n) (h2 : n < 9)
  (hR : ∀ w', Ext w w' → R (.returned (.agg #[i64 (2 ^ n : Nat), i64 (n + 1 : Nat), .bool false, i64 0])) w') : Calls P F.lzw_gif #[i64 n] w R := by
 refine calls_lzw_gif _ _ _ ?_
 intro k1 hk1
 refine ⟨by omega, fun w1 hL => ?_⟩
 rw [shl8 n h2, w64 (by omega) (by omega)]
 exact hR w1 (hL.ext (by simpa using hk1))
section
variable {N : Nat} {most size : Int} {w : World} {base : Option Addr} {len cap : Nat} {bs : List Int} {R : Ending → World → Prop}
theorem GifUnpack_spec (h : Sl N w base (bytes bs)) (hl : len = bs.length) (hsz : len ≤ 2 ^ 24) (hf : Bs bs) (m0 : -9223372036854775808 ≤ most) (m1 : most ≤ 9223372036854775807)
  (hR : ∀ p l c w', Fg [] w w' 1 p l c (bytes (gifR bs size most).1) → R (.returned (.tuple #[.slice p l c, i64 (gifR bs size most).2])) w') :
  Calls P F.lzw_GifUnpack #[.slice base len cap, i64 size, i64 most] w R := by
 refine calls_lzw_GifUnpack _ _ _ _ _ _ _ ?_
 refine brB_i (fun hb => ?_) (fun hb => ?_)
 ·have hb : size < 2 ∨ size > 8 := by simpa using hb
  rw [gifR, if_pos hb] at hR
  exact hR none 0 0 w (Fg.nil (Ext.refl w) 1)
 ·have hb : ¬ (size < 2 ∨ size > 8) := by simpa using hb
  rw [gifR, if_neg hb] at hR
  obtain ⟨n, rfl⟩ := Int.eq_ofNat_of_zero_le (show 0 ≤ size by omega)
  rw [Int.toNat_natCast] at hR
  have hp := pow8 n (by omega) (by omega)
  refine gif_spec (by omega) (by omega) fun w1 hE1 => ⟨_, _, _, _, rfl, ?_⟩
  refine unpack_spec (early := 0) (h.ext hE1) hl hsz hf hp.2 hp.1 (by omega) (by omega) (by omega) (by omega) (by omega) fun p l c w2 hF => ⟨_, _, _, _, rfl, hR p l c w2 (hF.from (bs := []) hE1 (by simp))⟩
theorem refGifUnpack_spec (h : Sl N w base (bytes bs)) (hl : len = bs.length) (hsz : len ≤ 2 ^ 24) (hf : Bs bs) (m0 : -9223372036854775808 ≤ most) (m1 : most ≤ 9223372036854775807)
  (hR : ∀ p l c w', Fg [] w w' 1 p l c (bytes (gifR bs size most).1) → R (.returned (.tuple #[.slice p l c, i64 (gifR bs size most).2])) w') :
  Calls P F.ref06_GifUnpack #[.slice base len cap, i64 size, i64 most] w R := by
 refine calls_ref06_GifUnpack _ _ _ _ _ _ _ ?_
 refine brB_i (fun hb => ?_) (fun hb => ?_)
 ·have hb : size < 2 ∨ size > 8 := by simpa using hb
  rw [gifR, if_pos hb] at hR
  exact hR none 0 0 w (Fg.nil (Ext.refl w) 1)
 ·have hb : ¬ (size < 2 ∨ size > 8) := by simpa using hb
  rw [gifR, if_neg hb] at hR
  obtain ⟨n, rfl⟩ := Int.eq_ofNat_of_zero_le (show 0 ≤ size by omega)
  rw [Int.toNat_natCast] at hR
  have hp := pow8 n (by omega) (by omega)
  rw [wu64 (by omega) (by omega), shl8 n (by omega), w64 (by omega) (by omega)]
  refine ⟨by omega, ?_⟩
  refine refUnpack_spec (w0 := n + 1) (early := 0) h hl hsz hf hp.2 hp.1 (by omega) (by omega) (by omega) m0 m1 fun p l c w2 hF => ⟨_, _, _, _, rfl, hR p l c w2 hF⟩
end
/-- what bytes read az runs give -/
def rl (most : Int) : Nat → List Int → List Int → List Int × Int
 | 0, _, out => (out, 0)
 | F + 1, bs, out => match bs with
  | [] => (out, 0)
  | b :: r =>
   if b < 128 then (if (r.length : Int) < b + 1 then ([], 5) else if most < out.length + (b + 1) then ([], 3) else rl most F (r.drop (b + 1).toNat) (out ++ r.take (b + 1).toNat))
   else if b = 128 then rl most F r out
   else match r with
    | [] => ([], 5)
    | x :: r' => if most < out.length + (257 - b) then ([], 3) else rl most F r' (out ++ List.replicate (257 - b).toNat x)
end Go.Proofs.YtiiaihiliimcoaaGreat
namespace Go.Proofs.YtiiaihiliimcoaaGreat
open Go Go.Vc Go.RowKit
set_option maxRecDepth 100000
theorem drop_cons_of {bs : List Int} {n : Nat} (h : n < bs.length) : bs.drop n = bs.getD n 0 :: bs.drop (n + 1) := by
 rw [List.drop_eq_getElem_cons h]; simp [List.getD, List.getElem?_eq_getElem h]
end Go.Proofs.YtiiaihiliimcoaaGreat
namespace Go.Proofs.YtiiaihiliimcoaaGreat
open Go Go.Vc Go.RowKit
set_option maxRecDepth 100000
abbrev kdP : Kd := .agg [.i64, .u8]
def keyP (a : Nat) (x : Int) : Value := .agg #[i64 a, u8 x]
def fnd (a : Nat) (x : Int) : List (Nat × Int) → Nat → Option Nat
 | [], _ => none
 | e :: r, c => if e.1 = a ∧ e.2 = x then some c else fnd a x r (c + 1)
def kvsOf : List (Nat × Int) → Nat → List (Value × Value)
 | [], _ => []
 | e :: r, c => (keyP e.1 e.2, i64 c) :: kvsOf r (c + 1)
theorem keyEq_P (a b : Nat) (x y : Int) : keyEq (keyP a x) (keyP b y) = decide (b = a ∧ y = x) := by
 have e : keyEq (keyP a x) (keyP b y) = (decide ((a : Int) = b) && (decide (x = y) && true)) := rfl
 rw [e]
 by_cases h1 : a = b <;> by_cases h2 : x = y
 ·subst h1; subst h2; simp
 ·subst h1; simp [h2, Ne.symm h2]
 ·have : ¬ (a : Int) = b := by omega
  simp [this, Ne.symm h1]
 ·have : ¬ (a : Int) = b := by omega
  simp [this, Ne.symm h1]
theorem mfind_P (a : Nat) (x : Int) : ∀ (E : List (Nat × Int)) (c : Nat), mfind (keyP a x) (kvsOf E c) = (fnd a x E c).map fun n : Nat => i64 n
 | [], _ => rfl
 | e :: r, c => by
  have ih := mfind_P a x r (c + 1)
  show (match keyEq (keyP a x) (keyP e.1 e.2) with | true => some (i64 c) | false => mfind (keyP a x) (kvsOf r (c + 1))) = _
  rw [keyEq_P, fnd]
  by_cases h : e.1 = a ∧ e.2 = x
  ·simp [h]
  ·simp only [h, decide_false, if_false]; exact ih
theorem mput_P (a : Nat) (x : Int) : ∀ (E : List (Nat × Int)) (c : Nat), fnd a x E c = none → mput (keyP a x) (i64 (c + E.length : Nat)) (kvsOf E c) = kvsOf (E ++ [(a, x)]) c
 | [], _, _ => rfl
 | e :: r, c, h => by
  rw [fnd] at h
  split at h
  ·cases h
  rename_i hne
  have ih := mput_P a x r (c + 1) h
  show (match keyEq (keyP a x) (keyP e.1 e.2) with | true => (keyP a x, i64 (c + (e :: r).length : Nat)) :: kvsOf r (c + 1) | false => (keyP e.1 e.2, i64 c) :: mput (keyP a x) (i64 (c + (e :: r).length : Nat)) (kvsOf r (c + 1))) = (keyP e.1 e.2, i64 c) :: kvsOf (r ++ [(a, x)]) (c + 1)
  rw [keyEq_P]
  simp only [hne, decide_false]
  rw [← ih, List.length_cons, show c + (r.length + 1) = c + 1 + r.length by omega]
theorem fnd_some {a : Nat} {x : Int} : ∀ {E : List (Nat × Int)} {c n : Nat}, fnd a x E c = some n → c ≤ n ∧ n < c + E.length ∧ E[n - c]? = some (a, x)
 | [], _, _, h => by cases h
 | e :: r, c, n, h => by
  rw [fnd] at h
  split at h
  ·rename_i he
   cases h
   refine ⟨Nat.le_refl _, by simp, ?_⟩
   rw [Nat.sub_self]
   simp [← he.1, ← he.2]
  ·obtain ⟨h1, h2, h3⟩ := fnd_some h
   refine ⟨by omega, by rw [List.length_cons]; omega, ?_⟩
   rw [show n - c = (n - (c + 1)) + 1 by omega]; simpa using h3
def wdN (early nx wd : Nat) : Nat := if nx + early = 2 ^ wd ∧ wd < 12 then wd + 1 else wd
def wdA (cl early : Nat) (E : List (Nat × Int)) (wd : Nat) : Nat := if E.length = 0 then wd else wdN early (cl + 2 + E.length) wd
def pk (cl w0 early : Nat) : List Int → List (Nat × Int) → Nat → Option Nat → List (Nat × Nat)
 | [], _, wd, none => [(cl + 1, wd)]
 | [], E, wd, some a => [(a, wd), (cl + 1, wdA cl early E wd)]
 | x :: r, E, wd, none => pk cl w0 early r E wd (some x.toNat)
 | x :: r, E, wd, some a => match fnd a x E (cl + 2) with
  | some c => pk cl w0 early r E wd (some c)
  | none => if 4090 ≤ cl + 2 + E.length then (a, wd) :: (cl, wdA cl early E wd) :: pk cl w0 early r [] w0 (some x.toNat)
   else (a, wd) :: pk cl w0 early r (E ++ [(a, x)]) (wdA cl early E wd) (some x.toNat)
def putAll (up : Bool) : List (Nat × Nat) → List Int × Nat → List Int × Nat
 | [], s => s
 | e :: r, s => putAll up r (putV up s.1 s.2 e.1 e.2 e.2, s.2 + e.2)
def packL (bs : List Int) (cl w0 early : Nat) (up : Bool) : List Int := (putAll up ((cl, w0) :: pk cl w0 early bs [] w0 none) ([], 0)).1
theorem wdN_range {early nx wd : Nat} (h1 : 1 ≤ wd) (h : wd ≤ 12) : 1 ≤ wdN early nx wd ∧ wdN early nx wd ≤ 12 := by unfold wdN; split <;> omega
theorem wdA_range {cl early : Nat} {E : List (Nat × Int)} {wd : Nat} (h1 : 1 ≤ wd) (h : wd ≤ 12) : 1 ≤ wdA cl early E wd ∧ wdA cl early E wd ≤ 12 := by
 unfold wdA
 split
 ·omega
 ·exact wdN_range h1 h
structure KM (w u : World) (k1 k2 kw kn km wb : Nat) (S : Nat → Prop) (cl w0 early : Nat) (up : Bool) (kvs : List (Value × Value)) (wd nx : Nat) (bs : List Int) (m : Nat) : Prop where
 ext : Ext w u
 ck : Cs u k1 [i64 cl, i64 w0, .bool up, i64 early]
 cr : Cs u k2 [.pointer (some ⟨wb, 0, none⟩)]
 cw : Cs u kw [i64 wd]
 cn : Cs u kn [i64 nx]
 mp : Mp kdP u km kvs
 wr : WrAt u (some ⟨wb, 0, none⟩) wb S bs m up
 ok : WOk up bs m
 lo : w.heap.size ≤ k1 ∧ w.heap.size ≤ k2 ∧ w.heap.size ≤ kw ∧ w.heap.size ≤ kn ∧ w.heap.size ≤ km ∧ w.heap.size ≤ wb
 sl : ∀ i, S i → w.heap.size ≤ i
 nd : (k1 ≠ k2 ∧ k1 ≠ kw ∧ k1 ≠ kn ∧ k1 ≠ km ∧ k1 ≠ wb) ∧ (k2 ≠ kw ∧ k2 ≠ kn ∧ k2 ≠ km ∧ k2 ≠ wb) ∧ (kw ≠ kn ∧ kw ≠ km ∧ kw ≠ wb) ∧ (kn ≠ km ∧ kn ≠ wb) ∧ km ≠ wb
 ns : ∀ i, S i → i ≠ k1 ∧ i ≠ k2 ∧ i ≠ kw ∧ i ≠ kn ∧ i ≠ km
theorem mp_lt {kd : Kd} {w : World} {b : Nat} {kvs : List (Value × Value)} (h : Mp kd w b kvs) : b < w.heap.size := by
 obtain ⟨⟨es, c, h1, _⟩, _⟩ := h
 rcases Nat.lt_or_ge b w.heap.size with h' | h'
 ·exact h'
 ·rw [Array.getElem?_eq_none h'] at h1; cases h1
section
variable {w u u' : World} {k1 k2 kw kn km wb : Nat} {S : Nat → Prop} {cl w0 early : Nat} {up : Bool} {kvs : List (Value × Value)} {wd nx : Nat} {bs : List Int} {m : Nat}
theorem KM.lts (h : KM w u k1 k2 kw kn km wb S cl w0 early up kvs wd nx bs m) : k1 < u.heap.size ∧ k2 < u.heap.size ∧ kw < u.heap.size ∧ kn < u.heap.size ∧ km < u.heap.size ∧ wb < u.heap.size ∧ ∀ i, S i → i < u.heap.size := by
 obtain ⟨_, _, _, ho⟩ := h.wr.obj
 exact ⟨h.ck.lt, h.cr.lt, h.cw.lt, h.cn.lt, mp_lt h.mp, h.wr.lt, ho.bd⟩
theorem KM.dr (h : KM w u k1 k2 kw kn km wb S cl w0 early up kvs wd nx bs m) : KM w u.drew k1 k2 kw kn km wb S cl w0 early up kvs wd nx bs m :=
 ⟨h.ext.drew, h.ck, h.cr, h.cw, h.cn, h.mp.same rfl, h.wr.ext (Ext.refl u).drew, h.ok, h.lo, h.sl, h.nd, h.ns⟩
theorem KM.put {S' : Nat → Prop} {bs' : List Int} {m' : Nat} (h : KM w u k1 k2 kw kn km wb S cl w0 early up kvs wd nx bs m) (hg : Gr S S' u u') (hC : Chg (fun k => k = wb ∨ S k) u u') (hw : WrAt u' (some ⟨wb, 0, none⟩) wb S' bs' m' up) (hok : WOk up bs' m') : KM w u' k1 k2 kw kn km wb S' cl w0 early up kvs wd nx bs' m' := by
 obtain ⟨l1, l2, l3, l4, l5, l6, l7⟩ := h.lts
 obtain ⟨⟨n1, n2, n3, n4, n5⟩, ⟨n6, n7, n8, n9⟩, ⟨n10, n11, n12⟩, ⟨n13, n14⟩, n15⟩ := h.nd
 have hs := hg.1
 have hws := h.ext.size
 refine ⟨h.ext.step hC fun i hi => ?_, h.ck.chg hC ?_, h.cr.chg hC ?_, h.cw.chg hC ?_, h.cn.chg hC ?_, h.mp.same (hC.block km l5 ?_), hw, hok, h.lo, fun i hi => ?_, h.nd, fun i hi => ?_⟩
 ·rcases hi with rfl | hi
  ·exact h.lo.2.2.2.2.2
  ·exact h.sl i hi
 ·rintro (e | hi)
  ·exact n5 e
  ·exact (h.ns _ hi).1 rfl
 ·rintro (e | hi)
  ·exact n9 e
  ·exact (h.ns _ hi).2.1 rfl
 ·rintro (e | hi)
  ·exact n12 e
  ·exact (h.ns _ hi).2.2.1 rfl
 ·rintro (e | hi)
  ·exact n14 e
  ·exact (h.ns _ hi).2.2.2.1 rfl
 ·rintro (e | hi)
  ·exact n15 e
  ·exact (h.ns _ hi).2.2.2.2 rfl
 ·rcases hg.2 i hi with h' | h'
  ·exact h.sl i h'
  ·omega
 ·rcases hg.2 i hi with h' | h'
  ·exact h.ns i h'
  ·omega
theorem KM.setw (h : KM w u k1 k2 kw kn km wb S cl w0 early up kvs wd nx bs m) (v : Nat) : KM w (setCells u ⟨kw, 0, none⟩ [i64 v] 0) k1 k2 kw kn km wb S cl w0 early up kvs v nx bs m := by
 obtain ⟨l1, l2, l3, l4, l5, l6, l7⟩ := h.lts
 obtain ⟨⟨n1, n2, n3, n4, n5⟩, ⟨n6, n7, n8, n9⟩, ⟨n10, n11, n12⟩, ⟨n13, n14⟩, n15⟩ := h.nd
 have hC := Chg.setCells u ⟨kw, 0, none⟩ [i64 v] 0
 have e : ∀ {k : Nat}, (· = (⟨kw, 0, none⟩ : Addr).block) k → k = kw := fun h => h
 refine ⟨h.ext.step hC fun i hi => by have := e hi; have := h.lo; omega, h.ck.chg hC fun hi => n2 (e hi), h.cr.chg hC fun hi => n6 (e hi), by have := h.cw.set1 (off := 0) (v := i64 v) (by simp); simpa using this, h.cn.chg hC fun hi => n10 (e hi).symm, h.mp.same (hC.block km l5 fun hi => n11 (e hi).symm), h.wr.chg hC (fun hi => n12 (e hi).symm) fun i hi hz => (h.ns i hi).2.2.1 (e hz), h.ok, h.lo, h.sl, h.nd, h.ns⟩
theorem KM.setn (h : KM w u k1 k2 kw kn km wb S cl w0 early up kvs wd nx bs m) (v : Nat) : KM w (setCells u ⟨kn, 0, none⟩ [i64 v] 0) k1 k2 kw kn km wb S cl w0 early up kvs wd v bs m := by
 obtain ⟨l1, l2, l3, l4, l5, l6, l7⟩ := h.lts
 obtain ⟨⟨n1, n2, n3, n4, n5⟩, ⟨n6, n7, n8, n9⟩, ⟨n10, n11, n12⟩, ⟨n13, n14⟩, n15⟩ := h.nd
 have hC := Chg.setCells u ⟨kn, 0, none⟩ [i64 v] 0
 have e : ∀ {k : Nat}, (· = (⟨kn, 0, none⟩ : Addr).block) k → k = kn := fun h => h
 refine ⟨h.ext.step hC fun i hi => by have := e hi; have := h.lo; omega, h.ck.chg hC fun hi => n3 (e hi), h.cr.chg hC fun hi => n7 (e hi), h.cw.chg hC fun hi => n10 (e hi), by have := h.cn.set1 (off := 0) (v := i64 v) (by simp); simpa using this, h.mp.same (hC.block km l5 fun hi => n13 (e hi).symm), h.wr.chg hC (fun hi => n14 (e hi).symm) fun i hi hz => (h.ns i hi).2.2.2.1 (e hz), h.ok, h.lo, h.sl, h.nd, h.ns⟩
theorem KM.setm {kvs' : List (Value × Value)} (h : KM w u k1 k2 kw kn km wb S cl w0 early up kvs wd nx bs m) (hP : Put km u u') (hm : Mp kdP u' km kvs') : KM w u' k1 k2 kw kn km wb S cl w0 early up kvs' wd nx bs m := by
 obtain ⟨l1, l2, l3, l4, l5, l6, l7⟩ := h.lts
 obtain ⟨⟨n1, n2, n3, n4, n5⟩, ⟨n6, n7, n8, n9⟩, ⟨n10, n11, n12⟩, ⟨n13, n14⟩, n15⟩ := h.nd
 have hC := hP.chg
 exact ⟨h.ext.step hC fun i hi => by have := h.lo; omega, h.ck.chg hC n4, h.cr.chg hC n8, h.cw.chg hC n11, h.cn.chg hC n13, hm, h.wr.chg hC (fun hi => n15 hi.symm) fun i hi hz => (h.ns i hi).2.2.2.2 hz, h.ok, h.lo, h.sl, h.nd, h.ns⟩
theorem KM.newm {k : Nat} (h : KM w u k1 k2 kw kn km wb S cl w0 early up kvs wd nx bs m) (hn : New u (.map #[] 0) k u') : KM w u' k1 k2 kw kn k wb S cl w0 early up [] wd nx bs m := by
 obtain ⟨l1, l2, l3, l4, l5, l6, l7⟩ := h.lts
 obtain ⟨⟨n1, n2, n3, n4, n5⟩, ⟨n6, n7, n8, n9⟩, ⟨n10, n11, n12⟩, ⟨n13, n14⟩, n15⟩ := h.nd
 have hE := hn.ext
 have hk := hn.1
 have hlo := h.lo
 have hs := h.ext.size
 refine ⟨h.ext.trans hE, h.ck.ext hE, h.cr.ext hE, h.cw.ext hE, h.cn.ext hE, hn.mp kdP, h.wr.ext hE, h.ok, by omega, h.sl, by omega, fun i hi => ?_⟩
 have := l7 i hi
 have := h.ns i hi
 omega
end
theorem putF_spec {w u : World} {k1 k2 kw kn km wb : Nat} {S : Nat → Prop} {cl w0 early : Nat} {up : Bool} {kvs : List (Value × Value)} {wd nx : Nat} {bs : List Int} {m : Nat} {R : Ending → World → Prop} {a : Nat} {fr : Bool}
  (h : KM w u k1 k2 kw kn km wb S cl w0 early up kvs wd nx bs m) (ha : a < 2 ^ 32) (h1 : 1 ≤ wd) (h2 : wd ≤ 12) (hm : m ≤ 2 ^ 48) (hnx : nx ≤ 2 ^ 20) (he : early ≤ 1)
  (hR : ∀ S' u', KM w u' k1 k2 kw kn km wb S' cl w0 early up kvs (if fr then wdN early (nx + 1) wd else wd) (if fr then nx + 1 else nx) (putV up bs m a wd wd) (m + wd) → R (.returned (.tuple #[])) u') :
  Calls P F.lzw_kind_pack_fn1 #[i64 a, .bool fr, .pointer (some ⟨k2, 0, none⟩), .pointer (some ⟨kw, 0, none⟩), .pointer (some ⟨kn, 0, none⟩), .pointer (some ⟨k1, 0, none⟩)] u R := by
 refine calls_lzw_kind_pack_fn1 _ _ _ _ _ _ _ _ ?_
 refine ⟨_, h.cr.cell (i := 0) rfl, _, h.cw.cell (i := 0) rfl, ?_⟩
 rw [wu32 (x := (a : Int)) (by omega) (by omega)]
 refine Put_spec h.wr h.ok (by omega) (by omega) (by omega) (fun hh => by omega) fun _ _ S' u1 hg hC hw => ⟨_, rfl, ?_⟩
 rw [Int.toNat_natCast] at hw
 have km1 := h.put hg hC hw (by have := putV_ok (v := a) (n := wd) h.ok wd; exact this)
 cases fr with
 | false => exact brB_f rfl (hR S' u1 km1)
 | true =>
  refine brB_t rfl ⟨_, km1.cn.cell (i := 0) rfl, ⟨_, km1.cn.cell (i := 0) rfl⟩, km1.cn.frozen 0, ?_⟩
  rw [w64 (x := (nx : Int) + 1) (by omega) (by omega)]
  have km2 := (km1.setn (nx + 1)).dr
  have e1 : ((nx + 1 : Nat) : Int) = (nx : Int) + 1 := by omega
  rw [e1] at km2
  refine ⟨_, km2.cn.cell (i := 0) rfl, _, km2.cw.cell (i := 0) rfl, by omega, early, by rw [loc_add]; exact km2.ck.cell (i := 3) rfl, ?_⟩
  rw [shl1 wd (by omega), e1]
  have hp := pow_small wd (by omega)
  rw [w64 (x := ((2 ^ wd : Nat) : Int) - early) (by omega) (by omega)]
  have hfin : ∀ wd', wd' = wdN early (nx + 1) wd → ∀ u', KM w u' k1 k2 kw kn km wb S' cl w0 early up kvs wd' (nx + 1) (putV up bs m a wd wd) (m + wd) → R (.returned (.tuple #[])) u' := fun wd' hwd u' hk => by
   subst hwd; exact hR S' u' hk
  refine brB_i (fun hb => ?_) (fun hb => ?_)
  ·have hb : (nx : Int) + 1 = ((2 ^ wd : Nat) : Int) - early := by simpa using hb
   refine ⟨_, km2.cw.cell (i := 0) rfl, brB_i (fun hb2 => ?_) (fun hb2 => ?_)⟩
   ·have hb2 : (wd : Int) < 12 := by simpa using hb2
    refine ⟨_, km2.cw.cell (i := 0) rfl, ⟨_, km2.cw.cell (i := 0) rfl⟩, km2.cw.frozen 0, ?_⟩
    rw [w64 (x := (wd : Int) + 1) (by omega) (by omega)]
    have km3 := km2.setw (wd + 1)
    have e2 : ((wd + 1 : Nat) : Int) = (wd : Int) + 1 := by omega
    rw [e2] at km3
    refine hfin (wd + 1) ?_ _ km3
    unfold wdN; rw [if_pos (by omega)]
   ·have hb2 : ¬ (wd : Int) < 12 := by simpa using hb2
    refine hfin wd ?_ _ km2
    unfold wdN; rw [if_neg (by omega)]
  ·have hb : ¬ (nx : Int) + 1 = ((2 ^ wd : Nat) : Int) - early := by simpa using hb
   refine hfin wd ?_ _ km2
   unfold wdN; rw [if_neg (by omega)]
end Go.Proofs.YtiiaihiliimcoaaGreat
namespace Go.Proofs.YtiiaihiliimcoaaGreat
open Go Go.Vc Go.RowKit
set_option maxRecDepth 100000
structure IS (u0 : World) (ms cs : List Nat) (u : World) : Prop where
 ext : Ext u0 u
 fm : ∀ k, k ∈ ms → u0.heap.size ≤ k ∧ Mp kdP u k [] ∧ k ∉ cs
 fc : ∀ k, k ∈ cs → u0.heap.size ≤ k ∧ ∃ v, Cs u k [v]
 nd : cs.Nodup
theorem IS.init (u0 : World) : IS u0 [] [] u0 := ⟨Ext.refl u0, by simp, by simp, by simp⟩
theorem IS.map {u0 u u' : World} {ms cs : List Nat} {k : Nat} (h : IS u0 ms cs u) (hn : New u (.map #[] 0) k u') : IS u0 (k :: ms) cs u' := by
 have hk := hn.1
 have hs := h.ext.size
 refine ⟨h.ext.trans hn.ext, fun j hj => ?_, fun j hj => ?_, h.nd⟩
 ·rcases List.mem_cons.1 hj with rfl | hj
  ·exact ⟨by omega, hn.mp kdP, fun hm => by obtain ⟨_, v, hv⟩ := h.fc _ hm; have := hv.lt; omega⟩
  ·obtain ⟨h1, h2, h3⟩ := h.fm j hj
   exact ⟨h1, h2.same (hn.ext.block j (mp_lt h2)), h3⟩
 ·obtain ⟨h1, v, hv⟩ := h.fc j hj
  exact ⟨h1, v, hv.ext hn.ext⟩
theorem IS.cell {u0 u u' : World} {ms cs : List Nat} {k : Nat} (h : IS u0 ms cs u) (hn : New u (.cells #[i64 0] 3 (0, 0)) k u') : IS u0 ms (k :: cs) u' := by
 have hk := hn.1
 have hs := h.ext.size
 refine ⟨h.ext.trans hn.ext, fun j hj => ?_, fun j hj => ?_, List.nodup_cons.2 ⟨fun hm => ?_, h.nd⟩⟩
 ·obtain ⟨h1, h2, h3⟩ := h.fm j hj
  refine ⟨h1, h2.same (hn.ext.block j (mp_lt h2)), fun hm => ?_⟩
  rcases List.mem_cons.1 hm with rfl | hm
  ·have := mp_lt h2; omega
  ·exact h3 hm
 ·rcases List.mem_cons.1 hj with rfl | hj
  ·exact ⟨by omega, _, hn.cs⟩
  ·obtain ⟨h1, v, hv⟩ := h.fc j hj
   exact ⟨h1, v, hv.ext hn.ext⟩
 ·obtain ⟨_, v, hv⟩ := h.fc k hm
  have := hv.lt; omega
theorem IS.st {u0 u : World} {ms cs : List Nat} {a : Nat} {v : Value} (h : IS u0 ms cs u) (ha : a ∈ cs) : IS u0 ms cs (setCells u ⟨a, 0, none⟩ [v] 0) := by
 have hC := Chg.setCells u ⟨a, 0, none⟩ [v] 0
 have e : ∀ {k : Nat}, (· = (⟨a, 0, none⟩ : Addr).block) k → k = a := fun h => h
 refine ⟨h.ext.step hC fun i hi => by have := e hi; subst this; exact (h.fc i ha).1, fun j hj => ?_, fun j hj => ?_, h.nd⟩
 ·obtain ⟨h1, h2, h3⟩ := h.fm j hj
  exact ⟨h1, h2.same (hC.block j (mp_lt h2) fun hi => by have := e hi; subst this; exact h3 ha), h3⟩
 ·obtain ⟨h1, v', hv⟩ := h.fc j hj
  by_cases hja : j = a
  ·subst hja
   have := hv.set1 (off := 0) (v := v) (by simp)
   exact ⟨h1, v, by simpa using this⟩
  ·exact ⟨h1, v', hv.chg hC fun hi => hja (e hi)⟩
theorem IS.ex {u0 u : World} {ms cs : List Nat} {a : Nat} (h : IS u0 ms cs u) (ha : a ∈ cs) : ∃ v, u.cell? ⟨a, 0, none⟩ = some v := by
 obtain ⟨_, v, hv⟩ := h.fc a ha
 exact ⟨v, hv.cell rfl⟩
theorem IS.fz {u0 u : World} {ms cs : List Nat} {a : Nat} (h : IS u0 ms cs u) (ha : a ∈ cs) : u.frozen? ⟨a, 0, none⟩ = false := by
 obtain ⟨_, v, hv⟩ := h.fc a ha
 exact hv.frozen 0
theorem IS.ld {u0 u : World} {ms cs : List Nat} {k1 i : Nat} {vs : List Value} {v : Value} (h : IS u0 ms cs u) (hc : Cs u0 k1 vs) (hv : vs[i]? = some v) : u.cell? ⟨k1, i, none⟩ = some v := (hc.ext h.ext).cell hv
theorem IS.fin {w u0 u : World} {a b km k1 k2 wb : Nat} {cs : List Nat} {cl w0 early : Nat} {up : Bool} (h : IS u0 [km] cs u) (ha : a ∈ cs) (hb : b ∈ cs) (hab : a ≠ b) (hE : Ext w u0)
  (hk : Cs u0 k1 [i64 cl, i64 w0, .bool up, i64 early]) (hr : Cs u0 k2 [.pointer (some ⟨wb, 0, none⟩)]) (hw : WrAt u0 (some ⟨wb, 0, none⟩) wb (fun _ => False) [] 0 up)
  (hlo : w.heap.size ≤ k1 ∧ w.heap.size ≤ k2 ∧ w.heap.size ≤ wb) (hnd : k1 ≠ k2 ∧ k1 ≠ wb ∧ k2 ≠ wb) (hcl : cl ≤ 256) :
  KM w (setCells (setCells u ⟨a, 0, none⟩ [i64 w0] 0) ⟨b, 0, none⟩ [i64 (IntKind.i64.wrap ((cl : Int) + 2))] 0) k1 k2 a b km wb (fun _ => False) cl w0 early up [] w0 (cl + 2) [] 0 := by
 rw [w64 (by omega) (by omega)]
 have e1 : (cl : Int) + 2 = ((cl + 2 : Nat) : Int) := by omega
 rw [e1]
 obtain ⟨m1, m2, m3⟩ := h.fm km (by simp)
 obtain ⟨a1, va, a2⟩ := h.fc a ha
 obtain ⟨b1, vb, b2⟩ := h.fc b hb
 have hs := hE.size
 have hkl := hk.lt
 have hrl := hr.lt
 have hwl := hw.lt
 have hma : km ≠ a := fun e => m3 (e ▸ ha)
 have hmb : km ≠ b := fun e => m3 (e ▸ hb)
 have hE' := h.ext
 have base : KM w (setCells (setCells u ⟨a, 0, none⟩ [i64 w0] 0) ⟨b, 0, none⟩ [i64 (cl + 2 : Nat)] 0) k1 k2 a b km wb (fun _ => False) cl w0 early up [] w0 (cl + 2) [] 0 := by
  have hC1 := Chg.setCells u ⟨a, 0, none⟩ [i64 w0] 0
  have hC2 := Chg.setCells (setCells u ⟨a, 0, none⟩ [i64 w0] 0) ⟨b, 0, none⟩ [i64 (cl + 2 : Nat)] 0
  have e : ∀ {k : Nat}, (· = (⟨a, 0, none⟩ : Addr).block) k → k = a := fun h => h
  have e' : ∀ {k : Nat}, (· = (⟨b, 0, none⟩ : Addr).block) k → k = b := fun h => h
  have s1 := a2.set1 (off := 0) (v := i64 w0) (by simp)
  have s2 := (b2.chg hC1 (fun hi => hab (e hi).symm)).set1 (off := 0) (v := i64 (cl + 2 : Nat)) (by simp)
  have hEE : Ext u0 (setCells (setCells u ⟨a, 0, none⟩ [i64 w0] 0) ⟨b, 0, none⟩ [i64 (cl + 2 : Nat)] 0) := (hE'.step hC1 fun i hi => by have := e hi; omega).step hC2 fun i hi => by have := e' hi; omega
  have mm := (m2.same (hC1.block km (mp_lt m2) fun hi => hma (e hi)))
  refine ⟨hE.trans hEE, hk.ext hEE, hr.ext hEE, ?_, ?_, mm.same (hC2.block km (mp_lt mm) fun hi => hmb (e' hi)), hw.ext hEE, WOk.nil up, by omega, by simp, by omega, by simp⟩
  ·have := s1.chg hC2 (fun hi => hab (e' hi))
   simpa using this
  ·simpa using s2
 exact base
end Go.Proofs.YtiiaihiliimcoaaGreat
namespace Go.Proofs.YtiiaihiliimcoaaGreat
open Go Go.Vc
set_option maxRecDepth 100000
def vc_lzw_kind_pack (x1 x2 : Int) (b1 : Bool) (x3 : Int) (sa1 : Option Addr) (sl1 sc1 : Nat) (w : World) (R : Ending → World → Prop) : Prop :=
 ∀ (k1 : Nat) (w1 : World),
 (New w (Obj.cells #[.int .i64 x1, .int .i64 x2, .bool b1, .int .i64 x3] 119) k1 w1) →
 ∃ c1 : Bool,
 (w1.cell? { block := k1, off := 2 } = some (.bool c1)) ∧
 Calls P F.bits_NewWriter #[.bool c1] w1 fun e1 w2 =>
 ∃ p1 : Option Addr,
 (e1 = .returned (.pointer p1)) ∧
 ∀ (k2 : Nat) (w3 : World),
 (New w2 (Obj.cells #[.pointer none] 140) k2 w3) →
 (∃ v1 : Value,
 w3.cell? { block := k2, off := 0 } = some v1) ∧
 (w3.frozen? { block := k2, off := 0 } = false) ∧
 ∃ I1 : List Value → World → Prop,
 (∃ n1 : Int,
 ((setCells w3 { block := k2, off := 0 } [.pointer p1] 0).drew.cell? { block := k1, off := 1 } = some (.int .i64 n1)) ∧
 (∀ k3 : Nat,
 ∀ w4 : World,
 (New ((setCells w3 { block := k2, off := 0 } [.pointer p1] 0).drew) (Obj.map #[] 0) k3 w4) →
 (∃ n2 : Int,
 (w4.cell? { block := k1, off := 0 } = some (.int .i64 n2)) ∧
 (∀ k4 : Nat,
 ∀ w5 : World,
 (New w4 (Obj.cells #[.int .i64 0] 3) k4 w5) →
 ∀ (k5 : Nat) (w6 : World),
 (New w5 (Obj.cells #[.int .i64 0] 3) k5 w6) →
 (∃ v2 : Value,
 w6.cell? { block := k4, off := 0 } = some v2) ∧
 (w6.frozen? { block := k4, off := 0 } = false) ∧
 (∃ v3 : Value,
 (setCells w6 { block := k4, off := 0 } [.int .i64 n1] 0).cell? { block := k5, off := 0 } = some v3) ∧
 ((setCells w6 { block := k4, off := 0 } [.int .i64 n1] 0).frozen? { block := k5, off := 0 } = false) ∧
 I1 [.map (some k3), .pointer (some { block := k4, off := 0 }), .pointer (some { block := k5, off := 0 })] (setCells (setCells w6 { block := k4, off := 0 } [.int .i64 n1] 0) { block := k5, off := 0 } [.int .i64 (IntKind.i64.wrap (n2 + 2))] 0)) ∧
 ∀ (k6 : Nat) (w7 : World),
 (New w4 (Obj.cells #[.int .i64 0] 3) k6 w7) →
 ∀ (k7 : Nat) (w8 : World),
 (New w7 (Obj.cells #[.int .i64 0] 3) k7 w8) →
 (∃ v4 : Value,
 w8.cell? { block := k7, off := 0 } = some v4) ∧
 (w8.frozen? { block := k7, off := 0 } = false) ∧
 (∃ v5 : Value,
 (setCells w8 { block := k7, off := 0 } [.int .i64 n1] 0).cell? { block := k6, off := 0 } = some v5) ∧
 ((setCells w8 { block := k7, off := 0 } [.int .i64 n1] 0).frozen? { block := k6, off := 0 } = false) ∧
 I1 [.map (some k3), .pointer (some { block := k7, off := 0 }), .pointer (some { block := k6, off := 0 })] (setCells (setCells w8 { block := k7, off := 0 } [.int .i64 n1] 0) { block := k6, off := 0 } [.int .i64 (IntKind.i64.wrap (n2 + 2))] 0)) ∧
 (∀ k8 : Nat,
 ∀ w9 : World,
 (New w4 (Obj.cells #[.int .i64 0] 3) k8 w9) →
 (∃ n3 : Int,
 (w9.cell? { block := k1, off := 0 } = some (.int .i64 n3)) ∧
 ∀ (k9 : Nat) (w10 : World),
 (New w9 (Obj.cells #[.int .i64 0] 3) k9 w10) →
 (∃ v6 : Value,
 w10.cell? { block := k8, off := 0 } = some v6) ∧
 (w10.frozen? { block := k8, off := 0 } = false) ∧
 (∃ v7 : Value,
 (setCells w10 { block := k8, off := 0 } [.int .i64 n1] 0).cell? { block := k9, off := 0 } = some v7) ∧
 ((setCells w10 { block := k8, off := 0 } [.int .i64 n1] 0).frozen? { block := k9, off := 0 } = false) ∧
 I1 [.map (some k3), .pointer (some { block := k8, off := 0 }), .pointer (some { block := k9, off := 0 })] (setCells (setCells w10 { block := k8, off := 0 } [.int .i64 n1] 0) { block := k9, off := 0 } [.int .i64 (IntKind.i64.wrap (n3 + 2))] 0)) ∧
 ∀ (k10 : Nat) (w11 : World),
 (New w9 (Obj.cells #[.int .i64 0] 3) k10 w11) →
 (∃ n4 : Int,
 (w11.cell? { block := k1, off := 0 } = some (.int .i64 n4)) ∧
 (∃ v8 : Value,
 w11.cell? { block := k8, off := 0 } = some v8) ∧
 (w11.frozen? { block := k8, off := 0 } = false) ∧
 (∃ v9 : Value,
 (setCells w11 { block := k8, off := 0 } [.int .i64 n1] 0).cell? { block := k10, off := 0 } = some v9) ∧
 ((setCells w11 { block := k8, off := 0 } [.int .i64 n1] 0).frozen? { block := k10, off := 0 } = false) ∧
 I1 [.map (some k3), .pointer (some { block := k8, off := 0 }), .pointer (some { block := k10, off := 0 })] (setCells (setCells w11 { block := k8, off := 0 } [.int .i64 n1] 0) { block := k10, off := 0 } [.int .i64 (IntKind.i64.wrap (n4 + 2))] 0)) ∧
 (∃ v10 : Value,
 w11.cell? { block := k8, off := 0 } = some v10) ∧
 (w11.frozen? { block := k8, off := 0 } = false) ∧
 ∃ n5 : Int,
 ((setCells w11 { block := k8, off := 0 } [.int .i64 n1] 0).cell? { block := k1, off := 0 } = some (.int .i64 n5)) ∧
 (∃ v11 : Value,
 (setCells w11 { block := k8, off := 0 } [.int .i64 n1] 0).cell? { block := k10, off := 0 } = some v11) ∧
 ((setCells w11 { block := k8, off := 0 } [.int .i64 n1] 0).frozen? { block := k10, off := 0 } = false) ∧
 I1 [.map (some k3), .pointer (some { block := k8, off := 0 }), .pointer (some { block := k10, off := 0 })] (setCells (setCells w11 { block := k8, off := 0 } [.int .i64 n1] 0) { block := k10, off := 0 } [.int .i64 (IntKind.i64.wrap (n5 + 2))] 0)) ∧
 ∀ (k11 : Nat) (w12 : World),
 (New w4 (Obj.cells #[.int .i64 0] 3) k11 w12) →
 (∃ n6 : Int,
 (w12.cell? { block := k1, off := 0 } = some (.int .i64 n6)) ∧
 ∀ (k12 : Nat) (w13 : World),
 (New w12 (Obj.cells #[.int .i64 0] 3) k12 w13) →
 (∃ v12 : Value,
 w13.cell? { block := k12, off := 0 } = some v12) ∧
 (w13.frozen? { block := k12, off := 0 } = false) ∧
 (∃ v13 : Value,
 (setCells w13 { block := k12, off := 0 } [.int .i64 n1] 0).cell? { block := k11, off := 0 } = some v13) ∧
 ((setCells w13 { block := k12, off := 0 } [.int .i64 n1] 0).frozen? { block := k11, off := 0 } = false) ∧
 I1 [.map (some k3), .pointer (some { block := k12, off := 0 }), .pointer (some { block := k11, off := 0 })] (setCells (setCells w13 { block := k12, off := 0 } [.int .i64 n1] 0) { block := k11, off := 0 } [.int .i64 (IntKind.i64.wrap (n6 + 2))] 0)) ∧
 ∀ (k13 : Nat) (w14 : World),
 (New w12 (Obj.cells #[.int .i64 0] 3) k13 w14) →
 (∃ n7 : Int,
 (w14.cell? { block := k1, off := 0 } = some (.int .i64 n7)) ∧
 (∃ v14 : Value,
 w14.cell? { block := k13, off := 0 } = some v14) ∧
 (w14.frozen? { block := k13, off := 0 } = false) ∧
 (∃ v15 : Value,
 (setCells w14 { block := k13, off := 0 } [.int .i64 n1] 0).cell? { block := k11, off := 0 } = some v15) ∧
 ((setCells w14 { block := k13, off := 0 } [.int .i64 n1] 0).frozen? { block := k11, off := 0 } = false) ∧
 I1 [.map (some k3), .pointer (some { block := k13, off := 0 }), .pointer (some { block := k11, off := 0 })] (setCells (setCells w14 { block := k13, off := 0 } [.int .i64 n1] 0) { block := k11, off := 0 } [.int .i64 (IntKind.i64.wrap (n7 + 2))] 0)) ∧
 (∃ v16 : Value,
 w14.cell? { block := k13, off := 0 } = some v16) ∧
 (w14.frozen? { block := k13, off := 0 } = false) ∧
 ∃ n8 : Int,
 ((setCells w14 { block := k13, off := 0 } [.int .i64 n1] 0).cell? { block := k1, off := 0 } = some (.int .i64 n8)) ∧
 (∃ v17 : Value,
 (setCells w14 { block := k13, off := 0 } [.int .i64 n1] 0).cell? { block := k11, off := 0 } = some v17) ∧
 ((setCells w14 { block := k13, off := 0 } [.int .i64 n1] 0).frozen? { block := k11, off := 0 } = false) ∧
 I1 [.map (some k3), .pointer (some { block := k13, off := 0 }), .pointer (some { block := k11, off := 0 })] (setCells (setCells w14 { block := k13, off := 0 } [.int .i64 n1] 0) { block := k11, off := 0 } [.int .i64 (IntKind.i64.wrap (n8 + 2))] 0)) ∧
 (∃ n9 : Int,
 ((setCells w3 { block := k2, off := 0 } [.pointer p1] 0).drew.cell? { block := k1, off := 0 } = some (.int .i64 n9)) ∧
 (∀ k14 : Nat,
 ∀ w15 : World,
 (New ((setCells w3 { block := k2, off := 0 } [.pointer p1] 0).drew) (Obj.map #[] 0) k14 w15) →
 (∀ k15 : Nat,
 ∀ w16 : World,
 (New w15 (Obj.cells #[.int .i64 0] 3) k15 w16) →
 ∀ (k16 : Nat) (w17 : World),
 (New w16 (Obj.cells #[.int .i64 0] 3) k16 w17) →
 (∃ v18 : Value,
 w17.cell? { block := k15, off := 0 } = some v18) ∧
 (w17.frozen? { block := k15, off := 0 } = false) ∧
 (∃ v19 : Value,
 (setCells w17 { block := k15, off := 0 } [.int .i64 n1] 0).cell? { block := k16, off := 0 } = some v19) ∧
 ((setCells w17 { block := k15, off := 0 } [.int .i64 n1] 0).frozen? { block := k16, off := 0 } = false) ∧
 I1 [.map (some k14), .pointer (some { block := k15, off := 0 }), .pointer (some { block := k16, off := 0 })] (setCells (setCells w17 { block := k15, off := 0 } [.int .i64 n1] 0) { block := k16, off := 0 } [.int .i64 (IntKind.i64.wrap (n9 + 2))] 0)) ∧
 ∀ (k17 : Nat) (w18 : World),
 (New w15 (Obj.cells #[.int .i64 0] 3) k17 w18) →
 ∀ (k18 : Nat) (w19 : World),
 (New w18 (Obj.cells #[.int .i64 0] 3) k18 w19) →
 (∃ v20 : Value,
 w19.cell? { block := k18, off := 0 } = some v20) ∧
 (w19.frozen? { block := k18, off := 0 } = false) ∧
 (∃ v21 : Value,
 (setCells w19 { block := k18, off := 0 } [.int .i64 n1] 0).cell? { block := k17, off := 0 } = some v21) ∧
 ((setCells w19 { block := k18, off := 0 } [.int .i64 n1] 0).frozen? { block := k17, off := 0 } = false) ∧
 I1 [.map (some k14), .pointer (some { block := k18, off := 0 }), .pointer (some { block := k17, off := 0 })] (setCells (setCells w19 { block := k18, off := 0 } [.int .i64 n1] 0) { block := k17, off := 0 } [.int .i64 (IntKind.i64.wrap (n9 + 2))] 0)) ∧
 (∀ k19 : Nat,
 ∀ w20 : World,
 (New ((setCells w3 { block := k2, off := 0 } [.pointer p1] 0).drew) (Obj.cells #[.int .i64 0] 3) k19 w20) →
 (∀ k20 : Nat,
 ∀ w21 : World,
 (New w20 (Obj.map #[] 0) k20 w21) →
 ∀ (k21 : Nat) (w22 : World),
 (New w21 (Obj.cells #[.int .i64 0] 3) k21 w22) →
 (∃ v22 : Value,
 w22.cell? { block := k19, off := 0 } = some v22) ∧
 (w22.frozen? { block := k19, off := 0 } = false) ∧
 (∃ v23 : Value,
 (setCells w22 { block := k19, off := 0 } [.int .i64 n1] 0).cell? { block := k21, off := 0 } = some v23) ∧
 ((setCells w22 { block := k19, off := 0 } [.int .i64 n1] 0).frozen? { block := k21, off := 0 } = false) ∧
 I1 [.map (some k20), .pointer (some { block := k19, off := 0 }), .pointer (some { block := k21, off := 0 })] (setCells (setCells w22 { block := k19, off := 0 } [.int .i64 n1] 0) { block := k21, off := 0 } [.int .i64 (IntKind.i64.wrap (n9 + 2))] 0)) ∧
 ∀ (k22 : Nat) (w23 : World),
 (New w20 (Obj.cells #[.int .i64 0] 3) k22 w23) →
 ∀ (k23 : Nat) (w24 : World),
 (New w23 (Obj.map #[] 0) k23 w24) →
 (∃ v24 : Value,
 w24.cell? { block := k19, off := 0 } = some v24) ∧
 (w24.frozen? { block := k19, off := 0 } = false) ∧
 (∃ v25 : Value,
 (setCells w24 { block := k19, off := 0 } [.int .i64 n1] 0).cell? { block := k22, off := 0 } = some v25) ∧
 ((setCells w24 { block := k19, off := 0 } [.int .i64 n1] 0).frozen? { block := k22, off := 0 } = false) ∧
 I1 [.map (some k23), .pointer (some { block := k19, off := 0 }), .pointer (some { block := k22, off := 0 })] (setCells (setCells w24 { block := k19, off := 0 } [.int .i64 n1] 0) { block := k22, off := 0 } [.int .i64 (IntKind.i64.wrap (n9 + 2))] 0)) ∧
 ∀ (k24 : Nat) (w25 : World),
 (New ((setCells w3 { block := k2, off := 0 } [.pointer p1] 0).drew) (Obj.cells #[.int .i64 0] 3) k24 w25) →
 (∀ k25 : Nat,
 ∀ w26 : World,
 (New w25 (Obj.map #[] 0) k25 w26) →
 ∀ (k26 : Nat) (w27 : World),
 (New w26 (Obj.cells #[.int .i64 0] 3) k26 w27) →
 (∃ v26 : Value,
 w27.cell? { block := k26, off := 0 } = some v26) ∧
 (w27.frozen? { block := k26, off := 0 } = false) ∧
 (∃ v27 : Value,
 (setCells w27 { block := k26, off := 0 } [.int .i64 n1] 0).cell? { block := k24, off := 0 } = some v27) ∧
 ((setCells w27 { block := k26, off := 0 } [.int .i64 n1] 0).frozen? { block := k24, off := 0 } = false) ∧
 I1 [.map (some k25), .pointer (some { block := k26, off := 0 }), .pointer (some { block := k24, off := 0 })] (setCells (setCells w27 { block := k26, off := 0 } [.int .i64 n1] 0) { block := k24, off := 0 } [.int .i64 (IntKind.i64.wrap (n9 + 2))] 0)) ∧
 ∀ (k27 : Nat) (w28 : World),
 (New w25 (Obj.cells #[.int .i64 0] 3) k27 w28) →
 ∀ (k28 : Nat) (w29 : World),
 (New w28 (Obj.map #[] 0) k28 w29) →
 (∃ v28 : Value,
 w29.cell? { block := k27, off := 0 } = some v28) ∧
 (w29.frozen? { block := k27, off := 0 } = false) ∧
 (∃ v29 : Value,
 (setCells w29 { block := k27, off := 0 } [.int .i64 n1] 0).cell? { block := k24, off := 0 } = some v29) ∧
 ((setCells w29 { block := k27, off := 0 } [.int .i64 n1] 0).frozen? { block := k24, off := 0 } = false) ∧
 I1 [.map (some k28), .pointer (some { block := k27, off := 0 }), .pointer (some { block := k24, off := 0 })] (setCells (setCells w29 { block := k27, off := 0 } [.int .i64 n1] 0) { block := k24, off := 0 } [.int .i64 (IntKind.i64.wrap (n9 + 2))] 0)) ∧
 (∀ k29 : Nat,
 ∀ w30 : World,
 (New ((setCells w3 { block := k2, off := 0 } [.pointer p1] 0).drew) (Obj.cells #[.int .i64 0] 3) k29 w30) →
 (∀ k30 : Nat,
 ∀ w31 : World,
 (New w30 (Obj.map #[] 0) k30 w31) →
 (∃ n10 : Int,
 (w31.cell? { block := k1, off := 0 } = some (.int .i64 n10)) ∧
 ∀ (k31 : Nat) (w32 : World),
 (New w31 (Obj.cells #[.int .i64 0] 3) k31 w32) →
 (∃ v30 : Value,
 w32.cell? { block := k29, off := 0 } = some v30) ∧
 (w32.frozen? { block := k29, off := 0 } = false) ∧
 (∃ v31 : Value,
 (setCells w32 { block := k29, off := 0 } [.int .i64 n1] 0).cell? { block := k31, off := 0 } = some v31) ∧
 ((setCells w32 { block := k29, off := 0 } [.int .i64 n1] 0).frozen? { block := k31, off := 0 } = false) ∧
 I1 [.map (some k30), .pointer (some { block := k29, off := 0 }), .pointer (some { block := k31, off := 0 })] (setCells (setCells w32 { block := k29, off := 0 } [.int .i64 n1] 0) { block := k31, off := 0 } [.int .i64 (IntKind.i64.wrap (n10 + 2))] 0)) ∧
 ∀ (k32 : Nat) (w33 : World),
 (New w31 (Obj.cells #[.int .i64 0] 3) k32 w33) →
 (∃ n11 : Int,
 (w33.cell? { block := k1, off := 0 } = some (.int .i64 n11)) ∧
 (∃ v32 : Value,
 w33.cell? { block := k29, off := 0 } = some v32) ∧
 (w33.frozen? { block := k29, off := 0 } = false) ∧
 (∃ v33 : Value,
 (setCells w33 { block := k29, off := 0 } [.int .i64 n1] 0).cell? { block := k32, off := 0 } = some v33) ∧
 ((setCells w33 { block := k29, off := 0 } [.int .i64 n1] 0).frozen? { block := k32, off := 0 } = false) ∧
 I1 [.map (some k30), .pointer (some { block := k29, off := 0 }), .pointer (some { block := k32, off := 0 })] (setCells (setCells w33 { block := k29, off := 0 } [.int .i64 n1] 0) { block := k32, off := 0 } [.int .i64 (IntKind.i64.wrap (n11 + 2))] 0)) ∧
 (∃ v34 : Value,
 w33.cell? { block := k29, off := 0 } = some v34) ∧
 (w33.frozen? { block := k29, off := 0 } = false) ∧
 ∃ n12 : Int,
 ((setCells w33 { block := k29, off := 0 } [.int .i64 n1] 0).cell? { block := k1, off := 0 } = some (.int .i64 n12)) ∧
 (∃ v35 : Value,
 (setCells w33 { block := k29, off := 0 } [.int .i64 n1] 0).cell? { block := k32, off := 0 } = some v35) ∧
 ((setCells w33 { block := k29, off := 0 } [.int .i64 n1] 0).frozen? { block := k32, off := 0 } = false) ∧
 I1 [.map (some k30), .pointer (some { block := k29, off := 0 }), .pointer (some { block := k32, off := 0 })] (setCells (setCells w33 { block := k29, off := 0 } [.int .i64 n1] 0) { block := k32, off := 0 } [.int .i64 (IntKind.i64.wrap (n12 + 2))] 0)) ∧
 (∃ n13 : Int,
 (w30.cell? { block := k1, off := 0 } = some (.int .i64 n13)) ∧
 (∀ k33 : Nat,
 ∀ w34 : World,
 (New w30 (Obj.map #[] 0) k33 w34) →
 ∀ (k34 : Nat) (w35 : World),
 (New w34 (Obj.cells #[.int .i64 0] 3) k34 w35) →
 (∃ v36 : Value,
 w35.cell? { block := k29, off := 0 } = some v36) ∧
 (w35.frozen? { block := k29, off := 0 } = false) ∧
 (∃ v37 : Value,
 (setCells w35 { block := k29, off := 0 } [.int .i64 n1] 0).cell? { block := k34, off := 0 } = some v37) ∧
 ((setCells w35 { block := k29, off := 0 } [.int .i64 n1] 0).frozen? { block := k34, off := 0 } = false) ∧
 I1 [.map (some k33), .pointer (some { block := k29, off := 0 }), .pointer (some { block := k34, off := 0 })] (setCells (setCells w35 { block := k29, off := 0 } [.int .i64 n1] 0) { block := k34, off := 0 } [.int .i64 (IntKind.i64.wrap (n13 + 2))] 0)) ∧
 ∀ (k35 : Nat) (w36 : World),
 (New w30 (Obj.cells #[.int .i64 0] 3) k35 w36) →
 ∀ (k36 : Nat) (w37 : World),
 (New w36 (Obj.map #[] 0) k36 w37) →
 (∃ v38 : Value,
 w37.cell? { block := k29, off := 0 } = some v38) ∧
 (w37.frozen? { block := k29, off := 0 } = false) ∧
 (∃ v39 : Value,
 (setCells w37 { block := k29, off := 0 } [.int .i64 n1] 0).cell? { block := k35, off := 0 } = some v39) ∧
 ((setCells w37 { block := k29, off := 0 } [.int .i64 n1] 0).frozen? { block := k35, off := 0 } = false) ∧
 I1 [.map (some k36), .pointer (some { block := k29, off := 0 }), .pointer (some { block := k35, off := 0 })] (setCells (setCells w37 { block := k29, off := 0 } [.int .i64 n1] 0) { block := k35, off := 0 } [.int .i64 (IntKind.i64.wrap (n13 + 2))] 0)) ∧
 ∀ (k37 : Nat) (w38 : World),
 (New w30 (Obj.cells #[.int .i64 0] 3) k37 w38) →
 (∀ k38 : Nat,
 ∀ w39 : World,
 (New w38 (Obj.map #[] 0) k38 w39) →
 (∃ n14 : Int,
 (w39.cell? { block := k1, off := 0 } = some (.int .i64 n14)) ∧
 (∃ v40 : Value,
 w39.cell? { block := k29, off := 0 } = some v40) ∧
 (w39.frozen? { block := k29, off := 0 } = false) ∧
 (∃ v41 : Value,
 (setCells w39 { block := k29, off := 0 } [.int .i64 n1] 0).cell? { block := k37, off := 0 } = some v41) ∧
 ((setCells w39 { block := k29, off := 0 } [.int .i64 n1] 0).frozen? { block := k37, off := 0 } = false) ∧
 I1 [.map (some k38), .pointer (some { block := k29, off := 0 }), .pointer (some { block := k37, off := 0 })] (setCells (setCells w39 { block := k29, off := 0 } [.int .i64 n1] 0) { block := k37, off := 0 } [.int .i64 (IntKind.i64.wrap (n14 + 2))] 0)) ∧
 (∃ v42 : Value,
 w39.cell? { block := k29, off := 0 } = some v42) ∧
 (w39.frozen? { block := k29, off := 0 } = false) ∧
 ∃ n15 : Int,
 ((setCells w39 { block := k29, off := 0 } [.int .i64 n1] 0).cell? { block := k1, off := 0 } = some (.int .i64 n15)) ∧
 (∃ v43 : Value,
 (setCells w39 { block := k29, off := 0 } [.int .i64 n1] 0).cell? { block := k37, off := 0 } = some v43) ∧
 ((setCells w39 { block := k29, off := 0 } [.int .i64 n1] 0).frozen? { block := k37, off := 0 } = false) ∧
 I1 [.map (some k38), .pointer (some { block := k29, off := 0 }), .pointer (some { block := k37, off := 0 })] (setCells (setCells w39 { block := k29, off := 0 } [.int .i64 n1] 0) { block := k37, off := 0 } [.int .i64 (IntKind.i64.wrap (n15 + 2))] 0)) ∧
 ∃ n16 : Int,
 (w38.cell? { block := k1, off := 0 } = some (.int .i64 n16)) ∧
 ∀ (k39 : Nat) (w40 : World),
 (New w38 (Obj.map #[] 0) k39 w40) →
 (∃ v44 : Value,
 w40.cell? { block := k29, off := 0 } = some v44) ∧
 (w40.frozen? { block := k29, off := 0 } = false) ∧
 (∃ v45 : Value,
 (setCells w40 { block := k29, off := 0 } [.int .i64 n1] 0).cell? { block := k37, off := 0 } = some v45) ∧
 ((setCells w40 { block := k29, off := 0 } [.int .i64 n1] 0).frozen? { block := k37, off := 0 } = false) ∧
 I1 [.map (some k39), .pointer (some { block := k29, off := 0 }), .pointer (some { block := k37, off := 0 })] (setCells (setCells w40 { block := k29, off := 0 } [.int .i64 n1] 0) { block := k37, off := 0 } [.int .i64 (IntKind.i64.wrap (n16 + 2))] 0)) ∧
 ∀ (k40 : Nat) (w41 : World),
 (New ((setCells w3 { block := k2, off := 0 } [.pointer p1] 0).drew) (Obj.cells #[.int .i64 0] 3) k40 w41) →
 (∀ k41 : Nat,
 ∀ w42 : World,
 (New w41 (Obj.map #[] 0) k41 w42) →
 (∃ n17 : Int,
 (w42.cell? { block := k1, off := 0 } = some (.int .i64 n17)) ∧
 ∀ (k42 : Nat) (w43 : World),
 (New w42 (Obj.cells #[.int .i64 0] 3) k42 w43) →
 (∃ v46 : Value,
 w43.cell? { block := k42, off := 0 } = some v46) ∧
 (w43.frozen? { block := k42, off := 0 } = false) ∧
 (∃ v47 : Value,
 (setCells w43 { block := k42, off := 0 } [.int .i64 n1] 0).cell? { block := k40, off := 0 } = some v47) ∧
 ((setCells w43 { block := k42, off := 0 } [.int .i64 n1] 0).frozen? { block := k40, off := 0 } = false) ∧
 I1 [.map (some k41), .pointer (some { block := k42, off := 0 }), .pointer (some { block := k40, off := 0 })] (setCells (setCells w43 { block := k42, off := 0 } [.int .i64 n1] 0) { block := k40, off := 0 } [.int .i64 (IntKind.i64.wrap (n17 + 2))] 0)) ∧
 ∀ (k43 : Nat) (w44 : World),
 (New w42 (Obj.cells #[.int .i64 0] 3) k43 w44) →
 (∃ n18 : Int,
 (w44.cell? { block := k1, off := 0 } = some (.int .i64 n18)) ∧
 (∃ v48 : Value,
 w44.cell? { block := k43, off := 0 } = some v48) ∧
 (w44.frozen? { block := k43, off := 0 } = false) ∧
 (∃ v49 : Value,
 (setCells w44 { block := k43, off := 0 } [.int .i64 n1] 0).cell? { block := k40, off := 0 } = some v49) ∧
 ((setCells w44 { block := k43, off := 0 } [.int .i64 n1] 0).frozen? { block := k40, off := 0 } = false) ∧
 I1 [.map (some k41), .pointer (some { block := k43, off := 0 }), .pointer (some { block := k40, off := 0 })] (setCells (setCells w44 { block := k43, off := 0 } [.int .i64 n1] 0) { block := k40, off := 0 } [.int .i64 (IntKind.i64.wrap (n18 + 2))] 0)) ∧
 (∃ v50 : Value,
 w44.cell? { block := k43, off := 0 } = some v50) ∧
 (w44.frozen? { block := k43, off := 0 } = false) ∧
 ∃ n19 : Int,
 ((setCells w44 { block := k43, off := 0 } [.int .i64 n1] 0).cell? { block := k1, off := 0 } = some (.int .i64 n19)) ∧
 (∃ v51 : Value,
 (setCells w44 { block := k43, off := 0 } [.int .i64 n1] 0).cell? { block := k40, off := 0 } = some v51) ∧
 ((setCells w44 { block := k43, off := 0 } [.int .i64 n1] 0).frozen? { block := k40, off := 0 } = false) ∧
 I1 [.map (some k41), .pointer (some { block := k43, off := 0 }), .pointer (some { block := k40, off := 0 })] (setCells (setCells w44 { block := k43, off := 0 } [.int .i64 n1] 0) { block := k40, off := 0 } [.int .i64 (IntKind.i64.wrap (n19 + 2))] 0)) ∧
 (∃ n20 : Int,
 (w41.cell? { block := k1, off := 0 } = some (.int .i64 n20)) ∧
 (∀ k44 : Nat,
 ∀ w45 : World,
 (New w41 (Obj.map #[] 0) k44 w45) →
 ∀ (k45 : Nat) (w46 : World),
 (New w45 (Obj.cells #[.int .i64 0] 3) k45 w46) →
 (∃ v52 : Value,
 w46.cell? { block := k45, off := 0 } = some v52) ∧
 (w46.frozen? { block := k45, off := 0 } = false) ∧
 (∃ v53 : Value,
 (setCells w46 { block := k45, off := 0 } [.int .i64 n1] 0).cell? { block := k40, off := 0 } = some v53) ∧
 ((setCells w46 { block := k45, off := 0 } [.int .i64 n1] 0).frozen? { block := k40, off := 0 } = false) ∧
 I1 [.map (some k44), .pointer (some { block := k45, off := 0 }), .pointer (some { block := k40, off := 0 })] (setCells (setCells w46 { block := k45, off := 0 } [.int .i64 n1] 0) { block := k40, off := 0 } [.int .i64 (IntKind.i64.wrap (n20 + 2))] 0)) ∧
 ∀ (k46 : Nat) (w47 : World),
 (New w41 (Obj.cells #[.int .i64 0] 3) k46 w47) →
 ∀ (k47 : Nat) (w48 : World),
 (New w47 (Obj.map #[] 0) k47 w48) →
 (∃ v54 : Value,
 w48.cell? { block := k46, off := 0 } = some v54) ∧
 (w48.frozen? { block := k46, off := 0 } = false) ∧
 (∃ v55 : Value,
 (setCells w48 { block := k46, off := 0 } [.int .i64 n1] 0).cell? { block := k40, off := 0 } = some v55) ∧
 ((setCells w48 { block := k46, off := 0 } [.int .i64 n1] 0).frozen? { block := k40, off := 0 } = false) ∧
 I1 [.map (some k47), .pointer (some { block := k46, off := 0 }), .pointer (some { block := k40, off := 0 })] (setCells (setCells w48 { block := k46, off := 0 } [.int .i64 n1] 0) { block := k40, off := 0 } [.int .i64 (IntKind.i64.wrap (n20 + 2))] 0)) ∧
 ∀ (k48 : Nat) (w49 : World),
 (New w41 (Obj.cells #[.int .i64 0] 3) k48 w49) →
 (∀ k49 : Nat,
 ∀ w50 : World,
 (New w49 (Obj.map #[] 0) k49 w50) →
 (∃ n21 : Int,
 (w50.cell? { block := k1, off := 0 } = some (.int .i64 n21)) ∧
 (∃ v56 : Value,
 w50.cell? { block := k48, off := 0 } = some v56) ∧
 (w50.frozen? { block := k48, off := 0 } = false) ∧
 (∃ v57 : Value,
 (setCells w50 { block := k48, off := 0 } [.int .i64 n1] 0).cell? { block := k40, off := 0 } = some v57) ∧
 ((setCells w50 { block := k48, off := 0 } [.int .i64 n1] 0).frozen? { block := k40, off := 0 } = false) ∧
 I1 [.map (some k49), .pointer (some { block := k48, off := 0 }), .pointer (some { block := k40, off := 0 })] (setCells (setCells w50 { block := k48, off := 0 } [.int .i64 n1] 0) { block := k40, off := 0 } [.int .i64 (IntKind.i64.wrap (n21 + 2))] 0)) ∧
 (∃ v58 : Value,
 w50.cell? { block := k48, off := 0 } = some v58) ∧
 (w50.frozen? { block := k48, off := 0 } = false) ∧
 ∃ n22 : Int,
 ((setCells w50 { block := k48, off := 0 } [.int .i64 n1] 0).cell? { block := k1, off := 0 } = some (.int .i64 n22)) ∧
 (∃ v59 : Value,
 (setCells w50 { block := k48, off := 0 } [.int .i64 n1] 0).cell? { block := k40, off := 0 } = some v59) ∧
 ((setCells w50 { block := k48, off := 0 } [.int .i64 n1] 0).frozen? { block := k40, off := 0 } = false) ∧
 I1 [.map (some k49), .pointer (some { block := k48, off := 0 }), .pointer (some { block := k40, off := 0 })] (setCells (setCells w50 { block := k48, off := 0 } [.int .i64 n1] 0) { block := k40, off := 0 } [.int .i64 (IntKind.i64.wrap (n22 + 2))] 0)) ∧
 ∃ n23 : Int,
 (w49.cell? { block := k1, off := 0 } = some (.int .i64 n23)) ∧
 ∀ (k50 : Nat) (w51 : World),
 (New w49 (Obj.map #[] 0) k50 w51) →
 (∃ v60 : Value,
 w51.cell? { block := k48, off := 0 } = some v60) ∧
 (w51.frozen? { block := k48, off := 0 } = false) ∧
 (∃ v61 : Value,
 (setCells w51 { block := k48, off := 0 } [.int .i64 n1] 0).cell? { block := k40, off := 0 } = some v61) ∧
 ((setCells w51 { block := k48, off := 0 } [.int .i64 n1] 0).frozen? { block := k40, off := 0 } = false) ∧
 I1 [.map (some k50), .pointer (some { block := k48, off := 0 }), .pointer (some { block := k40, off := 0 })] (setCells (setCells w51 { block := k48, off := 0 } [.int .i64 n1] 0) { block := k40, off := 0 } [.int .i64 (IntKind.i64.wrap (n23 + 2))] 0)) ∧
 ∀ (p2 : Option Nat) (p3 p4 : Option Addr) (w52 : World),
 (I1 [.map p2, .pointer p3, .pointer p4] w52) →
 ∃ p5 : Option Addr,
 (w52.cell? { block := k2, off := 0 } = some (.pointer p5)) ∧
 ∃ n24 : Int,
 (w52.cell? { block := k1, off := 0 } = some (.int .i64 n24)) ∧
 nn (p3) fun a1 =>
 ∃ n25 : Int,
 (w52.cell? a1 = some (.int .i64 n25)) ∧
 Calls P F.bits_Writer_Put #[.pointer p5, .int .u32 (IntKind.u32.wrap n24), .int .i64 n25] w52 fun e2 w53 =>
 ∃ n26 : Int,
 (e2 = .returned (.int .i64 n26)) ∧
 ∃ (I2 : List Value → World → Prop) (m1 : List Value → World → Nat),
 (I2 [.map p2, .int .i64 (-1), .bool false, .int .i64 0] w53) ∧
 ∀ (p6 : Option Nat) (n27 : Int) (c2 : Bool) (n28 : Int) (w54 : World),
 (I2 [.map p6, .int .i64 n27, .bool c2, .int .i64 n28] w54) →
 brB (decide (n28 < (sl1 : Int)))
 (∃ I3 : List Value → World → Prop,
 (idx (sa1) (sl1) (n28) (1) fun a2 =>
 ∃ n29 : Int,
 (w54.cell? a2 = some (.int .u8 n29)) ∧
 brB (decide (n27 < 0))
 (I3 [.map p6, .int .i64 (IntKind.i64.wrap n29), .bool c2] w54)
 (mapIn (Kd.agg [.i64, .u8]) (w54) (.map p6) fun l1 =>
 ∃ (n30 : Int) (c3 : Bool),
 (mgot l1 (.agg #[.int .i64 n27, .int .u8 n29]) (.int .i64 0) = (.int .i64 n30, c3)) ∧
 brB (c3)
 (I3 [.map p6, .int .i64 n30, .bool c2] w54)
 (Calls P F.lzw_kind_pack_fn1 #[.int .i64 n27, .bool c2, .pointer (some { block := k2, off := 0 }), .pointer p3, .pointer p4, .pointer (some { block := k1, off := 0 })] w54 fun e3 w55 =>
 (e3 = .returned (.tuple #[])) ∧
 nn (p4) fun a3 =>
 ∃ n31 : Int,
 (w55.cell? a3 = some (.int .i64 n31)) ∧
 mapTo (Kd.agg [.i64, .u8]) (w55) (.map p6) fun b1 l2 =>
 ∀ w56 : World,
 (Put b1 w55 w56) →
 (Mp (Kd.agg [.i64, .u8]) w56 b1 (mput (.agg #[.int .i64 n27, .int .u8 n29]) (.int .i64 n31) l2)) →
 nn (p4) fun a4 =>
 ∃ n32 : Int,
 (w56.cell? a4 = some (.int .i64 n32)) ∧
 brB (decide (n32 ≥ 4090))
 (∃ p7 : Option Addr,
 (w56.cell? { block := k2, off := 0 } = some (.pointer p7)) ∧
 ∃ n33 : Int,
 (w56.cell? { block := k1, off := 0 } = some (.int .i64 n33)) ∧
 nn (p3) fun a5 =>
 ∃ n34 : Int,
 (w56.cell? a5 = some (.int .i64 n34)) ∧
 Calls P F.bits_Writer_Put #[.pointer p7, .int .u32 (IntKind.u32.wrap n33), .int .i64 n34] w56 fun e4 w57 =>
 ∃ n35 : Int,
 (e4 = .returned (.int .i64 n35)) ∧
 ∃ n36 : Int,
 (w57.drew.cell? { block := k1, off := 1 } = some (.int .i64 n36)) ∧
 (∀ k51 : Nat,
 ∀ w58 : World,
 (New (w57.drew) (Obj.map #[] 0) k51 w58) →
 (∃ n37 : Int,
 (w58.cell? { block := k1, off := 0 } = some (.int .i64 n37)) ∧
 nn (p3) fun a6 =>
 (∃ v62 : Value,
 w58.cell? a6 = some v62) ∧
 (w58.frozen? a6 = false) ∧
 nn (p4) fun a7 =>
 (∃ v63 : Value,
 (setCells w58 a6 [.int .i64 n36] 0).cell? a7 = some v63) ∧
 ((setCells w58 a6 [.int .i64 n36] 0).frozen? a7 = false) ∧
 I3 [.map (some k51), .int .i64 (IntKind.i64.wrap n29), .bool false] (setCells (setCells w58 a6 [.int .i64 n36] 0) a7 [.int .i64 (IntKind.i64.wrap (n37 + 2))] 0)) ∧
 nn (p3) fun a8 =>
 (∃ v64 : Value,
 w58.cell? a8 = some v64) ∧
 (w58.frozen? a8 = false) ∧
 ∃ n38 : Int,
 ((setCells w58 a8 [.int .i64 n36] 0).cell? { block := k1, off := 0 } = some (.int .i64 n38)) ∧
 nn (p4) fun a9 =>
 (∃ v65 : Value,
 (setCells w58 a8 [.int .i64 n36] 0).cell? a9 = some v65) ∧
 ((setCells w58 a8 [.int .i64 n36] 0).frozen? a9 = false) ∧
 I3 [.map (some k51), .int .i64 (IntKind.i64.wrap n29), .bool false] (setCells (setCells w58 a8 [.int .i64 n36] 0) a9 [.int .i64 (IntKind.i64.wrap (n38 + 2))] 0)) ∧
 ∃ n39 : Int,
 (w57.drew.cell? { block := k1, off := 0 } = some (.int .i64 n39)) ∧
 ∀ (k52 : Nat) (w59 : World),
 (New (w57.drew) (Obj.map #[] 0) k52 w59) →
 nn (p3) fun a10 =>
 (∃ v66 : Value,
 w59.cell? a10 = some v66) ∧
 (w59.frozen? a10 = false) ∧
 nn (p4) fun a11 =>
 (∃ v67 : Value,
 (setCells w59 a10 [.int .i64 n36] 0).cell? a11 = some v67) ∧
 ((setCells w59 a10 [.int .i64 n36] 0).frozen? a11 = false) ∧
 I3 [.map (some k52), .int .i64 (IntKind.i64.wrap n29), .bool false] (setCells (setCells w59 a10 [.int .i64 n36] 0) a11 [.int .i64 (IntKind.i64.wrap (n39 + 2))] 0))
 (I3 [.map p6, .int .i64 (IntKind.i64.wrap n29), .bool true] w56)))) ∧
 ∀ (p8 : Option Nat) (n40 : Int) (c4 : Bool) (w60 : World),
 (I3 [.map p8, .int .i64 n40, .bool c4] w60) →
 (I2 [.map p8, .int .i64 n40, .bool c4, .int .i64 (IntKind.i64.wrap (n28 + 1))] w60) ∧
 m1 [.map p8, .int .i64 n40, .bool c4, .int .i64 (IntKind.i64.wrap (n28 + 1))] w60 < m1 [.map p6, .int .i64 n27, .bool c2, .int .i64 n28] w54)
 (∃ I4 : List Value → World → Prop,
 (brB (decide (n27 ≥ 0))
 (Calls P F.lzw_kind_pack_fn1 #[.int .i64 n27, .bool c2, .pointer (some { block := k2, off := 0 }), .pointer p3, .pointer p4, .pointer (some { block := k1, off := 0 })] w54 fun e5 w61 =>
 (e5 = .returned (.tuple #[])) ∧
 I4 [] w61)
 (I4 [] w54)) ∧
 ∀ w62 : World,
 (I4 [] w62) →
 ∃ p9 : Option Addr,
 (w62.cell? { block := k2, off := 0 } = some (.pointer p9)) ∧
 ∃ n41 : Int,
 (w62.cell? { block := k1, off := 0 } = some (.int .i64 n41)) ∧
 nn (p3) fun a12 =>
 ∃ n42 : Int,
 (w62.cell? a12 = some (.int .i64 n42)) ∧
 Calls P F.bits_Writer_Put #[.pointer p9, .int .u32 (IntKind.u32.wrap (IntKind.i64.wrap (n41 + 1))), .int .i64 n42] w62 fun e6 w63 =>
 ∃ n43 : Int,
 (e6 = .returned (.int .i64 n43)) ∧
 ∃ p10 : Option Addr,
 (w63.cell? { block := k2, off := 0 } = some (.pointer p10)) ∧
 Calls P F.bits_Writer_Bytes #[.pointer p10] w63 fun e7 w64 =>
 ∃ (p11 : Option Addr) (k53 k54 : Nat),
 (e7 = .returned (.slice p11 k53 k54)) ∧
 R (.returned (.slice p11 k53 k54)) w64)
theorem calls_lzw_kind_pack (x1 x2 : Int) (b1 : Bool) (x3 : Int) (sa1 : Option Addr) (sl1 sc1 : Nat) (w : World) (R : Ending → World → Prop) (h : vc_lzw_kind_pack x1 x2 b1 x3 sa1 sl1 sc1 w R) : Calls P F.lzw_kind_pack #[.agg #[.int .i64 x1, .int .i64 x2, .bool b1, .int .i64 x3], .slice sa1 sl1 sc1] w R :=
  calls_of_vc (ac := ac_lzw_kind_pack) mixed Tryz.func58 (by kernel_rfl) (cast (by unfold vc_lzw_kind_pack FnVc; kernel_rfl) h)
end Go.Proofs.YtiiaihiliimcoaaGreat
namespace Go.Proofs.YtiiaihiliimcoaaGreat
open Go Go.Vc Go.RowKit
set_option maxRecDepth 100000
def KI (w : World) (k1 k2 kw kn wb : Nat) (bs : List Int) (cl w0 early : Nat) (up : Bool) (res : List Int) (i : Nat) (vs : List Value) (u : World) : Prop := match vs with
 | [.map (some km), .int _ at_, .bool fr] => ∃ (S : Nat → Prop) (E : List (Nat × Int)) (wd : Nat) (ato : Option Nat) (bsW : List Int) (m : Nat),
   KM w u k1 k2 kw kn km wb S cl w0 early up (kvsOf E (cl + 2)) wd (cl + 2 + (E.length - 1)) bsW m ∧ at_ = ahI ato ∧ fr = decide (E.length ≠ 0) ∧ cl + 2 + E.length ≤ 4090 ∧ 1 ≤ wd ∧ wd ≤ 12 ∧ (∀ a, ato = some a → a < 4096) ∧
   (putAll up (pk cl w0 early (bs.drop i) E wd ato) (bsW, m)).1 = res ∧ m ≤ 24 * i + 12 ∧ i ≤ bs.length
 | _ => False
set_option maxHeartbeats 8000000 in
theorem packK_spec {N cl w0 early : Nat} {up : Bool} {w : World} {base : Option Addr} {len cap : Nat} {bs : List Int} {R : Ending → World → Prop}
  (h : Sl N w base (bytes bs)) (hl : len = bs.length) (hsz : len ≤ 2 ^ 24) (hf : Bs bs) (hcl : cl ≤ 256) (hw1 : 1 ≤ w0) (hw2 : w0 ≤ 12) (he : early ≤ 1)
  (hR : ∀ p l c w', Fg [] w w' 1 p l c (bytes (packL bs cl w0 early up)) → R (.returned (.slice p l c)) w') :
  Calls P F.lzw_kind_pack #[.agg #[i64 cl, i64 w0, .bool up, i64 early], .slice base len cap] w R := by
 refine calls_lzw_kind_pack _ _ _ _ _ _ _ _ _ ?_
 unfold vc_lzw_kind_pack
 generalize hres : packL bs cl w0 early up = res at hR
 unfold packL at hres
 intro k1 w1 hn1
 have hk1 := hn1.1
 have hs1 := hn1.size
 have he1 := hn1.ext.size
 refine ⟨up, hn1.cs.cell (i := 2) rfl, ?_⟩
 refine NewWriter_spec fun wb w2 hE2 hwb hw2' => ⟨_, rfl, fun k2 w3 hn3 => ?_⟩
 have hs2 := hE2.size
 have hwl := hw2'.lt
 have hk2 := hn3.1
 have hs3 := hn3.size
 have he3 := hn3.ext.size
 refine ⟨⟨_, hn3.cs.cell (i := 0) rfl⟩, hn3.cs.frozen 0, ?_⟩
 have hC4 := Chg.setCells w3 ⟨k2, 0, none⟩ [.pointer (some ⟨wb, 0, none⟩)] 0
 have e4 : ∀ {k : Nat}, (· = (⟨k2, 0, none⟩ : Addr).block) k → k = k2 := fun h => h
 have hs4 := hC4.size
 have hsz4 : (setCells w3 ⟨k2, 0, none⟩ [.pointer (some ⟨wb, 0, none⟩)] 0).heap.size = w3.heap.size := (setCells_same _ _ _ _).size
 have hE12 := hn1.ext.trans hE2
 have hE3 : Ext w w3 := hE12.trans hn3.ext
 have hE4 : Ext w (setCells w3 ⟨k2, 0, none⟩ [.pointer (some ⟨wb, 0, none⟩)] 0).drew := (hE3.step hC4 fun i hi => by have := e4 hi; omega).drew
 have ck4 : Cs (setCells w3 ⟨k2, 0, none⟩ [.pointer (some ⟨wb, 0, none⟩)] 0).drew k1 [i64 cl, i64 w0, .bool up, i64 early] :=
  (((hn1.cs.ext hE2).ext hn3.ext).chg hC4 fun hi => by have := e4 hi; omega).drew
 have cr4 : Cs (setCells w3 ⟨k2, 0, none⟩ [.pointer (some ⟨wb, 0, none⟩)] 0).drew k2 [.pointer (some ⟨wb, 0, none⟩)] := by
  have := hn3.cs.set1 (off := 0) (v := .pointer (some ⟨wb, 0, none⟩)) (by simp)
  exact (show Cs _ _ _ by simpa using this).drew
 have wr4 : WrAt (setCells w3 ⟨k2, 0, none⟩ [.pointer (some ⟨wb, 0, none⟩)] 0).drew (some ⟨wb, 0, none⟩) wb (fun _ => False) [] 0 up :=
  ((hw2'.ext hn3.ext).chg hC4 (fun hi => by have := e4 hi; omega) (fun _ h => h.elim)).ext (Ext.refl _).drew
 generalize (setCells w3 ⟨k2, 0, none⟩ [.pointer (some ⟨wb, 0, none⟩)] 0).drew = u0 at *
 have hlo : w.heap.size ≤ k1 ∧ w.heap.size ≤ k2 ∧ w.heap.size ≤ wb := by omega
 have hnd : k1 ≠ k2 ∧ k1 ≠ wb ∧ k2 ≠ wb := by omega
 have hI0 := IS.init u0
 refine ⟨fun vs u => match vs with | [.map (some km), .pointer (some pw), .pointer (some pn)] => ∃ kw kn, pw = ⟨kw, 0, none⟩ ∧ pn = ⟨kn, 0, none⟩ ∧ KM w u k1 k2 kw kn km wb (fun _ => False) cl w0 early up [] w0 (cl + 2) [] 0 | _ => False, ?_, ?_⟩
 ·have fin : ∀ {a b km : Nat} {u : World} {cs : List Nat}, IS u0 [km] cs u → a ∈ cs → b ∈ cs → a ≠ b → ∃ kw kn, (⟨a, 0, none⟩ : Addr) = ⟨kw, 0, none⟩ ∧ (⟨b, 0, none⟩ : Addr) = ⟨kn, 0, none⟩ ∧
    KM w (setCells (setCells u ⟨a, 0, none⟩ [i64 w0] 0) ⟨b, 0, none⟩ [i64 (IntKind.i64.wrap ((cl : Int) + 2))] 0) k1 k2 kw kn km wb (fun _ => False) cl w0 early up [] w0 (cl + 2) [] 0 := fun hI ha hb hab =>
   ⟨_, _, rfl, rfl, hI.fin ha hb hab hE4 ck4 cr4 wr4 hlo hnd hcl⟩
  have hne : ∀ {ms cs : List Nat} {u : World} {a b : Nat}, IS u0 ms (a :: b :: cs) u → a ≠ b := fun hI e => by
   have := hI.nd
   subst e
   simp at this
  have l0 : ∀ {ms cs : List Nat} {u : World}, IS u0 ms cs u → u.cell? ⟨k1, 0, none⟩ = some (i64 cl) := fun hI => hI.ld ck4 rfl
  have l1 : ∀ {ms cs : List Nat} {u : World}, IS u0 ms cs u → u.cell? ⟨k1, 1, none⟩ = some (i64 w0) := fun hI => hI.ld ck4 rfl
  clear hres h hR
  repeat' first
   | (intro k u hn; have hI := IS.map (by assumption) hn; clear hn)
   | (intro k u hn; have hI := IS.cell (by assumption) hn; clear hn)
   | exact fin (by assumption) (by simp) (by simp) (hne (by assumption))
   | exact fin (by assumption) (by simp) (by simp) (hne (by assumption)).symm
   | exact IS.ex (by assumption) (by simp)
   | exact IS.ex (IS.st (by assumption) (by simp)) (by simp)
   | exact IS.fz (by assumption) (by simp)
   | exact IS.fz (IS.st (by assumption) (by simp)) (by simp)
   | refine ⟨_, l1 (by assumption), ?_⟩
   | refine ⟨_, l0 (by assumption), ?_⟩
   | refine ⟨_, l0 (IS.st (by assumption) (by simp)), ?_⟩
   | refine And.intro ?_ ?_
 intro p2 p3 p4 w52 hI1
 obtain ⟨km, rfl⟩ : ∃ km, p2 = some km := by cases p2 with | none => exact hI1.elim | some km => exact ⟨km, rfl⟩
 obtain ⟨pw, rfl⟩ : ∃ pw, p3 = some pw := by cases p3 with | none => exact hI1.elim | some pw => exact ⟨pw, rfl⟩
 obtain ⟨pn, rfl⟩ : ∃ pn, p4 = some pn := by cases p4 with | none => exact hI1.elim | some pn => exact ⟨pn, rfl⟩
 obtain ⟨kw, kn, rfl, rfl, km52⟩ := hI1
 clear hI0 ck4 cr4 wr4 hE4
 refine ⟨_, km52.cr.cell (i := 0) rfl, _, km52.ck.cell (i := 0) rfl, nn_i rfl ⟨_, km52.cw.cell (i := 0) rfl, ?_⟩⟩
 rw [wu32 (x := (cl : Int)) (by omega) (by omega)]
 refine Put_spec km52.wr km52.ok (by omega) (by omega) (by omega) (fun hh => by omega) fun _ _ S1 w53 hg1 hC1 hwr1 => ⟨_, rfl, ?_⟩
 rw [Int.toNat_natCast] at hwr1
 have km53 := km52.put hg1 hC1 hwr1 (by have := putV_ok (v := cl) (n := w0) km52.ok w0; exact this)
 rw [putAll] at hres
 refine ⟨fun vs u => match vs with | [.map p6, .int k a, .bool fr, .int _ i] => ∃ n : Nat, i = n ∧ KI w k1 k2 kw kn wb bs cl w0 early up res n [.map p6, .int k a, .bool fr] u | _ => False,
  fun vs _ => match vs with | [.map _, .int _ _, .bool _, .int _ i] => (bs.length - i).toNat | _ => 0, ⟨0, rfl, S1, [], w0, none, _, _, km53, rfl, rfl, by simp; omega, hw1, hw2, by simp, hres, by omega, by omega⟩, ?_⟩
 intro p6 n27 c2 n28 w54 hI2
 obtain ⟨i, rfl, hI2⟩ := hI2
 obtain ⟨km', rfl⟩ : ∃ km, p6 = some km := by cases p6 with | none => exact hI2.elim | some km => exact ⟨km, rfl⟩
 obtain ⟨S, E, wd, ato, bsW, m, km54, rfl, rfl, hE90, hwd1, hwd2, hat, hpk, hm, hi⟩ := hI2
 clear km52 km53 hres hwr1 hg1 hC1
 have hputA : ∀ {a : Nat} {R' : Ending → World → Prop}, a < 4096 → (∀ S' u', KM w u' k1 k2 kw kn km' wb S' cl w0 early up (kvsOf E (cl + 2)) (wdA cl early E wd) (cl + 2 + E.length) (putV up bsW m a wd wd) (m + wd) → R' (.returned (.tuple #[])) u') →
   Calls P F.lzw_kind_pack_fn1 #[i64 a, .bool (decide (E.length ≠ 0)), .pointer (some ⟨k2, 0, none⟩), .pointer (some ⟨kw, 0, none⟩), .pointer (some ⟨kn, 0, none⟩), .pointer (some ⟨k1, 0, none⟩)] w54 R' := fun {a R'} ha hK => by
  refine putF_spec km54 (by omega) hwd1 hwd2 (by omega) (by omega) he fun S' u' hkm => hK S' u' ?_
  by_cases hE0 : E.length = 0
  ·simp only [hE0, ne_eq, not_true_eq_false, decide_false, Bool.false_eq_true, if_false] at hkm
   unfold wdA
   rw [if_pos hE0, hE0]; exact hkm
  ·simp only [hE0, ne_eq, not_false_eq_true, decide_true, if_true] at hkm
   unfold wdA
   rw [if_neg hE0, show cl + 2 + E.length = cl + 2 + (E.length - 1) + 1 by omega]; exact hkm
 refine brB_i (fun hb => ?_) (fun hb => ?_)
 ·have hb : (i : Int) < len := by simpa using hb
  have hil : i < bs.length := by omega
  have hxr : 0 ≤ bs.getD i 0 ∧ bs.getD i 0 ≤ 255 := by
   obtain ⟨v, h1, h2⟩ := getD_fit hf i
   omega
  rw [drop_cons_of hil] at hpk
  generalize hxv : bs.getD i 0 = x at *
  have hxe : x = (x.toNat : Int) := by omega
  refine ⟨fun vs u => KI w k1 k2 kw kn wb bs cl w0 early up res (i + 1) vs u, ?_, fun p8 n40 c4 w60 hI3 => ?_⟩
  rotate_left
  ·rw [w64 (x := (i : Int) + 1) (by omega) (by omega)]
   exact ⟨⟨i + 1, by omega, hI3⟩, by show ((bs.length : Int) - (i + 1)).toNat < ((bs.length : Int) - i).toNat; omega⟩
  refine (h.ext km54.ext).get (by omega) (by rw [bytes_length]; omega) (v := u8 x) (by rw [Int.toNat_natCast, bytes_get hil, hxv]) fun a2 ha2 => ⟨_, ha2, ?_⟩
  rw [w64 (x := x) (by omega) (by omega)]
  cases ato with
  | none =>
   refine brB_t (by simp [ahI]) ⟨S, E, wd, some x.toNat, bsW, m, km54, hxe, rfl, hE90, hwd1, hwd2, fun a ha => by cases ha; omega, hpk, by omega, by omega⟩
  | some a =>
   have ha4 := hat a rfl
   refine brB_f (decide_eq_false (by show ¬ (a : Int) < 0; omega)) ⟨_, km54.mp, ?_⟩
   have hkey : (Value.agg #[i64 (ahI (some a)), u8 x]) = keyP a x := rfl
   rw [hkey]
   rw [pk] at hpk
   cases hfd : fnd a x E (cl + 2) with
   | some c =>
    rw [hfd] at hpk
    have hfc := fnd_some hfd
    refine ⟨c, true, by unfold mgot; rw [mfind_P, hfd]; rfl, brB_t rfl ⟨S, E, wd, some c, bsW, m, km54, rfl, rfl, hE90, hwd1, hwd2, fun a ha => by cases ha; omega, hpk, by omega, by omega⟩⟩
   | none =>
    rw [hfd] at hpk
    simp only at hpk
    have hwdr := wdA_range (cl := cl) (early := early) (E := E) hwd1 hwd2
    refine ⟨0, false, by unfold mgot; rw [mfind_P, hfd]; rfl, brB_f rfl ?_⟩
    refine hputA ha4 fun S5 w55 km55 => ⟨rfl, nn_i rfl ⟨_, km55.cn.cell (i := 0) rfl, _, km55.mp, fun w56 hP56 hm56 => ?_⟩⟩
    rw [mput_P a x E (cl + 2) hfd] at hm56
    have km56 := km55.setm hP56 hm56
    refine nn_i rfl ⟨_, km56.cn.cell (i := 0) rfl, brB_i (fun hb2 => ?_) (fun hb2 => ?_)⟩
    ·have hb2 : 4090 ≤ cl + 2 + E.length := by
      have : ((cl + 2 + E.length : Nat) : Int) ≥ 4090 := by simpa using hb2
      omega
     rw [if_pos hb2, putAll, putAll] at hpk
     refine ⟨_, km56.cr.cell (i := 0) rfl, _, km56.ck.cell (i := 0) rfl, nn_i rfl ⟨_, km56.cw.cell (i := 0) rfl, ?_⟩⟩
     rw [wu32 (x := (cl : Int)) (by omega) (by omega)]
     refine Put_spec km56.wr km56.ok (by omega) (by omega) (by omega) (fun hh => by omega) fun _ _ S7 w57 hg7 hC7 hwr7 => ⟨_, rfl, ?_⟩
     rw [Int.toNat_natCast] at hwr7
     have km57 := (km56.put hg7 hC7 hwr7 (by have := putV_ok (v := cl) (n := wdA cl early E wd) km56.ok (wdA cl early E wd); exact this)).dr
     have hfin : ∀ (k51 : Nat) (w58 : World), New w57.drew (.map #[] 0) k51 w58 → KM w w58 k1 k2 kw kn k51 wb S7 cl w0 early up [] (wdA cl early E wd) (cl + 2 + E.length) (putV up (putV up bsW m a wd wd) (m + wd) cl (wdA cl early E wd) (wdA cl early E wd)) (m + wd + wdA cl early E wd) ∧
       KI w k1 k2 kw kn wb bs cl w0 early up res (i + 1) [.map (some k51), i64 x, .bool false] (setCells (setCells w58 ⟨kw, 0, none⟩ [i64 w0] 0) ⟨kn, 0, none⟩ [i64 (IntKind.i64.wrap ((cl : Int) + 2))] 0) := fun k51 w58 hn58 => by
      have km58 := km57.newm hn58
      refine ⟨km58, S7, [], w0, some x.toNat, _, _, ?_, hxe, rfl, by simp; omega, hw1, hw2, fun a ha => by cases ha; omega, hpk, by omega, by omega⟩
      rw [w64 (by omega) (by omega)]
      exact (km58.setw w0).setn (cl + 2)
     refine ⟨_, km57.ck.cell (i := 1) rfl, fun k51 w58 hn58 => ?_, _, km57.ck.cell (i := 0) rfl, fun k52 w59 hn59 => ?_⟩
     ·obtain ⟨km58, hki⟩ := hfin k51 w58 hn58
      have kmw := km58.setw w0
      refine ⟨⟨_, km58.ck.cell (i := 0) rfl, nn_i rfl ⟨⟨_, km58.cw.cell (i := 0) rfl⟩, km58.cw.frozen 0, nn_i rfl ⟨⟨_, kmw.cn.cell (i := 0) rfl⟩, kmw.cn.frozen 0, hki⟩⟩⟩,
       nn_i rfl ⟨⟨_, km58.cw.cell (i := 0) rfl⟩, km58.cw.frozen 0, _, kmw.ck.cell (i := 0) rfl, nn_i rfl ⟨⟨_, kmw.cn.cell (i := 0) rfl⟩, kmw.cn.frozen 0, hki⟩⟩⟩
     ·obtain ⟨km58, hki⟩ := hfin k52 w59 hn59
      have kmw := km58.setw w0
      exact nn_i rfl ⟨⟨_, km58.cw.cell (i := 0) rfl⟩, km58.cw.frozen 0, nn_i rfl ⟨⟨_, kmw.cn.cell (i := 0) rfl⟩, kmw.cn.frozen 0, hki⟩⟩
    ·have hb2 : ¬ 4090 ≤ cl + 2 + E.length := by
      have : ¬ ((cl + 2 + E.length : Nat) : Int) ≥ 4090 := by simpa using hb2
      omega
     rw [if_neg hb2, putAll] at hpk
     refine ⟨S5, E ++ [(a, x)], wdA cl early E wd, some x.toNat, _, _, ?_, hxe, by simp, by simp; omega, hwdr.1, hwdr.2, fun a ha => by cases ha; omega, hpk, by omega, by omega⟩
     rw [show (E ++ [(a, x)]).length - 1 = E.length by simp]; exact km56
 ·have hb : ¬ (i : Int) < len := by simpa using hb
  rw [List.drop_of_length_le (by omega)] at hpk
  have hwdr := wdA_range (cl := cl) (early := early) (E := E) hwd1 hwd2
  refine ⟨fun vs u => vs = [] ∧ ∃ S wd nx bsW m, KM w u k1 k2 kw kn km' wb S cl w0 early up (kvsOf E (cl + 2)) wd nx bsW m ∧ putV up bsW m (cl + 1 : Nat) wd wd = res ∧ 1 ≤ wd ∧ wd ≤ 12 ∧ m ≤ 2 ^ 40, ?_, ?_⟩
  ·cases ato with
   | none =>
    refine brB_f (by simp [ahI]) ⟨rfl, S, wd, _, bsW, m, km54, by simpa [pk, putAll] using hpk, hwd1, hwd2, by omega⟩
   | some a =>
    refine brB_t (by simp [ahI]) (hputA (hat a rfl) fun S5 w55 km55 => ⟨rfl, rfl, S5, _, _, _, _, km55, by simpa [pk, putAll] using hpk, hwdr.1, hwdr.2, by omega⟩)
  ·intro w62 hI4
   obtain ⟨-, S6, wd6, nx6, bs6, m6, km62, hr, hwd61, hwd62, hm6⟩ := hI4
   refine ⟨_, km62.cr.cell (i := 0) rfl, _, km62.ck.cell (i := 0) rfl, nn_i rfl ⟨_, km62.cw.cell (i := 0) rfl, ?_⟩⟩
   rw [w64 (x := (cl : Int) + 1) (by omega) (by omega), wu32 (x := (cl : Int) + 1) (by omega) (by omega), show (cl : Int) + 1 = ((cl + 1 : Nat) : Int) by omega]
   refine Put_spec km62.wr km62.ok (by omega) (by omega) (by omega) (fun hh => by omega) fun _ _ S7 w63 hg7 hC7 hwr7 => ⟨_, rfl, ?_⟩
   rw [Int.toNat_natCast] at hwr7
   have hok7 := putV_ok (v := (cl + 1 : Nat)) (n := wd6) km62.ok wd6
   have km63 := km62.put hg7 hC7 hwr7 hok7
   refine ⟨_, km63.cr.cell (i := 0) rfl, ?_⟩
   have hlen := hok7.hi
   refine WBytes_spec km63.wr (by omega) fun p k w64' hE64 ho64 => ⟨_, _, _, rfl, ?_⟩
   have hfg := Fg.ofOw (bs := []) ho64 km63.ext hE64 (by simp)
   rw [hr] at hfg ⊢
   exact hR _ _ _ _ hfg
end Go.Proofs.YtiiaihiliimcoaaGreat
namespace Go.Proofs.YtiiaihiliimcoaaGreat
open Go Go.Vc Go.RowKit
set_option maxRecDepth 100000
def gfitsB (bs : List Int) (size : Int) : Bool := bs.all fun x => decide (x < 2 ^ size.toNat)
def gifPackR (bs : List Int) (size : Int) : List Int × Int := if size < 2 ∨ size > 8 then ([], 2) else if gfitsB bs size then (packL bs (2 ^ size.toNat) (size.toNat + 1) 0 false, 0) else ([], 2)
theorem fitsB_iff {bs : List Int} {size : Int} : gfitsB bs size = true ↔ ∀ i, i < bs.length → bs.getD i 0 < 2 ^ size.toNat := by
 unfold gfitsB
 rw [List.all_eq_true]
 constructor
 ·intro h i hi
  have := h (bs.getD i 0) (by simp [List.getD, List.getElem?_eq_getElem hi])
  simpa using this
 ·intro h x hx
  obtain ⟨i, hi, rfl⟩ := List.getElem_of_mem hx
  have := h i hi
  simpa [List.getD, List.getElem?_eq_getElem hi] using this
section
variable {N : Nat} {size : Int} {w : World} {base : Option Addr} {len cap : Nat} {bs : List Int} {R : Ending → World → Prop}
theorem GifPack_spec (h : Sl N w base (bytes bs)) (hl : len = bs.length) (hsz : len ≤ 2 ^ 24) (hf : Bs bs)
  (hR : ∀ p l c w', Fg [] w w' 1 p l c (bytes (gifPackR bs size).1) → R (.returned (.tuple #[.slice p l c, i64 (gifPackR bs size).2])) w') :
  Calls P F.lzw_GifPack #[.slice base len cap, i64 size] w R := by
 refine calls_lzw_GifPack _ _ _ _ _ _ ?_
 refine brB_i (fun hb => ?_) (fun hb => ?_)
 ·have hb : size < 2 ∨ size > 8 := by simpa using hb
  rw [gifPackR, if_pos hb] at hR
  exact hR none 0 0 w (Fg.nil (Ext.refl w) 1)
 have hb : ¬ (size < 2 ∨ size > 8) := by simpa using hb
 rw [gifPackR, if_neg hb] at hR
 obtain ⟨n, rfl⟩ := Int.eq_ofNat_of_zero_le (show 0 ≤ size by omega)
 rw [Int.toNat_natCast] at hR
 have hp := pow8 n (by omega) (by omega)
 refine ⟨fun vs u => match vs with | [.int _ k] => ∃ i : Nat, k = i ∧ i ≤ bs.length ∧ Ext w u ∧ ∀ j, j < i → bs.getD j 0 < 2 ^ n | _ => False, fun vs _ => match vs with | [.int _ k] => (bs.length - k).toNat | _ => 0, ⟨0, rfl, by omega, Ext.refl w, by simp⟩, fun k w1 hI => ?_⟩
 obtain ⟨i, rfl, hi, hE1, hall⟩ := hI
 have e2 : ((2 : Int) ^ n) = ((2 ^ n : Nat) : Int) := by simp
 refine brB_i (fun hlt => ?_) (fun hge => ?_)
 ·have hlt : (i : Int) < len := by simpa using hlt
  have hil : i < bs.length := by omega
  have hxr : 0 ≤ bs.getD i 0 ∧ bs.getD i 0 ≤ 255 := by
   obtain ⟨v, h1, h2⟩ := getD_fit hf i
   omega
  refine (h.ext hE1).get (by omega) (by rw [bytes_length]; omega) (v := u8 (bs.getD i 0)) (by rw [Int.toNat_natCast, bytes_get hil]) fun a ha => ⟨_, ha, by omega, ?_⟩
  rw [w64 (x := bs.getD i 0) (by omega) (by omega), shl8 n (by omega)]
  refine brB_i (fun hb2 => ?_) (fun hb2 => ?_)
  ·have hb2 : bs.getD i 0 ≥ ((2 ^ n : Nat) : Int) := by simpa using hb2
   have : gfitsB bs (n : Int) = false := by
    rw [← Bool.not_eq_true, fitsB_iff]
    intro hh
    have := hh i hil
    rw [Int.toNat_natCast] at this; omega
   rw [this] at hR
   exact hR none 0 0 w1 (Fg.nil hE1 1)
  ·have hb2 : ¬ bs.getD i 0 ≥ ((2 ^ n : Nat) : Int) := by simpa using hb2
   rw [w64 (by omega) (by omega)]
   refine ⟨⟨i + 1, by omega, by omega, hE1, fun j hj => ?_⟩, by show ((bs.length : Int) - (i + 1)).toNat < ((bs.length : Int) - i).toNat; omega⟩
   by_cases hji : j < i
   ·exact hall j hji
   ·have : j = i := by omega
    subst this; omega
 ·have hge : ¬ (i : Int) < len := by simpa using hge
  have : gfitsB bs (n : Int) = true := by
   rw [fitsB_iff, Int.toNat_natCast]
   exact fun j hj => hall j (by omega)
  rw [this] at hR
  simp only [if_true] at hR
  refine gif_spec (by omega) (by omega) fun w2 hE2 => ⟨_, _, _, _, rfl, ?_⟩
  have hE := hE1.trans hE2
  exact packK_spec (early := 0) (h.ext hE) hl hsz hf hp.2 (by omega) (by omega) (by omega) fun p l c w3 hF => ⟨_, _, _, rfl, hR p l c w3 (hF.from (bs := []) hE (by simp))⟩
end
end Go.Proofs.YtiiaihiliimcoaaGreat
