/- LZW: what its codes mean, by a table of strings; the program's table of entries. -/
import Derived.Test.YtlbokiaolmflaaaLB6
namespace Go.Proofs.Ytlbokiaolmflaaa
open Go Go.Vc Go.RowKit
set_option maxRecDepth 100000
set_option linter.unusedVariables false
set_option linter.unusedSimpArgs false

def strOf (cl : Nat) (T : List (List Int)) (c : Nat) : List Int := if c < cl then [(c : Int)] else T.getD (c - cl - 2) []
structure LS where
  pos : Nat
  wd : Nat
  ah : Option Nat
  A : List Nat
  T : List (List Int)
  out : List Int
def wid (early n wd : Nat) : Nat := if n + 1 + early = 2 ^ wd ∧ wd < 12 then wd + 1 else wd
/-- what the codes from a place on give: bytes and a fault -/
def lz (bs : List Int) (up : Bool) (cl w0 early : Nat) (most : Int) : Nat → LS → List Int × Int
  | 0, _ => ([], 5)
  | F + 1, s =>
    if 8 * bs.length < s.pos + s.wd then ([], 5) else
    let v := (takeV bs up s.pos s.wd).toNat
    if v = cl then lz bs up cl w0 early most F ⟨s.pos + s.wd, w0, none, [], [], s.out⟩
    else if v = cl + 1 then (s.out, 0)
    else match s.ah with
      | none => if cl < v then ([], 32) else
        if most < (s.out.length + 1 : Nat) then ([], 3) else lz bs up cl w0 early most F ⟨s.pos + s.wd, s.wd, some v, s.A, s.T, s.out ++ [(v : Int)]⟩
      | some a =>
        if cl + 2 + s.T.length < v ∨ (v = cl + 2 + s.T.length ∧ 4096 ≤ cl + 2 + s.T.length) then ([], 32) else
        let t := if v = cl + 2 + s.T.length then strOf cl s.T a ++ [(strOf cl s.T a).headD 0] else strOf cl s.T v
        if most < (s.out.length + t.length : Nat) then ([], 3) else
        if cl + 2 + s.T.length < 4096 then lz bs up cl w0 early most F ⟨s.pos + s.wd, wid early (cl + 2 + s.T.length) s.wd, some v, s.A ++ [a], s.T ++ [strOf cl s.T a ++ [t.headD 0]], s.out ++ t⟩
        else lz bs up cl w0 early most F ⟨s.pos + s.wd, s.wd, some v, s.A, s.T, s.out ++ t⟩
def vcode (cl n : Nat) (c : Nat) : Prop := c < cl ∨ (cl + 2 ≤ c ∧ c < cl + 2 + n)
theorem vcode.mono {cl n m c : Nat} (h : vcode cl n c) (hnm : n ≤ m) : vcode cl m c := by unfold vcode at *; omega
structure Inv (cl : Nat) (s : LS) : Prop where
  cl256 : cl ≤ 256
  cl4 : 4 ≤ cl
  wd1 : 1 ≤ s.wd
  wd12 : s.wd ≤ 12
  full : cl + 2 + s.T.length ≤ 4096
  la : s.A.length = s.T.length
  tab : ∀ j, j < s.T.length → vcode cl j (s.A.getD j 0) ∧ (∃ l, s.T.getD j [] = strOf cl s.T (s.A.getD j 0) ++ [l]) ∧ (s.T.getD j []).length ≤ j + 2 ∧ Bs (s.T.getD j [])
  ahv : ∀ a, s.ah = some a → vcode cl s.T.length a
  none_ : s.ah = none → s.T = []
  fit : Bs s.out
  long : s.out.length ≤ 4096 * s.pos
theorem strOf_lt {cl c : Nat} (T : List (List Int)) (h : c < cl) : strOf cl T c = [(c : Int)] := by simp [strOf, h]
theorem strOf_ge {cl c : Nat} (T : List (List Int)) (h : cl + 2 ≤ c) : strOf cl T c = T.getD (c - cl - 2) [] := by
  have : ¬ c < cl := by omega
  simp [strOf, this]
theorem strOf_app {cl c : Nat} {T : List (List Int)} (x : List (List Int)) (h : vcode cl T.length c) : strOf cl (T ++ x) c = strOf cl T c := by
  unfold strOf
  split
  · rfl
  · have : c - cl - 2 < T.length := by unfold vcode at h; omega
    simp [List.getD, List.getElem?_append_left this]
theorem Inv.str {cl : Nat} {s : LS} (h : Inv cl s) {c : Nat} (hc : vcode cl s.T.length c) : Bs (strOf cl s.T c) ∧ 1 ≤ (strOf cl s.T c).length ∧ (strOf cl s.T c).length ≤ 4096 := by
  have h1 := h.cl256
  have h2 := h.full
  rcases hc with hc | hc
  · rw [strOf_lt _ hc]
    refine ⟨fun n hn => ?_, by simp, by simp⟩
    simp at hn; omega
  · rw [strOf_ge _ hc.1]
    obtain ⟨h3, ⟨l, h4⟩, h5, h6⟩ := h.tab (c - cl - 2) (by omega)
    refine ⟨h6, ?_, by omega⟩
    rw [h4]; simp
theorem getD_append_last {α : Type} (l : List α) (a d : α) : (l ++ [a]).getD l.length d = a := by simp [List.getD]
theorem getD_append_lt {α : Type} {l : List α} {i : Nat} (h : i < l.length) (x : List α) (d : α) : (l ++ x).getD i d = l.getD i d := by simp [List.getD, List.getElem?_append_left h]
theorem wid_range {early n wd : Nat} (h1 : 1 ≤ wd) (h : wd ≤ 12) : 1 ≤ wid early n wd ∧ wid early n wd ≤ 12 := by unfold wid; split <;> omega
theorem Bs.append {a b : List Int} (ha : Bs a) (hb : Bs b) : Bs (a ++ b) := fun n hn => by rcases List.mem_append.1 hn with h | h; exact ha n h; exact hb n h
theorem Bs.headD {a : List Int} (ha : Bs a) : 0 ≤ a.headD 0 ∧ a.headD 0 ≤ 255 := by cases a with | nil => simp | cons x l => exact ha x (by simp)
theorem Bs.single {n : Int} (h : 0 ≤ n ∧ n ≤ 255) : Bs [n] := fun m hm => by simp at hm; subst hm; exact h
/-- the first code behind a sign -/
theorem Inv.first {cl : Nat} {s : LS} (h : Inv cl s) {v : Nat} (hv : v < cl) : Inv cl ⟨s.pos + s.wd, s.wd, some v, s.A, s.T, s.out ++ [(v : Int)]⟩ := by
  have h1 := h.cl256
  have h2 := h.long
  have h3 := h.wd1
  exact ⟨h.cl256, h.cl4, h.wd1, h.wd12, h.full, h.la, h.tab, fun a ha => (by cases ha; exact .inl hv), fun e => (by cases e), h.fit.append (Bs.single (by omega)), by simp only [List.length_append, List.length_singleton]; omega⟩
theorem Inv.clear {cl w0 : Nat} {s : LS} (h : Inv cl s) (h1 : 1 ≤ w0) (h2 : w0 ≤ 12) : Inv cl ⟨s.pos + s.wd, w0, none, [], [], s.out⟩ := by
  have h3 := h.long
  have := h.cl256
  exact ⟨h.cl256, h.cl4, h1, h2, by simp; omega, rfl, by simp, by simp, fun _ => rfl, h.fit, by simp only; omega⟩
/-- the string that a code gives -/
def givenS (cl : Nat) (s : LS) (a v : Nat) : List Int := if v = cl + 2 + s.T.length then strOf cl s.T a ++ [(strOf cl s.T a).headD 0] else strOf cl s.T v
theorem Inv.given {cl : Nat} {s : LS} (h : Inv cl s) {a v : Nat} (ha : s.ah = some a) (hv : vcode cl (s.T.length + 1) v) (hf : v = cl + 2 + s.T.length → cl + 2 + s.T.length < 4096) : Bs (givenS cl s a v) ∧ 1 ≤ (givenS cl s a v).length ∧ (givenS cl s a v).length ≤ 4096 := by
  have hva := h.ahv a ha
  obtain ⟨s1, s2, s3⟩ := h.str hva
  unfold givenS
  split
  · rename_i e
    have h4 := hf e
    refine ⟨s1.append (Bs.single s1.headD), by simp, ?_⟩
    simp only [List.length_append, List.length_singleton]
    rcases hva with hva | hva
    · rw [strOf_lt _ hva]; simp
    · rw [strOf_ge _ hva.1]
      have := (h.tab (a - cl - 2) (by omega)).2.2.1
      omega
  · exact h.str (by unfold vcode at *; omega)
theorem Inv.next {cl early : Nat} {s : LS} (h : Inv cl s) {a v : Nat} (ha : s.ah = some a) (hv : vcode cl (s.T.length + 1) v) (hf : v = cl + 2 + s.T.length → cl + 2 + s.T.length < 4096) (hn : cl + 2 + s.T.length < 4096) :
    Inv cl ⟨s.pos + s.wd, wid early (cl + 2 + s.T.length) s.wd, some v, s.A ++ [a], s.T ++ [strOf cl s.T a ++ [(givenS cl s a v).headD 0]], s.out ++ givenS cl s a v⟩ := by
  have hva := h.ahv a ha
  obtain ⟨s1, s2, s3⟩ := h.str hva
  obtain ⟨g1, g2, g3⟩ := h.given ha hv hf
  have hw := wid_range (early := early) (n := cl + 2 + s.T.length) h.wd1 h.wd12
  have hl := h.long
  have hw1 := h.wd1
  refine ⟨h.cl256, h.cl4, hw.1, hw.2, by simp only [List.length_append, List.length_singleton]; omega, by simp [h.la], fun j hj => ?_, fun b hb => (by cases hb; simpa using hv), fun e => (by cases e), h.fit.append g1, by simp only [List.length_append]; omega⟩
  simp only [List.length_append, List.length_singleton] at hj
  by_cases hjl : j < s.T.length
  · obtain ⟨t1, ⟨l, t2⟩, t3, t4⟩ := h.tab j hjl
    simp only
    rw [getD_append_lt (by rw [h.la]; exact hjl), getD_append_lt hjl]
    exact ⟨t1, ⟨l, by rw [t2, strOf_app _ (t1.mono (by omega))]⟩, t3, t4⟩
  · have : j = s.T.length := by omega
    subst this
    simp only
    rw [getD_append_last, show (s.A ++ [a]).getD s.T.length 0 = a by rw [← h.la, getD_append_last]]
    refine ⟨hva, ⟨_, by rw [strOf_app _ hva]⟩, ?_, s1.append (Bs.single g1.headD)⟩
    simp only [List.length_append, List.length_singleton]
    rcases hva with hva | hva
    · rw [strOf_lt _ hva]; simp
    · rw [strOf_ge _ hva.1]
      have := (h.tab (a - cl - 2) (by omega)).2.2.1
      omega
theorem Inv.keep {cl : Nat} {s : LS} (h : Inv cl s) {a v : Nat} (ha : s.ah = some a) (hv : vcode cl (s.T.length + 1) v) (hn : cl + 2 + s.T.length = 4096) (hf : v ≠ cl + 2 + s.T.length) :
    Inv cl ⟨s.pos + s.wd, s.wd, some v, s.A, s.T, s.out ++ givenS cl s a v⟩ := by
  obtain ⟨g1, g2, g3⟩ := h.given ha hv (fun e => absurd e hf)
  have hl := h.long
  have hw1 := h.wd1
  exact ⟨h.cl256, h.cl4, h.wd1, h.wd12, h.full, h.la, h.tab, fun b hb => (by cases hb; unfold vcode at *; simp only; omega), fun e => (by cases e), h.fit.append g1, by simp only [List.length_append]; omega⟩
/-! ## the program's entries -/
abbrev En := Int × Int × Int × Int
def ent (e : En) : List Value := [i64 e.1, u8 e.2.1, u8 e.2.2.1, i64 e.2.2.2]
def enOf (a : Nat) (t : List Int) : En := ((a : Int), t.getLastD 0, t.headD 0, (t.length : Int))
def bases (cl : Nat) : List En := (List.range cl).map (fun i : Nat => ((-1, (i : Int), (i : Int), 1) : En)) ++ [(0, 0, 0, 0), (0, 0, 0, 0)]
def tabL (cl : Nat) (A : List Nat) (T : List (List Int)) : List En := bases cl ++ List.zipWith enOf A T
theorem bases_length (cl : Nat) : (bases cl).length = cl + 2 := by simp [bases]
theorem tabL_length {cl : Nat} {A : List Nat} {T : List (List Int)} (h : A.length = T.length) : (tabL cl A T).length = cl + 2 + T.length := by simp [tabL, bases_length, h]
theorem tabL_add {cl : Nat} {A : List Nat} {T : List (List Int)} (h : A.length = T.length) (a : Nat) (t : List Int) : tabL cl (A ++ [a]) (T ++ [t]) = tabL cl A T ++ [enOf a t] := by
  unfold tabL
  rw [List.zipWith_append h]
  simp
theorem tabL_cut {cl : Nat} {A : List Nat} {T : List (List Int)} : (tabL cl A T).take (cl + 2) = tabL cl [] [] := by
  unfold tabL
  rw [List.take_append_of_le_length (by rw [bases_length]; omega)]
  simp [← bases_length]
theorem Inv.at_ {cl : Nat} {s : LS} (h : Inv cl s) {c : Nat} (hc : vcode cl s.T.length c) :
    ∃ (a l : Int), (tabL cl s.A s.T)[c]? = some (a, l, (strOf cl s.T c).headD 0, ((strOf cl s.T c).length : Int)) ∧ ((a = -1 ∧ strOf cl s.T c = [l]) ∨ ∃ a' : Nat, a = a' ∧ vcode cl s.T.length a' ∧ a' < c ∧ strOf cl s.T c = strOf cl s.T a' ++ [l]) := by
  unfold tabL
  rcases hc with hc | hc
  · refine ⟨-1, c, ?_, .inl ⟨rfl, strOf_lt _ hc⟩⟩
    rw [List.getElem?_append_left (by rw [bases_length]; omega), bases, List.getElem?_append_left (by simpa using hc), strOf_lt _ hc]
    simp [hc]
  · have hj : c - cl - 2 < s.T.length := by omega
    obtain ⟨t1, ⟨l, t2⟩, t3, t4⟩ := h.tab (c - cl - 2) hj
    have hla := h.la
    refine ⟨(s.A.getD (c - cl - 2) 0 : Int), l, ?_, .inr ⟨s.A.getD (c - cl - 2) 0, rfl, t1.mono (by omega), by unfold vcode at t1; omega, by rw [strOf_ge _ hc.1]; exact t2⟩⟩
    rw [List.getElem?_append_right (by rw [bases_length]; omega), bases_length, strOf_ge _ hc.1, show c - (cl + 2) = c - cl - 2 by omega, List.getElem?_zipWith]
    have e1 : s.A[c - cl - 2]? = some (s.A.getD (c - cl - 2) 0) := by simp [List.getD, List.getElem?_eq_getElem (show c - cl - 2 < s.A.length by omega)]
    have e2 : s.T[c - cl - 2]? = some (s.T.getD (c - cl - 2) []) := by simp [List.getD, List.getElem?_eq_getElem hj]
    rw [e1, e2]
    simp only [enOf]
    have : (s.T.getD (c - cl - 2) []).getLastD 0 = l := by rw [t2]; simp
    rw [this]
end Go.Proofs.Ytlbokiaolmflaaa
