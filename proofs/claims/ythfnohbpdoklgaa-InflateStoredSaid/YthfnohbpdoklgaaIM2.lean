/- Inflate: what is read, in plain words. -/
import Derived.Test.YthfnohbpdoklgaaIX5
namespace Go.Proofs.Ythfnohbpdoklgaa
open Go Go.Vc
set_option linter.unusedVariables false
set_option linter.unusedSimpArgs false

/-- a place, and what was written -/
abbrev Sx := Nat × List Int
def storedM (bs : List Int) (most : Int) (s : Sx) : Except Int Sx :=
  match tkM bs (8 * ((s.1 + 7) / 8)) 16 with
  | .error e => .error e
  | .ok (n, k2) => match tkM bs k2 16 with
    | .error e => .error e
    | .ok (m, k3) =>
      if m + n ≠ 65535 then .error 40
      else if (n : Int) > most - s.2.length then .error 3
      else if bs.length < (k3 + 7) / 8 + n then .error 5
      else .ok (8 * ((k3 + 7) / 8 + n), s.2 ++ part bs ((k3 + 7) / 8) n)
/-- where a group's symbol begins, and how many bits follow -/
def grpM (k size from_ : Nat) : Nat × Nat := if k < 2 * size then (from_ + k, 0) else (from_ + (size + k % size) * 2 ^ (k / size - 1), k / size - 1)
def copyM : Nat → Nat → List Int → List Int
  | 0, _, out => out
  | n + 1, far, out => copyM n far (out ++ [out.getD (out.length - far) 0])
theorem copyM_len (far : Nat) : ∀ n out, (copyM n far out).length = out.length + n
  | 0, _ => rfl
  | n + 1, out => by rw [copyM, copyM_len far n]; simp; omega
def lenM (v : Nat) : Nat × Nat := if v = 285 then (258, 0) else grpM (v - 257) 4 3
def matchM (bs : List Int) (most : Int) (dists : List Nat) (v : Nat) (s : Sx) : Except Int Sx :=
  if 285 < v then .error 32 else
  match tkM bs s.1 (lenM v).2 with
  | .error e => .error e
  | .ok (x, k1) => match nextM bs dists k1 with
    | .error e => .error e
    | .ok (d, k2) => if 29 < d then .error 32 else
      match tkM bs k2 (grpM d 2 1).2 with
      | .error e => .error e
      | .ok (y, k3) =>
        if s.2.length < (grpM d 2 1).1 + y then .error 42
        else if (((lenM v).1 + x : Nat) : Int) > most - s.2.length then .error 3
        else .ok (k3, copyM ((lenM v).1 + x) ((grpM d 2 1).1 + y) s.2)
def symF (bs : List Int) (most : Int) (lits dists : List Nat) : Nat → Sx → Except Int Sx
  | 0, _ => .error 0
  | f + 1, s => match nextM bs lits s.1 with
    | .error e => .error e
    | .ok (v, k1) =>
      if v = 256 then .ok (k1, s.2)
      else if v < 256 then (if 1 > most - s.2.length then .error 3 else symF bs most lits dists f (k1, s.2 ++ [(v : Int)]))
      else match matchM bs most dists v (k1, s.2) with
        | .error e => .error e
        | .ok s' => symF bs most lits dists f s'
def symM (bs : List Int) (most : Int) (lits dists : List Nat) (s : Sx) : Except Int Sx := symF bs most lits dists (8 * bs.length + 1) s
/-- how many symbols have codes; how many of them one bit long -/
def nzU (l : List Nat) : Nat → Nat
  | 0 => 0
  | i + 1 => nzU l i + if l.getD i 0 = 0 then 0 else 1
def onU (l : List Nat) : Nat → Nat
  | 0 => 0
  | i + 1 => onU l i + if l.getD i 0 = 1 then 1 else 0
def nzL (l : List Nat) : Nat := nzU l l.length
def onL (l : List Nat) : Nat := onU l l.length
def mayM (l : List Nat) (none_ : Bool) : Bool := decide (roomL l = 0) || (nzL l == 1 && onL l == 1) || (none_ && nzL l == 0)
def fixL : List Nat := List.replicate 144 8 ++ List.replicate 112 9 ++ List.replicate 24 7 ++ List.replicate 8 8
def fixD : List Nat := List.replicate 30 5
def ordL : List Nat := [16, 17, 18, 0, 8, 7, 9, 6, 10, 5, 11, 4, 12, 3, 13, 2, 14, 1, 15]
/-- the lengths of the code of lengths: the i-th of them is next, n are left -/
def lensF (bs : List Int) : Nat → Nat → Nat → List Nat → Except Int (List Nat × Nat)
  | 0, _, k, l => .ok (l, k)
  | n + 1, i, k, l => match tkM bs k 3 with
    | .error e => .error e
    | .ok (x, k1) => lensF bs n (i + 1) k1 (l.set (ordL.getD i 0) x)
/-- what a symbol of lengths says: how many, of which length -/
def rowS (bs : List Int) (row : List Nat) (v k : Nat) : Except Int (Nat × Nat × Nat) :=
  if v < 16 then .ok (1, v, k)
  else if v = 16 ∧ row.length = 0 then .error 41
  else match tkM bs k (if v = 17 then 3 else if v = 18 then 7 else 2) with
    | .error e => .error e
    | .ok (more, k1) => .ok ((if v = 18 then 11 else 3) + more, if v = 16 then row.getD (row.length - 1) 0 else 0, k1)
def rowF' (bs : List Int) (l : List Nat) (n : Nat) : Nat → List Nat → Nat → Except Int (List Nat × Nat)
  | 0, _, _ => .error 0
  | f + 1, row, k => if n ≤ row.length then .ok (row, k) else
    match nextM bs l k with
    | .error e => .error e
    | .ok (v, k1) => match rowS bs row v k1 with
      | .error e => .error e
      | .ok (many, x, k2) => if n - row.length < many then .error 41 else rowF' bs l n f (row ++ List.replicate many x) k2
def rowM (bs : List Int) (l : List Nat) (n : Nat) (k : Nat) : Except Int (List Nat × Nat) := rowF' bs l n (n + 1) [] k
def tabM (bs : List Int) (k : Nat) : Except Int (List Nat × List Nat × Nat) :=
  match tkM bs k 5 with
  | .error e => .error e
  | .ok (hl, k1) => match tkM bs k1 5 with
    | .error e => .error e
    | .ok (hd, k2) => match tkM bs k2 4 with
      | .error e => .error e
      | .ok (hc, k3) => if 29 < hl ∨ 29 < hd then .error 41 else
        match lensF bs (hc + 4) 0 k3 (List.replicate 19 0) with
        | .error e => .error e
        | .ok (l, k4) => if mayM l false = false then .error 41 else
          match rowM bs l (hl + 257 + hd + 1) k4 with
          | .error e => .error e
          | .ok (row, k5) =>
            if row.getD 256 0 = 0 ∨ mayM (row.take (hl + 257)) false = false ∨ mayM (row.drop (hl + 257)) true = false then .error 41
            else .ok (row.take (hl + 257), row.drop (hl + 257), k5)
def blockM (bs : List Int) (most : Int) (kind : Nat) (s : Sx) : Except Int Sx :=
  if kind = 0 then storedM bs most s
  else if kind = 1 then symM bs most fixL fixD s
  else if kind = 2 then (match tabM bs s.1 with
    | .error e => .error e
    | .ok (lits, dists, k) => symM bs most lits dists (k, s.2))
  else .error 40
def rawF (bs : List Int) (most : Int) : Nat → Sx → Except Int Sx
  | 0, _ => .error 0
  | f + 1, s => match tkM bs s.1 1 with
    | .error e => .error e
    | .ok (last, k1) => match tkM bs k1 2 with
      | .error e => .error e
      | .ok (kind, k2) => match blockM bs most kind (k2, s.2) with
        | .error e => .error e
        | .ok s' => if last = 1 then .ok s' else rawF bs most f s'
/-- out, used, error -/
def rawR (bs : List Int) (most : Int) : List Int × Nat × Int :=
  match rawF bs (max most 0) (8 * bs.length + 1) (0, []) with
  | .error e => ([], 0, e)
  | .ok (k, out) => (out, (k + 7) / 8, 0)

/-! ## Sizes -/
structure SxOk (bs : List Int) (most : Int) (s : Sx) : Prop where
  pos : s.1 ≤ 8 * bs.length
  few : (s.2.length : Int) ≤ most
  slow : s.2.length ≤ 258 * s.1
  fit : Bs s.2
theorem grp_bits {k size from_ : Nat} (hs : 1 ≤ size) (hk : k ≤ 29) : (grpM k size from_).2 ≤ 28 := by
  unfold grpM
  split
  · simp
  · have : k / size ≤ k := Nat.div_le_self _ _
    show k / size - 1 ≤ 28
    omega
theorem len_facts : ∀ v, v < 286 → 256 < v → 3 ≤ (lenM v).1 ∧ (lenM v).2 ≤ 5 ∧ (lenM v).1 + 2 ^ (lenM v).2 ≤ 259 := by decide +kernel
theorem dist_facts : ∀ d, d < 30 → 1 ≤ (grpM d 2 1).1 ∧ (grpM d 2 1).2 ≤ 13 ∧ (grpM d 2 1).1 + 2 ^ (grpM d 2 1).2 ≤ 32769 := by decide +kernel
theorem copyM_fit (far : Nat) : ∀ n out, Bs out → Bs (copyM n far out)
  | 0, _, h => h
  | n + 1, out, h => by
    refine copyM_fit far n _ fun x hx => ?_
    rcases List.mem_append.1 hx with hx | hx
    · exact h x hx
    · rw [List.mem_singleton.1 hx]
      exact fit_getD' h _
where fit_getD' {bs : List Int} (h : Bs bs) (i : Nat) : 0 ≤ bs.getD i 0 ∧ bs.getD i 0 ≤ 255 := by
        rw [List.getD_eq_getElem?_getD]
        cases e : bs[i]? with
        | none => simp
        | some x => exact h x (List.mem_of_getElem? e)
theorem part_fit {bs : List Int} (h : Bs bs) (a n : Nat) : Bs (part bs a n) := fun x hx => h x (List.mem_of_mem_drop (List.mem_of_mem_take hx))
theorem storedM_ok {bs : List Int} {most : Int} {s s' : Sx} (hf : Bs bs) (h : storedM bs most s = .ok s') (hs : SxOk bs most s) : SxOk bs most s' ∧ s.1 < s'.1 := by
  unfold storedM at h
  split at h
  · cases h
  rename_i n k2 h1
  split at h
  · cases h
  rename_i m k3 h2
  obtain ⟨a1, a2, a3, _⟩ := tkM_ok h1
  obtain ⟨b1, b2, b3, _⟩ := tkM_ok h2
  split at h
  · cases h
  split at h
  · cases h
  split at h
  · cases h
  rename_i c1 c2 c3
  cases h
  have hp := hs.pos
  have hsl := hs.slow
  have hpl : (part bs ((k3 + 7) / 8) n).length = n := part_length (by omega)
  refine ⟨⟨by simp only; omega, ?_, ?_, ?_⟩, by simp only; omega⟩
  · simp only [List.length_append, hpl]; omega
  · simp only [List.length_append, hpl]; omega
  · intro x hx
    rcases List.mem_append.1 hx with hx | hx
    · exact hs.fit x hx
    · exact part_fit hf _ _ x hx
theorem matchM_ok {bs : List Int} {most : Int} {dists : List Nat} {v : Nat} {s s' : Sx} (h : matchM bs most dists v s = .ok s') (hv : 256 < v) (hs : SxOk bs most s) : SxOk bs most s' ∧ s.1 < s'.1 := by
  unfold matchM at h
  split at h
  · cases h
  rename_i c1
  obtain ⟨g1, g2, g3⟩ := len_facts v (by omega) hv
  split at h
  · cases h
  rename_i x k1 h1
  obtain ⟨a1, a2, a3, _⟩ := tkM_ok h1
  split at h
  · cases h
  rename_i d k2 h2
  obtain ⟨b1, b2, b3, _⟩ := nextM_ok h2
  split at h
  · cases h
  rename_i c2
  split at h
  · cases h
  rename_i y k3 h3
  obtain ⟨d1, d2, d3, _⟩ := tkM_ok h3
  split at h
  · cases h
  split at h
  · cases h
  rename_i c3 c4
  cases h
  have hsl := hs.slow
  refine ⟨⟨by simp only; omega, ?_, ?_, copyM_fit _ _ _ hs.fit⟩, by simp only; omega⟩
  · simp only [copyM_len]; omega
  · simp only [copyM_len]; omega
theorem symF_ok {bs : List Int} {most : Int} {lits dists : List Nat} : ∀ {f : Nat} {s s' : Sx}, symF bs most lits dists f s = .ok s' → SxOk bs most s → SxOk bs most s' ∧ s.1 < s'.1
  | 0, s, s', h, _ => by cases h
  | f + 1, s, s', h, hs => by
    unfold symF at h
    split at h
    · cases h
    rename_i v k1 h1
    obtain ⟨a1, a2, a3, _⟩ := nextM_ok h1
    have hsl := hs.slow
    split at h
    · cases h
      exact ⟨⟨a2, hs.few, by simp only; omega, hs.fit⟩, a1⟩
    split at h
    · split at h
      · cases h
      rename_i c1 c2 c3
      have := symF_ok h ⟨a2, by simp only [List.length_append, List.length_cons, List.length_nil]; omega, by simp only [List.length_append, List.length_cons, List.length_nil]; omega, fun x hx => by
        rcases List.mem_append.1 hx with hx | hx
        · exact hs.fit x hx
        · rw [List.mem_singleton.1 hx]; omega⟩
      exact ⟨this.1, Nat.lt_trans a1 this.2⟩
    · split at h
      · cases h
      rename_i s1 h2
      obtain ⟨b1, b2⟩ := matchM_ok h2 (by omega) ⟨a2, hs.few, by simp only; omega, hs.fit⟩
      have := symF_ok h b1
      exact ⟨this.1, by have := this.2; simp only at b2; omega⟩
end Go.Proofs.Ythfnohbpdoklgaa
