/- Numbers that are written into bytes; what is spoilt. -/
import Derived.Test.YtjdljddfiddnoaaDoorBX7
namespace Go.Proofs.YtjdljddfiddnoaaDoor
open Go Go.Vc Go.RowKit
set_option maxRecDepth 100000
set_option linter.unusedVariables false
set_option linter.unusedSimpArgs false

def byteAt (a n : Nat) (big : Bool) (v : Int) (j : Nat) : Int := (v / 256 ^ (if big then a + n - 1 - j else j - a)) % 256
/-- the bytes, those of A written -/
def setP (bs : List Int) (a n : Nat) (big : Bool) (v : Int) (A : Nat → Bool) : List Int := (List.range bs.length).map fun j => if A j then byteAt a n big v j else bs.getD j 0
def setV (bs : List Int) (a n : Nat) (big : Bool) (v : Int) : List Int := setP bs a n big v fun j => decide (a ≤ j ∧ j < a + n)
theorem setP_length (bs : List Int) (a n : Nat) (big : Bool) (v : Int) (A : Nat → Bool) : (setP bs a n big v A).length = bs.length := by simp [setP]
theorem setP_none (bs : List Int) (a n : Nat) (big : Bool) (v : Int) : setP bs a n big v (fun _ => false) = bs := by
  refine List.ext_getElem (by simp [setP]) fun i h1 h2 => ?_
  simp [setP, List.getD, h2]
theorem setP_step {bs : List Int} {a n : Nat} {big : Bool} {v : Int} {A B : Nat → Bool} {k : Nat} {x : Int} (hx : x = byteAt a n big v k) (hA : ∀ j, B j = (A j || decide (j = k))) : (setP bs a n big v A).set k x = setP bs a n big v B := by
  refine List.ext_getElem (by simp [setP]) fun i h1 h2 => ?_
  simp only [setP, List.getElem_set, List.getElem_map, List.getElem_range, hA]
  by_cases e : k = i
  · subst e; simp [hx]
  · simp [e, Ne.symm e]
theorem setP_congr {bs : List Int} {a n : Nat} {big : Bool} {v : Int} {A B : Nat → Bool} (h : ∀ j, A j = B j) : setP bs a n big v A = setP bs a n big v B := by rw [funext h]
theorem setP_fit {bs : List Int} {a n : Nat} {big : Bool} {v : Int} {A : Nat → Bool} (h : Bs bs) : Bs (setP bs a n big v A) := by
  intro x hx
  simp only [setP, List.mem_map] at hx
  obtain ⟨j, _, rfl⟩ := hx
  split
  · unfold byteAt; omega
  · exact fit_getD h j
theorem setV_getD {bs : List Int} {a n : Nat} {big : Bool} {v : Int} {j : Nat} (h1 : a ≤ j) (h2 : j < a + n) (h3 : a + n ≤ bs.length) : (setV bs a n big v).getD j 0 = byteAt a n big v j := by
  have : j < bs.length := by omega
  simp [setV, setP, List.getD, this, h1, h2]
theorem div_div (v : Int) (i : Nat) : v / 256 ^ i / 256 = v / 256 ^ (i + 1) := by rw [Int.pow_succ, Int.ediv_ediv_of_nonneg (Int.le_of_lt (Int.pow_pos (by omega)))]
/-- what was written is read -/
theorem getV_setV {bs : List Int} {a n : Nat} {big : Bool} {v : Int} (h1 : 1 ≤ n) (h4 : n ≤ 4) (h : a + n ≤ bs.length) : getV (setV bs a n big v) a n big = v % 256 ^ n := by
  have g : ∀ j, a ≤ j → j < a + n → (setV bs a n big v).getD j 0 = byteAt a n big v j := fun j x y => setV_getD x y h
  have c : n = 1 ∨ n = 2 ∨ n = 3 ∨ n = 4 := by omega
  cases big
  · rcases c with rfl | rfl | rfl | rfl <;> simp only [getV, litN, Bool.false_eq_true, if_false] <;>
      (simp only [g _ (by omega : a ≤ a) (by omega), g (a + 1) (by omega), g (a + 1 + 1) (by omega), g (a + 1 + 1 + 1) (by omega), byteAt, Bool.false_eq_true, if_false, Nat.sub_self, Nat.add_sub_cancel_left, Nat.lt_add_right_iff_pos, Nat.reduceLT,
        show a + 1 + 1 - a = 2 by omega, show a + 1 + 1 + 1 - a = 3 by omega, show a + 1 < a + 2 by omega, show a + 1 < a + 3 by omega, show a + 1 < a + 4 by omega, show a + 1 + 1 < a + 3 by omega, show a + 1 + 1 < a + 4 by omega, show a + 1 + 1 + 1 < a + 4 by omega]; simp <;> omega)
  · rcases c with rfl | rfl | rfl | rfl <;> simp only [getV, bigN, if_true] <;>
      (simp only [g (a + 0) (by omega) (by omega), g (a + 1) (by omega), g (a + 2) (by omega), g (a + 3) (by omega), byteAt, if_true,
        show a + 1 < a + 2 by omega, show a + 1 < a + 3 by omega, show a + 1 < a + 4 by omega, show a + 2 < a + 3 by omega, show a + 2 < a + 4 by omega, show a + 3 < a + 4 by omega,
        show a + 1 - 1 - (a + 0) = 0 by omega, show a + 2 - 1 - (a + 0) = 1 by omega, show a + 2 - 1 - (a + 1) = 0 by omega, show a + 3 - 1 - (a + 0) = 2 by omega, show a + 3 - 1 - (a + 1) = 1 by omega, show a + 3 - 1 - (a + 2) = 0 by omega,
        show a + 4 - 1 - (a + 0) = 3 by omega, show a + 4 - 1 - (a + 1) = 2 by omega, show a + 4 - 1 - (a + 2) = 1 by omega, show a + 4 - 1 - (a + 3) = 0 by omega]; simp <;> omega)
theorem bytes_set (xs : List Int) (i : Nat) (x : Int) : bytes (xs.set i x) = (bytes xs).set i (u8 x) := by simp [bytes]
theorem refSet_spec {N : Nat} {w : World} {base : Option Addr} {len cap : Nat} {bs : List Int} {a n v : Int} {big : Bool} {R : Ending → World → Prop} (h : Sl N w base (bytes bs)) (hl : len = bs.length) (hsz : len ≤ 2 ^ 47) (hf : Bs bs) (v0 : 0 ≤ v) (v1 : v < 4294967296)
    (h1 : thereE len a n ≠ 0 → R (.returned (.tuple #[.slice none 0 0, i64 (thereE len a n)])) w)
    (h2 : thereE len a n = 0 → ∀ p c w', Ext w w' → Ow w.heap.size w'.heap.size w' p len c 1 (bytes (setV bs a.toNat n.toNat big v)) → R (.returned (.tuple #[.slice p len c, i64 0])) w') :
    Calls P F.ref01_Set #[.slice base len cap, i64 a, i64 n, .bool big, .int .u32 v] w R := by
  refine calls_ref01_Set _ _ _ _ _ _ _ _ _ ?_
  refine refGet_spec h hl hsz hf (fun hne => ⟨_, _, rfl, brB_t (by simpa using hne) (h1 hne)⟩) (fun he => ⟨_, _, rfl, brB_f rfl ?_⟩)
  obtain ⟨n1, n4, a0, a1⟩ := thereE_0 he
  intro k1 w2 hnew
  refine ⟨bytes bs, by rw [bytes_length]; omega, bytes_oneAll _, (h.ext hnew.ext).cells, ?_⟩
  have hsz2 := hnew.ext.size
  refine (Ow.nil w.heap.size w2.heap.size w2 (some ⟨k1, 0, none⟩) 1).app (by simp [blocks]) hsz2 (Nat.le_refl _) rfl (by rw [bytes_length]; omega) (by omega) (by omega) fun p c w3 ho3 hc3 => ?_
  rw [Nat.zero_add] at ho3 ⊢
  rw [List.nil_append] at ho3
  have hE3 : Ext w w3 := hnew.ext.step hc3 fun i hi => hi.1
  refine ⟨fun l w' => match l with | [.int _ i] => 0 ≤ i ∧ i ≤ n ∧ Ext w w' ∧ Ow w.heap.size w'.heap.size w' p len c 1 (bytes (setP bs a.toNat n.toNat big v fun j => decide (a ≤ j ∧ j < a + i))) | _ => False,
    fun l _ => match l with | [.int _ i] => (n - i).toNat | _ => 0, ⟨by omega, by omega, hE3, ?_⟩, fun i w4 hI => ?_⟩
  · rw [setP_congr (B := fun _ => false) (by intro j; simp <;> omega), setP_none]; exact ho3
  obtain ⟨i0, i1, hE, ho⟩ := hI
  refine brB_i (fun hlt => ?_) (fun hge => ?_)
  · have hlt : i < n := by simpa using hlt
    refine ⟨fun l w' => match l with | [.int _ j] => j = (if big then n - 1 - i else i) ∧ w' = w4 | _ => False, ?_, fun j w5 hI => ?_⟩
    · refine brB_i (fun hb => ⟨?_, rfl⟩) (fun hb => ⟨?_, rfl⟩)
      · rw [w64 (x := n - 1) (by omega) (by omega), w64 (x := n - 1 - i) (by omega) (by omega), if_pos hb]
      · rw [if_neg (by simp [hb])]
    · obtain ⟨hj, rfl⟩ := hI
      have j0 : 0 ≤ j ∧ j ≤ 3 := by rw [hj]; split <;> omega
      obtain ⟨b, rfl, hb1, hb2⟩ := ho.base (by omega)
      obtain ⟨hu, hf5, hw⟩ := ho.write (i := (a + i).toNat) (by omega)
      have e8 : IntKind.u64.wrap (IntKind.i64.wrap (8 * j)) = 8 * j := by rw [w64 (by omega) (by omega)]; exact wu64 (by omega) (by omega)
      have hby : IntKind.u8.wrap (shiftZ .shr .u32 v (8 * j)) = byteAt a.toNat n.toNat big v (a + i).toNat := by
        rw [shiftZ_shr v0 (by omega) (by simp [IntKind.bits]; omega), wb8]
        have e2 : (2 : Int) ^ (8 * j).toNat = 256 ^ j.toNat := by
          rw [show (8 * j).toNat = 8 * j.toNat by omega, Int.pow_mul]; rfl
        rw [e2]
        unfold byteAt
        congr 3
        rw [hj]; cases big <;> simp <;> omega
      rw [e8, hby, w64 (x := a + i) (by omega) (by omega), w64 (x := i + 1) (by omega) (by omega)]
      refine ⟨by omega, idx_i (a := ⟨b, 0, none⟩) (by omega) (by omega) rfl ?_⟩
      rw [loc_add, Nat.mul_one, Nat.zero_add]
      obtain ⟨hw1, hw2⟩ := hw (u8 (byteAt a.toNat n.toNat big v (a + i).toNat))
      refine ⟨hu, hf5, ⟨by omega, by omega, hE.step hw2 fun j hj => by have hj : j = b := hj; omega, ?_⟩, ?_⟩
      · rw [← setP_step (A := fun j => decide (a ≤ j ∧ j < a + i)) (k := (a + i).toNat) rfl (by intro j; rw [Bool.eq_iff_iff]; simp; omega), bytes_set]
        exact hw1.mono (Nat.le_refl _) hw2.size
      · show (n - (i + 1)).toNat < (n - i).toNat
        omega
  · have hge : i = n := by simp at hge; omega
    subst hge
    refine h2 he p c w4 hE ?_
    rw [setP_congr (B := fun j => decide (a.toNat ≤ j ∧ j < a.toNat + i.toNat)) (by intro j; rw [Bool.eq_iff_iff]; simp; omega)] at ho
    exact ho
end Go.Proofs.YtjdljddfiddnoaaDoor
