/- LZW: the program's table and its reader. -/
import Derived.Test.YtlbokiaolmflaaaLZ0
namespace Go.Proofs.Ytlbokiaolmflaaa
open Go Go.Vc Go.RowKit
set_option maxRecDepth 100000
set_option linter.unusedVariables false
set_option linter.unusedSimpArgs false

theorem cellsF_append {α : Type} (f : α → List Value) (a b : List α) : cellsF f (a ++ b) = cellsF f a ++ cellsF f b := by simp [cellsF]
theorem cellsF_one {α : Type} (f : α → List Value) (a : α) : cellsF f [a] = f a := by simp [cellsF]
theorem cellsF_take {α : Type} {f : α → List Value} {sz : Nat} (hf : ∀ a, (f a).length = sz) (xs : List α) (n : Nat) : (cellsF f xs).take (n * sz) = cellsF f (xs.take n) := by
  rcases Nat.lt_or_ge xs.length n with h | h
  · rw [List.take_of_length_le (by rw [cellsF_length hf]; exact Nat.mul_le_mul_right _ (by omega)), List.take_of_length_le (by omega)]
  · have h1 : cellsF f xs = cellsF f (xs.take n) ++ cellsF f (xs.drop n) := by rw [← cellsF_append, List.take_append_drop]
    have h2 : (cellsF f (xs.take n)).length = n * sz := by rw [cellsF_length hf, List.length_take]; congr 1; omega
    rw [h1, ← h2, List.take_left]
theorem cellsF_drop {α : Type} {f : α → List Value} {sz : Nat} (hf : ∀ a, (f a).length = sz) (xs : List α) (n : Nat) : (cellsF f xs).drop (n * sz) = cellsF f (xs.drop n) := by
  have h1 : cellsF f xs = cellsF f (xs.take n) ++ cellsF f (xs.drop n) := by rw [← cellsF_append, List.take_append_drop]
  have h3 := cellsF_take hf xs n
  have h4 : cellsF f (xs.take n) ++ (cellsF f xs).drop (n * sz) = cellsF f (xs.take n) ++ cellsF f (xs.drop n) := by rw [← h1, ← h3, List.take_append_drop]
  exact List.append_cancel_left h4
theorem cellsF_set {α : Type} {f : α → List Value} {sz : Nat} (hf : ∀ a, (f a).length = sz) {xs : List α} {i : Nat} (hi : i < xs.length) (a : α) : (cellsF f xs).take (i * sz) ++ f a ++ (cellsF f xs).drop (i * sz + (f a).length) = cellsF f (xs.set i a) := by
  rw [hf, show i * sz + sz = (i + 1) * sz by rw [Nat.add_mul]; omega, cellsF_take hf, cellsF_drop hf, List.set_eq_take_append_cons_drop, if_pos hi, ← cellsF_one f a, ← cellsF_append, ← cellsF_append]
  simp
theorem ent_length (e : En) : (ent e).length = 4 := rfl
theorem rep_cells {α : Type} (f : α → List Value) (n : Nat) (c : α) : rep n (f c) = cellsF f (List.replicate n c) := by
  induction n with
  | zero => rfl
  | succ n ih => rw [List.replicate_succ, rep, ih]; simp [cellsF]
def fromK (cl k : Nat) : List En := (List.range k).map (fun i : Nat => ((-1, (i : Int), (i : Int), 1) : En)) ++ List.replicate (4096 - k) (0, 0, 0, 0)
theorem fromK_length (cl k : Nat) (h : k ≤ 4096) : (fromK cl k).length = 4096 := by simp [fromK]; omega
theorem fromK_next (cl k : Nat) (h : k < 4096) : (fromK cl k).set k (-1, (k : Int), (k : Int), 1) = fromK cl (k + 1) := by
  unfold fromK
  rw [List.set_append_right _ _ (by simp), List.range_succ, List.map_append]
  simp only [List.length_map, List.length_range, Nat.sub_self]
  rw [show 4096 - k = (4096 - (k + 1)) + 1 by omega, List.replicate_succ]
  simp
theorem fromK_bases (cl : Nat) (h : cl + 2 ≤ 4096) : fromK cl cl = bases cl ++ List.replicate (4096 - (cl + 2)) (0, 0, 0, 0) := by
  unfold fromK bases
  rw [show 4096 - cl = (4096 - (cl + 2)) + 2 by omega, List.replicate_succ, List.replicate_succ, List.append_assoc]; rfl
theorem entries_spec {cl : Nat} {x2 x3 : Int} {up : Bool} {w : World} {R : Ending → World → Prop} (hcl : cl ≤ 256)
    (hR : ∀ p w', Ext w w' → Ow w.heap.size w'.heap.size w' p (cl + 2) 4096 4 (cellsF ent (tabL cl [] [])) → R (.returned (.slice p (cl + 2) 4096)) w') :
    Calls P F.lzw_kind_entries #[.agg #[i64 cl, i64 x2, .bool up, i64 x3]] w R := by
  refine calls_lzw_kind_entries _ _ _ _ _ _ ?_
  intro k1 hk1 w1 hL1
  rw [w64 (x := (cl : Int) + 2) (by omega) (by omega)]
  refine ⟨by omega, by omega, by omega, by omega, fun k2 w2 hn => ?_⟩
  have hE1 : Ext w w1 := hL1.ext (by simpa using hk1)
  have hs1 := hE1.size
  have hk2 := hn.1
  have hk1lt := hL1.there k1 (by simp)
  have hc := hn.cs
  rw [mkCells_rep, show [i64 0, u8 0, u8 0, i64 0] = ent (0, 0, 0, 0) from rfl, rep_cells] at hc
  refine ⟨fun vs u => match vs with | [.int _ n] => 0 ≤ n ∧ n ≤ cl ∧ Ext w u ∧ Cs u k2 (cellsF ent (fromK cl n.toNat)) | _ => False,
    fun vs _ => match vs with | [.int _ n] => ((cl : Int) - n).toNat | _ => 0, ⟨by omega, by omega, hE1.trans hn.ext, by simpa [fromK] using hc⟩, fun n u hI => ?_⟩
  obtain ⟨n0, n1, hE, hcs⟩ := hI
  refine brB_i (fun hlt => ?_) (fun hge => ?_)
  · have hlt : n < cl := by simpa using hlt
    have hcl4 := fromK_length cl n.toNat (by omega)
    have hset := hcs.canSet (off := n.toNat * 4) (n := 4) (by rw [cellsF_length ent_length, hcl4]; omega)
    have hnew := hcs.set (off := n.toNat * 4) (us := ent (-1, n, n, 1)) (by rw [cellsF_length ent_length, hcl4, ent_length]; omega)
    rw [cellsF_set ent_length (by rw [hcl4]; omega)] at hnew
    have e : (n.toNat : Int) = n := by omega
    have hfn := fromK_next cl n.toNat (by omega)
    rw [e] at hfn
    rw [hfn] at hnew
    refine idx_i n0 (by omega) rfl ?_
    rw [loc_add]
    simp only [Nat.zero_add] at *
    have hu : IntKind.u8.wrap n = n := wu8 n0 (by omega)
    have h0 := hset 0 (by omega)
    rw [loc_add] at h0
    refine ⟨h0.1, h0.2, (hset 1 (by omega)).1, (hset 1 (by omega)).2, (hset 2 (by omega)).1, (hset 2 (by omega)).2, (hset 3 (by omega)).1, (hset 3 (by omega)).2, by simp; omega, ?_⟩
    rw [w64 (x := n + 1) (by omega) (by omega), hu]
    have hck := Chg.setCells u ⟨k2, n.toNat * 4, none⟩ (ent (-1, n, n, 1)) 0
    refine ⟨⟨by omega, by omega, hE.step hck fun i hi => by have hi : i = k2 := hi; omega, ?_⟩, by show (_ : Nat) < _; omega⟩
    rw [show (n + 1).toNat = n.toNat + 1 by omega]
    exact hnew
  · have hge : ¬ n < cl := by simpa using hge
    have e : n.toNat = cl := by omega
    rw [e, fromK_bases cl (by omega), cellsF_append] at hcs
    rw [show ((cl : Int) + 2).toNat = cl + 2 by omega]
    refine hR _ _ hE ⟨?_, by omega, .inr ⟨k2, cellsF ent (List.replicate (4096 - (cl + 2)) (0, 0, 0, 0)), by omega, hcs.lt, rfl, ?_, ?_⟩⟩
    · rw [cellsF_length ent_length, tabL_length rfl]; simp
    · rw [cellsF_length ent_length, cellsF_length ent_length, tabL_length rfl]; simp; omega
    · simpa [tabL] using hcs
end Go.Proofs.Ytlbokiaolmflaaa
