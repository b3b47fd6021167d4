/- Inflate: rows of cells as functions; numbers in slices; the room that a code leaves. -/
import Derived.Test.YthfnohbpdoklgaaIM1
namespace Go.Proofs.Ythfnohbpdoklgaa
open Go Go.Vc Go.RowKit
set_option maxRecDepth 100000
set_option linter.unusedVariables false
set_option linter.unusedSimpArgs false

/-- numbers -/
def ni (l : List Nat) : List Value := l.map fun n => i64 ((n : Nat) : Int)
theorem ni_length (l : List Nat) : (ni l).length = l.length := by simp [ni]
theorem ni_append (a b : List Nat) : ni (a ++ b) = ni a ++ ni b := by simp [ni]
theorem ni_oneAll (l : List Nat) : oneAll (ni l) = true := by simp [oneAll, ni, Value.oneCell']
theorem ni_get {l : List Nat} {i : Nat} (h : i < l.length) : (ni l)[i]? = some (i64 ((l.getD i 0 : Nat) : Int)) := by simp [ni, List.getD, h]
/-- a row of N cells as a function of their places -/
def rowF (N : Nat) (G : Nat → Value) : List Value := (List.range N).map G
theorem rowF_length (N : Nat) (G : Nat → Value) : (rowF N G).length = N := by simp [rowF]
theorem rowF_get {N i : Nat} {G : Nat → Value} (h : i < N) : (rowF N G)[i]? = some (G i) := by simp [rowF, h]
theorem rowF_congr {N : Nat} {G H : Nat → Value} (h : ∀ i, i < N → G i = H i) : rowF N G = rowF N H := by
  unfold rowF
  exact List.map_congr_left fun i hi => h i (by simpa using hi)
theorem rowF_set {N i : Nat} {G H : Nat → Value} {v : Value} (hi : H i = v) (h : ∀ j, j < N → j ≠ i → H j = G j) : (rowF N G).set i v = rowF N H := by
  refine List.ext_getElem (by simp [rowF]) fun j h1 h2 => ?_
  have hj : j < N := by simpa [rowF] using h2
  rw [List.getElem_set]
  simp only [rowF, List.getElem_map, List.getElem_range]
  by_cases e : i = j
  · subst e; rw [if_pos rfl, hi]
  · rw [if_neg e, h j hj (fun e' => e e'.symm)]
/-- an append to a slice in blocks of S, behind what locals do -/
theorem OwnS.grow {S : Nat → Prop} {w w5 : World} {bs : List Nat} {l : List (Nat × Nat × List Value)} {base : Option Addr} {len cap n sz bytes : Nat} {elem : TypeId} {zero vs fs : List Value} {F : Option Addr → Nat → Nat → World → Prop}
    (h : OwnS S w base len cap sz vs) (hL : Locl bs w w5) (hb : ∀ b, b ∈ bs → w.heap.size ≤ b ∨ ¬ S b) (hS : ∀ i, w.heap.size ≤ i → S i) (hbl : ∀ b, b ∈ blocks l → b ∈ bs) (hz : zero.length = sz) (hn : fs.length = n * sz)
    (hby : (len + n) * bytes ≤ 2 ^ 47) (h62 : len + n < 2 ^ 62)
    (hF : ∀ base' cap' w6, OwnS (fun i => S i ∧ i ∉ bs) w6 base' (len + n) cap' sz (vs ++ fs) → Chg (fun i => S i ∨ i ∈ bs) w w6 → F base' (len + n) cap' w6) :
    appVC w5 l base len cap n sz bytes elem zero fs F := by
  have h1 : OwnS (fun i => S i ∧ i ∉ bs) w base len cap sz vs := OwnS.mono h fun i hi hlt => ⟨hi, fun hm => (hb i hm).elim (fun g => by omega) fun g => g hi⟩
  have h2 := OwnS.chg h1 hL.chg fun b hb _ hm => hb.2 hm
  have hs := hL.size
  refine OwnS.app h2 (fun b hb hs => hs.2 (hbl b hb)) hz hn hby h62 fun base' cap' w6 ho hc => hF base' cap' w6 (ho.mono fun i hi hlt => ?_) ?_
  · rcases hi with hi | hi
    · exact hi
    · exact ⟨hS i (by omega), fun hm => by have := hL.there i hm; omega⟩
  · exact (hL.chg.mono fun i hi _ => .inr hi).trans hc fun i hi _ => .inl hi.1

/-! ## The room that a code leaves -/
def roomU (l : List Nat) : Nat → Int
  | 0 => 65536
  | i + 1 => if 0 < l.getD i 0 then roomU l i - 2 ^ (16 - l.getD i 0) else roomU l i
def roomL (l : List Nat) : Int := roomU l l.length
theorem pow16 : ∀ n, n < 17 → (0 : Int) < 2 ^ n ∧ (2 : Int) ^ n ≤ 65536 := by decide
theorem roomU_le (l : List Nat) : ∀ i, roomU l i ≤ 65536 ∧ 65536 - 65536 * (i : Int) ≤ roomU l i
  | 0 => by simp [roomU]
  | i + 1 => by
    have ih := roomU_le l i
    obtain ⟨h1, h2⟩ := pow16 (16 - l.getD i 0) (by omega)
    unfold roomU
    split <;> omega
/-- lengths that may be -/
structure Lens (l : List Nat) : Prop where
  few : l.length ≤ 4096
  low : ∀ x, x ∈ l → x ≤ 16
theorem Lens.at {l : List Nat} (h : Lens l) (i : Nat) : l.getD i 0 ≤ 16 := by
  rw [List.getD_eq_getElem?_getD]
  cases e : l[i]? with
  | none => simp
  | some x => exact h.low x (List.mem_of_getElem? e)
theorem shl1 {n : Nat} (h : n ≤ 16) : shiftZ .shl .i64 1 ((n : Nat) : Int) = 2 ^ n := by
  rw [shiftZ_shl (by omega) (by show (n : Int) ≤ 64; omega), Int.one_mul, Int.toNat_natCast]
  obtain ⟨h1, h2⟩ := pow16 n (by omega)
  rw [w64 (by omega) (by omega)]
theorem Room_spec {N : Nat} {w : World} {p : Option Addr} {len cap : Nat} {l : List Nat} {R : Ending → World → Prop} (h : Sl N w p (ni l)) (hl : l.length = len) (hk : Lens l)
    (hR : R (.returned (.tuple #[i64 (roomL l), i64 0])) w) : Calls P F.prefix_Room #[.slice p len cap] w R := by
  subst hl
  have hf := hk.few
  refine calls_prefix_Room _ _ _ _ _ ?_
  refine brB_f (decide_eq_false (by omega)) ?_
  refine ⟨fun vs u => u = w ∧ ∃ i : Nat, i ≤ l.length ∧ vs = [i64 (roomU l i), i64 i], fun vs _ => match vs with | [_, .int _ i] => (l.length - i).toNat | _ => 0, ⟨rfl, 0, Nat.zero_le _, rfl⟩, fun n1 n2 w1 hI => ?_⟩
  obtain ⟨rfl, i, hi, hv⟩ := hI
  simp only [List.cons.injEq, Value.int.injEq, true_and, and_true] at hv
  obtain ⟨rfl, rfl⟩ := hv
  have hru := roomU_le l i
  refine brB_i (fun hlt => ?_) fun hge => ?_
  · have hlt : i < l.length := by simp at hlt; omega
    have hx := hk.at i
    have hru' := roomU_le l (i + 1)
    refine ⟨fun vs u => u = w1 ∧ vs = [i64 (roomU l (i + 1))], ?_, fun n4 w2 hI => ?_⟩
    · refine h.get (by omega) (ni_length l) (by rw [Int.toNat_natCast]; exact ni_get hlt) fun a ha => ⟨_, ha, ?_⟩
      refine brB_f (by rw [Bool.or_eq_false_iff]; exact ⟨decide_eq_false (by omega), decide_eq_false (by omega)⟩) ?_
      have e : IntKind.i64.wrap (16 - ((l.getD i 0 : Nat) : Int)) = ((16 - l.getD i 0 : Nat) : Int) := by rw [w64 (by omega) (by omega)]; omega
      refine brB_i (fun h0 => ?_) fun h0 => ?_
      · have h0 : 0 < l.getD i 0 := by have := of_decide_eq_true h0; omega
        rw [e, shl1 (by omega)]
        have er : roomU l (i + 1) = roomU l i - 2 ^ (16 - l.getD i 0) := by rw [roomU, if_pos h0]
        refine ⟨by omega, rfl, ?_⟩
        rw [← er, w64 (by omega) (by omega)]
      · have h0 : ¬ 0 < l.getD i 0 := by have := of_decide_eq_false h0; omega
        exact ⟨rfl, by rw [roomU, if_neg h0]⟩
    · obtain ⟨rfl, hv⟩ := hI
      obtain rfl : n4 = roomU l (i + 1) := by simpa using hv
      rw [w64 (x := (i : Int) + 1) (by omega) (by omega)]
      exact ⟨⟨rfl, i + 1, hlt, by simp⟩, by show ((l.length : Int) - ((i : Int) + 1)).toNat < ((l.length : Int) - i).toNat; omega⟩
  · have : i = l.length := by simp at hge; omega
    subst this
    exact hR
theorem u64w {x : Int} (h0 : 0 ≤ x) (h1 : x ≤ 16) : IntKind.u64.wrap x = x := wu64 h0 (by omega)
theorem refRoom_spec {N : Nat} {w : World} {p : Option Addr} {len cap : Nat} {l : List Nat} {R : Ending → World → Prop} (h : Sl N w p (ni l)) (hl : l.length = len) (hk : Lens l)
    (hR : R (.returned (.tuple #[i64 (roomL l), i64 0])) w) : Calls P F.ref03_Room #[.slice p len cap] w R := by
  subst hl
  have hf := hk.few
  refine calls_ref03_Room _ _ _ _ _ ?_
  refine brB_f (decide_eq_false (by omega)) ?_
  refine ⟨fun vs u => u = w ∧ ∃ i : Nat, i ≤ l.length ∧ vs = [i64 (roomU l i), i64 i], fun vs _ => match vs with | [_, .int _ i] => (l.length - i).toNat | _ => 0, ⟨rfl, 0, Nat.zero_le _, rfl⟩, fun n1 n2 w1 hI => ?_⟩
  obtain ⟨rfl, i, hi, hv⟩ := hI
  simp only [List.cons.injEq, Value.int.injEq, true_and, and_true] at hv
  obtain ⟨rfl, rfl⟩ := hv
  have hru := roomU_le l i
  refine brB_i (fun hlt => ?_) fun hge => ?_
  · have hlt : i < l.length := by simp at hlt; omega
    have hx := hk.at i
    have hru' := roomU_le l (i + 1)
    have get : ∀ {F : Addr → Prop}, (∀ a, w1.cell? a = some (i64 ((l.getD i 0 : Nat) : Int)) → F a) → idx p l.length (i : Int) 1 F := fun hF =>
      h.get (by omega) (ni_length l) (by rw [Int.toNat_natCast]; exact ni_get hlt) hF
    refine ⟨fun vs u => u = w1 ∧ vs = [i64 (roomU l (i + 1))], ?_, fun n4 w2 hI => ?_⟩
    · refine get fun a ha => ⟨_, ha, brB_f (decide_eq_false (by omega)) ?_⟩
      refine get fun a ha => ⟨_, ha, brB_f (decide_eq_false (by omega)) ?_⟩
      refine get fun a ha => ⟨_, ha, ?_⟩
      have e : IntKind.u64.wrap (IntKind.i64.wrap (16 - ((l.getD i 0 : Nat) : Int))) = ((16 - l.getD i 0 : Nat) : Int) := by rw [w64 (by omega) (by omega), u64w (by omega) (by omega)]; omega
      refine brB_i (fun h0 => ?_) fun h0 => ?_
      · have h0 : 0 < l.getD i 0 := by have := of_decide_eq_true h0; omega
        refine get fun a ha => ⟨_, ha, ?_⟩
        rw [e, shl1 (by omega)]
        have er : roomU l (i + 1) = roomU l i - 2 ^ (16 - l.getD i 0) := by rw [roomU, if_pos h0]
        refine ⟨by omega, rfl, ?_⟩
        rw [← er, w64 (by omega) (by omega)]
      · have h0 : ¬ 0 < l.getD i 0 := by have := of_decide_eq_false h0; omega
        exact ⟨rfl, by rw [roomU, if_neg h0]⟩
    · obtain ⟨rfl, hv⟩ := hI
      obtain rfl : n4 = roomU l (i + 1) := by simpa using hv
      rw [w64 (x := (i : Int) + 1) (by omega) (by omega)]
      exact ⟨⟨rfl, i + 1, hlt, by simp⟩, by show ((l.length : Int) - ((i : Int) + 1)).toNat < ((l.length : Int) - i).toNat; omega⟩
  · have : i = l.length := by simp at hge; omega
    subst this
    exact hR
theorem checked_spec {N : Nat} {w : World} {p : Option Addr} {len cap : Nat} {l : List Nat} {R : Ending → World → Prop} (h : Sl N w p (ni l)) (hl : l.length = len) (hk : Lens l) (h0 : 0 ≤ roomL l)
    (hR : R (.returned (i64 0)) w) : Calls P F.prefix_checked #[.slice p len cap] w R := by
  refine calls_prefix_checked _ _ _ _ _ ?_
  exact Room_spec h hl hk ⟨_, _, rfl, brB_f (by rw [Bool.and_eq_false_iff]; exact .inr (decide_eq_false (by omega))) hR⟩
end Go.Proofs.Ythfnohbpdoklgaa
