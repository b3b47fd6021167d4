/- Words for memory: what may have turned, cells of a block, slices. -/
import Derived.SizedLaws
import Derived.OpenShut
import Derived.ShutString
import Derived.Carry
import Derived.ChangeSlices
import Derived.Lib.SmallJoins
import Derived.Test.YtiiaihiliimcoaaRPA3
import Derived.Test.YtiiaihiliimcoaaRPA4
set_option linter.unusedVariables false
set_option linter.unusedSimpArgs false
namespace Go.Vc
open Go.RowKit
theorem nn_i {p : Option Addr} {a : Addr} {F : Addr → Prop} (h : p = some a) (hF : F a) : nn p F := by subst h; exact hF
theorem brB_i {b : Bool} {A B : Prop} (ht : b = true → A) (hf : b = false → B) : brB b A B := by cases b; exact hf rfl; exact ht rfl
theorem brB_t {b : Bool} {A B : Prop} (h : b = true) (hA : A) : brB b A B := by subst h; exact hA
theorem brB_f {b : Bool} {A B : Prop} (h : b = false) (hB : B) : brB b A B := by subst h; exact hB
theorem idx_i {base : Option Addr} {len : Nat} {i : Int} {sz : Nat} {F : Addr → Prop} {a : Addr} (h0 : 0 ≤ i) (h1 : i < len) (ha : base = some a) (hF : F (a.add (i.toNat * sz))) : idx base len i sz F := ⟨h0, h1, a, ha, hF⟩
theorem w64 {x : Int} (h0 : -9223372036854775808 ≤ x) (h1 : x ≤ 9223372036854775807) : IntKind.i64.wrap x = x := IntWalk.i64_in x ⟨h0, h1⟩
theorem add_zero' (a : Addr) : a.add 0 = a := by unfold Addr.add; cases a with | mk b o s => cases s <;> rfl
/-- only blocks of S have turned, of those that were there -/
structure Chg (S : Nat → Prop) (w w' : World) : Prop where
 os : w'.os = w.os
 tape : w'.tape = w.tape
 output : w'.output = w.output
 size : w.heap.size ≤ w'.heap.size
 block : ∀ k, k < w.heap.size → ¬ S k → w'.heap[k]? = w.heap[k]?
theorem Chg.refl (S : Nat → Prop) (w : World) : Chg S w w := ⟨rfl, rfl, rfl, Nat.le_refl _, fun _ _ _ => rfl⟩
theorem Ext.chg {S : Nat → Prop} {w w' : World} (h : Ext w w') : Chg S w w' := ⟨h.os, h.tape, h.output, h.size, fun k hk _ => h.block k hk⟩
theorem Chg.trans {S T : Nat → Prop} {a b c : World} (h : Chg S a b) (k : Chg T b c) (hT : ∀ i, T i → i < a.heap.size → S i) : Chg S a c :=
 ⟨k.os.trans h.os, k.tape.trans h.tape, k.output.trans h.output, Nat.le_trans h.size k.size,
  fun i hi hS => (k.block i (Nat.lt_of_lt_of_le hi h.size) (fun ht => hS (hT i ht hi))).trans (h.block i hi hS)⟩
theorem Chg.mono {S T : Nat → Prop} {a b : World} (h : Chg S a b) (hT : ∀ i, S i → i < a.heap.size → T i) : Chg T a b :=
 ⟨h.os, h.tape, h.output, h.size, fun i hi hS => h.block i hi (fun hs => hS (hT i hs hi))⟩
theorem Chg.below {S : Nat → Prop} {w w' : World} {N : Nat} (h : Chg S w w') (hS : ∀ i, S i → i < w.heap.size → N ≤ i) (hN : N ≤ w.heap.size) : Below N w w' :=
 ⟨h.os, h.tape, h.output, h.size, fun k hk => h.block k (by omega) (fun hs => by have := hS k hs (by omega); omega)⟩
theorem Chg.ext {S : Nat → Prop} {w w' : World} (h : Chg S w w') (hS : ∀ i, S i → w.heap.size ≤ i) : Ext w w' := h.below (fun i hi _ => hS i hi) (Nat.le_refl _)
theorem Chg.keep {S : Nat → Prop} {w w' : World} (h : Chg S w w') {bs : List Nat} (hb : ∀ b, b ∈ bs → ¬ S b) : Keep bs w w' :=
 fun b hm hlt => ⟨Nat.lt_of_lt_of_le hlt h.size, h.block b hlt (hb b hm)⟩
theorem Locl.chg {bs : List Nat} {w w' : World} (h : Locl bs w w') : Chg (· ∈ bs) w w' := ⟨h.os, h.tape, h.output, h.size, fun k hk hn => h.block k hk hn⟩
theorem Locl.ext {bs : List Nat} {w w' : World} (h : Locl bs w w') (hb : ∀ b, b ∈ bs → w.heap.size ≤ b) : Ext w w' := h.below (Nat.le_refl _) hb
theorem New.ext {w w' : World} {o : Obj} {b : Nat} (h : New w o b w') : Ext w w' := by rw [h.2]; exact (Ext.refl w).alloc o
theorem New.size {w w' : World} {o : Obj} {b : Nat} (h : New w o b w') : b < w'.heap.size := by rw [h.1, h.2]; simp
theorem Chg.setCells (w : World) (a : Addr) (vs : List Value) (i : Nat) : Chg (· = a.block) w (setCells w a vs i) :=
 have h := setCells_same vs w a i
 ⟨h.os, h.tape, h.output, Nat.le_of_eq h.size.symm, fun k _ hk => h.block k hk⟩
theorem Chg.drew {S : Nat → Prop} {w w' : World} (h : Chg S w w') : Chg S w w'.drew := ⟨h.os, h.tape, h.output, h.size, h.block⟩
theorem Put.chg {D : Nat} {w w' : World} (h : Put D w w') : Chg (· = D) w w' := ⟨h.os, h.tape, h.output, Nat.le_of_eq h.size.symm, fun k _ hk => h.block k hk⟩
theorem Ext.step {S : Nat → Prop} {a b c : World} (h : Ext a b) (k : Chg S b c) (hS : ∀ i, S i → a.heap.size ≤ i) : Ext a c :=
 ((h.chg (S := fun k => a.heap.size ≤ k)).trans k (fun i hi _ => hS i hi)).ext (fun i hi => hi)
def Cs (w : World) (b : Nat) (vs : List Value) : Prop := ∃ e, w.heap[b]? = some (.cells vs.toArray e (0, 0))
theorem Cs.lt {w : World} {b : Nat} {vs : List Value} (h : Cs w b vs) : b < w.heap.size := by
 obtain ⟨e, h⟩ := h
 rcases Nat.lt_or_ge b w.heap.size with h' | h'
 ·exact h'
 ·rw [Array.getElem?_eq_none h'] at h; cases h
theorem Cs.chg {S : Nat → Prop} {w w' : World} {b : Nat} {vs : List Value} (h : Cs w b vs) (hc : Chg S w w') (hb : ¬ S b) : Cs w' b vs := by
 obtain ⟨e, h1⟩ := h; exact ⟨e, by rw [hc.block b (Cs.lt ⟨e, h1⟩) hb]; exact h1⟩
theorem Cs.below {N : Nat} {w w' : World} {b : Nat} {vs : List Value} (h : Cs w b vs) (hc : Below N w w') (hb : b < N) : Cs w' b vs := by
 obtain ⟨e, h1⟩ := h; exact ⟨e, by rw [hc.block b hb]; exact h1⟩
theorem Cs.ext {w w' : World} {b : Nat} {vs : List Value} (h : Cs w b vs) (hc : Ext w w') : Cs w' b vs := h.below hc h.lt
theorem Cs.drew {w : World} {b : Nat} {vs : List Value} (h : Cs w b vs) : Cs w.drew b vs := h
theorem New.cs {w w' : World} {b : Nat} {vs : Array Value} {e : TypeId} (h : New w (.cells vs e (0, 0)) b w') : Cs w' b vs.toList :=
 ⟨e, by rw [h.1, h.2]; exact cells_alloc_new w _⟩
theorem Cs.cell {w : World} {b : Nat} {vs : List Value} (h : Cs w b vs) {i : Nat} {v : Value} (hv : vs[i]? = some v) : w.cell? ⟨b, i, none⟩ = some v := by
 obtain ⟨e, h⟩ := h; exact cell_of_block h hv
theorem Cs.frozen {w : World} {b : Nat} {vs : List Value} (h : Cs w b vs) (i : Nat) : w.frozen? ⟨b, i, none⟩ = false := by
 obtain ⟨e, h⟩ := h
 simp [World.frozen?, h]
theorem Cs.set {w : World} {b off : Nat} {vs us : List Value} (h : Cs w b vs) (hl : off + us.length ≤ vs.length) :
  Cs (setCells w ⟨b, off, none⟩ us 0) b (vs.take off ++ us ++ vs.drop (off + us.length)) := by
 obtain ⟨e, h⟩ := h
 exact ⟨e, by simpa using setCells_block (i := 0) h (by simpa using hl)⟩
theorem Cs.set1 {w : World} {b off : Nat} {vs : List Value} {v : Value} (h : Cs w b vs) (hl : off < vs.length) :
  Cs (setCells w ⟨b, off, none⟩ [v] 0) b (vs.set off v) := by
 have := h.set (off := off) (us := [v]) (by simp; omega)
 rwa [show vs.take off ++ [v] ++ vs.drop (off + [v].length) = vs.set off v by simp [List.set_eq_take_append_cons_drop, hl]] at this
theorem Cs.canSet {w : World} {b off n : Nat} {vs : List Value} (h : Cs w b vs) (hl : off + n ≤ vs.length) : CanSet w ⟨b, off, none⟩ n := by
 intro j hj
 rw [loc_add]
 exact ⟨⟨vs[off + j]'(by omega), h.cell (List.getElem?_eq_getElem (by omega))⟩, h.frozen _⟩
/-- a slice's cells, all in blocks below N -/
def Sl (N : Nat) (w : World) (base : Option Addr) (vs : List Value) : Prop := ∀ j v, vs[j]? = some v → ∃ a, base = some a ∧ a.block < N ∧ w.cell? (a.add j) = some v
theorem Sl.below {N : Nat} {w w' : World} {base : Option Addr} {vs : List Value} (h : Sl N w base vs) (hb : Below N w w') : Sl N w' base vs := by
 intro j v hj
 obtain ⟨a, h1, h2, h3⟩ := h j v hj
 exact ⟨a, h1, h2, by rw [Below.cell hb (by rw [add_block]; exact h2)]; exact h3⟩
theorem Sl.mono {N M : Nat} {w : World} {base : Option Addr} {vs : List Value} (h : Sl N w base vs) (hNM : N ≤ M) : Sl M w base vs := by
 intro j v hj
 obtain ⟨a, h1, h2, h3⟩ := h j v hj
 exact ⟨a, h1, by omega, h3⟩
theorem Sl.up {N : Nat} {w : World} {base : Option Addr} {vs : List Value} (h : Sl N w base vs) : Sl w.heap.size w base vs := by
 intro j v hj
 obtain ⟨a, h1, h2, h3⟩ := h j v hj
 have := World.block_lt_of_cell? w _ h3
 rw [add_block] at this
 exact ⟨a, h1, this, h3⟩
theorem Sl.ext {N : Nat} {w w' : World} {base : Option Addr} {vs : List Value} (h : Sl N w base vs) (hb : Ext w w') : Sl N w' base vs := by
 intro j v hj
 obtain ⟨a, h1, h2, h3⟩ := h j v hj
 exact ⟨a, h1, h2, hb.cell h3⟩
theorem Sl.drew {N : Nat} {w : World} {base : Option Addr} {vs : List Value} (h : Sl N w base vs) : Sl N w.drew base vs := h
theorem Sl.nil (N : Nat) (w : World) (base : Option Addr) : Sl N w base [] := fun j v h => by simp at h
theorem Sl.cells {N : Nat} {w : World} {base : Option Addr} {vs : List Value} (h : Sl N w base vs) : CellsAre w base vs := by
 intro j v hj
 obtain ⟨a, h1, _, h3⟩ := h j v hj
 exact ⟨a, h1, h3⟩
theorem Sl.spot {N : Nat} {w : World} {a : Addr} {vs : List Value} (h : Sl N w (some a) vs) (hne : vs ≠ []) : a.spot = none := by
 cases vs with
 | nil => exact (hne rfl).elim
 | cons v vs =>
  obtain ⟨b, h1, _, h3⟩ := h 0 v rfl
  cases h1
  have := World.cell?_spot h3
  simpa [Addr.add] using this
theorem Cs.sl {w : World} {b off : Nat} {vs us : List Value} (h : Cs w b vs) (hu : us <+: vs.drop off) {N : Nat} (hN : b < N) : Sl N w (some ⟨b, off, none⟩) us := by
 intro j v hj
 refine ⟨_, rfl, hN, ?_⟩
 rw [loc_add]
 obtain ⟨t, ht⟩ := hu
 refine h.cell ?_
 have : (us ++ t)[j]? = some v := by
  rw [List.getElem?_append_left]; exact hj
  rcases Nat.lt_or_ge j us.length with h' | h'
  ·exact h'
  ·rw [List.getElem?_eq_none h'] at hj; cases hj
 rw [ht, List.getElem?_drop] at this; exact this
theorem Sl.part {N : Nat} {w : World} {base : Option Addr} {vs us : List Value} (h : Sl N w base vs) {lo cap : Nat} (hc : vs.length ≤ cap) (hu : us <+: vs.drop lo) : Sl N w (slcBase base lo cap 1) us := by
 intro j v hj
 obtain ⟨t, ht⟩ := hu
 have hlt : j < us.length := by
  rcases Nat.lt_or_ge j us.length with h' | h'
  ·exact h'
  ·rw [List.getElem?_eq_none h'] at hj; cases hj
 have h1 : (us ++ t)[j]? = some v := by rw [List.getElem?_append_left hlt]; exact hj
 rw [ht, List.getElem?_drop] at h1
 obtain ⟨a, h2, h3, h4⟩ := h _ _ h1
 have hlo : cap ≠ lo := by
  intro e
  have : lo + j < vs.length := by
   rcases Nat.lt_or_ge (lo + j) vs.length with h' | h'
   ·exact h'
   ·rw [List.getElem?_eq_none h'] at h1; cases h1
  omega
 refine ⟨a.add lo, by simp [slcBase, hlo, h2], by rw [add_block]; exact h3, ?_⟩
 subst h2
 rw [add_add a (h.spot fun e => by rw [e] at h1; simp at h1)]; exact h4
theorem Sl.get {N : Nat} {w : World} {base : Option Addr} {vs : List Value} (h : Sl N w base vs) {i : Int} {len : Nat} {v : Value} (h0 : 0 ≤ i) (hl : vs.length = len) (hv : vs[i.toNat]? = some v) {F : Addr → Prop}
  (hF : ∀ a : Addr, w.cell? a = some v → F a) : idx base len i 1 F := by
 have hlt : i.toNat < vs.length := by
  rcases Nat.lt_or_ge i.toNat vs.length with h' | h'
  ·exact h'
  ·rw [List.getElem?_eq_none h'] at hv; cases hv
 obtain ⟨a, h1, h2, h3⟩ := h _ _ hv
 exact ⟨h0, by omega, a, h1, hF _ (by simpa using h3)⟩
def Ow (N M : Nat) (w : World) (base : Option Addr) (len cap sz : Nat) (vs : List Value) : Prop :=
 len * sz = vs.length ∧ len ≤ cap ∧ (cap = 0 ∨ ∃ b rest, N ≤ b ∧ b < M ∧ base = some ⟨b, 0, none⟩ ∧ cap * sz = vs.length + rest.length ∧ Cs w b (vs ++ rest))
theorem Ow.chg {N M : Nat} {w w' : World} {base : Option Addr} {len cap sz : Nat} {vs : List Value} {S : Nat → Prop} (h : Ow N M w base len cap sz vs) (hc : Chg S w w') (hS : ∀ b, N ≤ b → b < M → ¬ S b) : Ow N M w' base len cap sz vs := by
 obtain ⟨h1, h2, h3⟩ := h
 refine ⟨h1, h2, ?_⟩
 rcases h3 with h3 | ⟨b, rest, h4, h5, h6, h7, h8⟩
 ·exact .inl h3
 ·exact .inr ⟨b, rest, h4, h5, h6, h7, h8.chg hc (hS b h4 h5)⟩
theorem Ow.ext {N M : Nat} {w w' : World} {base : Option Addr} {len cap sz : Nat} {vs : List Value} (h : Ow N M w base len cap sz vs) (hc : Ext w w') : Ow N M w' base len cap sz vs :=
 h.chg (S := fun _ => False) hc.chg (fun _ _ _ h => h)
theorem Ow.nil (N M : Nat) (w : World) (base : Option Addr) (sz : Nat) : Ow N M w base 0 0 sz [] := ⟨by simp, Nat.le_refl _, .inl rfl⟩
theorem Ow.sl {N M : Nat} {w : World} {base : Option Addr} {len cap sz : Nat} {vs : List Value} (h : Ow N M w base len cap sz vs) : Sl M w base vs := by
 obtain ⟨h1, h2, h3⟩ := h
 rcases h3 with h3 | ⟨b, rest, h4, h5, h6, h7, h8⟩
 ·have : len = 0 := by omega
  subst this
  rw [Nat.zero_mul] at h1
  rw [List.length_eq_zero_iff.1 h1.symm]; exact Sl.nil _ _ _
 ·subst h6; exact h8.sl (by simp) h5
theorem Ow.len {N M : Nat} {w : World} {base : Option Addr} {len cap : Nat} {vs : List Value} (h : Ow N M w base len cap 1 vs) : len = vs.length := by have := h.1; omega
theorem mkCells_length (zero : List Value) (n : Nat) : (mkCells zero n).size = n * zero.length := by simp [mkCells]
theorem New.own {w w' : World} {b : Nat} {vs : List Value} {arr : Array Value} {e : TypeId} {len cap sz N M : Nat} (h : New w (.cells arr e (0, 0)) b w') (hv : vs <+: arr.toList) (hl : len * sz = vs.length) (hc : cap * sz = arr.size) (hle : len ≤ cap) (hN : N ≤ w.heap.size) (hM : w'.heap.size ≤ M) :
  Ow N M w' (some ⟨b, 0, none⟩) len cap sz vs := by
 obtain ⟨t, ht⟩ := hv
 have hs := h.size
 refine ⟨hl, hle, .inr ⟨b, t, by rw [h.1]; exact hN, by omega, rfl, ?_, by rw [ht]; exact h.cs⟩⟩
 rw [hc, ← Array.length_toList, ← ht, List.length_append]
def OwnS (S : Nat → Prop) (w : World) (base : Option Addr) (len cap sz : Nat) (vs : List Value) : Prop :=
 len * sz = vs.length ∧ len ≤ cap ∧ (cap = 0 ∨ ∃ b rest, S b ∧ base = some ⟨b, 0, none⟩ ∧ cap * sz = vs.length + rest.length ∧ Cs w b (vs ++ rest))
theorem OwnS.own {S : Nat → Prop} {N M : Nat} {w : World} {base : Option Addr} {len cap sz : Nat} {vs : List Value} (h : OwnS S w base len cap sz vs) (hS : ∀ i, S i → i < w.heap.size → N ≤ i ∧ i < M) : Ow N M w base len cap sz vs := by
 obtain ⟨h1, h2, h3⟩ := h
 refine ⟨h1, h2, ?_⟩
 rcases h3 with h3 | ⟨b, rest, h4, h6, h7, h8⟩
 ·exact .inl h3
 ·exact .inr ⟨b, rest, (hS b h4 h8.lt).1, (hS b h4 h8.lt).2, h6, h7, h8⟩
theorem OwnS.chg {S T : Nat → Prop} {w w' : World} {base : Option Addr} {len cap sz : Nat} {vs : List Value} (h : OwnS S w base len cap sz vs) (hc : Chg T w w') (hS : ∀ b, S b → b < w.heap.size → ¬ T b) : OwnS S w' base len cap sz vs := by
 obtain ⟨h1, h2, h3⟩ := h
 refine ⟨h1, h2, ?_⟩
 rcases h3 with h3 | ⟨b, rest, h4, h6, h7, h8⟩
 ·exact .inl h3
 ·exact .inr ⟨b, rest, h4, h6, h7, h8.chg hc (hS b h4 h8.lt)⟩
theorem OwnS.mono {S T : Nat → Prop} {w : World} {base : Option Addr} {len cap sz : Nat} {vs : List Value} (h : OwnS S w base len cap sz vs) (hS : ∀ i, S i → i < w.heap.size → T i) : OwnS T w base len cap sz vs := by
 obtain ⟨h1, h2, h3⟩ := h
 refine ⟨h1, h2, ?_⟩
 rcases h3 with h3 | ⟨b, rest, h4, h6, h7, h8⟩
 ·exact .inl h3
 ·exact .inr ⟨b, rest, hS b h4 h8.lt, h6, h7, h8⟩
theorem OwnS.base {S : Nat → Prop} {w : World} {base : Option Addr} {len cap sz : Nat} {vs : List Value} (h : OwnS S w base len cap sz vs) (h0 : 0 < len) : ∃ b, base = some ⟨b, 0, none⟩ ∧ S b ∧ b < w.heap.size := by
 obtain ⟨_, h2, h3⟩ := h
 rcases h3 with h3 | ⟨b, rest, h4, h6, _, h8⟩
 ·omega
 ·exact ⟨b, h6, h4, h8.lt⟩
theorem OwnS.write {S : Nat → Prop} {w : World} {b : Nat} {len cap i : Nat} {vs : List Value} (h : OwnS S w (some ⟨b, 0, none⟩) len cap 1 vs) (hi : i < len) :
  (∃ u, w.cell? ⟨b, i, none⟩ = some u) ∧ w.frozen? ⟨b, i, none⟩ = false ∧ ∀ v, OwnS S (setCells w ⟨b, i, none⟩ [v] 0) (some ⟨b, 0, none⟩) len cap 1 (vs.set i v) ∧ Chg (· = b) w (setCells w ⟨b, i, none⟩ [v] 0) := by
 obtain ⟨h1, h2, h3⟩ := h
 rcases h3 with h3 | ⟨b', rest, h4, h6, h7, h8⟩
 ·omega
 ·cases h6
  obtain ⟨hu, hf⟩ := h8.canSet (off := i) (n := 1) (by rw [List.length_append]; omega) 0 (by omega)
  rw [loc_add, Nat.add_zero] at hu hf
  refine ⟨hu, hf, fun v => ⟨⟨by simpa using h1, h2, .inr ⟨b, rest, h4, rfl, by simpa using h7, ?_⟩⟩, (Chg.setCells w ⟨b, i, none⟩ [v] 0 :)⟩⟩
  have := h8.set1 (off := i) (v := v) (by rw [List.length_append]; omega)
  rwa [List.set_append_left _ _ (by omega)] at this
theorem OwnS.app {S : Nat → Prop} {w : World} {l : List (Nat × Nat × List Value)} {base : Option Addr} {len cap n sz bytes : Nat} {elem : TypeId} {zero vs fs : List Value} {F : Option Addr → Nat → Nat → World → Prop}
  (h : OwnS S w base len cap sz vs) (hl : ∀ b ∈ blocks l, S b → False) (hz : zero.length = sz) (hn : fs.length = n * sz)
  (hby : (len + n) * bytes ≤ 2 ^ 47) (h62 : len + n < 2 ^ 62)
  (hF : ∀ base' cap' w', OwnS (fun i => S i ∨ w.heap.size ≤ i) w' base' (len + n) cap' sz (vs ++ fs) → Chg S w w' → F base' (len + n) cap' w') :
  appVC w l base len cap n sz bytes elem zero fs F := by
 obtain ⟨h1, h2, h3⟩ := h
 refine ⟨fun hle => ?_, fun hgt => ⟨hby, h62, vs, h1.symm, ?_, fun cap' b w' hc' hnew => ?_⟩⟩
 ·rcases h3 with h3 | ⟨b, rest, h4, h6, h7, h8⟩
  ·have e0 : len = 0 := by omega
   have e1 : n = 0 := by omega
   subst e0; subst e1
   have e2 : fs = [] := List.length_eq_zero_iff.1 (by simpa using hn)
   refine .inl ⟨e2, hF _ _ _ ⟨?_, by omega, .inl h3⟩ (Chg.refl _ _)⟩
   subst e2; simpa using h1
  ·subst h6
   refine .inr ⟨_, rfl, ?_, ?_⟩
   ·rw [loc_add, Nat.zero_add]
    refine h8.canSet ?_
    rw [List.length_append, hn, h1]
    have : (len + n) * sz ≤ cap * sz := Nat.mul_le_mul_right _ hle
    rw [Nat.add_mul, h7] at this; omega
   ·have key : F (some ⟨b, 0, none⟩) (len + n) cap (setCells w ((⟨b, 0, none⟩ : Addr).add (len * sz)) fs 0) := by
     rw [loc_add, Nat.zero_add]
     have hroom : (len + n) * sz ≤ cap * sz := Nat.mul_le_mul_right _ hle
     rw [Nat.add_mul, h7] at hroom
     have hset := h8.set (off := len * sz) (us := fs) (by rw [List.length_append]; omega)
     have hchg := Chg.setCells w ⟨b, len * sz, none⟩ fs 0
     have hsz : (setCells w ⟨b, len * sz, none⟩ fs 0).heap.size = w.heap.size := (setCells_same fs w _ 0).size
     refine hF _ _ _ ⟨?_, hle, .inr ⟨b, rest.drop fs.length, .inl h4, rfl, ?_, ?_⟩⟩ (hchg.mono fun i hi _ => ?_)
     ·rw [Nat.add_mul, List.length_append]; omega
     ·rw [List.length_append, List.length_drop]; omega
     ·rw [h1, List.take_append_of_le_length (by omega), List.take_of_length_le (Nat.le_refl _), List.drop_append, List.drop_eq_nil_of_le (by omega)] at hset
      simpa [show vs.length + fs.length - vs.length = fs.length by omega, h1] using hset
     ·simp only at hi; subst hi; exact h4
    show notIn l b _
    unfold notIn
    split
    ·exact key
    ·refine ⟨fun hm => ?_, key⟩
     exact hl b hm h4
 ·rcases h3 with h3 | ⟨b, rest, h4, h6, h7, h8⟩
  ·intro j v hj
   have e0 : len = 0 := by omega
   subst e0
   rw [Nat.zero_mul] at h1
   rw [List.length_eq_zero_iff.1 h1.symm] at hj; simp at hj
  ·subst h6; exact (h8.sl (off := 0) (by simp) (Nat.lt_succ_self b)).cells
 ·have hex : Ext w w' := (Ext.refl w).drew.trans hnew.ext
  refine hF _ _ _ ?_ hex.chg
  have := New.own (N := w.heap.size) (M := w'.heap.size) (vs := vs ++ fs) (len := len + n) (cap := cap') (sz := sz) hnew (by simp) (by rw [Nat.add_mul, List.length_append]; omega) ?_ hc' (by exact Nat.le_refl _) (Nat.le_refl _)
  ·obtain ⟨t1, t2, t3⟩ := this
   refine ⟨t1, t2, ?_⟩
   rcases t3 with t3 | ⟨b, rest, t4, t5, t6, t7, t8⟩
   ·exact .inl t3
   ·exact .inr ⟨b, rest, .inr t4, t6, t7, t8⟩
  ·simp only [List.size_toArray, List.length_append, Array.length_toList, mkCells_length, hz]
   rw [Nat.sub_mul, Nat.add_mul]
   have : (len + n) * sz ≤ cap' * sz := Nat.mul_le_mul_right _ hc'
   rw [Nat.add_mul] at this
   omega
theorem Ow.ownS {N M : Nat} {w : World} {base : Option Addr} {len cap sz : Nat} {vs : List Value} (h : Ow N M w base len cap sz vs) : OwnS (fun i => N ≤ i ∧ i < M) w base len cap sz vs := by
 obtain ⟨h1, h2, h3⟩ := h
 refine ⟨h1, h2, ?_⟩
 rcases h3 with h3 | ⟨b, rest, h4, h5, h6⟩
 ·exact .inl h3
 ·exact .inr ⟨b, rest, ⟨h4, h5⟩, h6⟩
theorem OwnS.sl {S : Nat → Prop} {w : World} {base : Option Addr} {len cap sz : Nat} {vs : List Value} (h : OwnS S w base len cap sz vs) : Sl w.heap.size w base vs :=
 (h.own (N := 0) (M := w.heap.size) fun i _ hi => ⟨Nat.zero_le _, hi⟩).sl
theorem OwnS.len {S : Nat → Prop} {w : World} {base : Option Addr} {len cap : Nat} {vs : List Value} (h : OwnS S w base len cap 1 vs) : len = vs.length := by have := h.1; omega
theorem OwnS.nil (S : Nat → Prop) (w : World) (base : Option Addr) (sz : Nat) : OwnS S w base 0 0 sz [] := ⟨by simp, Nat.le_refl _, .inl rfl⟩
theorem Ow.appS {w : World} {l : List (Nat × Nat × List Value)} {base : Option Addr} {len cap n sz bytes N M : Nat} {elem : TypeId} {zero vs fs : List Value} {F : Option Addr → Nat → Nat → World → Prop}
  (h : Ow N M w base len cap sz vs) (hl : ∀ b ∈ blocks l, b < N ∨ M ≤ b) (hN : N ≤ w.heap.size) (hM : M ≤ w.heap.size) (hz : zero.length = sz) (hn : fs.length = n * sz)
  (hby : (len + n) * bytes ≤ 2 ^ 47) (h62 : len + n < 2 ^ 62)
  (hF : ∀ base' cap' w', OwnS (fun i => (N ≤ i ∧ i < M) ∨ w.heap.size ≤ i) w' base' (len + n) cap' sz (vs ++ fs) → Chg (fun k => N ≤ k ∧ k < M) w w' → F base' (len + n) cap' w') :
  appVC w l base len cap n sz bytes elem zero fs F :=
 h.ownS.app (fun b hb hs => by have := hl b hb; omega) hz hn hby h62 hF
theorem callV_i {P : Program} {f : FuncId} {args : List Value} {w : World} {R : Ending → World → Prop} (hok : FnOk P f = true) (h : Calls P f args.toArray w R) : callV P (.func (.func f) #[] #[]) args w R := by
 unfold callV
 simp only [hok]
 simpa using h
theorem Ow.app {w : World} {l : List (Nat × Nat × List Value)} {base : Option Addr} {len cap n sz bytes N M : Nat} {elem : TypeId} {zero vs fs : List Value} {F : Option Addr → Nat → Nat → World → Prop}
  (h : Ow N M w base len cap sz vs) (hl : ∀ b ∈ blocks l, b < N ∨ M ≤ b) (hN : N ≤ w.heap.size) (hM : M ≤ w.heap.size) (hz : zero.length = sz) (hn : fs.length = n * sz)
  (hby : (len + n) * bytes ≤ 2 ^ 47) (h62 : len + n < 2 ^ 62)
  (hF : ∀ base' cap' w', Ow N w'.heap.size w' base' (len + n) cap' sz (vs ++ fs) → Chg (fun k => N ≤ k ∧ k < M) w w' → F base' (len + n) cap' w') :
  appVC w l base len cap n sz bytes elem zero fs F :=
 h.appS hl hN hM hz hn hby h62 fun base' cap' w' ho hc => hF base' cap' w' (ho.own fun i hi hlt => by omega) hc
def Gr (S S' : Nat → Prop) (w w' : World) : Prop := w.heap.size ≤ w'.heap.size ∧ ∀ i, S' i → S i ∨ (w.heap.size ≤ i ∧ i < w'.heap.size)
theorem Gr.refl (S : Nat → Prop) (w : World) : Gr S S w w := ⟨Nat.le_refl _, fun _ h => .inl h⟩
theorem Gr.trans {S T U : Nat → Prop} {a b c : World} (h : Gr S T a b) (k : Gr T U b c) : Gr S U a c :=
 ⟨Nat.le_trans h.1 k.1, fun i hi => by
  have h1 := h.1; have k1 := k.1
  rcases k.2 i hi with h2 | h2
  ·rcases h.2 i h2 with h3 | h3
   ·exact .inl h3
   ·exact .inr (by omega)
  ·exact .inr (by omega)⟩
theorem Gr.size {S S' : Nat → Prop} {a b c : World} (h : Gr S S' a b) (hs : b.heap.size ≤ c.heap.size) : Gr S S' a c :=
 ⟨Nat.le_trans h.1 hs, fun i hi => by rcases h.2 i hi with h | h; exact .inl h; exact .inr (by omega)⟩
theorem Gr.pre {S S' : Nat → Prop} {a b c : World} (h : Gr S S' b c) (hs : a.heap.size ≤ b.heap.size) : Gr S S' a c :=
 ⟨Nat.le_trans hs h.1, fun i hi => by rcases h.2 i hi with h | h; exact .inl h; exact .inr (by omega)⟩
structure OwB (S : Nat → Prop) (w : World) (base : Option Addr) (len cap sz : Nat) (vs : List Value) : Prop where
 own : OwnS S w base len cap sz vs
 bd : ∀ i, S i → i < w.heap.size
theorem OwB.chg {S T : Nat → Prop} {w w' : World} {base : Option Addr} {len cap sz : Nat} {vs : List Value} (h : OwB S w base len cap sz vs) (hc : Chg T w w') (hS : ∀ i, S i → ¬ T i) : OwB S w' base len cap sz vs :=
 ⟨h.own.chg hc fun i hi _ => hS i hi, fun i hi => Nat.lt_of_lt_of_le (h.bd i hi) hc.size⟩
theorem OwB.ext {S : Nat → Prop} {w w' : World} {base : Option Addr} {len cap sz : Nat} {vs : List Value} (h : OwB S w base len cap sz vs) (hc : Ext w w') : OwB S w' base len cap sz vs :=
 h.chg (T := fun _ => False) hc.chg fun _ _ => id
theorem OwB.nil (w : World) (base : Option Addr) (sz : Nat) : OwB (fun _ => False) w base 0 0 sz [] := ⟨OwnS.nil _ _ _ _, fun _ h => h.elim⟩
theorem Ow.owB {N M : Nat} {w : World} {base : Option Addr} {len cap sz : Nat} {vs : List Value} (h : Ow N M w base len cap sz vs) (hM : M ≤ w.heap.size) : OwB (fun i => N ≤ i ∧ i < M) w base len cap sz vs := ⟨h.ownS, fun i hi => by omega⟩
theorem OwB.app {S : Nat → Prop} {w : World} {l : List (Nat × Nat × List Value)} {base : Option Addr} {len cap n sz bytes : Nat} {elem : TypeId} {zero vs fs : List Value} {F : Option Addr → Nat → Nat → World → Prop}
  (h : OwB S w base len cap sz vs) (hl : ∀ b ∈ blocks l, ¬ S b) (hz : zero.length = sz) (hn : fs.length = n * sz)
  (hby : (len + n) * bytes ≤ 2 ^ 47) (h62 : len + n < 2 ^ 62)
  (hF : ∀ S' base' cap' w', Gr S S' w w' → OwB S' w' base' (len + n) cap' sz (vs ++ fs) → Chg S w w' → F base' (len + n) cap' w') :
  appVC w l base len cap n sz bytes elem zero fs F :=
 h.own.app hl hz hn hby h62 fun base' cap' w' ho hc => hF (fun i => S i ∨ (w.heap.size ≤ i ∧ i < w'.heap.size)) base' cap' w' ⟨hc.size, fun i hi => hi⟩
  ⟨ho.mono fun i hi hlt => hi.elim .inl fun h => .inr ⟨h, hlt⟩, fun i hi => by have := hc.size; rcases hi with hi | hi; have := h.bd i hi; omega; omega⟩ hc
structure Fg (av : List Nat) (w w' : World) (sz : Nat) (base : Option Addr) (len cap : Nat) (vs : List Value) : Prop where
 ext : Ext w w'
 own : ∃ S : Nat → Prop, (∀ i, S i → w.heap.size ≤ i) ∧ (∀ b, b ∈ av → ¬ S b) ∧ OwB S w' base len cap sz vs
 avs : ∀ b, b ∈ av → w.heap.size ≤ b ∧ b < w'.heap.size
theorem Fg.nil {w w' : World} (h : Ext w w') (sz : Nat) : Fg [] w w' sz none 0 0 [] := ⟨h, ⟨fun _ => False, fun _ h => h.elim, fun _ _ => id, OwB.nil _ _ _⟩, by simp⟩
theorem Fg.weak {av : List Nat} {w w' : World} {sz : Nat} {base : Option Addr} {len cap : Nat} {vs : List Value} (h : Fg av w w' sz base len cap vs) : Fg [] w w' sz base len cap vs := by
 obtain ⟨S, h1, _, h2⟩ := h.own
 exact ⟨h.ext, ⟨S, h1, by simp, h2⟩, by simp⟩
theorem Fg.ow {av : List Nat} {w w' : World} {sz : Nat} {base : Option Addr} {len cap : Nat} {vs : List Value} (h : Fg av w w' sz base len cap vs) : Ow w.heap.size w'.heap.size w' base len cap sz vs := by
 obtain ⟨S, h1, _, h2⟩ := h.own
 exact h2.own.own fun i hi hlt => ⟨h1 i hi, hlt⟩
theorem Fg.step {av : List Nat} {w w1 w' : World} {sz : Nat} {base : Option Addr} {len cap : Nat} {vs : List Value} (h : Fg av w w1 sz base len cap vs) (he : Ext w1 w') : Fg av w w' sz base len cap vs := by
 obtain ⟨S, h1, h3, h2⟩ := h.own
 exact ⟨h.ext.trans he, ⟨S, h1, h3, h2.ext he⟩, fun b hb => ⟨(h.avs b hb).1, Nat.lt_of_lt_of_le (h.avs b hb).2 he.size⟩⟩
theorem Fg.locl {av bs : List Nat} {w w1 w2 : World} {sz : Nat} {base : Option Addr} {len cap : Nat} {vs : List Value} (h : Fg av w w1 sz base len cap vs) (hL : Locl bs w1 w2) (hbs : ∀ b, b ∈ bs → b ∈ av ∨ w1.heap.size ≤ b) : Fg bs w w2 sz base len cap vs := by
 obtain ⟨S, h1, h3, h2⟩ := h.own
 have hno : ∀ b, b ∈ bs → ¬ S b := fun b hb hS => by
  rcases hbs b hb with hb | hb
  ·exact h3 b hb hS
  ·have := h2.bd b hS; omega
 have hge : ∀ b, b ∈ bs → w.heap.size ≤ b := fun b hb => by
  rcases hbs b hb with hb | hb
  ·exact (h.avs b hb).1
  ·exact Nat.le_trans h.ext.size hb
 exact ⟨h.ext.step hL.chg hge, ⟨S, h1, hno, h2.chg hL.chg fun i hi hb => hno i hb hi⟩, fun b hb => ⟨hge b hb, hL.there b hb⟩⟩
theorem Fg.dr {av : List Nat} {w w1 : World} {sz : Nat} {base : Option Addr} {len cap : Nat} {vs : List Value} (h : Fg av w w1 sz base len cap vs) : Fg av w w1.drew sz base len cap vs := h.step (Ext.refl w1).drew
theorem Fg.nil' {bs : List Nat} {w w1 w2 : World} (hE : Ext w w1) (hL : Locl bs w1 w2) (hb : ∀ b, b ∈ bs → w.heap.size ≤ b) (sz : Nat) : Fg bs w w2 sz none 0 0 [] :=
 ⟨hE.step hL.chg hb, ⟨fun _ => False, fun _ h => h.elim, fun _ _ => id, OwB.nil _ _ _⟩, fun b h => ⟨hb b h, hL.there b h⟩⟩
theorem Fg.mono {av bs : List Nat} {w w' : World} {sz : Nat} {base : Option Addr} {len cap : Nat} {vs : List Value} (h : Fg av w w' sz base len cap vs) (hb : ∀ b, b ∈ bs → b ∈ av) : Fg bs w w' sz base len cap vs := by
 obtain ⟨S, h1, h3, h2⟩ := h.own
 exact ⟨h.ext, ⟨S, h1, fun b hb' => h3 b (hb b hb'), h2⟩, fun b hb' => h.avs b (hb b hb')⟩
theorem Fg.len {av : List Nat} {w w' : World} {base : Option Addr} {len cap : Nat} {vs : List Value} (h : Fg av w w' 1 base len cap vs) : len = vs.length := by
 obtain ⟨S, h1, h3, h2⟩ := h.own
 exact h2.own.len
theorem Fg.sl {av : List Nat} {w w' : World} {sz : Nat} {base : Option Addr} {len cap : Nat} {vs : List Value} (h : Fg av w w' sz base len cap vs) : Sl w'.heap.size w' base vs := h.ow.sl
theorem Fg.of_owB {av : List Nat} {S : Nat → Prop} {w w' : World} {sz : Nat} {base : Option Addr} {len cap : Nat} {vs : List Value} (hE : Ext w w') (ho : OwB S w' base len cap sz vs) (hS : ∀ i, S i → w.heap.size ≤ i) (ha : ∀ b, b ∈ av → ¬ S b) (hb : ∀ b, b ∈ av → w.heap.size ≤ b ∧ b < w'.heap.size) : Fg av w w' sz base len cap vs :=
 ⟨hE, ⟨S, hS, ha, ho⟩, hb⟩
theorem Fg.app' {av : List Nat} {w w1 : World} {l : List (Nat × Nat × List Value)} {base : Option Addr} {len cap n sz bytes : Nat} {elem : TypeId} {zero vs fs : List Value} {F : Option Addr → Nat → Nat → World → Prop}
  (h : Fg av w w1 sz base len cap vs) (hl : ∀ b, b ∈ blocks l → b ∈ av) (hz : zero.length = sz) (hn : fs.length = n * sz)
  (hby : (len + n) * bytes ≤ 2 ^ 47) (h62 : len + n < 2 ^ 62)
  (hF : ∀ base' cap' w4, Fg av w w4 sz base' (len + n) cap' (vs ++ fs) → Keep av w1 w4 → w1.heap.size ≤ w4.heap.size → F base' (len + n) cap' w4) :
  appVC w1 l base len cap n sz bytes elem zero fs F := by
 obtain ⟨S, h1, h3, h2⟩ := h.own
 refine h2.app (fun b hb hS => h3 b (hl b hb) hS) hz hn hby h62 fun S' base' cap' w4 hg ho hc => hF base' cap' w4 ⟨h.ext.step hc h1, ⟨S', fun i hi => ?_, fun b hb hS => ?_, ho⟩, fun b hb => ⟨(h.avs b hb).1, Nat.lt_of_lt_of_le (h.avs b hb).2 hc.size⟩⟩ (hc.keep fun b hb => h3 b hb) hc.size
 ·have := h.ext.size
  rcases hg.2 i hi with hi | hi
  ·exact h1 i hi
  ·omega
 ·have := (h.avs b hb).2
  rcases hg.2 b hS with hS | hS
  ·exact h3 b hb hS
  ·omega
theorem Keep.trans {bs : List Nat} {a b c : World} (h : Keep bs a b) (k : Keep bs b c) : Keep bs a c := fun i hi hlt =>
 ⟨(k i hi (h i hi hlt).1).1, (k i hi (h i hi hlt).1).2.trans (h i hi hlt).2⟩
theorem Locl.keep {bs cs : List Nat} {w w' : World} (h : Locl bs w w') (hd : ∀ b, b ∈ cs → b < w.heap.size → b ∉ bs) : Keep cs w w' := fun b hb hlt => ⟨Nat.lt_of_lt_of_le hlt h.size, h.block b hlt (hd b hb hlt)⟩
theorem Locl.wide {bs cs : List Nat} {w w' : World} (h : Locl bs w w') (hc : ∀ b, b ∈ cs → b < w.heap.size) : Locl (bs ++ cs) w w' :=
 ⟨h.os, h.tape, h.output, h.size, fun k hk hn => h.block k hk (fun h => hn (List.mem_append_left _ h)), fun b hb => by
  rcases List.mem_append.1 hb with hb | hb
  ·exact h.there b hb
  ·exact Nat.lt_of_lt_of_le (hc b hb) h.size⟩
theorem Mp.same {kd : Kd} {w w' : World} {b : Nat} {kvs : List (Value × Value)} (h : Mp kd w b kvs) (e : w'.heap[b]? = w.heap[b]?) : Mp kd w' b kvs := by
 obtain ⟨⟨es, cl, h1, h2⟩, h3⟩ := h
 exact ⟨⟨es, cl, e.trans h1, h2⟩, h3⟩
theorem New.mp {w w' : World} {b : Nat} (h : New w (.map #[] 0) b w') (kd : Kd) : Mp kd w' b [] :=
 ⟨⟨#[], 0, by rw [h.1, h.2]; exact cells_alloc_new w _, rfl⟩, by simp⟩
theorem Put.locl {D : Nat} {w w' : World} (h : Put D w w') (hD : D < w.heap.size) : Locl [D] w w' :=
 ⟨h.os, h.tape, h.output, Nat.le_of_eq h.size.symm, fun k _ hk => h.block k (by simpa using hk), fun b hb => by rw [h.size]; simp at hb; omega⟩
theorem Fg.push {av bs : List Nat} {w u u' : World} {sz : Nat} {base : Option Addr} {len cap : Nat} {vs : List Value} (h : Fg av w u sz base len cap vs) (hL : Locl bs u u') (hb : ∀ b, b ∈ bs → b ∈ av ∨ u.heap.size ≤ b) : Fg (bs ++ av) w u' sz base len cap vs :=
 h.locl (hL.wide fun b hb => (h.avs b hb).2) fun b hm => by
  rcases List.mem_append.1 hm with hm | hm
  ·exact hb b hm
  ·exact .inl hm
theorem Cs.same {w w' : World} {b : Nat} {vs : List Value} (h : Cs w b vs) (e : w'.heap[b]? = w.heap[b]?) : Cs w' b vs := by
 obtain ⟨t, ht⟩ := h
 exact ⟨t, e.trans ht⟩
theorem Cs.keep {bs : List Nat} {w w' : World} {b : Nat} {vs : List Value} (h : Cs w b vs) (k : Keep bs w w') (hb : b ∈ bs) : Cs w' b vs := h.same (k b hb h.lt).2
theorem Cs.locl {bs : List Nat} {w w' : World} {b : Nat} {vs : List Value} (h : Cs w b vs) (k : Locl bs w w') (hb : b ∉ bs) : Cs w' b vs := h.same (k.block b h.lt hb)
theorem Cs.put {D : Nat} {w w' : World} {b : Nat} {vs : List Value} (h : Cs w b vs) (k : Put D w w') (hb : b ≠ D) : Cs w' b vs := h.same (k.block b hb)
theorem Sl.pre {N : Nat} {w : World} {base : Option Addr} {vs us : List Value} (h : Sl N w base vs) (hu : us <+: vs) : Sl N w base us := by
 intro j v hj
 refine h j v ?_
 obtain ⟨t, rfl⟩ := hu
 rw [List.getElem?_append_left (List.getElem?_eq_some_iff.1 hj).1]; exact hj
theorem Fg.from {av bs : List Nat} {w0 w w' : World} {sz : Nat} {base : Option Addr} {len cap : Nat} {vs : List Value} (h : Fg av w w' sz base len cap vs) (hE : Ext w0 w) (hb : ∀ b, b ∈ bs → w0.heap.size ≤ b ∧ b < w.heap.size) : Fg (bs ++ av) w0 w' sz base len cap vs := by
 obtain ⟨S, h1, h3, h2⟩ := h.own
 have hs := hE.size
 have hs' := h.ext.size
 refine ⟨hE.trans h.ext, ⟨S, fun i hi => Nat.le_trans hs (h1 i hi), fun b hm hS => ?_, h2⟩, fun b hm => ?_⟩
 ·rcases List.mem_append.1 hm with hm | hm
  ·have := hb b hm; have := h1 b hS; omega
  ·exact h3 b hm hS
 ·rcases List.mem_append.1 hm with hm | hm
  ·have := hb b hm; omega
  ·have := h.avs b hm; omega
theorem Fg.ofOw {bs : List Nat} {w0 w w' : World} {sz : Nat} {base : Option Addr} {len cap : Nat} {vs : List Value} (h : Ow w.heap.size w'.heap.size w' base len cap sz vs) (hE : Ext w0 w) (hE' : Ext w w') (hb : ∀ b, b ∈ bs → w0.heap.size ≤ b ∧ b < w.heap.size) : Fg (bs ++ []) w0 w' sz base len cap vs :=
 Fg.from (Fg.of_owB hE' (h.owB (Nat.le_refl _)) (fun i hi => hi.1) (by simp) (by simp)) hE hb
def fOn (f : Nat → Nat) (N i : Nat) : Nat → Nat := fun b => if b < N then f b else i
def ThS (w u : World) (f : Nat → Nat) (i : Nat) : Nat → Prop := fun b => f b = i ∧ w.heap.size ≤ b ∧ b < u.heap.size
def Th (w u : World) (f : Nat → Nat) (i : Nat) (base : Option Addr) (len cap sz : Nat) (vs : List Value) : Prop := OwnS (ThS w u f i) u base len cap sz vs
structure Pal (w u : World) (f : Nat → Nat) (L : List Nat) : Prop where
 ext : Ext w u
 av : ∀ b, b ∈ L → w.heap.size ≤ b ∧ b < u.heap.size ∧ f b = 0
theorem fOn_lt {f : Nat → Nat} {N i b : Nat} (h : b < N) : fOn f N i b = f b := by simp [fOn, h]
theorem fOn_ge {f : Nat → Nat} {N i b : Nat} (h : N ≤ b) : fOn f N i b = i := by simp [fOn, Nat.not_lt.2 h]
theorem Th.chg {w u u' : World} {f : Nat → Nat} {i k : Nat} {base : Option Addr} {len cap sz : Nat} {vs : List Value} {Z : Nat → Prop} (h : Th w u f i base len cap sz vs) (hC : Chg Z u u') (hZ : ∀ b, b < u.heap.size → f b = i → w.heap.size ≤ b → ¬ Z b) : Th w u' (fOn f u.heap.size k) i base len cap sz vs :=
 (OwnS.chg h hC fun b hb _ => hZ b hb.2.2 hb.1 hb.2.1).mono fun b hb _ => ⟨by rw [fOn_lt hb.2.2]; exact hb.1, hb.2.1, Nat.lt_of_lt_of_le hb.2.2 hC.size⟩
theorem Th.ext {w u u' : World} {f : Nat → Nat} {i k : Nat} {base : Option Addr} {len cap sz : Nat} {vs : List Value} (h : Th w u f i base len cap sz vs) (hE : Ext u u') : Th w u' (fOn f u.heap.size k) i base len cap sz vs :=
 h.chg (Z := fun _ => False) hE.chg fun _ _ _ _ => id
theorem Th.sl {w u : World} {f : Nat → Nat} {i : Nat} {base : Option Addr} {len cap sz : Nat} {vs : List Value} (h : Th w u f i base len cap sz vs) : Sl u.heap.size u base vs := OwnS.sl h
theorem Th.len {w u : World} {f : Nat → Nat} {i : Nat} {base : Option Addr} {len cap : Nat} {vs : List Value} (h : Th w u f i base len cap 1 vs) : len = vs.length := OwnS.len h
theorem Th.room {w u : World} {f : Nat → Nat} {i : Nat} {base : Option Addr} {len cap sz : Nat} {vs : List Value} (h : Th w u f i base len cap sz vs) : len ≤ cap := h.2.1
theorem Th.nil (w u : World) (f : Nat → Nat) (i : Nat) (base : Option Addr) (sz : Nat) : Th w u f i base 0 0 sz [] := OwnS.nil _ _ _ _
theorem Th.fg {w u : World} {f : Nat → Nat} {i : Nat} {base : Option Addr} {len cap sz : Nat} {vs : List Value} (h : Th w u f i base len cap sz vs) (hE : Ext w u) : Fg [] w u sz base len cap vs :=
 ⟨hE, ⟨_, fun b hb => hb.2.1, by simp, ⟨h, fun b hb => hb.2.2⟩⟩, by simp⟩
theorem Th.new {w u u' : World} {f : Nat → Nat} {i : Nat} {base : Option Addr} {len cap sz : Nat} {vs : List Value} (h : Ow u.heap.size u'.heap.size u' base len cap sz vs) (hE : Ext w u) : Th w u' (fOn f u.heap.size i) i base len cap sz vs :=
 (h.ownS).mono fun b hb _ => ⟨fOn_ge hb.1, Nat.le_trans hE.size hb.1, hb.2⟩
theorem Pal.chg {w u u' : World} {f : Nat → Nat} {L : List Nat} {k : Nat} {Z : Nat → Prop} (h : Pal w u f L) (hC : Chg Z u u') (hZ : ∀ b, b < u.heap.size → Z b → w.heap.size ≤ b) : Pal w u' (fOn f u.heap.size k) L :=
 ⟨((h.ext.chg (S := fun b => w.heap.size ≤ b)).trans (hC.mono fun b hb hlt => hZ b hlt hb) fun b hb _ => hb).ext fun b hb => hb, fun b hb => by
  have := h.av b hb
  exact ⟨this.1, Nat.lt_of_lt_of_le this.2.1 hC.size, by rw [fOn_lt this.2.1]; exact this.2.2⟩⟩
theorem Pal.step {w u u' : World} {f : Nat → Nat} {L : List Nat} {k : Nat} (h : Pal w u f L) (hE : Ext u u') : Pal w u' (fOn f u.heap.size k) L := h.chg (Z := fun _ => False) hE.chg fun _ _ h => h.elim
theorem Pal.mono {w u : World} {f : Nat → Nat} {L L' : List Nat} (h : Pal w u f L) (hL : ∀ b, b ∈ L' → b ∈ L) : Pal w u f L' := ⟨h.ext, fun b hb => h.av b (hL b hb)⟩
theorem Pal.locl {w u u' : World} {f : Nat → Nat} {L bs : List Nat} (h : Pal w u f L) (hL : Locl bs u u') (hb : ∀ b, b ∈ bs → b ∈ L ∨ u.heap.size ≤ b) :
  Pal w u' (fOn f u.heap.size 0) (bs ++ L) ∧ ∀ {i : Nat} {base : Option Addr} {len cap sz : Nat} {vs : List Value}, i ≠ 0 → Th w u f i base len cap sz vs → Th w u' (fOn f u.heap.size 0) i base len cap sz vs := by
 have hs := h.ext.size
 have hge : ∀ b, b ∈ bs → w.heap.size ≤ b := fun b hm => by
  rcases hb b hm with hm | hm
  ·exact (h.av b hm).1
  ·omega
 have h' := h.chg (k := 0) hL.chg fun b _ hm => hge b hm
 refine ⟨⟨h'.ext, fun b hm => ?_⟩, fun hi ht => ht.chg hL.chg fun b hlt hc _ hm => ?_⟩
 ·rcases List.mem_append.1 hm with hm | hm
  ·refine ⟨hge b hm, hL.there b hm, ?_⟩
   rcases hb b hm with hm' | hm'
   ·exact (h'.av b hm').2.2
   ·exact fOn_ge hm'
  ·exact h'.av b hm
 ·rcases hb b hm with hm | hm
  ·exact hi (hc.symm.trans (h.av b hm).2.2)
  ·omega
theorem Th.app {w u : World} {f : Nat → Nat} {L : List Nat} {i : Nat} {l : List (Nat × Nat × List Value)} {base : Option Addr} {len cap n sz bytes : Nat} {elem : TypeId} {zero vs fs : List Value} {F : Option Addr → Nat → Nat → World → Prop}
  (h : Th w u f i base len cap sz vs) (hP : Pal w u f L) (hi : i ≠ 0) (hl : ∀ b, b ∈ blocks l → b ∈ L) (hz : zero.length = sz) (hn : fs.length = n * sz)
  (hby : (len + n) * bytes ≤ 2 ^ 47) (h62 : len + n < 2 ^ 62)
  (hF : ∀ base' cap' u', Pal w u' (fOn f u.heap.size i) L → Th w u' (fOn f u.heap.size i) i base' (len + n) cap' sz (vs ++ fs) → Chg (ThS w u f i) u u' → F base' (len + n) cap' u') :
  appVC u l base len cap n sz bytes elem zero fs F := by
 refine OwnS.app h (fun b hb hs => hi (hs.1.symm.trans (hP.av b (hl b hb)).2.2)) hz hn hby h62 fun base' cap' u' ho hC => hF base' cap' u' (hP.chg hC fun b _ hb => hb.2.1) (ho.mono fun b hb hlt => ?_) hC
 have := hP.ext.size
 have := hC.size
 rcases hb with hb | hb
 ·exact ⟨by rw [fOn_lt hb.2.2]; exact hb.1, hb.2.1, hlt⟩
 ·exact ⟨fOn_ge hb, by omega, hlt⟩
theorem Th.other {w u u' : World} {f : Nat → Nat} {i j k : Nat} {base : Option Addr} {len cap sz : Nat} {vs : List Value} (h : Th w u f j base len cap sz vs) (hC : Chg (ThS w u f i) u u') (hij : j ≠ i) : Th w u' (fOn f u.heap.size k) j base len cap sz vs :=
 h.chg hC fun b _ hc _ hz => hij (hc.symm.trans hz.1)
theorem Th.set {w u : World} {f : Nat → Nat} {i : Nat} {base : Option Addr} {len cap sz : Nat} {vs : List Value} (h : Th w u f i base len cap sz vs) {k : Nat} {us : List Value} (hk : k + us.length ≤ vs.length) (h0 : 0 < len) :
  ∃ b, base = some ⟨b, 0, none⟩ ∧ ThS w u f i b ∧ CanSet u ⟨b, k, none⟩ us.length ∧ Th w (setCells u ⟨b, k, none⟩ us 0) f i base len cap sz (vs.take k ++ us ++ vs.drop (k + us.length)) ∧ Chg (ThS w u f i) u (setCells u ⟨b, k, none⟩ us 0) := by
 obtain ⟨o1, o2, o3⟩ := h
 rcases o3 with o3 | ⟨b, rest, o3, o4, o5, o6⟩
 ·omega
 have hs := o6.set (off := k) (us := us) (by rw [List.length_append]; omega)
 have hl : (vs.take k ++ us ++ vs.drop (k + us.length)).length = vs.length := by simp only [List.length_append, List.length_take, List.length_drop]; omega
 have e : (vs ++ rest).take k ++ us ++ (vs ++ rest).drop (k + us.length) = (vs.take k ++ us ++ vs.drop (k + us.length)) ++ rest := by
  rw [List.take_append_of_le_length (by omega), List.drop_append_of_le_length (by omega)]; simp
 rw [e] at hs
 refine ⟨b, o4, o3, o6.canSet (by rw [List.length_append]; omega), ⟨by rw [hl]; exact o1, o2, .inr ⟨b, rest, ⟨o3.1, o3.2.1, by rw [(setCells_same _ _ _ _).size]; exact o3.2.2⟩, o4, by rw [hl]; exact o5, hs⟩⟩, (Chg.setCells u ⟨b, k, none⟩ us 0).mono fun j hj _ => by have hj : j = b := hj; rw [hj]; exact o3⟩
theorem Th.cut {w u : World} {f : Nat → Nat} {i : Nat} {base : Option Addr} {len cap sz : Nat} {vs : List Value} (h : Th w u f i base len cap sz vs) {n : Nat} (hn : n ≤ len) : Th w u f i (slcBase base 0 cap sz) n cap sz (vs.take (n * sz)) := by
 obtain ⟨o1, o2, o3⟩ := h
 have hm : n * sz ≤ len * sz := Nat.mul_le_mul_right _ hn
 have hl : (vs.take (n * sz)).length = n * sz := by rw [List.length_take]; omega
 refine ⟨hl.symm, by omega, ?_⟩
 rcases o3 with o3 | ⟨b, rest, o3, o4, o5, o6⟩
 ·exact .inl o3
 refine .inr ⟨b, vs.drop (n * sz) ++ rest, o3, ?_, ?_, ?_⟩
 ·subst o4
  unfold slcBase
  split
  ·rfl
  ·simp [loc_add]
 ·rw [hl, List.length_append, List.length_drop]; omega
 ·rw [← List.append_assoc, List.take_append_drop]; exact o6
theorem slcBase0 {p : Option Addr} {cap sz : Nat} : slcBase p 0 cap sz = p := by
 unfold slcBase
 split
 ·rfl
 ·cases p with
  | none => rfl
  | some a => rw [Option.map_some, Nat.zero_mul, add_zero']
theorem Th.same {w u u' : World} {f : Nat → Nat} {i : Nat} {base : Option Addr} {len cap sz : Nat} {vs : List Value} {Z : Nat → Prop} (h : Th w u f i base len cap sz vs) (hC : Chg Z u u') (hZ : ∀ b, b < u.heap.size → f b = i → w.heap.size ≤ b → ¬ Z b) : Th w u' f i base len cap sz vs :=
 (OwnS.chg h hC fun b hb _ => hZ b hb.2.2 hb.1 hb.2.1).mono fun b hb _ => ⟨hb.1, hb.2.1, Nat.lt_of_lt_of_le hb.2.2 hC.size⟩
theorem Pal.same {w u u' : World} {f : Nat → Nat} {L : List Nat} {Z : Nat → Prop} (h : Pal w u f L) (hC : Chg Z u u') (hZ : ∀ b, b < u.heap.size → Z b → w.heap.size ≤ b) : Pal w u' f L :=
 ⟨((h.ext.chg (S := fun b => w.heap.size ≤ b)).trans (hC.mono fun b hb hlt => hZ b hlt hb) fun b hb _ => hb).ext fun b hb => hb, fun b hb => by
  have := h.av b hb
  exact ⟨this.1, Nat.lt_of_lt_of_le this.2.1 hC.size, this.2.2⟩⟩
structure Tg where
 c : Nat
 p : Option Addr
 len : Nat
 cap : Nat
 sz : Nat
 vs : List Value
structure Ths (w u : World) (f : Nat → Nat) (L : List Nat) (l : List Tg) : Prop where
 pal : Pal w u f L
 th : ∀ t, t ∈ l → t.c ≠ 0 ∧ Th w u f t.c t.p t.len t.cap t.sz t.vs
section
variable {w u u' : World} {f : Nat → Nat} {L : List Nat} {l : List Tg}
theorem Ths.get (h : Ths w u f L l) {t : Tg} (ht : t ∈ l) : Th w u f t.c t.p t.len t.cap t.sz t.vs := (h.th t ht).2
theorem Ths.mono (h : Ths w u f L l) {L' : List Nat} {l' : List Tg} (hL : ∀ b, b ∈ L' → b ∈ L) (hl : ∀ t, t ∈ l' → t ∈ l) : Ths w u f L' l' := ⟨h.pal.mono hL, fun t ht => h.th t (hl t ht)⟩
theorem Ths.step (h : Ths w u f L l) (hE : Ext u u') (k : Nat) : Ths w u' (fOn f u.heap.size k) L l := ⟨h.pal.step hE, fun t ht => ⟨(h.th t ht).1, (h.th t ht).2.ext hE⟩⟩
theorem Ths.dr (h : Ths w u f L l) : Ths w u.drew f L l := ⟨h.pal.same (Z := fun _ => False) (Ext.refl u).drew.chg fun _ _ h => h.elim, fun t ht => h.th t ht⟩
theorem Ths.locl {bs : List Nat} (h : Ths w u f L l) (hL : Locl bs u u') (hb : ∀ b, b ∈ bs → b ∈ L ∨ u.heap.size ≤ b) : Ths w u' (fOn f u.heap.size 0) (bs ++ L) l :=
 ⟨(h.pal.locl hL hb).1, fun t ht => ⟨(h.th t ht).1, (h.pal.locl hL hb).2 (h.th t ht).1 (h.th t ht).2⟩⟩
theorem Ths.new {i : Nat} {base : Option Addr} {len cap sz : Nat} {vs : List Value} (h : Ths w u f L l) (hE : Ext u u') (hi : i ≠ 0) (ho : Ow u.heap.size u'.heap.size u' base len cap sz vs) : Ths w u' (fOn f u.heap.size i) L (⟨i, base, len, cap, sz, vs⟩ :: l) :=
 ⟨h.pal.step hE, fun t ht => by
  rcases List.mem_cons.1 ht with rfl | ht
  ·exact ⟨hi, Th.new ho h.pal.ext⟩
  ·exact ⟨(h.th t ht).1, (h.th t ht).2.ext hE⟩⟩
theorem Ths.app {t : Tg} {m : List (Nat × Nat × List Value)} {n bytes : Nat} {elem : TypeId} {zero fs : List Value} {F : Option Addr → Nat → Nat → World → Prop}
  (h : Ths w u f L (t :: l)) (hd : ∀ t', t' ∈ l → t'.c ≠ t.c) (hm : ∀ b, b ∈ blocks m → b ∈ L) (hz : zero.length = t.sz) (hn : fs.length = n * t.sz)
  (hby : (t.len + n) * bytes ≤ 2 ^ 47) (h62 : t.len + n < 2 ^ 62)
  (hF : ∀ base' cap' u' f', Ths w u' f' L (⟨t.c, base', t.len + n, cap', t.sz, t.vs ++ fs⟩ :: l) → F base' (t.len + n) cap' u') :
  appVC u m t.p t.len t.cap n t.sz bytes elem zero fs F := by
 have ht := h.th t (by simp)
 refine ht.2.app h.pal ht.1 hm hz hn hby h62 fun base' cap' u' hP hT hC => hF base' cap' u' _ ⟨hP, fun t' ht' => ?_⟩
 rcases List.mem_cons.1 ht' with rfl | ht'
 ·exact ⟨ht.1, hT⟩
 ·have h' := h.th t' (List.mem_cons_of_mem _ ht')
  exact ⟨h'.1, h'.2.other hC (hd t' ht')⟩
end
theorem bv_nat {n : Nat} {a : Int} (h0 : 0 ≤ a) (h1 : a < 2 ^ n) : (BitVec.ofInt n a).toNat = a.toNat := by
 rw [BitVec.toNat_ofInt]
 have : a % (2 ^ n : Nat) = a := Int.emod_eq_of_lt h0 (by simpa using h1)
 rw [this]
theorem bitsZ_and {k : IntKind} {a b : Int} (a0 : 0 ≤ a) (a1 : a < 2 ^ k.bits) (b0 : 0 ≤ b) (b1 : b < 2 ^ k.bits) : bitsZ .and k a b = ((a.toNat &&& b.toNat : Nat) : Int) := by
 simp only [bitsZ, BitVec.toNat_and, bv_nat a0 a1, bv_nat b0 b1]
theorem bitsZ_or {k : IntKind} {a b : Int} (a0 : 0 ≤ a) (a1 : a < 2 ^ k.bits) (b0 : 0 ≤ b) (b1 : b < 2 ^ k.bits) : bitsZ .or k a b = ((a.toNat ||| b.toNat : Nat) : Int) := by
 simp only [bitsZ, BitVec.toNat_or, bv_nat a0 a1, bv_nat b0 b1]
theorem bitsZ_and1 {k : IntKind} {a : Int} (a0 : 0 ≤ a) (a1 : a < 2 ^ k.bits) : bitsZ .and k a 1 = a % 2 := by
 have h2 : (1 : Int) < 2 ^ k.bits := by cases k <;> decide
 rw [bitsZ_and a0 a1 (by omega) h2]
 rw [show (1 : Int).toNat = 1 by rfl, Nat.and_one_is_mod]
 omega
theorem bitsZ_orAdd {k : IntKind} {a b : Int} {i : Nat} (a0 : 0 ≤ a) (a1 : 2 ^ i * a + b < 2 ^ k.bits) (b0 : 0 ≤ b) (b1 : b < 2 ^ i) : bitsZ .or k (2 ^ i * a) b = 2 ^ i * a + b := by
 have hp : (0 : Int) < 2 ^ i := Int.pow_pos (by omega)
 have hm : 0 ≤ 2 ^ i * a := Int.mul_nonneg (by omega) a0
 rw [bitsZ_or hm (by omega) b0 (by omega)]
 obtain ⟨m, rfl⟩ := Int.eq_ofNat_of_zero_le a0
 obtain ⟨c, rfl⟩ := Int.eq_ofNat_of_zero_le b0
 have hc : c < 2 ^ i := by
  have : ((c : Int)) < ((2 ^ i : Nat) : Int) := by simpa using b1
  omega
 have e : ((2 : Int) ^ i * (m : Int)) = ((2 ^ i * m : Nat) : Int) := by simp
 rw [e]
 have := Nat.two_pow_add_eq_or_of_lt hc m
 show (((2 ^ i * m : Nat) : Int).toNat ||| ((c : Nat) : Int).toNat : Nat) = ((2 ^ i * m : Nat) : Int) + (c : Int)
 rw [Int.toNat_natCast, Int.toNat_natCast, ← this]; simp
theorem shiftZ_shr {k : IntKind} {a b : Int} (a0 : 0 ≤ a) (b0 : 0 ≤ b) (b1 : b ≤ k.bits) : shiftZ .shr k a b = a / 2 ^ b.toNat := by
 simp only [shiftZ]
 rw [Nat.min_eq_left (by omega), Int.fdiv_eq_ediv_of_nonneg _ (Int.le_of_lt (Int.pow_pos (by omega)))]
theorem shiftZ_shl {k : IntKind} {a b : Int} (b0 : 0 ≤ b) (b1 : b ≤ k.bits) : shiftZ .shl k a b = k.wrap (a * 2 ^ b.toNat) := by
 simp only [shiftZ]
 rw [Nat.min_eq_left (by omega)]
theorem wrap_u {k : IntKind} (hk : k.signed = false) {x : Int} (h0 : 0 ≤ x) (h1 : x < 2 ^ k.bits) : k.wrap x = x := by
 cases k <;> simp [IntKind.signed] at hk <;> simp [IntKind.wrap, IntKind.signed, IntKind.bits] at h1 ⊢ <;> omega
theorem wu8 {x : Int} (h0 : 0 ≤ x) (h1 : x < 256) : IntKind.u8.wrap x = x := wrap_u rfl h0 h1
theorem wu16 {x : Int} (h0 : 0 ≤ x) (h1 : x < 65536) : IntKind.u16.wrap x = x := wrap_u rfl h0 h1
theorem wu32 {x : Int} (h0 : 0 ≤ x) (h1 : x < 4294967296) : IntKind.u32.wrap x = x := wrap_u rfl h0 h1
theorem wu64 {x : Int} (h0 : 0 ≤ x) (h1 : x < 18446744073709551616) : IntKind.u64.wrap x = x := wrap_u rfl h0 h1
end Go.Vc
namespace Go.Vc
open Go.RowKit Go.ChangeShapes Go.WideShapes Go.Joins Go.Deep
theorem trodAll_below {H : Type} {enc : TypeId × Value → H} {P : Program} (hl : laidOutB P = true) {W W' : World} (hb : Below W.heap.size W W') :
  ∀ {ts : List TypeId} {vs : List Value} {ds : List (DataW H)} {ps : List MemPlace}, (ts.all fun t => P.readableRec t && decide (t < P.types.size)) = true →
   (∀ x ∈ ps, x.block < W.heap.size) → DataW.TrodAll enc P W 0 (fun _ => true) true ts vs ds ps → DataW.TrodAll enc P W' 0 (fun b => decide (b < W.heap.size)) true ts vs ds ps
 | [], vs, ds, ps, _, _, h => by
  obtain ⟨rfl, rfl, rfl⟩ := trodAll_nil h; exact trodAll_mk0
 | t :: ts, vs, ds, ps, ht, hlt, h => by
  obtain ⟨v, vs', d, ds', p, q, rfl, rfl, rfl, h1, h2⟩ := trodAll_cons h
  simp only [List.all_cons, Bool.and_eq_true, decide_eq_true_eq] at ht
  exact trodAll_cons_mk (Below.trod hl ht.1.1 ht.1.2 h1 hb fun x hx => hlt x (by simp [hx]))
   (trodAll_below hl hb (by simpa using ht.2) (fun x hx => hlt x (by simp [hx])) h2)
theorem law_lifted {H : Type} {enc : TypeId × Value → H} {a : Assume} {C : Checked} {os : Os} {f : FuncId} {fn : Func} {s : ChangeSpec} {conds : List PathCond} {tb : TypeId}
  (own : ownKnob C.prog.godebug = none) (started : os.Started) (noInit : C.prog.inits.idxOf? f = none) (hfn : C.prog.funcs[f]? = some fn)
  (hl : laidOutB C.prog = true) (hps : (fn.params.toList.all fun t => C.prog.readableRec t && decide (t < C.prog.types.size)) = true)
  (hr : fn.resultTypes.toList = [tb]) (hb : C.prog.underlying tb = some .bool) (hv : s.vars = [])
  (hs : ∀ ds : List (DataW H), ds.length = fn.params.size → s.fn H ds = { results := [.lit (.bool true)], args := ds })
  (witness : ∃ (w : World) (tape : Tape) (i : Input), w.os = os ∧ (w.forCall tape i).Shaped C.prog ∧ i.vars = [] ∧ Input.okWide C.prog (w.forCall tape i) .any w.heap.size f i ∧
   s.pre6 enc C.prog fn conds false (w.forCall tape i).memory i.args ∧ a.holds C.prog (lone (Frame.enter C.prog f i.args .normal) [] (w.forCall tape i)))
  (contract : ∀ (W : World) (base : Nat) (args : Array Value) (ds : List (DataW H)) (p : List MemPlace),
   (∀ (j : Nat) t v, fn.params[j]? = some t → args[j]? = some v → Value.okWide C.prog W .any base t v) →
   DataW.TrodAll enc C.prog W 0 (fun _ => true) true fn.params.toList args.toList ds p →
   (DataW.weightsEach C.prog fn.params.toList ds).all (· ≤ reachBytes) = true →
   Calls C.prog f args W fun e W' => e = .returned (.bool true) ∧ Ext W W') :
  ReturnsInHanded a C os f .any (s.pre6 enc C.prog fn conds false) (s.post enc C.prog fn false true false false) := by
 refine returnsInHanded_of_change_sized own started noInit hfn witness ?_
 intro W base args ds gs before hval hW _ hsz _
 have hW' := hW
 have hlt := hW.lt
 obtain ⟨p, q, hA, hV, rfl, hfz, hnd⟩ := hW
 rw [hv] at hV
 obtain ⟨rfl, rfl⟩ := trodVars_none hV
 have hsz' : (DataW.weightsEach C.prog fn.params.toList ds).all (· ≤ reachBytes) = true := by
  have : s.plain.varTypes C.prog = [] := by simp [ChangeSpec.plain, DataSpec.varTypes, hv]
  simpa [this] using hsz
 have hlen : ds.length = fn.params.size := by
  have : ∀ {ts : List TypeId} {vs : List Value} {ds : List (DataW H)} {ps : List MemPlace}, DataW.TrodAll enc C.prog W 0 (fun _ => true) true ts vs ds ps → ds.length = ts.length := by
   intro ts
   induction ts with
   | nil => intro vs ds ps h; obtain ⟨_, rfl, _⟩ := trodAll_nil h; rfl
   | cons t ts ih => intro vs ds ps h; obtain ⟨v, vs', d, ds', p, q, rfl, rfl, rfl, h1, h2⟩ := trodAll_cons h; simp [ih h2]
  simpa using this hA
 refine (contract W base args ds p hval hA hsz').mono fun e W' ⟨he, bel⟩ => ?_
 subst he
 refine ⟨_, rfl, ds, [], _, [], p, [], hW', ?_, ?_, ?_, bel.frame _, fun h => by cases h⟩
 ·have hr2 : fn.resultTypes.size = 1 := by rw [← Array.length_toList, hr]; rfl
  rw [List.append_nil, hs ds hlen, hr, hr2]
  exact trodAll_mk1 (shut_bool hb _)
 ·rw [List.append_nil, hs ds hlen]
  exact trodAll_below hl bel hps (fun x hx => hlt x (by simpa using hx)) hA
 ·rw [List.append_nil, hs ds hlen, hv]
  exact rfl
theorem weights_of {H : Type} {P : Program} {ts : List TypeId} {ds : List (DataW H)} (h : (DataW.weightsEach P ts ds).all (· ≤ reachBytes) = true) {j : Nat} {t : TypeId} {d : DataW H} (ht : ts[j]? = some t) (hd : ds[j]? = some d) :
  ∀ n ∈ d.weights P t, n ≤ reachBytes := fun n hn => by simpa using List.all_eq_true.1 h n (DataW.weights_mem_each ht hd n hn)
def SlLen {H : Type} (d : DataW H) (len : Nat) : Prop := (d = .nil ∧ len = 0) ∨ ∃ els sp, d = .slice els sp ∧ els.length = len
theorem SlLen.weight {H : Type} {P : Program} {d : DataW H} {len : Nat} {t e : TypeId} (h : SlLen d len) (ht : P.underlying t = some (.slice e)) (hw : ∀ n ∈ d.weights P t, n ≤ reachBytes) : len * P.bytesOf e ≤ reachBytes := by
 rcases h with ⟨rfl, rfl⟩ | ⟨els, sp, rfl, rfl⟩
 ·simp
 ·have := hw ((els.length + sp.length) * P.bytesOf e) (by simp [DataW.weights, ht])
  have hle : els.length * P.bytesOf e ≤ (els.length + sp.length) * P.bytesOf e := Nat.mul_le_mul_right _ (by omega)
  omega
theorem cell_ints {H : Type} {enc : TypeId × Value → H} {P : Program} {W : World} {t e : TypeId} {k : IntKind} {fuel : Nat} {v : Value} {x : DataW H × List MemPlace} (ht : P.underlying t = some (.slice e)) (he : P.underlying e = some (.int k)) (hc : P.cellsOf e = 1)
  (h : DataW.trod enc P W 0 (fun _ => true) true fuel t [v] = some x) :
  ∃ (base : Option Addr) (len cap : Nat) (xs : List Int), v = .slice base len cap ∧ len = xs.length ∧ len ≤ cap ∧ Sl W.heap.size W base (xs.map (Value.int k)) ∧ (∀ n ∈ xs, (Lit.int k n).wf = true) ∧ SlLen x.1 len := by
 rcases open_ints ht he hc h with ⟨hcs, rfl⟩ | ⟨a, len, cap, zs, hcs, _, hl, hm, hz, rfl, hcell, hwz⟩
 ·cases hcs
  exact ⟨none, 0, 0, [], rfl, rfl, Nat.le_refl _, Sl.nil _ _ _, by simp, .inl ⟨rfl, rfl⟩⟩
 ·cases hcs
  simp only [if_true] at hz
  refine ⟨some a, len, cap, zs.take len, rfl, by simp; omega, hl, fun j u hj => ?_, fun n hn => hwz n (List.mem_of_mem_take hn), .inr ⟨_, _, rfl, by simp [lits]; omega⟩⟩
  ·rw [List.getElem?_map, Option.map_eq_some_iff] at hj
   obtain ⟨n, hn, rfl⟩ := hj
   rw [List.getElem?_take] at hn
   split at hn
   ·have hjz : j < zs.length := by
     rcases Nat.lt_or_ge j zs.length with h' | h'
     ·exact h'
     ·rw [List.getElem?_eq_none h'] at hn; cases hn
    have := hcell j hjz
    rw [show zs.getD j 0 = n by simp [List.getD, hn]] at this
    have hb := World.block_lt_of_cell? W _ this
    rw [add_block] at hb
    exact ⟨a, rfl, hb, this⟩
   ·cases hn
theorem flatten_get {sz : Nat} (h0 : 0 < sz) : ∀ {xs : List (List Value)} {j : Nat}, (∀ c ∈ xs, c.length = sz) → xs.flatten[j]? = (xs[j / sz]?).bind (·[j % sz]?)
 | [], j, _ => by simp
 | c :: xs, j, h => by
  have hc : c.length = sz := h c (by simp)
  rw [List.flatten_cons]
  by_cases hj : j < sz
  ·rw [List.getElem?_append_left (by omega), Nat.div_eq_of_lt hj, Nat.mod_eq_of_lt hj]; rfl
  ·rw [List.getElem?_append_right (by omega), hc, flatten_get h0 (fun c hc => h c (by simp [hc]))]
   obtain ⟨k, rfl⟩ : ∃ k, j = k + sz := ⟨j - sz, by omega⟩
   rw [Nat.add_sub_cancel, Nat.add_div_right _ h0, Nat.add_mod_right]; rfl
theorem flatten_length {sz : Nat} : ∀ {xs : List (List Value)}, (∀ c ∈ xs, c.length = sz) → xs.flatten.length = xs.length * sz
 | [], _ => by simp
 | c :: xs, h => by
  rw [List.flatten_cons, List.length_append, flatten_length (fun c hc => h c (by simp [hc])), h c (by simp), List.length_cons, Nat.add_mul]; omega
def cellsF {α : Type} (f : α → List Value) (az : List α) : List Value := (az.map f).flatten
theorem cellsF_length {α : Type} {f : α → List Value} {sz : Nat} (hf : ∀ a, (f a).length = sz) (az : List α) : (cellsF f az).length = az.length * sz := by
 unfold cellsF
 rw [flatten_length (sz := sz) (by simp [hf]), List.length_map]
theorem cellsF_get {α : Type} {f : α → List Value} {sz : Nat} (hf : ∀ a, (f a).length = sz) {az : List α} {i k : Nat} {a : α} (ha : az[i]? = some a) (hk : k < sz) : (cellsF f az)[i * sz + k]? = (f a)[k]? := by
 unfold cellsF
 rw [flatten_get (sz := sz) (by omega) (by simp [hf])]
 have h1 : (i * sz + k) / sz = i := by rw [Nat.add_comm, Nat.add_mul_div_right _ _ (by omega), Nat.div_eq_of_lt hk, Nat.zero_add]
 have h2 : (i * sz + k) % sz = k := by rw [Nat.add_comm, Nat.add_mul_mod_self_right, Nat.mod_eq_of_lt hk]
 rw [h1, h2, List.getElem?_map, ha]; rfl
theorem Sl.elem {α : Type} {f : α → List Value} {sz N : Nat} {w : World} {base : Option Addr} {az : List α} {i : Int} {len : Nat} {a : α} {F : Addr → Prop} (h : Sl N w base (cellsF f az)) (hf : ∀ a, (f a).length = sz) (hs : 0 < sz) (h0 : 0 ≤ i) (hl : az.length = len) (ha : az[i.toNat]? = some a)
  (hF : ∀ c : Addr, (∀ k v, (f a)[k]? = some v → w.cell? (c.add k) = some v) → F c) : idx base len i sz F := by
 have hlt : i.toNat < az.length := (List.getElem?_eq_some_iff.1 ha).1
 have key : ∀ k v, (f a)[k]? = some v → ∃ b, base = some b ∧ b.spot = none ∧ w.cell? (b.add (i.toNat * sz + k)) = some v := by
  intro k v hv
  have hk : k < sz := by rw [← hf a]; exact (List.getElem?_eq_some_iff.1 hv).1
  obtain ⟨b, h1, h2, h3⟩ := h _ _ ((cellsF_get hf ha hk).trans hv)
  subst h1
  refine ⟨b, rfl, h.spot fun e => ?_, h3⟩
  have := (cellsF_get hf ha hk).trans hv
  rw [e] at this; simp at this
 obtain ⟨b, hb, hsp, _⟩ := key 0 ((f a)[0]'(by rw [hf]; exact hs)) (List.getElem?_eq_getElem _)
 refine ⟨h0, by omega, b, hb, hF _ fun k v hv => ?_⟩
 obtain ⟨b', hb', _, h3⟩ := key k v hv
 rw [hb] at hb'; cases hb'
 rw [add_add b hsp]; exact h3
theorem wfu8 {n : Int} (h : (Lit.int .u8 n).wf = true) : 0 ≤ n ∧ n ≤ 255 := by
 simp [Lit.wf, IntKind.min, IntKind.max, IntKind.signed, IntKind.bits] at h; omega
end Go.Vc
namespace Go.Proofs.Ytiiaihiliimcoaa
open Go Go.Vc Go.RowKit
set_option maxRecDepth 100000
abbrev i64 (n : Int) : Value := .int .i64 n
abbrev u16 (n : Int) : Value := .int .u16 n
theorem to_bool {R : Ending → World → Prop} {w : World} {b c : Bool} (h : R (.returned (.bool b)) w) (e : b = c) : R (.returned (.bool c)) w := e ▸ h
def gfits (x y : Int) : Bool := decide (1 ≤ x ∧ 1 ≤ y ∧ x ≤ 4096 ∧ y ≤ 4096 ∧ x * y ≤ 65536)
theorem gfits_iff {x y : Int} : gfits x y = true ↔ 1 ≤ x ∧ 1 ≤ y ∧ x ≤ 4096 ∧ y ≤ 4096 ∧ x * y ≤ 65536 := by simp [gfits]
theorem wrapmul {x y : Int} (h0 : 1 ≤ x) (h1 : 1 ≤ y) (h2 : x ≤ 4096) (h3 : y ≤ 4096) : IntKind.i64.wrap (x * y) = x * y := by
 have a : 0 ≤ x * y := Int.mul_nonneg (by omega) (by omega)
 have b : x * y ≤ 4096 * 4096 := Int.mul_le_mul h2 h3 (by omega) (by omega)
 exact w64 (by omega) (by omega)
theorem fitsB {x y : Int} : (decide (min x y ≥ 1) && decide (max x y ≤ 4096) && decide (IntKind.i64.wrap (x * y) ≤ 65536)) = gfits x y := by
 by_cases h : 1 ≤ x ∧ 1 ≤ y ∧ x ≤ 4096 ∧ y ≤ 4096
 ·rw [wrapmul h.1 h.2.1 h.2.2.1 h.2.2.2, Bool.eq_iff_iff]; simp only [gfits, Bool.and_eq_true, decide_eq_true_eq]; omega
 ·rw [Bool.eq_iff_iff]; simp only [gfits, Bool.and_eq_true, decide_eq_true_eq]
  constructor
  ·intro h'; exact (h (by omega)).elim
  ·intro h'; exact (h (by omega)).elim
theorem fits_spec {x y : Int} {w : World} {R : Ending → World → Prop} (hR : R (.returned (.bool (gfits x y))) w) : Calls P F.grid_fits #[i64 x, i64 y] w R := by
 refine calls_grid_fits _ _ _ _ ?_
 unfold vc_grid_fits
 rw [fitsB]; exact hR
theorem Fits_spec {x y : Int} {w : World} {R : Ending → World → Prop} (hR : R (.returned (.bool (gfits x y))) w) : Calls P F.ref07_Fits #[i64 x, i64 y] w R := by
 refine calls_ref07_Fits _ _ _ _ ?_
 unfold vc_ref07_Fits
 rw [show (decide (x ≥ 1) && decide (y ≥ 1) && decide (x ≤ 4096) && decide (y ≤ 4096) && decide (IntKind.i64.wrap (x * y) ≤ 65536)) = gfits x y from ?_]
 ·exact hR
 ·rw [← fitsB]
  congr 1
  rw [Bool.eq_iff_iff]; simp only [Bool.and_eq_true, decide_eq_true_eq]; omega
def px (xs : List Int) : List Value := xs.map u16
theorem px_length (xs : List Int) : (px xs).length = xs.length := by simp [px]
theorem px_get {xs : List Int} {i : Nat} (h : i < xs.length) : (px xs)[i]? = some (u16 (xs.getD i 0)) := by simp [px, List.getD, h]
theorem px_append (xs ys : List Int) : px (xs ++ ys) = px xs ++ px ys := by simp [px]
theorem px_oneAll (xs : List Int) : oneAll (px xs) = true := by simp [oneAll, px, Value.oneCell']
abbrev Co := Int × Int × Int × Int
def co (c : Co) : List Value := [u16 c.1, u16 c.2.1, u16 c.2.2.1, u16 c.2.2.2]
def coL (c : Co) : List Int := [c.1, c.2.1, c.2.2.1, c.2.2.2]
theorem co_px (c : Co) : co c = px (coL c) := rfl
def cos (l : List Co) : List Value := cellsF co l
theorem cos_length (l : List Co) : (cos l).length = l.length * 4 := cellsF_length (sz := 4) (fun _ => rfl) l
theorem cos_append (a b : List Co) : cos (a ++ b) = cos a ++ cos b := by simp [cos, cellsF]
theorem cos_one (c : Co) : cos [c] = co c := by simp [cos, cellsF]
def flat (l : List Co) : List Int := (l.map coL).flatten
theorem cos_px (l : List Co) : cos l = px (flat l) := by
 induction l with
 | nil => rfl
 | cons c l ih =>
  have h1 : cos (c :: l) = co c ++ cos l := by simp [cos, cellsF]
  have h2 : flat (c :: l) = coL c ++ flat l := by simp [flat]
  rw [h1, h2, px_append, ih, co_px]
def colAt (xs : List Int) (k : Nat) : Co := (xs.getD (4 * k) 0, xs.getD (4 * k + 1) 0, xs.getD (4 * k + 2) 0, xs.getD (4 * k + 3) 0)
def good (W H : Int) (xs : List Int) : Bool := gfits W H && decide ((xs.length : Int) = 4 * (W * H))
theorem good_spec {w : World} {p : Option Addr} {len cap : Nat} {W H : Int} {xs : List Int} {R : Ending → World → Prop} (hl : len = xs.length)
  (hR : ∀ w', Ext w w' → R (.returned (.bool (good W H xs))) w') : Calls P F.raster_Good #[.agg #[i64 W, i64 H, .slice p len cap]] w R := by
 refine calls_raster_Good _ _ _ _ _ _ _ ?_
 intro k1 hk1 w1 hL
 refine to_bool (hR w1 (hL.ext (by simpa using hk1))) ?_
 rw [fitsB, good]
 cases hg : gfits W H with
 | false => rfl
 | true =>
  obtain ⟨h1, h2, h3, h4, h5⟩ := gfits_iff.1 hg
  have hp : 0 ≤ W * H := Int.mul_nonneg (by omega) (by omega)
  have e : 4 * W * H = 4 * (W * H) := Int.mul_assoc _ _ _
  rw [w64 (x := 4 * W) (by omega) (by omega), e, w64 (x := 4 * (W * H)) (by omega) (by omega), hl, Bool.eq_iff_iff]
  simp
theorem refGood_spec {w : World} {p : Option Addr} {len cap : Nat} {W H : Int} {xs : List Int} {R : Ending → World → Prop} (hl : len = xs.length)
  (hR : ∀ w', Ext w w' → R (.returned (.bool (good W H xs))) w') : Calls P F.ref09_Good #[.agg #[i64 W, i64 H, .slice p len cap]] w R := by
 refine calls_ref09_Good _ _ _ _ _ _ _ ?_
 intro k1 hk1 w1 hL
 refine Fits_spec ⟨_, rfl, (Ext.refl _).keep _, ?_⟩
 refine to_bool (hR w1 (hL.ext (by simpa using hk1))) ?_
 rw [good]
 cases hg : gfits W H with
 | false => rfl
 | true =>
  obtain ⟨h1, h2, h3, h4, h5⟩ := gfits_iff.1 hg
  have hp : 0 ≤ W * H := Int.mul_nonneg (by omega) (by omega)
  have e : 4 * W * H = 4 * (W * H) := Int.mul_assoc _ _ _
  rw [w64 (x := 4 * W) (by omega) (by omega), e, w64 (x := 4 * (W * H)) (by omega) (by omega), hl, Bool.eq_iff_iff]
  simp
end Go.Proofs.Ytiiaihiliimcoaa
namespace Go.Proofs.Ytiiaihiliimcoaa
open Go Go.Vc Go.RowKit
set_option maxRecDepth 100000
structure Img (w : World) (p : Option Addr) (len : Nat) (xs : List Int) : Prop where
 sl : Sl w.heap.size w p (px xs)
 len : len = xs.length
theorem Img.ext {w w' : World} {p : Option Addr} {len : Nat} {xs : List Int} (h : Img w p len xs) (hE : Ext w w') : Img w' p len xs := ⟨(h.sl.ext hE).up, h.len⟩
theorem Img.of_ow {N M : Nat} {w : World} {p : Option Addr} {len cap : Nat} {xs : List Int} (h : Ow N M w p len cap 1 (px xs)) : Img w p len xs :=
 ⟨h.sl.up, by have := h.len; rwa [px_length] at this⟩
theorem copy_spec {w : World} {p : Option Addr} {len cap : Nat} {W H : Int} {xs : List Int} {R : Ending → World → Prop} (h : Img w p len xs) (hsz : len * 2 ≤ 2 ^ 47)
  (hR : ∀ p' c' w', Ext w w' → Ow w.heap.size w'.heap.size w' p' len c' 1 (px xs) → R (.returned (.agg #[i64 W, i64 H, .slice p' len c'])) w') :
  Calls P F.ref09_Copy #[.agg #[i64 W, i64 H, .slice p len cap]] w R := by
 refine calls_ref09_Copy _ _ _ _ _ _ _ ?_
 intro k1 hk1 k2 hk2 w1 hL1 k3 w2 hn
 have hE1 : Ext w w1 := hL1.ext (by simp; omega)
 have hs1 := hE1.size
 have hs2 := hn.ext.size
 have ht1 := hL1.there k1 (by simp)
 have ht2 := hL1.there k2 (by simp)
 have hl := h.len
 refine ⟨px xs, by rw [px_length]; omega, px_oneAll _, ((h.sl.ext hE1).ext hn.ext).cells, ?_⟩
 refine (Ow.nil w2.heap.size w2.heap.size w2 (some ⟨k3, 0, none⟩) 1).appS (by simp [blocks]; omega) (Nat.le_refl _) (Nat.le_refl _) rfl (by rw [px_length]; omega) (by omega) (by omega) fun p' c' w3 ho hC w4 hL4 => ?_
 rw [Nat.zero_add] at ho ⊢
 have hs3 := hC.size
 have hs4 := hL4.size
 have hE3 : Ext w w3 := (hE1.trans hn.ext).step hC (fun i hi => by omega)
 refine hR p' c' w4 (hE3.step hL4.chg (by simp; omega)) ?_
 have ho4 := ho.chg hL4.chg (fun i hi hlt e => by simp at e; omega)
 simpa using ho4.own fun i hi hlt => by omega
theorem colour_spec {N : Nat} {w : World} {p : Option Addr} {len cap : Nat} {xs : List Int} {R : Ending → World → Prop} (h : Sl N w p (px xs)) (hl : len = xs.length) (h4 : 4 ≤ len)
  (hR : ∀ w', Ext w w' → R (.returned (.agg (co (colAt xs 0)).toArray)) w') : Calls P F.raster_colour #[.slice p len cap] w R := by
 refine calls_raster_colour _ _ _ _ _ ?_
 intro k1 hk1
 have g : ∀ (i : Nat) {u : World} {F : Addr → Prop}, i < 4 → Ext w u → (∀ a, (∀ u', Ext w u' → u'.cell? a = some (u16 (xs.getD i 0))) → F a) → idx p len (i : Int) 1 F := by
  intro i u F hi hE hF
  obtain ⟨a, h1, h2, h3⟩ := h i _ (px_get (by omega))
  refine ⟨by omega, by omega, a, h1, hF _ fun u' hE' => ?_⟩
  rw [show ((i : Int).toNat * 1) = i by omega]
  exact hE'.cell h3
 refine g 0 (by omega) (Ext.refl w) fun a1 c1 w1 hL1 => ?_
 have hE1 : Ext w w1 := hL1.ext (by simpa using hk1)
 refine ⟨_, c1 _ hE1, g 1 (by omega) hE1 fun a2 c2 => ⟨_, c2 _ hE1, g 2 (by omega) hE1 fun a3 c3 => ⟨_, c3 _ hE1, g 3 (by omega) hE1 fun a4 c4 => ⟨_, c4 _ hE1, fun w2 hL2 => ?_⟩⟩⟩⟩
 exact hR w2 (hE1.step hL2.chg (by simpa using hk1))
theorem pixAt {W H x y n : Int} (hg : gfits W H = true) (hn : n = 4 * (W * H)) (hx0 : 0 ≤ x) (hy0 : 0 ≤ y) (hx : x < W) (hy : y < H) :
  0 ≤ y * W + x ∧ 4 * (y * W + x) + 4 ≤ n ∧ n ≤ 262144 ∧ IntKind.i64.wrap (IntKind.i64.wrap (y * W) + x) = y * W + x ∧ IntKind.i64.wrap (4 * (y * W + x)) = 4 * (y * W + x) := by
 obtain ⟨h1, h2, h3, h4, h5⟩ := gfits_iff.1 hg
 have a : 0 ≤ y * W := Int.mul_nonneg hy0 (by omega)
 have c : y * W + W ≤ W * H := by
  rw [show y * W + W = (y + 1) * W by rw [Int.add_mul]; omega, Int.mul_comm W H]
  exact Int.mul_le_mul_of_nonneg_right (by omega) (by omega)
 refine ⟨by omega, by omega, by omega, ?_, w64 (by omega) (by omega)⟩
 rw [w64 (x := y * W) (by omega) (by omega), w64 (by omega) (by omega)]
theorem colAt_drop {xs : List Int} {k : Nat} : colAt (xs.drop (4 * k)) 0 = colAt xs k := by simp [colAt, List.getD, List.getElem?_drop]
end Go.Proofs.Ytiiaihiliimcoaa
namespace Go.Proofs.Ytiiaihiliimcoaa
open Go Go.Vc Go.RowKit
set_option maxRecDepth 100000
theorem getE {N : Nat} {w : World} {p : Option Addr} {len : Nat} {xs : List Int} (h : Sl N w p (px xs)) (hl : len = xs.length) {i : Int} (h0 : 0 ≤ i) (h1 : i < len) {F : Addr → Prop}
  (hF : ∀ a, (∀ u, Ext w u → u.cell? a = some (u16 (xs.getD i.toNat 0))) → F a) : idx p len i 1 F := by
 obtain ⟨a, e1, e2, e3⟩ := h i.toNat _ (px_get (by omega))
 refine ⟨h0, h1, a, e1, hF _ fun u hE => ?_⟩
 rw [Nat.mul_one]; exact hE.cell e3
theorem refPixel_spec {w : World} {p : Option Addr} {len cap : Nat} {W H x y : Int} {xs : List Int} {R : Ending → World → Prop} (h : Img w p len xs) (hg : good W H xs = true) (hx0 : 0 ≤ x) (hy0 : 0 ≤ y) (hx : x < W) (hy : y < H)
  (hR : ∀ w', Ext w w' → R (.returned (.agg (co (colAt xs (y * W + x).toNat)).toArray)) w') : Calls P F.ref09_Pixel #[.agg #[i64 W, i64 H, .slice p len cap], i64 x, i64 y] w R := by
 refine calls_ref09_Pixel _ _ _ _ _ _ _ _ _ ?_
 intro k1 hk1 k2 hk2
 simp only [good, Bool.and_eq_true, decide_eq_true_eq] at hg
 obtain ⟨p0, p1, p2, p3, p4⟩ := pixAt hg.1 hg.2 hx0 hy0 hx hy
 have hl := h.len
 rw [p3, p4, w64 (x := 4 * (y * W + x) + 1) (by omega) (by omega), w64 (x := 4 * (y * W + x) + 2) (by omega) (by omega), w64 (x := 4 * (y * W + x) + 3) (by omega) (by omega)]
 refine getE h.sl hl (by omega) (by omega) fun a1 c1 w1 hL1 => ?_
 have hE1 : Ext w w1 := hL1.ext (by simp; omega)
 refine ⟨_, c1 _ hE1, getE h.sl hl (by omega) (by omega) fun a2 c2 => ⟨_, c2 _ hE1, getE h.sl hl (by omega) (by omega) fun a3 c3 => ⟨_, c3 _ hE1, getE h.sl hl (by omega) (by omega) fun a4 c4 => ⟨_, c4 _ hE1, fun w2 hL2 => ?_⟩⟩⟩⟩
 have := hR w2 (hE1.step hL2.chg (by simp; omega))
 rw [show (4 * (y * W + x)).toNat = 4 * (y * W + x).toNat by omega, show (4 * (y * W + x) + 1).toNat = 4 * (y * W + x).toNat + 1 by omega, show (4 * (y * W + x) + 2).toNat = 4 * (y * W + x).toNat + 2 by omega, show (4 * (y * W + x) + 3).toNat = 4 * (y * W + x).toNat + 3 by omega]
 exact this
def zeroC : Co := (0, 0, 0, 0)
theorem px_loop {N M : Nat} {w : World} {a b : Option Addr} {la lb : Nat} {xs ys : List Int} {S : World → Prop} {f : World → Prop} {t : World → Prop}
  (ha : Sl N w a (px xs)) (hb : Sl M w b (px ys)) (hla : la = xs.length) (hlb : lb = ys.length) (heq : la = lb) (h62 : la < 2 ^ 62) (hS : ∀ u, S u → Ext w u)
  (hf : ∀ u, Ext w u → xs ≠ ys → f u) (ht : ∀ u, Ext w u → xs = ys → t u) :
  ∃ (I : List Value → World → Prop) (m : List Value → World → Nat), (∀ u, S u → I [i64 0] u) ∧ ∀ (n : Int) (w1 : World), I [i64 n] w1 → brB (decide (n < (la : Int)))
   (idx a la n 1 fun a1 => ∃ n2 : Int, (w1.drew.cell? a1 = some (u16 n2)) ∧ idx b lb n 1 fun a2 => ∃ n3 : Int, (w1.drew.cell? a2 = some (u16 n3)) ∧
    brB (n2 != n3) (f w1.drew) ((I [i64 (IntKind.i64.wrap (n + 1))] w1.drew) ∧ m [i64 (IntKind.i64.wrap (n + 1))] w1.drew < m [i64 n] w1)) (t w1) := by
 have hlen : xs.length = ys.length := by omega
 refine ⟨fun vs w' => match vs with | [.int _ i] => 0 ≤ i ∧ i ≤ la ∧ Ext w w' ∧ ∀ j : Nat, (j : Int) < i → xs.getD j 0 = ys.getD j 0 | _ => False,
  fun vs _ => match vs with | [.int _ i] => (la - i).toNat | _ => 0, fun u hu => ⟨Int.le_refl _, by omega, hS u hu, fun j hj => by omega⟩, fun n w1 hI => ?_⟩
 obtain ⟨h0, h1, hE, hj⟩ := hI
 refine brB_i (fun hlt => ?_) (fun hge => ?_)
 ·have hlt : n < la := by simpa using hlt
  refine (ha.ext hE).drew.get h0 (by rw [px_length]; omega) (px_get (by omega)) fun a1 hc1 => ⟨_, hc1, ?_⟩
  refine (hb.ext hE).drew.get h0 (by rw [px_length]; omega) (px_get (by omega)) fun a2 hc2 => ⟨_, hc2, ?_⟩
  refine brB_i (fun hne => ?_) (fun heq => ?_)
  ·exact hf _ hE.drew (fun e => by subst e; simp at hne)
  ·have heq : xs.getD n.toNat 0 = ys.getD n.toNat 0 := by simpa using heq
   rw [w64 (by omega) (by omega)]
   refine ⟨⟨by omega, by omega, hE.drew, fun j hj' => ?_⟩, ?_⟩
   ·by_cases hjn : (j : Int) < n
    ·exact hj j hjn
    ·rw [show j = n.toNat by omega]; exact heq
   ·show (la - (n + 1)).toNat < (la - n).toNat
    omega
 ·have hge : n = la := by simp at hge; omega
  refine ht _ hE (List.ext_getElem hlen fun j h1 h2 => ?_)
  have := hj j (by omega)
  simpa [List.getD, h1, h2] using this
def same (W H W' H' : Int) (xs ys : List Int) : Bool := decide (W = W' ∧ H = H' ∧ xs = ys)
theorem refSame_spec {w : World} {a b : Option Addr} {la ca lb cb : Nat} {W H W' H' : Int} {xs ys : List Int} {R : Ending → World → Prop} (ha : Img w a la xs) (hb : Img w b lb ys) (h62 : la < 2 ^ 62)
  (hR : ∀ w', Ext w w' → R (.returned (.bool (same W H W' H' xs ys))) w') : Calls P F.ref09_Same #[.agg #[i64 W, i64 H, .slice a la ca], .agg #[i64 W', i64 H', .slice b lb cb]] w R := by
 refine calls_ref09_Same _ _ _ _ _ _ _ _ _ _ _ _ ?_
 intro k1 hk1 k2 hk2
 refine brB_i (fun he w1 hL1 => ?_) (fun he => ?_)
 ·have hE1 : Ext w w1 := hL1.ext (by simp; omega)
  refine to_bool (hR w1 hE1) ?_
  have h1 := ha.len
  have h2 := hb.len
  simp only [Bool.or_eq_true, bne_iff_ne, ne_eq] at he
  simp only [same, decide_eq_false_iff_not]
  rintro ⟨rfl, rfl, rfl⟩
  rcases he with (he | he) | he
  ·exact he rfl
  ·exact he rfl
  ·exact he (by omega)
 ·simp only [Bool.or_eq_false_iff, bne_eq_false_iff_eq] at he
  obtain ⟨⟨rfl, rfl⟩, he⟩ := he
  exact px_loop (S := fun u => Locl [k2, k1] w u) (f := fun u => R (.returned (.bool false)) u) (t := fun u => R (.returned (.bool true)) u) ha.sl hb.sl ha.len hb.len (by omega) h62 (fun u hu => hu.ext (by simp; omega))
   (fun u hE hne => to_bool (hR u hE) (by simp [same, hne])) (fun u hE he => to_bool (hR u hE) (by simp [same, he]))
end Go.Proofs.Ytiiaihiliimcoaa
namespace Go.Proofs.Ytiiaihiliimcoaa
open Go Go.Vc Go.RowKit
set_option maxRecDepth 100000
def addC (l : List Co) (c : Co) : List Co := if c ∈ l then l else l ++ [c]
def distX (xs : List Int) : Nat → List Co
 | 0 => []
 | n + 1 => addC (distX xs n) (colAt xs n)
theorem distX_succ (xs : List Int) (n : Nat) : distX xs (n + 1) = addC (distX xs n) (colAt xs n) := rfl
theorem addC_length (l : List Co) (c : Co) : (addC l c).length ≤ l.length + 1 := by unfold addC; split <;> simp
theorem distX_length (xs : List Int) : ∀ n, (distX xs n).length ≤ n
 | 0 => by simp [distX]
 | n + 1 => by have := addC_length (distX xs n) (colAt xs n); have := distX_length xs n; rw [distX_succ]; omega
theorem mem_addC (l : List Co) (c : Co) : c ∈ addC l c := by unfold addC; split <;> simp_all
theorem distX_mem (xs : List Int) (n : Nat) : colAt xs n ∈ distX xs (n + 1) := mem_addC _ _
theorem addC_old {l : List Co} {c : Co} (h : c ∈ l) : addC l c = l := by simp [addC, h]
theorem addC_new {l : List Co} {c : Co} (h : c ∉ l) : addC l c = l ++ [c] := by simp [addC, h]
def distR (W H : Int) (xs : List Int) : List Co := if good W H xs then distX xs (W * H).toNat else []
theorem co_inj {a b : Co} : (decide (a.1 = b.1) && (decide (a.2.1 = b.2.1) && (decide (a.2.2.1 = b.2.2.1) && (decide (a.2.2.2 = b.2.2.2) && true)))) = decide (a = b) := by
 obtain ⟨a1, a2, a3, a4⟩ := a; obtain ⟨b1, b2, b3, b4⟩ := b
 rw [Bool.eq_iff_iff]; simp
theorem cos_elem {N : Nat} {w : World} {p : Option Addr} {len : Nat} {l : List Co} {F : Addr → Prop} (h : Sl N w p (cos l)) (hl : l.length = len) {i : Int} (h0 : 0 ≤ i) (h1 : i < len)
  (hF : ∀ a : Addr, w.cell? a = some (u16 (l.getD i.toNat zeroC).1) → w.cell? (a.add 1) = some (u16 (l.getD i.toNat zeroC).2.1) → w.cell? (a.add 2) = some (u16 (l.getD i.toNat zeroC).2.2.1) → w.cell? (a.add 3) = some (u16 (l.getD i.toNat zeroC).2.2.2) → F a) : idx p len i 4 F := by
 have hlt : i.toNat < l.length := by omega
 refine h.elem (f := co) (fun _ => rfl) (by omega) h0 hl (List.getElem?_eq_getElem hlt) fun c hc => ?_
 have e : l.getD i.toNat zeroC = l[i.toNat] := by simp [List.getD, hlt]
 rw [e] at hF
 have h0 := hc 0 _ rfl
 rw [add_zero'] at h0
 exact hF c h0 (hc 1 _ rfl) (hc 2 _ rfl) (hc 3 _ rfl)
theorem Place_spec {N : Nat} {w : World} {p : Option Addr} {len cap : Nat} {l : List Co} {c : Co} {R : Ending → World → Prop} (h : Sl N w p (cos l)) (hl : l.length = len) (h62 : len < 2 ^ 62)
  (hR : ∀ n w', Ext w w' → decide (n < 0) = decide (c ∉ l) → R (.returned (i64 n)) w') : Calls P F.ref09_Place #[.slice p len cap, .agg (co c).toArray] w R := by
 refine calls_ref09_Place _ _ _ _ _ _ _ _ _ ?_
 intro k1 hk1
 refine ⟨fun vs u => match vs with | [.int _ n] => 0 ≤ n ∧ n ≤ len ∧ Ext w u ∧ ∀ j : Nat, (j : Int) < n → l.getD j zeroC ≠ c | _ => False,
  fun vs _ => match vs with | [.int _ n] => (len - n).toNat | _ => 0, fun w1 hL1 => ⟨Int.le_refl _, by omega, hL1.ext (by simpa using hk1), fun j hj => by omega⟩, fun n w2 hI => ?_⟩
 obtain ⟨n0, n1, hE, hj⟩ := hI
 refine brB_i (fun hlt => ?_) (fun hge => ?_)
 ·have hlt : n < len := by simpa using hlt
  refine cos_elem (h.ext hE).drew hl n0 hlt fun a h1 h2 h3 h4 => ⟨_, _, _, _, h1, h2, h3, h4, ?_⟩
  rw [co_inj (a := l.getD n.toNat zeroC) (b := c)]
  have hnl : n.toNat < l.length := by omega
  refine brB_i (fun he => ?_) (fun hne => ?_)
  ·refine hR n _ hE.drew ?_
   have he : l.getD n.toNat zeroC = c := by simpa using he
   have hm : c ∈ l := by
    rw [← he]; simp [List.getD, hnl]
   rw [decide_eq_false (by omega), decide_eq_false (by simpa using hm)]
  ·have hne : l.getD n.toNat zeroC ≠ c := by simpa using hne
   rw [w64 (x := n + 1) (by omega) (by omega)]
   refine ⟨⟨by omega, by omega, hE.drew, fun j hj' => ?_⟩, ?_⟩
   ·by_cases hjn : (j : Int) < n
    ·exact hj j hjn
    ·rw [show j = n.toNat by omega]; exact hne
   ·show (len - (n + 1)).toNat < (len - n).toNat
    omega
 ·have hge : n = len := by simp at hge; omega
  refine hR (-1) w2 hE ?_
  have hm : c ∉ l := fun hm => by
   obtain ⟨j, hjl, hje⟩ := List.getElem_of_mem hm
   exact hj j (by omega) (by simp [List.getD, hjl, hje])
  rw [decide_eq_true (by omega), decide_eq_true hm]
abbrev kdC : Kd := .agg [.u16, .u16, .u16, .u16]
def kvC (l : List Co) : List (Value × Value) := l.map fun c => (.agg (co c).toArray, .agg #[])
theorem keyEq_co (a b : Co) : keyEq (.agg (co a).toArray) (.agg (co b).toArray) = decide (a = b) := by
 have := keyEq_iff (kd := kdC) (u := .agg (co a).toArray) (v := .agg (co b).toArray) rfl rfl
 rw [Bool.eq_iff_iff, this]
 obtain ⟨a1, a2, a3, a4⟩ := a; obtain ⟨b1, b2, b3, b4⟩ := b
 simp [co]
theorem mfind_co (c : Co) : ∀ l : List Co, mfind (.agg (co c).toArray) (kvC l) = if c ∈ l then some (.agg #[]) else none
 | [] => rfl
 | d :: l => by
  have ih := mfind_co c l
  show (match keyEq (.agg (co c).toArray) (.agg (co d).toArray) with | true => some (Value.agg #[]) | false => mfind (.agg (co c).toArray) (kvC l)) = _
  rw [keyEq_co]
  by_cases h : c = d
  ·simp [h]
  ·simp [h, ih]
theorem mgot_co (c : Co) (l : List Co) : mgot (kvC l) (.agg (co c).toArray) (.agg #[]) = (.agg #[], decide (c ∈ l)) := by
 unfold mgot; rw [mfind_co]
 by_cases h : c ∈ l <;> simp [h]
theorem mput_co (c : Co) : ∀ l : List Co, c ∉ l → mput (.agg (co c).toArray) (.agg #[]) (kvC l) = kvC (l ++ [c])
 | [], _ => rfl
 | d :: l, h => by
  have ih := mput_co c l (fun hm => h (by simp [hm]))
  show (match keyEq (.agg (co c).toArray) (.agg (co d).toArray) with | true => ((Value.agg (co c).toArray, Value.agg #[]) :: kvC l) | false => (Value.agg (co d).toArray, Value.agg #[]) :: mput (.agg (co c).toArray) (.agg #[]) (kvC l)) = (Value.agg (co d).toArray, Value.agg #[]) :: kvC (l ++ [c])
  rw [keyEq_co]
  have : c ≠ d := fun e => h (by simp [e])
  simp [this, ih]
theorem Distinct_spec {w : World} {p : Option Addr} {len cap : Nat} {W H : Int} {xs : List Int} {R : Ending → World → Prop} (h : Img w p len xs) (hc : len ≤ cap)
  (hR : ∀ p' c' w', Fg [] w w' 4 p' (distR W H xs).length c' (cos (distR W H xs)) → R (.returned (.slice p' (distR W H xs).length c')) w') :
  Calls P F.raster_Distinct #[.agg #[i64 W, i64 H, .slice p len cap]] w R := by
 refine calls_raster_Distinct _ _ _ _ _ _ _ ?_
 intro k1 hk1 w1 hL1
 have hE1 : Ext w w1 := hL1.ext (by simpa using hk1)
 refine good_spec h.len fun w2 hE2 => ⟨_, rfl, hE2.keep _, ?_⟩
 have hE12 := hE1.trans hE2
 have hs12 := hE12.size
 refine brB_i (fun hb => ?_) (fun hb k2 w3 hn3 k3 hk3 => ?_)
 ·have hb : good W H xs = false := by simpa using hb
  rw [distR, if_neg (by simp [hb])] at hR
  exact hR none 0 w2 (Fg.nil hE12 4)
 have hb : good W H xs = true := by simpa using hb
 rw [distR, if_pos hb] at hR
 have hb' := hb
 simp only [good, Bool.and_eq_true, decide_eq_true_eq] at hb'
 obtain ⟨g1, g2, g3, g4, g5⟩ := gfits_iff.1 hb'.1
 have hwm := wrapmul g1 g2 g3 g4
 have hpos : 0 ≤ W * H := Int.mul_nonneg (by omega) (by omega)
 have ht1 := hL1.there k1 (by simp)
 have hk2 : w2.heap.size = k2 := hn3.1.symm
 have hs2 := hE2.size
 have hk2' := hn3.size
 have hE3 := hE12.trans hn3.ext
 have hxl := h.len
 have hmp : Mp kdC w3 k2 (kvC []) := hn3.mp _
 rw [hwm]
 refine ⟨fun vs u => match vs with | [.slice p len cap, .int _ n, .int _ a, .int _ b, .int _ c, .int _ d] => 0 ≤ n ∧ n ≤ W * H ∧ len = (distX xs n.toNat).length ∧ Fg [k3, k1, k2] w u 4 p len cap (cos (distX xs n.toNat)) ∧ Mp kdC u k2 (kvC (distX xs n.toNat)) ∧ (0 < n → (a, b, c, d) ∈ distX xs n.toNat) | _ => False,
  fun vs _ => match vs with | [_, .int _ n, _, _, _, _] => (W * H - n).toNat | _ => 0, fun w4 hL4 => ⟨Int.le_refl _, hpos, by simp [distX], ?_, ?_, by omega⟩, fun p1 l1 c1 n la lb lc ld w5 hI => ?_⟩
 ·exact Fg.nil' hE3 (hL4.wide (cs := [k2]) (by simpa using hk2')) (by simp; omega) 4
 ·exact hmp.same (hL4.block k2 hk2' (by simp; omega))
 obtain ⟨n0, n1, rfl, hf, hmp, hla⟩ := hI
 refine brB_i (fun hlt => ?_) (fun hge => ?_)
 ·have hlt : n < W * H := by simpa using hlt
  have hll := distX_length xs n.toNat
  rw [w64 (x := 4 * n) (by omega) (by omega)]
  have hnx : (n + 1).toNat = n.toNat + 1 := by omega
  refine ⟨fun vs u => match vs with | [.slice p len cap, .int _ a, .int _ b, .int _ c, .int _ d] => len = (distX xs (n + 1).toNat).length ∧ Fg [k3, k1, k2] w u 4 p len cap (cos (distX xs (n + 1).toNat)) ∧ Mp kdC u k2 (kvC (distX xs (n + 1).toNat)) ∧ (a, b, c, d) ∈ distX xs (n + 1).toNat | _ => False, ?_, fun p4 l4 c4 a b c d w17 hI => ?_⟩
  ·rw [hnx, distX_succ]
   refine ⟨by omega, by omega, by omega, ?_⟩
   have hsl : Sl w5.heap.size w5 (slcBase p (4 * n).toNat cap 1) (px (xs.drop (4 * n.toNat))) := by
    refine ((h.sl.ext hf.ext).up).part (by rw [px_length]; omega) ?_
    rw [show (4 * n).toNat = 4 * n.toNat by omega]; simp [px, List.map_drop]
   have hk2s := (hf.avs k2 (by simp)).2
   refine colour_spec hsl (by rw [List.length_drop]; omega) (by omega) fun w6 hE6 => ?_
   rw [colAt_drop]
   refine ⟨_, _, _, _, rfl, hE6.keep _, fun k8 hk8 => ?_⟩
   have hf6 := hf.step hE6
   have hm6 := hmp.same (hE6.block k2 hk2s)
   have hk26 := (hf6.avs k2 (by simp)).2
   have hk8n : k2 ≠ k8 := by omega
   have hnk : k2 ≠ k3 ∧ k2 ≠ k1 := by omega
   have loc6 : ∀ u, Locl [k8, k3, k1] w6 u → Fg [k8, k3, k1, k2] w u 4 p1 (distX xs n.toNat).length c1 (cos (distX xs n.toNat)) ∧ Mp kdC u k2 (kvC (distX xs n.toNat)) := fun u hL =>
    ⟨hf6.locl (hL.wide (cs := [k2]) (by simpa using hk26)) (by simp; omega), hm6.same (hL.block k2 hk26 (by simp; omega))⟩
   refine ⟨fun vs u => match vs with | [] => Fg [k8, k3, k1, k2] w u 4 p1 (distX xs n.toNat).length c1 (cos (distX xs n.toNat)) ∧ Mp kdC u k2 (kvC (distX xs n.toNat)) | _ => False, ?_, fun w10 hI w11 hL11 => ?_⟩
   ·refine brB_i (fun hn => ?_) (fun _ u hL => loc6 u hL)
    rw [co_inj (a := colAt xs n.toNat) (b := (la, lb, lc, ld))]
    refine brB_i (fun he u hL => ?_) (fun _ u hL => loc6 u hL)
    obtain ⟨hfu, hmu⟩ := loc6 u hL
    have he : colAt xs n.toNat = (la, lb, lc, ld) := by simpa using he
    have hm := hla (by simpa using hn)
    rw [he, addC_old hm]
    exact ⟨rfl, hfu.mono (by simp), hmu, hm⟩
   ·obtain ⟨hf10, hm10⟩ := hI
    have hk210 := (hf10.avs k2 (by simp)).2
    have hf11 := hf10.locl (hL11.wide (cs := [k2]) (by simpa using hk210)) (by simp)
    have hm11 := hm10.same (hL11.block k2 hk210 (by simp; omega))
    refine ⟨_, hm11, _, mgot_co (colAt xs n.toNat) (distX xs n.toNat), fun k9 hk9 => ?_⟩
    have hk211 := (hf11.avs k2 (by simp)).2
    refine brB_i (fun hm w12 hL12 => ?_) (fun hm w16 hL16 => ?_)
    ·have hm : colAt xs n.toNat ∉ distX xs n.toNat := by simpa using hm
     have hf12 := hf11.locl (hL12.wide (cs := [k2]) (by simpa using hk211)) (by simp; omega)
     have hm12 := hm11.same (hL12.block k2 hk211 (by simp; omega))
     refine ⟨_, hm12, fun w13 hP13 hm13 k10 hk10 w14 hL14 => ?_⟩
     rw [show Value.agg #[Value.int IntKind.u16 (colAt xs n.toNat).1, Value.int IntKind.u16 (colAt xs n.toNat).2.1, Value.int IntKind.u16 (colAt xs n.toNat).2.2.1, Value.int IntKind.u16 (colAt xs n.toNat).2.2.2] = Value.agg (co (colAt xs n.toNat)).toArray from rfl, mput_co _ _ hm] at hm13
     have hk212 := (hf12.avs k2 (by simp)).2
     have hL13 : Locl [k2, k9, k8, k3, k1] w12 w13 := ⟨hP13.os, hP13.tape, hP13.output, Nat.le_of_eq hP13.size.symm, fun k hk hn => hP13.block k (fun e => hn (by simp [e])), fun b hb => by
      rw [hP13.size]; exact (hf12.avs b (by simp at hb ⊢; omega)).2⟩
     have hf13 := hf12.locl hL13 (by simp)
     have hk213 := (hf13.avs k2 (by simp)).2
     have hf14 := hf13.locl (hL14.wide (cs := [k2]) (by simpa using hk213)) (by simp; omega)
     have hm14 := hm13.same (hL14.block k2 hk213 (by simp; omega))
     refine hf14.app' (by simp [blocks]) rfl rfl (by omega) (by omega) fun p' c' w15 hf15 hk15 _ => ?_
     rw [addC_new hm]
     refine ⟨by simp, ?_, hm14.same (hk15 k2 (by simp) (hf14.avs k2 (by simp)).2).2, by simp⟩
     rw [cos_append, cos_one]
     exact hf15.mono (by simp)
    ·have hm : colAt xs n.toNat ∈ distX xs n.toNat := by simpa using hm
     have hf16 := hf11.locl (hL16.wide (cs := [k2]) (by simpa using hk211)) (by simp; omega)
     have hm16 := hm11.same (hL16.block k2 hk211 (by simp; omega))
     rw [addC_old hm]
     exact ⟨rfl, hf16.mono (by simp), hm16, hm⟩
  ·obtain ⟨rfl, hf17, hm17, hm⟩ := hI
   rw [w64 (x := n + 1) (by omega) (by omega)]
   refine ⟨⟨by omega, by omega, rfl, hf17, hm17, fun _ => hm⟩, ?_⟩
   show (W * H - (n + 1)).toNat < (W * H - n).toNat
   omega
 ·have hge : n = W * H := by simp at hge; omega
  subst hge
  exact hR p1 c1 w5 hf.weak
end Go.Proofs.Ytiiaihiliimcoaa
namespace Go.Proofs.Ytiiaihiliimcoaa
open Go Go.Vc Go.RowKit
set_option maxRecDepth 100000
def colsOf (xs : List Int) (n : Nat) : List Co := (List.range n).map (colAt xs)
theorem colsOf_length (xs : List Int) (n : Nat) : (colsOf xs n).length = n := by simp [colsOf]
end Go.Proofs.Ytiiaihiliimcoaa
namespace Go.Proofs.Ytiiaihiliimcoaa
open Go Go.Vc Go.RowKit
set_option maxRecDepth 100000
theorem good_iff {W H : Int} {xs : List Int} : good W H xs = true ↔ gfits W H = true ∧ (xs.length : Int) = 4 * (W * H) := by simp [good]
end Go.Proofs.Ytiiaihiliimcoaa
namespace Go.Proofs.Ytiiaihiliimcoaa
open Go Go.Vc Go.RowKit
set_option maxRecDepth 100000
theorem callW_i {P : Program} {f : FuncId} {first caps : Array Value} {args : List Value} {w : World} {R : Ending → World → Prop} (hok : FnOk P f = true) (h : Calls P f (first.toList ++ args ++ caps.toList).toArray w R) : callV P (.func (.func f) first caps) args w R := by
 unfold callV
 simp only [hok]
 exact h
theorem cos_oneAll (l : List Co) : oneAll (cos l) = true := by rw [cos_px]; exact px_oneAll _
structure GridC (w : World) (q : Option Addr) (gb cb : Nat) (W H : Int) (l : List Co) : Prop where
 ptr : q = some ⟨gb, 0, none⟩
 cells : ∃ rest c, Cs w gb [i64 W, i64 H, .slice (some ⟨cb, 0, none⟩) l.length c] ∧ l.length ≤ c ∧ Cs w cb (cos l ++ rest)
 ne : gb ≠ cb
 ok : gfits W H = true
 len : W * H = l.length
theorem GridC.chg {w w' : World} {q : Option Addr} {gb cb : Nat} {W H : Int} {l : List Co} {S : Nat → Prop} (h : GridC w q gb cb W H l) (hc : Chg S w w') (h1 : ¬ S gb) (h2 : ¬ S cb) : GridC w' q gb cb W H l := by
 obtain ⟨rest, c, h3, h5, h4⟩ := h.cells
 exact ⟨h.ptr, ⟨rest, c, h3.chg hc h1, h5, h4.chg hc h2⟩, h.ne, h.ok, h.len⟩
theorem GridC.ext {w w' : World} {q : Option Addr} {gb cb : Nat} {W H : Int} {l : List Co} (h : GridC w q gb cb W H l) (hc : Ext w w') : GridC w' q gb cb W H l :=
 h.chg (S := fun _ => False) hc.chg id id
theorem GridC.lt {w : World} {q : Option Addr} {gb cb : Nat} {W H : Int} {l : List Co} (h : GridC w q gb cb W H l) : gb < w.heap.size ∧ cb < w.heap.size := by
 obtain ⟨rest, c, h3, _, h4⟩ := h.cells
 exact ⟨h3.lt, h4.lt⟩
theorem GridC.dims {w : World} {q : Option Addr} {gb cb : Nat} {W H : Int} {l : List Co} (h : GridC w q gb cb W H l) : 1 ≤ W ∧ 1 ≤ H ∧ W ≤ 4096 ∧ H ≤ 4096 ∧ (l.length : Int) ≤ 65536 := by
 have := gfits_iff.1 h.ok
 rw [← h.len]
 exact this
theorem GridC.sl {w : World} {q : Option Addr} {gb cb : Nat} {W H : Int} {l : List Co} (h : GridC w q gb cb W H l) : Sl w.heap.size w (some ⟨cb, 0, none⟩) (cos l) := by
 obtain ⟨rest, c, h3, _, h4⟩ := h.cells
 exact h4.sl (by simp) h4.lt
theorem GW_spec {w : World} {q : Option Addr} {gb cb : Nat} {W H : Int} {l : List Co} {R : Ending → World → Prop} (h : GridC w q gb cb W H l) (hR : R (.returned (i64 W)) w) :
  Calls P F.grid_Grid_api_Color_W #[.pointer q] w R := by
 refine calls_grid_Grid_api_Color_W _ _ _ ?_
 obtain ⟨rest, c, h3, _, h4⟩ := h.cells
 obtain rfl := h.ptr
 exact brB_f rfl (nn_i rfl ⟨_, h3.cell (i := 0) rfl, hR⟩)
theorem GH_spec {w : World} {q : Option Addr} {gb cb : Nat} {W H : Int} {l : List Co} {R : Ending → World → Prop} (h : GridC w q gb cb W H l) (hR : R (.returned (i64 H)) w) :
  Calls P F.grid_Grid_api_Color_H #[.pointer q] w R := by
 refine calls_grid_Grid_api_Color_H _ _ _ ?_
 obtain ⟨rest, c, h3, _, h4⟩ := h.cells
 obtain rfl := h.ptr
 exact brB_f rfl (nn_i rfl ⟨_, h3.cell (i := 1) rfl, hR⟩)
theorem Clones_spec {N : Nat} {w : World} {p : Option Addr} {len cap : Nat} {l : List Co} {R : Ending → World → Prop}
  (h : Sl N w p (cos l)) (hl : len = l.length) (hsz : len * 8 ≤ 2 ^ 47)
  (hR : ∀ p' k w', Ext w w' → Ow w.heap.size w'.heap.size w' p' len k 4 (cos l) → R (.returned (.slice p' len k)) w') :
  Calls P F.slices_Clone_api_Color #[.slice p len cap] w R := by
 refine calls_slices_Clone_api_Color _ _ _ _ _ ?_
 unfold vc_slices_Clone_api_Color
 refine brB_i (fun hn => ?_) (fun _ k1 w1 hnew => ⟨cos l, by rw [cos_length]; omega, cos_oneAll _, (h.ext hnew.ext).cells, ?_⟩)
 ·have hx : l = [] := by
   cases l with
   | nil => rfl
   | cons x xs => obtain ⟨a, ha, _⟩ := h 0 (u16 x.1) rfl; subst ha; cases hn
  subst hx
  have hl0 : len = 0 := by simpa using hl
  subst hl0
  exact hR none 0 w (Ext.refl w) (Ow.nil _ _ _ _ _)
 ·have hsz' := hnew.ext.size
  refine (Ow.nil w.heap.size w1.heap.size w1 (some ⟨k1, 0, none⟩) 4).app (by simp [blocks]) hsz' (Nat.le_refl _) rfl (by rw [cos_length]; omega) (by omega) (by omega) fun p' k w2 ho hc => ?_
  rw [Nat.zero_add] at ho ⊢
  exact hR p' k w2 (hnew.ext.step hc fun i hi => hi.1) (by simpa using ho)
theorem GOf_spec {N : Nat} {w : World} {p : Option Addr} {len cap : Nat} {W H : Int} {l : List Co} {R : Ending → World → Prop}
  (h : Sl N w p (cos l)) (hl : len = l.length) (hg : gfits W H = true) (hn : (len : Int) = W * H)
  (hR : ∀ gb cb w', Ext w w' → w.heap.size ≤ gb → w.heap.size ≤ cb → GridC w' (some ⟨gb, 0, none⟩) gb cb W H l → R (.returned (.tuple #[.pointer (some ⟨gb, 0, none⟩), i64 0])) w') :
  Calls P F.grid_Of_api_Color #[i64 W, i64 H, .slice p len cap] w R := by
 refine calls_grid_Of_api_Color _ _ _ _ _ _ _ ?_
 obtain ⟨g0, g1, g2, g3, g4⟩ := gfits_iff.1 hg
 have hpos : 0 < W * H := Int.mul_pos (by omega) (by omega)
 refine fits_spec ⟨_, rfl, brB_f (by simp [hg]) ?_⟩
 rw [wrapmul g0 g1 g2 g3]
 refine brB_f (by simp [hn]) ?_
 refine Clones_spec h hl (by omega) fun p' k w' hE ho => ⟨_, _, _, rfl, fun k3 w3 hnew => ?_⟩
 obtain ⟨ho1, ho2, ho3⟩ := ho
 have hs := hE.size
 rcases ho3 with ho3 | ⟨b, rest, hb1, hb2, rfl, hcap, hcs⟩
 ·omega
 ·have hcs' := hcs.ext hnew.ext
  refine hR k3 b w3 (hE.trans hnew.ext) (by rw [hnew.1]; exact hs) hb1 ⟨rfl, ⟨rest, k, ?_, by omega, hcs'⟩, ?_, hg, by omega⟩
  ·have := hnew.cs
   rw [← hl]; exact this
  ·have := hnew.1; omega
end Go.Proofs.Ytiiaihiliimcoaa
namespace Go.Proofs.Ytiiaihiliimcoaa
open Go Go.Vc Go.RowKit
set_option maxRecDepth 100000
theorem yield_mono {F : Fence} {m : Nat} {P : Program} {l : Nat} {args : Array Value} {W : World} {R R' : Ending → World → Prop} (h : YieldAt F m P l args W R) (hr : ∀ e w, R e w → R' e w) : YieldAt F m P l args W R' := by
 obtain ⟨fn, tmps, assign, body, hy, hR⟩ := h
 exact ⟨fn, tmps, assign, body, hy, hR.mono hr⟩
theorem callF_i {P : Program} {f : FuncId} {first caps : Array Value} {args : List Value} {w : World} {R : Ending → World → Prop} (hok : FnOk P f = true) (h : Calls P f (first.toList ++ args ++ caps.toList).toArray w R) : callF P (.func (.func f) first caps) args w R := by
 unfold callF
 simp only [hok]
 exact h
def Goes (go : World → Prop) (R : Ending → World → Prop) (e : Ending) (w : World) : Prop :=
 (e = .returned (.bool true) ∧ go w) ∨ (e = .returned (.bool false) ∧ R (.returned (.tuple #[])) w)
theorem GAll_iter {w : World} {fr : Addr} {yl : Nat} {q : Option Addr} {gb cb : Nat} {W H : Int} {l : List Co} (J : Nat → World → Prop) {R : Ending → World → Prop}
  (hJ : ∀ k u, J k u → u.cell? fr = some (.pointer q) ∧ GridC u q gb cb W H l) (h0 : J 0 w.drew)
  (hy : ∀ (k : Nat) u, k < l.length → J k u → YieldAt Fence.wide 0 P yl #[.agg #[i64 ((k : Int) % W), i64 ((k : Int) / W)], .agg (co (l.getD k zeroC)).toArray] u.drew (Goes (J (k + 1)) R))
  (hend : ∀ u, J l.length u → R (.returned (.tuple #[])) u) :
  Calls P F.grid_Grid_api_Color_All_fn1 #[.func (.yield yl) #[] #[], .pointer (some fr)] w R := by
 refine calls_grid_Grid_api_Color_All_fn1 _ _ _ _ ?_
 obtain ⟨hc0, hg0⟩ := hJ _ _ h0
 have hd := hg0.dims
 have hwm := wrapmul hd.1 hd.2.1 hd.2.2.1 hd.2.2.2.1
 have hpos : 0 < W * H := Int.mul_pos (by omega) (by omega)
 have hlen := hg0.len
 refine ⟨_, hc0, _, hc0, GW_spec hg0 ⟨_, rfl, Keeps.refl _, GH_spec hg0 ⟨_, rfl, fun vs w' => match vs with | [.int _ k] => 0 ≤ k ∧ k ≤ W * H ∧ J k.toNat w' | _ => False,
  fun vs _ => match vs with | [.int _ k] => (W * H - k).toNat | _ => 0, ⟨Int.le_refl _, by omega, h0⟩, fun k w2 hI => ?_⟩⟩⟩
 obtain ⟨k0, k1, hI⟩ := hI
 obtain ⟨hc, hg⟩ := hJ _ _ hI
 rw [hwm]
 refine brB_i (fun hlt => ?_) (fun hge => ?_)
 ·have hlt : k < W * H := by simpa using hlt
  have hsl := hg.sl
  obtain ⟨rest, cc, h3, _, h4⟩ := hg.cells
  refine ⟨_, hc, nn_i hg.ptr ⟨_, h3.drew.cell (i := 0) rfl, by omega, _, hc, nn_i hg.ptr ⟨_, h3.drew.cell (i := 0) rfl, by omega, _, hc, nn_i hg.ptr ⟨_, _, _, h3.drew.cell (i := 2) rfl, ?_⟩⟩⟩⟩
  refine cos_elem hsl.drew rfl k0 (by omega) fun a e1 e2 e3 e4 => ⟨_, _, _, _, e1, e2, e3, e4, ?_⟩
  have hkk : (k.toNat : Int) = k := by omega
  have := hy k.toNat w2 (by omega) hI
  rw [hkk] at this
  have hq : k / W ≤ k := Int.ediv_le_self _ k0
  have hq0 : 0 ≤ k / W := Int.ediv_nonneg k0 (by omega)
  rw [show divZ .rem .i64 k W = k % W by simp only [divZ]; exact Int.tmod_eq_emod_of_nonneg k0,
   show divZ .quo .i64 k W = k / W by simp only [divZ]; rw [Int.tdiv_eq_ediv_of_nonneg k0]; exact w64 (by omega) (by omega)]
  refine yield_mono this fun e w4 he => ?_
  rcases he with ⟨rfl, he⟩ | ⟨rfl, he⟩
  ·refine ⟨_, rfl, brB_f rfl ⟨?_, ?_⟩⟩
   ·rw [w64 (by omega) (by omega)]
    exact ⟨by omega, by omega, by rw [show (k + 1).toNat = k.toNat + 1 by omega]; exact he⟩
   ·rw [w64 (by omega) (by omega)]
    show (W * H - (k + 1)).toNat < (W * H - k).toNat
    omega
  ·exact ⟨_, rfl, brB_t rfl he⟩
 ·have hge : k = W * H := by simp at hge; omega
  subst hge
  refine hend w2 ?_
  rw [show l.length = (W * H).toNat by omega]; exact hI
theorem GAll_spec {w : World} {q : Option Addr} {R : Ending → World → Prop} (hR : ∀ k w', Ext w w' → w.heap.size ≤ k → Cs w' k [.pointer q] → R (.returned (.func (.func F.grid_Grid_api_Color_All_fn1) #[] #[.pointer (some ⟨k, 0, none⟩)])) w') :
  Calls P F.grid_Grid_api_Color_All #[.pointer q] w R := by
 refine calls_grid_Grid_api_Color_All _ _ _ fun k1 w1 hn => ?_
 exact hR k1 w1 hn.ext (Nat.le_of_eq hn.1.symm) hn.cs
theorem Chunk_iter {N : Nat} {w : World} {fr1 fr2 : Addr} {yl : Nat} {p : Option Addr} {len cap n : Nat} (J : Nat → World → Prop) {R : Ending → World → Prop} (hl : len = 4 * n) (hc : len ≤ cap) (h62 : len < 2 ^ 62)
  (hJ : ∀ k u, J k u → u.cell? fr1 = some (.slice p len cap) ∧ u.cell? fr2 = some (i64 4)) (h0 : J 0 w)
  (hy : ∀ (k : Nat) u, k < n → J k u → YieldAt Fence.wide 0 P yl #[.slice (slcBase p (4 * k) (4 * k + 4) 1) 4 4] u.drew (Goes (J (k + 1)) R))
  (hend : ∀ u, J n u → R (.returned (.tuple #[])) u) :
  Calls P F.slices_Chunk_uint16_fn1 #[.func (.yield yl) #[] #[], .pointer (some fr1), .pointer (some fr2)] w R := by
 refine calls_slices_Chunk_uint16_fn1 _ _ _ _ _ ?_
 refine ⟨fun vs w' => match vs with | [.int _ i] => ∃ k : Nat, i = 4 * (k : Int) ∧ k ≤ n ∧ J k w' | _ => False, fun vs _ => match vs with | [.int _ i] => (len - i).toNat | _ => 0, ⟨0, by simp, Nat.zero_le _, h0⟩, fun i w1 hI => ?_⟩
 obtain ⟨k, rfl, hk, hI⟩ := hI
 obtain ⟨h1, h2⟩ := hJ _ _ hI
 refine ⟨_, _, _, h1, brB_i (fun hlt => ?_) (fun hge => ?_)⟩
 ·have hlt : 4 * (k : Int) < len := by simpa using hlt
  have hkn : k < n := by omega
  refine ⟨_, h2, _, _, _, h1, by omega, by omega, by omega, _, _, _, h1, ?_⟩
  rw [show min (4 : Int) (((len : Int).toNat - (4 * (k : Int)).toNat : Nat) : Int) = 4 by omega, w64 (x := 4 * (k : Int) + 4) (by omega) (by omega)]
  refine ⟨by omega, by omega, by omega, by omega, by omega, ?_⟩
  have hyy := hy k w1 hkn hI
  rw [show (4 * (k : Int) + 4).toNat = 4 * k + 4 by omega, show (4 * (k : Int)).toNat = 4 * k by omega, show 4 * k + 4 - 4 * k = 4 by omega]
  refine yield_mono hyy fun e w4 he => ?_
  rcases he with ⟨rfl, he⟩ | ⟨rfl, he⟩
  ·obtain ⟨h3, h4⟩ := hJ _ _ he
   refine ⟨_, rfl, brB_f rfl ⟨_, h4, ?_⟩⟩
   rw [w64 (x := 4 * (k : Int) + 4) (by omega) (by omega)]
   refine ⟨⟨k + 1, by omega, hkn, he⟩, ?_⟩
   show (len - (4 * (k : Int) + 4)).toNat < (len - 4 * (k : Int)).toNat
   omega
  ·exact ⟨_, rfl, brB_t rfl he⟩
 ·have hge : k = n := by simp at hge; omega
  subst hge
  exact hend w1 hI
theorem Grid_spec {w : World} {p : Option Addr} {len cap : Nat} {W H : Int} {xs : List Int} {R : Ending → World → Prop} (h : Img w p len xs) (hc : len ≤ cap)
  (h1 : good W H xs = false → ∀ w', Ext w w' → R (.returned (.tuple #[.pointer none, i64 6])) w')
  (h2 : good W H xs = true → ∀ gb cb w', Ext w w' → w.heap.size ≤ gb → w.heap.size ≤ cb → GridC w' (some ⟨gb, 0, none⟩) gb cb W H (colsOf xs (W * H).toNat) → R (.returned (.tuple #[.pointer (some ⟨gb, 0, none⟩), i64 0])) w') :
  Calls P F.raster_Grid #[.agg #[i64 W, i64 H, .slice p len cap]] w R := by
 refine calls_raster_Grid _ _ _ _ _ _ _ ?_
 intro k1 hk1 w1 hL1
 have hE1 : Ext w w1 := hL1.ext (by simpa using hk1)
 have ht1 := hL1.there k1 (by simp)
 refine good_spec h.len fun w2 hE2 => ⟨_, rfl, hE2.keep _, ?_⟩
 have hE12 := hE1.trans hE2
 have hs12 := hE12.size
 have hs2 := hE2.size
 refine brB_i (fun hb => h1 (by simpa using hb) w2 hE12) (fun hb => ?_)
 have hb : good W H xs = true := by simpa using hb
 obtain ⟨hg, hxl⟩ := good_iff.1 hb
 obtain ⟨g1, g2, g3, g4, g5⟩ := gfits_iff.1 hg
 have hpos : 0 < W * H := Int.mul_pos (by omega) (by omega)
 have hlen := h.len
 rw [wrapmul g1 g2 g3 g4]
 refine ⟨Int.le_refl _, by omega, by omega, by omega, fun k2 w3 hn3 k3 hk3 w4 hL4 => ?_⟩
 have hk2 : k2 = w2.heap.size := hn3.1
 have hk2s := hn3.size
 have hE3 := hE12.trans hn3.ext
 have hs3 := hn3.ext.size
 have hE4 : Ext w w4 := hE3.step hL4.chg (by simp; omega)
 have hs4 := hL4.size
 have ht3 := hL4.there k3 (by simp)
 refine calls_slices_Chunk_uint16 _ _ _ _ _ _ ?_
 intro b1 v1 hn1 b2 v2 hn2
 have hb1 : b1 = w4.heap.size := hn1.1
 have hb2 : b2 = v1.heap.size := hn2.1
 have hb1s := hn1.size
 have hb2s := hn2.size
 have hE5 : Ext w4 v2 := hn1.ext.trans hn2.ext
 have hc1 : Cs v2 b1 [.slice p len cap] := hn1.cs.ext hn2.ext
 have hc2 : Cs v2 b2 [i64 4] := hn2.cs
 refine ⟨_, hc2.cell (i := 0) rfl, brB_f (by simp) ⟨_, _, _, rfl, hE5.keep _, fun k4 w6 hrf I1 Z1 stI stZ hI0 rule => ?_⟩⟩
 have hs5 := hE5.size
 have hk4 := hrf.eq
 have hs6 := hrf.size
 have hE6 := hrf.ext
 have hv1 := hn2.ext.size
 refine callF_i (by kernel_rfl) ?_
 have hav : ∀ b, b ∈ [k4, v2.heap.size, k3, k1, b1, b2] → w.heap.size ≤ b ∧ b < w6.heap.size := by simp; omega
 have hL6 : Locl [k4, v2.heap.size, k3, k1, b1, b2] w6 w6 := ⟨rfl, rfl, rfl, Nat.le_refl _, fun _ _ _ => rfl, fun b hb => (hav b hb).2⟩
 let J : Nat → World → Prop := fun k u => ∃ q c, I1 [.slice q k c] u ∧ Fg [k4, v2.heap.size, k3, k1, b1, b2] w u 4 q k c (cos (colsOf xs k)) ∧ Cs u b1 [.slice p len cap] ∧ Cs u b2 [i64 4] ∧ w6.heap.size ≤ u.heap.size
 refine Chunk_iter (N := 0) J (p := p) (len := len) (cap := cap) (n := (W * H).toNat) (by omega) hc (by omega) (fun k u ⟨q, c, j1, j2, j3, j4, j5⟩ => ⟨j3.cell (i := 0) rfl, j4.cell (i := 0) rfl⟩) ?_ (fun k u hk ⟨q, c, j1, j2, j3, j4, j5⟩ => ?_) (fun u ⟨q, c, j1, j2, j3, j4, j5⟩ => ?_)
 ·refine ⟨_, _, hI0, ?_, hc1.ext hE6, hc2.ext hE6, Nat.le_refl _⟩
  have := hn3.own (N := k2) (M := k2 + 1) (vs := []) (len := 0) (cap := (W * H).toNat) (sz := 4) (by simp) (by simp) (by rw [mkCells_length]; simp) (by omega) (by omega) (by rw [hn3.2, hk2]; simp)
  have o4 := ((this.chg hL4.chg (by simp; omega)).ext hE5).ext hE6
  exact Fg.of_owB ((hE4.trans hE5).trans hE6) (o4.owB (by omega)) (fun i hi => by omega) (by simp; omega) hav
 ·refine rule _ _ _ _ _ _ u.drew _ (stI _ _ _ j1 ((Ext.refl u).drew.keep _)) fun y5 y6 w12 hP12 => ?_
  have f12 := j2.dr.push (hP12.locl (show k4 < u.heap.size by omega)) (by simp)
  have c12 := j3.drew.put hP12 (by omega)
  have d12 := j4.drew.put hP12 (by omega)
  have hs12' : w12.heap.size = u.heap.size := hP12.size
  have hsl : Sl w12.drew.heap.size w12.drew (slcBase p (4 * k) (4 * k + 4) 1) (px ((xs.drop (4 * k)).take 4)) := by
   have h0 : Sl w12.drew.heap.size w12.drew p (px (xs.take (4 * k + 4))) := ((h.sl.ext f12.dr.ext).up).pre (by
    simp only [px, List.map_take]; exact List.take_prefix _ _)
   refine h0.part (by rw [px_length, List.length_take]; omega) ?_
   simp only [px, List.map_take, List.map_drop, List.drop_take]
   rw [show 4 * k + 4 - 4 * k = 4 by omega]
   exact List.prefix_refl _
  refine colour_spec hsl (by rw [List.length_take, List.length_drop]; omega) (by omega) fun w13 hE13 => ?_
  have ecol : colAt ((xs.drop (4 * k)).take 4) 0 = colAt xs k := by
   rw [← colAt_drop]; simp [colAt, List.getD, List.getElem?_take]
  rw [ecol]
  refine ⟨_, _, _, _, rfl, hE13.keep _, hE13.keeps, fun k9 hk9 w14 hL14 => ?_⟩
  have f13 := f12.dr.step hE13
  have hs13 : w12.heap.size ≤ w13.heap.size := hE13.size
  have c13 := c12.drew.ext hE13
  have d13 := d12.drew.ext hE13
  have f14 := f13.push hL14 (by simp; omega)
  have c14 := c13.locl hL14 (by simp; omega)
  have d14 := d13.locl hL14 (by simp; omega)
  have hs14 := hL14.size
  refine f14.app' (by simp [blocks]) rfl rfl (by omega) (by omega) fun p2 c2 w15 f15 hk15 hs15 w16 hL16 w17 hP17 hI17 => ?_
  have c15 := c14.keep hk15 (by simp)
  have d15 := d14.keep hk15 (by simp)
  have f16 := f15.push hL16 (by simp)
  have c16 := c15.locl hL16 (by simp; omega)
  have d16 := d15.locl hL16 (by simp; omega)
  have hs16 := hL16.size
  have f17 := f16.push (hP17.locl (by omega)) (by simp)
  have c17 := c16.put hP17 (by omega)
  have d17 := d16.put hP17 (by omega)
  have hs17 := hP17.size
  refine .inl ⟨rfl, p2, c2, hI17, ?_, c17, d17, by omega⟩
  have e : colsOf xs (k + 1) = colsOf xs k ++ [colAt xs k] := by simp [colsOf, List.range_succ]
  rw [e, cos_append, cos_one]
  exact f17.mono (by simp)
 ·refine ⟨_, rfl, .inl ⟨q, _, _, j1, fun w19 hP19 => ?_⟩⟩
  have hs19 := hP19.size
  have f19 := j2.push (hP19.locl (by omega)) (by simp)
  refine GOf_spec (f19.sl) (by rw [colsOf_length]) hg (by omega) fun gb cb w20 hE20 q1 q2 q3 => ⟨_, _, rfl, hE20.keep _, fun w21 hP21 => ?_⟩
  have hsE := f19.ext.size
  have hs20 := hE20.size
  refine h2 hb gb cb w21 ((f19.ext.trans hE20).step hP21.chg (by omega)) (by omega) (by omega) (q3.chg hP21.chg (by omega) (by omega))
end Go.Proofs.Ytiiaihiliimcoaa
namespace Go.Proofs.Ytiiaihiliimcoaa
open Go Go.Vc Go.RowKit
set_option maxRecDepth 100000
theorem quoN {a b : Int} (h0 : 0 ≤ a) (h1 : a ≤ 2 ^ 60) (hb : 1 ≤ b) : divZ .quo .i64 a b = a / b := by
 simp only [divZ]
 rw [Int.tdiv_eq_ediv_of_nonneg h0, w64]
 ·have := Int.ediv_nonneg h0 (show 0 ≤ b by omega); omega
 ·have := Int.ediv_le_self b h0; omega
def upV (v most : Int) : Int := (65535 * v + most / 2) / most
def dnV (v most : Int) : Int := (v * most + 32767) / 65535
theorem upV_range {v most : Int} (h0 : 0 ≤ v) (h1 : v ≤ most) (h2 : 1 ≤ most) : 0 ≤ upV v most ∧ upV v most ≤ 65535 := by
 unfold upV
 refine ⟨Int.ediv_nonneg (by omega) (by omega), ?_⟩
 have : (65535 * v + most / 2) / most < 65536 := Int.ediv_lt_of_lt_mul (by omega) (by omega)
 omega
theorem dnV_range {v most : Int} (h0 : 0 ≤ v) (h1 : v ≤ 65535) (h2 : 1 ≤ most) : 0 ≤ dnV v most ∧ dnV v most ≤ most := by
 unfold dnV
 have p0 : 0 ≤ v * most := Int.mul_nonneg h0 (by omega)
 have p1 : v * most ≤ 65535 * most := Int.mul_le_mul_of_nonneg_right h1 (by omega)
 omega
theorem up_val {v most : Int} (h2 : 1 ≤ most) (h3 : most ≤ 65535) (h0 : 0 ≤ v) (h1 : v ≤ most) : IntKind.u16.wrap (divZ .quo .i64 (IntKind.i64.wrap (IntKind.i64.wrap (65535 * v) + divZ .quo .i64 most 2)) most) = upV v most := by
 have hr := upV_range h0 h1 h2
 rw [w64 (x := 65535 * v) (by omega) (by omega), quoN (a := most) (by omega) (by omega) (by omega), w64 (by omega) (by omega), quoN (by omega) (by omega) h2]
 exact wu16 hr.1 (by have := hr.2; unfold upV at this; omega)
theorem rUp_spec {v most : Int} {w : World} {R : Ending → World → Prop} (h2 : 1 ≤ most) (h3 : most ≤ 65535) (h0 : 0 ≤ v) (h1 : v ≤ most) (hR : R (.returned (.tuple #[u16 (upV v most), i64 0])) w) : Calls P F.ref08_Up #[i64 v, i64 most] w R := by
 refine calls_ref08_Up _ _ _ _ ?_
 unfold vc_ref08_Up
 refine brB_f (by simp; omega) ⟨by omega, ?_⟩
 rw [up_val h2 h3 h0 h1]; exact hR
theorem dn_val {v : Int} (h0 : 0 ≤ v) (h1 : v ≤ 65535) : divZ .quo .i64 (IntKind.i64.wrap (IntKind.i64.wrap (IntKind.i64.wrap v * 255) + 32767)) 65535 = dnV v 255 := by
 rw [w64 (x := v) (by omega) (by omega), w64 (x := v * 255) (by omega) (by omega), w64 (by omega) (by omega), quoN (by omega) (by omega) (by omega)]
 rfl
theorem Down_spec {v : Int} {w : World} {R : Ending → World → Prop} (h0 : 0 ≤ v) (h1 : v ≤ 65535) (hR : R (.returned (.tuple #[i64 (dnV v 255), i64 0])) w) : Calls P F.tones_Down #[u16 v, i64 255] w R := by
 refine calls_tones_Down _ _ _ _ ?_
 unfold vc_tones_Down
 refine brB_f (by simp) ?_
 rw [dn_val h0 h1]; exact hR
theorem rDown_spec {v : Int} {w : World} {R : Ending → World → Prop} (h0 : 0 ≤ v) (h1 : v ≤ 65535) (hR : R (.returned (.tuple #[i64 (dnV v 255), i64 0])) w) : Calls P F.ref08_Down #[u16 v, i64 255] w R := by
 refine calls_ref08_Down _ _ _ _ ?_
 unfold vc_ref08_Down
 refine brB_f (by simp) ?_
 rw [dn_val h0 h1]; exact hR
def roundV (v : Int) : Int := upV (dnV v 255) 255
theorem Round_spec {v : Int} {w : World} {R : Ending → World → Prop} (h0 : 0 ≤ v) (h1 : v ≤ 65535) (hR : R (.returned (u16 (roundV v))) w) : Calls P F.ref08_Round #[u16 v, i64 255] w R := by
 refine calls_ref08_Round _ _ _ _ ?_
 unfold vc_ref08_Round
 have hd := dnV_range h0 h1 (most := 255) (by omega)
 exact rDown_spec h0 h1 ⟨_, _, rfl, rUp_spec (by omega) (by omega) hd.1 hd.2 ⟨_, _, rfl, hR⟩⟩
end Go.Proofs.Ytiiaihiliimcoaa
namespace Go.Qn
variable {α : Type}
def seg (D : Nat → α) (a b : Nat) : List α := (List.range' a (b - a)).map D
theorem seg_len (D : Nat → α) (a b : Nat) : (seg D a b).length = b - a := by simp [seg]
theorem seg_split (D : Nat → α) {a m b : Nat} (h1 : a ≤ m) (h2 : m ≤ b) : seg D a b = seg D a m ++ seg D m b := by
 unfold seg
 rw [← List.map_append, show b - a = (m - a) + (b - m) by omega, ← List.range'_append_1, show a + (m - a) = m by omega]
theorem seg_one (D : Nat → α) (a : Nat) : seg D a (a + 1) = [D a] := by simp [seg]
theorem seg_congr {D E : Nat → α} {a b : Nat} (h : ∀ k, a ≤ k → k < b → D k = E k) : seg D a b = seg E a b := by
 unfold seg
 refine List.map_congr_left fun k hk => ?_
 simp only [List.mem_range'_1] at hk
 exact h k hk.1 (by omega)
theorem seg_move {D E : Nat → α} {a b a' b' : Nat} (hn : b - a = b' - a') (h : ∀ k, k < b - a → D (a + k) = E (a' + k)) : seg D a b = seg E a' b' := by
 refine List.ext_getElem (by simp [seg_len, hn]) fun i h1 h2 => ?_
 rw [seg_len] at h1
 simp [seg, h i h1]
theorem seg_get (D : Nat → α) {a b i : Nat} (h : i < b - a) : (seg D a b)[i]? = some (D (a + i)) := by
 simp [seg, h]
def Same (key : α → Int) (l m : List α) : Prop := ∀ v : Int, l.filter (fun x => key x == v) = m.filter (fun x => key x == v)
theorem Same.refl (key : α → Int) (l : List α) : Same key l l := fun _ => rfl
theorem Same.symm {key : α → Int} {l m : List α} (h : Same key l m) : Same key m l := fun v => (h v).symm
theorem Same.trans {key : α → Int} {l m n : List α} (h : Same key l m) (k : Same key m n) : Same key l n := fun v => (h v).trans (k v)
theorem Same.app {key : α → Int} {l m l' m' : List α} (h : Same key l m) (k : Same key l' m') : Same key (l ++ l') (m ++ m') := fun v => by
 rw [List.filter_append, List.filter_append, h v, k v]
theorem Same.swap {key : α → Int} {l m : List α} (h : ∀ x, x ∈ l → ∀ y, y ∈ m → key x ≠ key y) : Same key (l ++ m) (m ++ l) := fun v => by
 rw [List.filter_append, List.filter_append]
 by_cases hl : l.filter (fun x => key x == v) = []
 ·rw [hl]; simp
 ·have : m.filter (fun x => key x == v) = [] := by
   rw [List.filter_eq_nil_iff]
   intro y hy hv
   refine hl ?_
   rw [List.filter_eq_nil_iff]
   intro x hx hxv
   simp only [beq_iff_eq] at hv hxv
   exact h x hx y hy (hxv.trans hv.symm)
  rw [this]; simp
theorem Same.len {key : α → Int} : ∀ {l m : List α}, Same key l m → l.Perm m := by
 intro l
 induction l with
 | nil =>
  intro m h
  cases m with
  | nil => exact .nil
  | cons y m => have := h (key y); simp at this
 | cons x l ih =>
  intro m h
  have hx := h (key x)
  rw [List.filter_cons_of_pos (by simp)] at hx
  have hm : x ∈ m := (List.mem_filter.1 (hx ▸ List.mem_cons_self : x ∈ m.filter (fun y => key y == key x))).1
  obtain ⟨s, t, rfl, hs⟩ : ∃ s t, m = s ++ x :: t ∧ ∀ y, y ∈ s → key y ≠ key x := by
   clear ih h hm
   induction m with
   | nil => simp at hx
   | cons y m ih =>
    by_cases hy : key y = key x
    ·rw [List.filter_cons_of_pos (by simpa using hy)] at hx
     exact ⟨[], m, by rw [(List.cons.inj hx).1]; rfl, by simp⟩
    ·rw [List.filter_cons_of_neg (by simpa using hy)] at hx
     obtain ⟨s, t, h1, h2⟩ := ih hx
     exact ⟨y :: s, t, by rw [h1]; rfl, fun z hz => by rcases List.mem_cons.1 hz with rfl | hz; exact hy; exact h2 z hz⟩
  refine (List.Perm.cons x (ih (m := s ++ t) fun v => ?_)).trans List.perm_middle.symm
  have hv := h v
  by_cases e : key x = v
  ·rw [List.filter_cons_of_pos (by simpa using e), List.filter_append, List.filter_cons_of_pos (by simpa using e)] at hv
   have : s.filter (fun x => key x == v) = [] := by
    rw [List.filter_eq_nil_iff]; intro y hy hyv
    simp only [beq_iff_eq] at hyv
    exact hs y hy (hyv.trans e.symm)
   rw [this] at hv
   rw [List.filter_append, this]
   exact (List.cons.inj hv).2
  ·rw [List.filter_cons_of_neg (by simpa using e), List.filter_append, List.filter_cons_of_neg (by simpa using e)] at hv
   rw [hv, List.filter_append]
def Asc (key : α → Int) (l : List α) : Prop := l.Pairwise (fun x y => key x ≤ key y)
theorem Same.uniq {key : α → Int} : ∀ {l m : List α}, Same key l m → Asc key l → Asc key m → l = m := by
 intro l
 induction l with
 | nil =>
  intro m h _ _
  cases m with
  | nil => rfl
  | cons y m => have := h (key y); simp at this
 | cons x l ih =>
  intro m h hl hm
  cases m with
  | nil => have := h (key x); simp at this
  | cons y m =>
   have hp := h.len
   have hxy : key x = key y := by
    have h1 : x ∈ y :: m := hp.subset List.mem_cons_self
    have h2 : y ∈ x :: l := hp.symm.subset List.mem_cons_self
    have h3 : key y ≤ key x := by
     rcases List.mem_cons.1 h1 with e | h1
     ·rw [e]; exact Int.le_refl _
     ·exact (List.pairwise_cons.1 hm).1 x h1
    have h4 : key x ≤ key y := by
     rcases List.mem_cons.1 h2 with e | h2
     ·rw [e]; exact Int.le_refl _
     ·exact (List.pairwise_cons.1 hl).1 y h2
    omega
   have h1 := h (key x)
   rw [List.filter_cons_of_pos (by simp), List.filter_cons_of_pos (by simpa using hxy.symm)] at h1
   have e : x = y := (List.cons.inj h1).1
   subst e
   refine congrArg (List.cons x) (ih (fun v => ?_) (List.pairwise_cons.1 hl).2 (List.pairwise_cons.1 hm).2)
   have h2 := h v
   by_cases e : key x = v
   ·rw [List.filter_cons_of_pos (by simpa using e), List.filter_cons_of_pos (by simpa using e)] at h2
    exact (List.cons.inj h2).2
   ·rwa [List.filter_cons_of_neg (by simpa using e), List.filter_cons_of_neg (by simpa using e)] at h2
def stab (key : α → Int) (l : List α) : List α := l.mergeSort (fun a b => decide (key a ≤ key b))
theorem stab_asc (key : α → Int) (l : List α) : Asc key (stab key l) := by
 have := List.pairwise_mergeSort (le := fun a b => decide (key a ≤ key b)) (by intro a b c; simp; omega) (by intro a b; simp; omega) l
 exact this.imp (by intro a b h; simpa using h)
theorem stab_perm (key : α → Int) (l : List α) : (stab key l).Perm l := List.mergeSort_perm l _
theorem stab_same (key : α → Int) (l : List α) : Same key (stab key l) l := fun v => by
 have h1 : (l.filter (fun x => key x == v)).Sublist (stab key l) := by
  refine List.sublist_mergeSort (by intro a b c; simp; omega) (by intro a b; simp; omega) ?_ List.filter_sublist
  rw [List.pairwise_iff_forall_sublist]
  intro a b hab
  have ha := List.mem_filter.1 (hab.subset (by simp : a ∈ [a, b]))
  have hb := List.mem_filter.1 (hab.subset (by simp : b ∈ [a, b]))
  have h1 := ha.2; have h2 := hb.2
  simp only [beq_iff_eq] at h1 h2
  simp; omega
 have h2 := h1.filter (fun x => key x == v)
 rw [List.filter_filter] at h2
 simp only [Bool.and_self] at h2
 exact (h2.eq_of_length ((stab_perm key l).filter _).length_eq.symm).symm
theorem stab_uniq {key : α → Int} {l m : List α} (h : Same key l m) (hm : Asc key m) : m = stab key l := (h.symm.trans (stab_same key l).symm).uniq hm (stab_asc key l)
def AscF (key : α → Int) (D : Nat → α) (a b : Nat) : Prop := ∀ p q, a ≤ p → p < q → q < b → key (D p) ≤ key (D q)
theorem AscF.asc {key : α → Int} {D : Nat → α} {a b : Nat} (h : AscF key D a b) : Asc key (seg D a b) := by
 unfold Asc
 rw [List.pairwise_iff_getElem]
 intro i j hi hj hij
 simp only [seg_len] at hi hj
 simpa [seg] using h (a + i) (a + j) (by omega) (by omega) (by omega)
structure Rear (key : α → Int) (D E : Nat → α) (a b : Nat) : Prop where
 out : ∀ k, k < a ∨ b ≤ k → E k = D k
 same : Same key (seg D a b) (seg E a b)
theorem Rear.refl (key : α → Int) (D : Nat → α) (a b : Nat) : Rear key D D a b := ⟨fun _ _ => rfl, Same.refl _ _⟩
theorem Rear.trans {key : α → Int} {D E F : Nat → α} {a b : Nat} (h : Rear key D E a b) (k : Rear key E F a b) : Rear key D F a b :=
 ⟨fun i hi => (k.out i hi).trans (h.out i hi), h.same.trans k.same⟩
theorem Rear.wide {key : α → Int} {D E : Nat → α} {a b a' b' : Nat} (h : Rear key D E a b) (h1 : a' ≤ a) (h2 : b ≤ b') (hab : a ≤ b) : Rear key D E a' b' := by
 refine ⟨fun i hi => h.out i (by omega), ?_⟩
 rw [seg_split D h1 (by omega), seg_split D hab h2, seg_split E h1 (by omega), seg_split E hab h2]
 refine Same.app ?_ (Same.app h.same ?_)
 ·rw [seg_congr (D := D) (E := E) fun k _ hk => (h.out k (by omega)).symm]; exact Same.refl _ _
 ·rw [seg_congr (D := D) (E := E) fun k hk _ => (h.out k (by omega)).symm]; exact Same.refl _ _
theorem Rear.mem {key : α → Int} {D E : Nat → α} {a b : Nat} (h : Rear key D E a b) {k : Nat} (h1 : a ≤ k) (h2 : k < b) : ∃ j, a ≤ j ∧ j < b ∧ E k = D j := by
 have h3 : E k ∈ seg E a b := by
  unfold seg; exact List.mem_map_of_mem (by simp only [List.mem_range'_1]; omega)
 have h4 := h.same.len.symm.subset h3
 unfold seg at h4
 obtain ⟨j, hj, e⟩ := List.mem_map.1 h4
 simp only [List.mem_range'_1] at hj
 exact ⟨j, by omega, by omega, e.symm⟩
def swp (D : Nat → α) (i j : Nat) : Nat → α := fun k => if k = i then D j else if k = j then D i else D k
theorem Rear.swp {key : α → Int} {D : Nat → α} {j : Nat} (h : key (D (j + 1)) < key (D j)) : Rear key D (swp D j (j + 1)) j (j + 2) := by
 refine ⟨fun k hk => by simp only [Qn.swp]; rw [if_neg (by omega), if_neg (by omega)], ?_⟩
 have e : ∀ F : Nat → α, seg F j (j + 2) = [F j] ++ [F (j + 1)] := fun F => by rw [seg_split F (Nat.le_succ j) (by omega : j + 1 ≤ j + 2), seg_one]; rw [show j + 2 = j + 1 + 1 from rfl, seg_one]
 rw [e, e]
 have : Qn.swp D j (j + 1) j = D (j + 1) := by simp [Qn.swp]
 rw [this]
 have : Qn.swp D j (j + 1) (j + 1) = D j := by simp [Qn.swp]
 rw [this]
 exact Same.swap fun x hx y hy => by simp at hx hy; subst hx; subst hy; omega
structure Ins (key : α → Int) (D : Nat → α) (a j i : Nat) : Prop where
 lo : AscF key D a j
 hi : AscF key D j (i + 1)
 mid : ∀ p q, a ≤ p → p < j → j < q → q ≤ i → key (D p) ≤ key (D q)
theorem Ins.start {key : α → Int} {D : Nat → α} {a i : Nat} (h : AscF key D a i) : Ins key D a i i := ⟨h, fun p q h1 h2 h3 => by omega, fun p q h1 h2 h3 h4 => by omega⟩
theorem Ins.step {key : α → Int} {D : Nat → α} {a j i : Nat} (h : Ins key D a (j + 1) i) (haj : a ≤ j) (_hji : j + 1 ≤ i) (hlt : key (D (j + 1)) < key (D j)) : Ins key (Qn.swp D j (j + 1)) a j i := by
 have e1 : Qn.swp D j (j + 1) j = D (j + 1) := by simp [Qn.swp]
 have e2 : Qn.swp D j (j + 1) (j + 1) = D j := by simp [Qn.swp]
 have e3 : ∀ k, k ≠ j → k ≠ j + 1 → Qn.swp D j (j + 1) k = D k := fun k h1 h2 => by simp [Qn.swp, h1, h2]
 refine ⟨fun p q h1 h2 h3 => ?_, fun p q h1 h2 h3 => ?_, fun p q h1 h2 h3 h4 => ?_⟩
 ·rw [e3 p (by omega) (by omega), e3 q (by omega) (by omega)]; exact h.lo p q h1 h2 (by omega)
 ·rcases Nat.eq_or_lt_of_le h1 with rfl | h1
  ·rw [e1]
   rcases Nat.lt_or_ge (j + 1) q with hq | hq
   ·rw [e3 q (by omega) (by omega)]; exact h.hi (j + 1) q (by omega) (by omega) h3
   ·rw [show q = j + 1 by omega, e2]; omega
  ·rcases Nat.lt_or_ge (j + 1) p with hp | hp
   ·rw [e3 p (by omega) (by omega), e3 q (by omega) (by omega)]; exact h.hi p q (by omega) h2 h3
   ·rw [show p = j + 1 by omega, e2, e3 q (by omega) (by omega)]; exact h.mid j q haj (by omega) (by omega) (by omega)
 ·rw [e3 p (by omega) (by omega)]
  rcases Nat.lt_or_ge (j + 1) q with hq | hq
  ·rw [e3 q (by omega) (by omega)]; exact h.mid p q h1 (by omega) hq h4
  ·rw [show q = j + 1 by omega, e2]; exact h.lo p j h1 h2 (by omega)
theorem Ins.done {key : α → Int} {D : Nat → α} {a j i : Nat} (h : Ins key D a j i) (hd : j ≤ a ∨ ∃ p, j = p + 1 ∧ key (D p) ≤ key (D j)) : AscF key D a (i + 1) := by
 intro p q h1 h2 h3
 rcases Nat.lt_or_ge p j with hp | hp
 ·rcases Nat.lt_or_ge q j with hq | hq
  ·exact h.lo p q h1 h2 hq
  ·rcases Nat.eq_or_lt_of_le hq with rfl | hq
   ·rcases hd with hd | ⟨r, hr, hd⟩
    ·omega
    ·subst hr
     rcases Nat.lt_or_ge p r with hpr | hpr
     ·have := h.lo p r h1 hpr (by omega); omega
     ·rw [show p = r by omega]; exact hd
   ·exact h.mid p q h1 hp hq (by omega)
 ·exact h.hi p q hp h2 h3
def rot (D : Nat → α) (a m b : Nat) : Nat → α := fun k => if k < a then D k else if k < a + (b - m) then D (k + (m - a)) else if k < b then D (k - (b - m)) else D k
def swr (D : Nat → α) (p q n : Nat) : Nat → α := fun k => if p ≤ k ∧ k < p + n then D (k - p + q) else if q ≤ k ∧ k < q + n then D (k - q + p) else D k
theorem swr_zero (D : Nat → α) (p q : Nat) : swr D p q 0 = D := by
 funext k; simp only [swr]; rw [if_neg (by omega), if_neg (by omega)]
theorem swr_step (D : Nat → α) {p q n : Nat} (h : p + n < q) : swp (swr D p q n) (p + n) (q + n) = swr D p q (n + 1) := by
 funext k
 simp only [swp, swr]
 repeat' split
 all_goals first | (exfalso; omega) | (congr 1; omega) | rfl
theorem rot_left (D : Nat → α) {a m b : Nat} (ham : a < m) (hmb : m < b) (h : b - m < m - a) : rot (swr D a m (b - m)) (a + (b - m)) m b = rot D a m b := by
 funext k
 simp only [rot, swr]
 repeat' split
 all_goals first | (exfalso; omega) | (congr 1; omega) | rfl
theorem rot_right (D : Nat → α) {a m b : Nat} (ham : a < m) (hmb : m < b) (h : m - a < b - m) : rot (swr D a (b - (m - a)) (m - a)) a m (b - (m - a)) = rot D a m b := by
 funext k
 simp only [rot, swr]
 repeat' split
 all_goals first | (exfalso; omega) | (congr 1; omega) | rfl
theorem rot_even (D : Nat → α) {a m b : Nat} (ham : a < m) (hmb : m < b) (h : m - a = b - m) : swr D a m (m - a) = rot D a m b := by
 funext k
 simp only [rot, swr]
 repeat' split
 all_goals first | (exfalso; omega) | (congr 1; omega) | rfl
theorem rot_none (D : Nat → α) {a m b : Nat} (h : m = a ∨ m = b) : rot D a m b = D := by
 funext k
 simp only [rot]
 repeat' split
 all_goals first | (exfalso; omega) | (congr 1; omega) | rfl
theorem rot_seg (D : Nat → α) {a m b : Nat} (ham : a ≤ m) (hmb : m ≤ b) : seg (rot D a m b) a b = seg D m b ++ seg D a m := by
 rw [seg_split _ (show a ≤ a + (b - m) by omega) (show a + (b - m) ≤ b by omega)]
 have e1 : seg (rot D a m b) a (a + (b - m)) = seg D m b := seg_move (by omega) fun k hk => by
  simp only [rot]
  rw [if_neg (by omega), if_pos (by omega)]; congr 1; omega
 have e2 : seg (rot D a m b) (a + (b - m)) b = seg D a m := seg_move (by omega) fun k hk => by
  simp only [rot]
  rw [if_neg (by omega), if_neg (by omega), if_pos (by omega)]; congr 1; omega
 rw [e1, e2]
/-- one step of merging [a, m) with [m, b): s of the left stay, and az far az e of the right go before the others of the left -/
structure Cut (key : α → Int) (D : Nat → α) (a s m e b : Nat) : Prop where
 az : a ≤ s
 sm : s ≤ m
 me : m ≤ e
 eb : e ≤ b
 /-- what is moved forward is less than what it passes -/
 lt : s = m ∨ m = e ∨ key (D (e - 1)) < key (D s)
 /-- what stays is not greater than what stays behind -/
 le : a = s ∨ e = b ∨ key (D (s - 1)) ≤ key (D e)
theorem Cut.rear {key : α → Int} {D : Nat → α} {a s m e b : Nat} (h : Cut key D a s m e b) (hl : AscF key D a m) (hr : AscF key D m b) : Rear key D (rot D s m e) s e := by
 have h1 := h.az; have h2 := h.sm; have h3 := h.me; have h4 := h.eb
 refine ⟨fun k hk => ?_, ?_⟩
 ·simp only [rot]
  rcases hk with hk | hk
  ·rw [if_pos hk]
  ·rw [if_neg (by omega), if_neg (by omega), if_neg (by omega)]
 ·rw [rot_seg D h2 h3, seg_split D h2 h3]
  refine Same.swap fun x hx y hy => ?_
  unfold seg at hx hy
  obtain ⟨i, hi, rfl⟩ := List.mem_map.1 hx
  obtain ⟨j, hj, rfl⟩ := List.mem_map.1 hy
  simp only [List.mem_range'_1] at hi hj
  have hlt := h.lt
  have t1 : key (D s) ≤ key (D i) := by
   rcases Nat.eq_or_lt_of_le hi.1 with e | e
   ·rw [e]; exact Int.le_refl _
   ·exact hl s i h1 e (by omega)
  have t2 : key (D j) ≤ key (D (e - 1)) := by
   rcases Nat.lt_or_ge j (e - 1) with g | g
   ·exact hr j (e - 1) hj.1 g (by omega)
   ·rw [show j = e - 1 by omega]; exact Int.le_refl _
  omega
theorem Cut.lo {key : α → Int} {D : Nat → α} {a s m e b : Nat} (h : Cut key D a s m e b) (hl : AscF key D a m) (hr : AscF key D m b) :
  AscF key (rot D s m e) a s ∧ AscF key (rot D s m e) s (s + (e - m)) ∧ AscF key (rot D s m e) (s + (e - m)) e ∧ AscF key (rot D s m e) e b := by
 have h1 := h.az; have h2 := h.sm; have h3 := h.me; have h4 := h.eb
 refine ⟨fun p q hp hpq hq => ?_, fun p q hp hpq hq => ?_, fun p q hp hpq hq => ?_, fun p q hp hpq hq => ?_⟩
 ·simp only [rot]; rw [if_pos (by omega), if_pos (by omega)]; exact hl p q hp hpq (by omega)
 ·simp only [rot]; rw [if_neg (by omega), if_pos (by omega), if_neg (by omega), if_pos (by omega)]; exact hr _ _ (by omega) (by omega) (by omega)
 ·simp only [rot]; rw [if_neg (by omega), if_neg (by omega), if_pos (by omega), if_neg (by omega), if_neg (by omega), if_pos (by omega)]; exact hl _ _ (by omega) (by omega) (by omega)
 ·simp only [rot]; rw [if_neg (by omega), if_neg (by omega), if_neg (by omega), if_neg (by omega), if_neg (by omega), if_neg (by omega)]; exact hr _ _ (by omega) (by omega) (by omega)
theorem Cut.mid {key : α → Int} {D : Nat → α} {a s m e b : Nat} (h : Cut key D a s m e b) (hl : AscF key D a m) (hr : AscF key D m b) :
  ∀ p q, a ≤ p → p < s + (e - m) → s + (e - m) ≤ q → q < b → key (rot D s m e p) ≤ key (rot D s m e q) := by
 have h1 := h.az; have h2 := h.sm; have h3 := h.me; have h4 := h.eb
 have hlt := h.lt; have hle := h.le
 have L : ∀ i j, a ≤ i → i ≤ j → j < m → key (D i) ≤ key (D j) := fun i j hi hij hj => by
  rcases Nat.eq_or_lt_of_le hij with e | e
  ·rw [e]; exact Int.le_refl _
  ·exact hl i j hi e hj
 have R : ∀ i j, m ≤ i → i ≤ j → j < b → key (D i) ≤ key (D j) := fun i j hi hij hj => by
  rcases Nat.eq_or_lt_of_le hij with e | e
  ·rw [e]; exact Int.le_refl _
  ·exact hr i j hi e hj
 intro p q hp hps hq hqb
 simp only [rot]
 by_cases c1 : p < s
 ·rw [if_pos c1, if_neg (by omega), if_neg (by omega)]
  by_cases c2 : q < e
  ·rw [if_pos c2]; exact L _ _ (by omega) (by omega) (by omega)
  ·rw [if_neg c2]
   have t1 := L p (s - 1) (by omega) (by omega) (by omega)
   have t2 := R e q (by omega) (by omega) (by omega)
   omega
 ·rw [if_neg c1, if_pos hps, if_neg (by omega), if_neg (by omega)]
  by_cases c2 : q < e
  ·rw [if_pos c2]
   have t1 := R (p + (m - s)) (e - 1) (by omega) (by omega) (by omega)
   have t2 := L s (q - (e - m)) (by omega) (by omega) (by omega)
   omega
  ·rw [if_neg c2]; exact R _ _ (by omega) (by omega) (by omega)
theorem Cut.merge {key : α → Int} {D E F : Nat → α} {a s m e b : Nat} (h : Cut key D a s m e b) (hl : AscF key D a m) (hr : AscF key D m b)
  (h1 : Rear key (rot D s m e) E a (s + (e - m))) (h2 : AscF key E a (s + (e - m))) (h3 : Rear key E F (s + (e - m)) b) (h4 : AscF key F (s + (e - m)) b) :
  Rear key D F a b ∧ AscF key F a b := by
 have i1 := h.az; have i2 := h.sm; have i3 := h.me; have i4 := h.eb
 refine ⟨(((h.rear hl hr).wide i1 i4 (by omega)).trans (h1.wide (Nat.le_refl _) (by omega) (by omega))).trans (h3.wide (by omega) (Nat.le_refl _) (by omega)), fun p q hp hpq hq => ?_⟩
 rcases Nat.lt_or_ge p (s + (e - m)) with c1 | c1
 ·rcases Nat.lt_or_ge q (s + (e - m)) with c2 | c2
  ·rw [h3.out p (by omega), h3.out q (by omega)]; exact h2 p q hp hpq c2
  ·rw [h3.out p (by omega)]
   obtain ⟨i, ia, ib, ie⟩ := h1.mem hp c1
   obtain ⟨j, ja, jb, je⟩ := h3.mem c2 hq
   rw [ie, je, h1.out j (by omega)]
   exact h.mid hl hr i j ia ib ja jb
 ·exact h4 p q c1 hpq hq
theorem Cut.all {key : α → Int} {D : Nat → α} {a s m e b : Nat} (h : Cut key D a s m e b) (hl : AscF key D a m) (hr : AscF key D m b)
  (hx : s = m ∨ e = b ∨ key (D (m - 1)) ≤ key (D e)) (hy : s = a ∨ e = m ∨ key (D (s - 1)) ≤ key (D m)) :
  Rear key D (rot D s m e) a b ∧ AscF key (rot D s m e) a b := by
 have i1 := h.az; have i2 := h.sm; have i3 := h.me; have i4 := h.eb
 have hlt := h.lt; have hle := h.le
 have L : ∀ i j, a ≤ i → i ≤ j → j < m → key (D i) ≤ key (D j) := fun i j hi hij hj => by
  rcases Nat.eq_or_lt_of_le hij with e | e
  ·rw [e]; exact Int.le_refl _
  ·exact hl i j hi e hj
 have R : ∀ i j, m ≤ i → i ≤ j → j < b → key (D i) ≤ key (D j) := fun i j hi hij hj => by
  rcases Nat.eq_or_lt_of_le hij with e | e
  ·rw [e]; exact Int.le_refl _
  ·exact hr i j hi e hj
 refine ⟨(h.rear hl hr).wide i1 i4 (by omega), fun p q hp hpq hq => ?_⟩
 rcases Nat.lt_or_ge p (s + (e - m)) with c1 | c1
 ·rcases Nat.lt_or_ge q (s + (e - m)) with c2 | c2
  ·simp only [rot]
   by_cases d1 : q < s
   ·rw [if_pos (by omega), if_pos d1]; exact L _ _ hp (by omega) (by omega)
   ·rw [if_neg d1, if_pos c2]
    by_cases d2 : p < s
    ·rw [if_pos d2]
     have t1 := L p (s - 1) (by omega) (by omega) (by omega)
     have t2 := R m (q + (m - s)) (by omega) (by omega) (by omega)
     omega
    ·rw [if_neg d2, if_pos c1]; exact R _ _ (by omega) (by omega) (by omega)
  ·exact h.mid hl hr p q hp c1 c2 hq
 ·simp only [rot]
  by_cases d1 : p < e
  ·rw [if_neg (by omega), if_neg (by omega), if_pos d1, if_neg (by omega), if_neg (by omega)]
   by_cases d2 : q < e
   ·rw [if_pos d2]; exact L _ _ (by omega) (by omega) (by omega)
   ·rw [if_neg d2]
    have t1 := L (p - (e - m)) (m - 1) (by omega) (by omega) (by omega)
    have t2 := R e q (by omega) (by omega) (by omega)
    omega
  ·rw [if_neg (by omega), if_neg (by omega), if_neg d1, if_neg (by omega), if_neg (by omega), if_neg (by omega)]
   exact R _ _ (by omega) (by omega) (by omega)
theorem rot_up (D : Nat → α) {a k : Nat} (h : a ≤ k) : swp (rot D a (a + 1) (k + 1)) k (k + 1) = rot D a (a + 1) (k + 2) := by
 funext i
 simp only [swp, rot]
 repeat' split
 all_goals first | (exfalso; omega) | (congr 1; omega) | rfl
theorem rot_down (D : Nat → α) {k m : Nat} (h : k + 1 ≤ m) : swp (rot D (k + 1) m (m + 1)) (k + 1) k = rot D k m (m + 1) := by
 funext i
 simp only [swp, rot]
 repeat' split
 all_goals first | (exfalso; omega) | (congr 1; omega) | rfl
/-- each block of z, from 0 az far az n, is in order -/
theorem AscF.sub {key : α → Int} {D : Nat → α} {a b a' b' : Nat} (h : AscF key D a b) (h1 : a ≤ a') (h2 : b' ≤ b) : AscF key D a' b' := fun p q hp hpq hq => h p q (by omega) hpq (by omega)
theorem AscF.congr {key : α → Int} {D E : Nat → α} {a b : Nat} (h : AscF key D a b) (he : ∀ k, a ≤ k → k < b → E k = D k) : AscF key E a b := fun p q hp hpq hq => by
 rw [he p hp (by omega), he q (by omega) hq]; exact h p q hp hpq hq
theorem AscF.short {key : α → Int} {D : Nat → α} {a b : Nat} (h : b ≤ a + 1) : AscF key D a b := fun p q hp hpq hq => by omega
end Go.Qn
namespace Go.Proofs.Ytiiaihiliimcoaa
open Go Go.Vc Go.RowKit Go.Qn
set_option maxRecDepth 100000
theorem cos_cons (c : Co) (l : List Co) : cos (c :: l) = co c ++ cos l := by rw [show c :: l = [c] ++ l from rfl, cos_append, cos_one]
theorem cos_at {l : List Co} {i : Nat} {c : Co} (h : l[i]? = some c) : cos l = cos (l.take i) ++ co c ++ cos (l.drop (i + 1)) := by
 have hlt : i < l.length := by
  rcases Nat.lt_or_ge i l.length with h' | h'
  ·exact h'
  ·rw [List.getElem?_eq_none h'] at h; cases h
 have hc : l[i] = c := by rw [List.getElem?_eq_getElem hlt] at h; exact Option.some.inj h
 conv => lhs; rw [← List.take_append_drop i l, List.drop_eq_getElem_cons hlt, hc]
 rw [cos_append, cos_cons, List.append_assoc]
def So (u : World) (b n : Nat) (D : Nat → Co) : Prop := ∃ rest, Cs u b (cos (seg D 0 n) ++ rest)
section
variable {u u' : World} {b n : Nat} {D : Nat → Co}
theorem So.chg {S : Nat → Prop} (h : So u b n D) (hc : Chg S u u') (hb : ¬ S b) : So u' b n D := by obtain ⟨r, h⟩ := h; exact ⟨r, h.chg hc hb⟩
theorem So.ext (h : So u b n D) (hE : Ext u u') : So u' b n D := by obtain ⟨r, h⟩ := h; exact ⟨r, h.ext hE⟩
theorem So.drew (h : So u b n D) : So u.drew b n D := h
theorem So.cell (h : So u b n D) {i j : Nat} (hi : i < n) {v : Value} (hv : (co (D i))[j]? = some v) : u.cell? ((⟨b, i * 4, none⟩ : Addr).add j) = some v := by
 obtain ⟨r, h⟩ := h
 rw [loc_add]
 refine h.cell ?_
 have hs : (seg D 0 n)[i]? = some (D i) := by rw [seg_get D (by omega), Nat.zero_add]
 have hj : j < 4 := by
  rcases Nat.lt_or_ge j 4 with h' | h'
  ·exact h'
  ·rw [List.getElem?_eq_none (by simpa [co] using h')] at hv; cases hv
 have hl : (cos ((seg D 0 n).take i)).length = i * 4 := by rw [cos_length, List.length_take, seg_len]; omega
 rw [cos_at hs, List.append_assoc, List.append_assoc, List.getElem?_append_right (by omega), hl, show i * 4 + j - i * 4 = j by omega, List.getElem?_append_left (by simpa [co] using hj)]
 exact hv
theorem So.can (h : So u b n D) {i : Nat} (hi : i < n) : CanSet u ⟨b, i * 4, none⟩ 4 := by
 obtain ⟨r, h⟩ := h
 exact h.canSet (by rw [List.length_append, cos_length, seg_len]; omega)
theorem So.ld (h : So u b n D) {i : Int} (h0 : 0 ≤ i) (h1 : i < n) {F : Addr → Prop}
  (hF : u.cell? ⟨b, i.toNat * 4, none⟩ = some (u16 (D i.toNat).1) → u.cell? ((⟨b, i.toNat * 4, none⟩ : Addr).add 1) = some (u16 (D i.toNat).2.1) → u.cell? ((⟨b, i.toNat * 4, none⟩ : Addr).add 2) = some (u16 (D i.toNat).2.2.1) → u.cell? ((⟨b, i.toNat * 4, none⟩ : Addr).add 3) = some (u16 (D i.toNat).2.2.2) → F ⟨b, i.toNat * 4, none⟩) : idx (some ⟨b, 0, none⟩) n i 4 F := by
 refine idx_i h0 (by omega) rfl ?_
 rw [loc_add, Nat.zero_add]
 have hi : i.toNat < n := by omega
 have e0 := h.cell hi (j := 0) rfl
 rw [add_zero'] at e0
 exact hF e0 (h.cell hi (j := 1) rfl) (h.cell hi (j := 2) rfl) (h.cell hi (j := 3) rfl)
theorem So.st (h : So u b n D) {i : Int} (h0 : 0 ≤ i) (h1 : i < n) {K : Addr → Prop} (hK : K ⟨b, i.toNat * 4, none⟩) :
  idx (some ⟨b, 0, none⟩) n i 4 fun a => (∃ v, u.cell? a = some v) ∧ (u.frozen? a = false) ∧ (∃ v, u.cell? (a.add 1) = some v) ∧ (u.frozen? (a.add 1) = false) ∧ (∃ v, u.cell? (a.add 2) = some v) ∧ (u.frozen? (a.add 2) = false) ∧ (∃ v, u.cell? (a.add 3) = some v) ∧ (u.frozen? (a.add 3) = false) ∧ K a := by
 refine idx_i h0 (by omega) rfl ?_
 rw [loc_add, Nat.zero_add]
 have hc := h.can (i := i.toNat) (by omega)
 have c0 := hc 0 (by omega)
 rw [add_zero'] at c0
 exact ⟨c0.1, c0.2, (hc 1 (by omega)).1, (hc 1 (by omega)).2, (hc 2 (by omega)).1, (hc 2 (by omega)).2, (hc 3 (by omega)).1, (hc 3 (by omega)).2, hK⟩
def upd (D : Nat → Co) (i : Nat) (c : Co) : Nat → Co := fun k => if k = i then c else D k
theorem So.put (h : So u b n D) {i : Nat} (hi : i < n) (c : Co) : So (setCells u ⟨b, i * 4, none⟩ (co c) 0) b n (upd D i c) := by
 obtain ⟨r, h⟩ := h
 refine ⟨r, ?_⟩
 have hs : (seg D 0 n)[i]? = some (D i) := by rw [seg_get D (by omega), Nat.zero_add]
 have hs' : (seg (upd D i c) 0 n)[i]? = some c := by rw [seg_get _ (by omega), Nat.zero_add]; simp [upd]
 have hl : (cos ((seg D 0 n).take i)).length = i * 4 := by rw [cos_length, List.length_take, seg_len]; omega
 have et : (seg (upd D i c) 0 n).take i = (seg D 0 n).take i := by
  rw [seg_split _ (Nat.zero_le i) (by omega : i ≤ n), seg_split D (Nat.zero_le i) (by omega : i ≤ n), List.take_left' (by rw [seg_len]; omega), List.take_left' (by rw [seg_len]; omega)]
  exact seg_congr fun k _ hk => by simp [upd, show k ≠ i by omega]
 have ed : (seg (upd D i c) 0 n).drop (i + 1) = (seg D 0 n).drop (i + 1) := by
  rw [seg_split _ (Nat.zero_le (i + 1)) (by omega : i + 1 ≤ n), seg_split D (Nat.zero_le (i + 1)) (by omega : i + 1 ≤ n), List.drop_left' (by rw [seg_len]; omega), List.drop_left' (by rw [seg_len]; omega)]
  exact seg_congr fun k hk _ => by simp [upd, show k ≠ i by omega]
 have hst := h.set (off := i * 4) (us := co c) (by rw [List.length_append, cos_length, seg_len]; simp [co]; omega)
 rw [cos_at hs', et, ed]
 rw [cos_at hs] at hst
 have l4 : (co (D i)).length = 4 := rfl
 have l4' : (co c).length = 4 := rfl
 rw [show cos ((seg D 0 n).take i) ++ co (D i) ++ cos ((seg D 0 n).drop (i + 1)) ++ r = cos ((seg D 0 n).take i) ++ (co (D i) ++ (cos ((seg D 0 n).drop (i + 1)) ++ r)) by simp [List.append_assoc]] at hst
 rw [List.take_left' hl, l4', ← List.drop_drop, List.drop_left' hl, List.drop_left' l4] at hst
 simpa [List.append_assoc] using hst
theorem So.two (h : So u b n D) {i j : Nat} (hi : i < n) (hj : j < n) : So (setCells (setCells u ⟨b, i * 4, none⟩ (co (D j)) 0) ⟨b, j * 4, none⟩ (co (D i)) 0) b n (swp D i j) ∧ Chg (· = b) u (setCells (setCells u ⟨b, i * 4, none⟩ (co (D j)) 0) ⟨b, j * 4, none⟩ (co (D i)) 0) := by
 refine ⟨?_, ?_⟩
 ·have := (h.put hi (D j)).put hj (D i)
  have e : upd (upd D i (D j)) j (D i) = swp D i j := by
   funext k; simp only [upd, swp]
   repeat' split
   all_goals first | rfl | (exfalso; omega) | (congr 1; omega)
  rwa [e] at this
 ·exact ((Chg.setCells u ⟨b, i * 4, none⟩ (co (D j)) 0 :)).trans (Chg.setCells _ ⟨b, j * 4, none⟩ (co (D i)) 0 :) fun i hi _ => hi
end
theorem swp_comm (D : Nat → Co) (i j : Nat) : swp D i j = swp D j i := by
 funext k; simp only [swp]
 repeat' split
 all_goals first | rfl | (exfalso; omega) | (congr 1; omega)
theorem chgb {b : Nat} {u v w : World} (h : Chg (· = b) u v) (k : Chg (· = b) v w) : Chg (· = b) u w := h.trans k fun i hi _ => hi
theorem chg_dr {b : Nat} {u v : World} (h : Chg (· = b) u v) : Chg (· = b) u v.drew := h.drew
theorem swapR_spec {va : Value} {w : World} {b n cap p q m : Nat} {D : Nat → Co} {R : Ending → World → Prop} (h : So w b n D) (hp : p + m ≤ q) (hq : q + m ≤ n) (hn : n ≤ 2 ^ 40)
  (hR : ∀ w', So w' b n (swr D p q m) → Chg (· = b) w w' → R (.returned (.tuple #[])) w') :
  Calls P F.slices_swapRangeCmpFunc_api_Color #[.slice (some ⟨b, 0, none⟩) n cap, i64 p, i64 q, i64 m, va] w R := by
 refine calls_slices_swapRangeCmpFunc_api_Color _ _ _ _ _ _ _ _ _ ?_
 unfold vc_slices_swapRangeCmpFunc_api_Color
 refine ⟨fun vs u => ∃ k : Nat, vs = [i64 k] ∧ k ≤ m ∧ So u b n (swr D p q k) ∧ Chg (· = b) w u, fun vs _ => match vs with | [.int _ k] => (m - k).toNat | _ => 0,
  ⟨0, rfl, Nat.zero_le _, by rw [swr_zero]; exact h, Chg.refl _ _⟩, fun k' w1 hI => ?_⟩
 obtain ⟨k, hv, hk, hS, hC⟩ := hI
 obtain rfl : k' = k := by simpa using hv
 refine brB_i (fun hlt => ?_) fun hge => ?_
 ·have hlt : k < m := by simp at hlt; omega
  rw [w64 (x := (q : Int) + k) (by omega) (by omega), w64 (x := (p : Int) + k) (by omega) (by omega), w64 (x := (k : Int) + 1) (by omega) (by omega)]
  refine hS.drew.ld (by omega) (by omega) fun e1 e2 e3 e4 => ⟨_, _, _, _, e1, e2, e3, e4, ?_⟩
  refine hS.drew.ld (by omega) (by omega) fun e1 e2 e3 e4 => ⟨_, _, _, _, e1, e2, e3, e4, ?_⟩
  have ep : ((p : Int) + k).toNat = p + k := by omega
  have eq : ((q : Int) + k).toNat = q + k := by omega
  refine hS.drew.st (by omega) (by omega) ?_
  have h1 := hS.drew.put (i := p + k) (by omega) (swr D p q k (q + k))
  rw [ep, eq]
  refine h1.st (i := (q : Int) + k) (by omega) (by omega) ?_
  rw [eq]
  obtain ⟨h2, h3⟩ := hS.drew.two (i := p + k) (j := q + k) (by omega) (by omega)
  rw [swr_step D (by omega)] at h2
  exact ⟨⟨k + 1, by simp, by omega, h2, chgb (chg_dr hC) h3⟩, by show ((m : Int) - ((k : Int) + 1)).toNat < ((m : Int) - k).toNat; omega⟩
 ·have hge : k = m := by simp at hge; omega
  subst hge
  exact hR w1 hS hC
theorem rotate_spec {va : Value} {w : World} {b n cap a m e : Nat} {D : Nat → Co} {R : Ending → World → Prop} (h : So w b n D) (ham : a < m) (hme : m < e) (he : e ≤ n) (hn : n ≤ 2 ^ 40)
  (hR : ∀ w', So w' b n (rot D a m e) → Chg (· = b) w w' → R (.returned (.tuple #[])) w') :
  Calls P F.slices_rotateCmpFunc_api_Color #[.slice (some ⟨b, 0, none⟩) n cap, i64 a, i64 m, i64 e, va] w R := by
 refine calls_slices_rotateCmpFunc_api_Color _ _ _ _ _ _ _ _ _ ?_
 unfold vc_slices_rotateCmpFunc_api_Color
 rw [w64 (x := (m : Int) - a) (by omega) (by omega), w64 (x := (e : Int) - m) (by omega) (by omega)]
 refine ⟨fun vs u => ∃ (i j : Nat) (E : Nat → Co), vs = [i64 i, i64 j] ∧ 0 < i ∧ 0 < j ∧ i ≤ m - a ∧ j ≤ e - m ∧ So u b n E ∧ Chg (· = b) w u ∧ rot E (m - i) m (m + j) = rot D a m e,
  fun vs _ => match vs with | [.int _ i, .int _ j] => (i + j).toNat | _ => 0,
  ⟨m - a, e - m, D, by simp; omega, by omega, by omega, Nat.le_refl _, Nat.le_refl _, h, Chg.refl _ _, by rw [show m - (m - a) = a by omega, show m + (e - m) = e by omega]⟩, fun i' j' w1 hI => ?_⟩
 obtain ⟨i, j, E, hv, hi, hj, hi2, hj2, hS, hC, hE⟩ := hI
 obtain ⟨rfl, rfl⟩ : i' = i ∧ j' = j := by simpa using hv
 rw [w64 (x := (m : Int) - i) (by omega) (by omega)]
 have e1 : (m : Int) - i = ((m - i : Nat) : Int) := by omega
 refine brB_i (fun hne => ?_) fun heq => ?_
 ·have hne : i ≠ j := by simp at hne; omega
  refine ⟨fun vs u => ∃ (i' j' : Nat) (E : Nat → Co), vs = [i64 i', i64 j'] ∧ 0 < i' ∧ 0 < j' ∧ i' ≤ m - a ∧ j' ≤ e - m ∧ i' + j' < i + j ∧ So u b n E ∧ Chg (· = b) w u ∧ rot E (m - i') m (m + j') = rot D a m e, ?_, fun n3 n4 w4 hI => ?_⟩
  ·refine brB_i (fun hgt => ?_) fun hle => ?_
   ·have hgt : j < i := by simp at hgt; omega
    rw [e1]
    refine swapR_spec hS (by omega) (by omega) hn fun w' h1 h2 => ⟨rfl, i - j, j, _, ?_, by omega, hj, by omega, hj2, by omega, h1, chgb hC h2, ?_⟩
    ·rw [w64 (x := (i : Int) - j) (by omega) (by omega)]; simp; omega
    ·have := rot_left E (a := m - i) (m := m) (b := m + j) (by omega) (by omega) (by omega)
     rw [show m + j - m = j by omega, show m - i + j = m - (i - j) by omega] at this
     rw [this]; exact hE
   ·have hle : i < j := by simp at hle; omega
    rw [w64 (x := (m : Int) + j) (by omega) (by omega), w64 (x := (m : Int) + j - i) (by omega) (by omega), e1, show (m : Int) + j - i = ((m + j - i : Nat) : Int) by omega]
    refine swapR_spec hS (by omega) (by omega) hn fun w' h1 h2 => ⟨rfl, i, j - i, _, ?_, hi, by omega, hi2, by omega, by omega, h1, chgb hC h2, ?_⟩
    ·rw [w64 (x := (j : Int) - i) (by omega) (by omega)]; simp; omega
    ·have := rot_right E (a := m - i) (m := m) (b := m + j) (by omega) (by omega) (by omega)
     rw [show m - (m - i) = i by omega] at this
     rw [show m + (j - i) = m + j - i by omega, this]; exact hE
  ·obtain ⟨i2, j2, E2, hv2, h1, h2, h3, h4, h5, h6, h7, h8⟩ := hI
   obtain ⟨rfl, rfl⟩ : n3 = i2 ∧ n4 = j2 := by simpa using hv2
   exact ⟨⟨i2, j2, E2, rfl, h1, h2, h3, h4, h6, h7, h8⟩, by show ((i2 : Int) + j2).toNat < ((i : Int) + j).toNat; omega⟩
 ·have heq : i = j := by simp at heq; omega
  subst heq
  rw [e1]
  refine swapR_spec hS (by omega) (by omega) hn fun w' h1 h2 => ⟨rfl, hR w' ?_ (chgb hC h2)⟩
  have := rot_even E (a := m - i) (m := m) (b := m + i) (by omega) (by omega) (by omega)
  rw [show m - (m - i) = i by omega] at this
  rw [← hE, ← this]; exact h1
end Go.Proofs.Ytiiaihiliimcoaa
namespace Go.Proofs.Ytiiaihiliimcoaa
open Go Go.Vc
set_option maxRecDepth 100000
def vc_slices_symMergeCmpFunc_api_Color (sa1 : Option Addr) (sl1 sc1 : Nat) (x1 x2 x3 : Int) (va1 : Value) (w : World) (R : Ending → World → Prop) : Prop :=
 brB (IntKind.i64.wrap (x2 - x1) == 1)
 (∃ I1 : List Value → World → Prop,
 ∃ m1 : List Value → World → Nat,
 (I1 [.int .i64 x2, .int .i64 x3] w) ∧
 ∀ (n1 n2 : Int) (w1 : World),
 (I1 [.int .i64 n1, .int .i64 n2] w1) →
 brB (decide (n1 < n2))
 (∃ I2 : List Value → World → Prop,
 (idx (sa1) (sl1) (IntKind.i64.wrap (shiftZ .shr .u64 (IntKind.u64.wrap (IntKind.i64.wrap (n1 + n2))) 1)) (4) fun a1 =>
 ∃ n3 n4 n5 n6 : Int,
 (w1.drew.cell? a1 = some (.int .u16 n3)) ∧
 (w1.drew.cell? (a1.add 1) = some (.int .u16 n4)) ∧
 (w1.drew.cell? (a1.add 2) = some (.int .u16 n5)) ∧
 (w1.drew.cell? (a1.add 3) = some (.int .u16 n6)) ∧
 idx (sa1) (sl1) (x1) (4) fun a2 =>
 ∃ n7 n8 n9 n10 : Int,
 (w1.drew.cell? a2 = some (.int .u16 n7)) ∧
 (w1.drew.cell? (a2.add 1) = some (.int .u16 n8)) ∧
 (w1.drew.cell? (a2.add 2) = some (.int .u16 n9)) ∧
 (w1.drew.cell? (a2.add 3) = some (.int .u16 n10)) ∧
 callV P (va1) [.agg #[.int .u16 n3, .int .u16 n4, .int .u16 n5, .int .u16 n6], .agg #[.int .u16 n7, .int .u16 n8, .int .u16 n9, .int .u16 n10]] (w1.drew) fun e1 w2 =>
 ∃ n11 : Int,
 (e1 = .returned (.int .i64 n11)) ∧
 brB (decide (n11 < 0))
 (I2 [.int .i64 (IntKind.i64.wrap (IntKind.i64.wrap (shiftZ .shr .u64 (IntKind.u64.wrap (IntKind.i64.wrap (n1 + n2))) 1) + 1)), .int .i64 n2] w2)
 (I2 [.int .i64 n1, .int .i64 (IntKind.i64.wrap (shiftZ .shr .u64 (IntKind.u64.wrap (IntKind.i64.wrap (n1 + n2))) 1))] w2)) ∧
 ∀ (n12 n13 : Int) (w3 : World),
 (I2 [.int .i64 n12, .int .i64 n13] w3) →
 (I1 [.int .i64 n12, .int .i64 n13] w3) ∧
 m1 [.int .i64 n12, .int .i64 n13] w3 < m1 [.int .i64 n1, .int .i64 n2] w1)
 (∃ I3 : List Value → World → Prop,
 ∃ m2 : List Value → World → Nat,
 (I3 [.int .i64 x1] w1) ∧
 ∀ (n14 : Int) (w4 : World),
 (I3 [.int .i64 n14] w4) →
 brB (decide (n14 < IntKind.i64.wrap (n1 - 1)))
 (idx (sa1) (sl1) (IntKind.i64.wrap (n14 + 1)) (4) fun a3 =>
 ∃ n15 n16 n17 n18 : Int,
 (w4.drew.cell? a3 = some (.int .u16 n15)) ∧
 (w4.drew.cell? (a3.add 1) = some (.int .u16 n16)) ∧
 (w4.drew.cell? (a3.add 2) = some (.int .u16 n17)) ∧
 (w4.drew.cell? (a3.add 3) = some (.int .u16 n18)) ∧
 idx (sa1) (sl1) (n14) (4) fun a4 =>
 ∃ n19 n20 n21 n22 : Int,
 (w4.drew.cell? a4 = some (.int .u16 n19)) ∧
 (w4.drew.cell? (a4.add 1) = some (.int .u16 n20)) ∧
 (w4.drew.cell? (a4.add 2) = some (.int .u16 n21)) ∧
 (w4.drew.cell? (a4.add 3) = some (.int .u16 n22)) ∧
 idx (sa1) (sl1) (n14) (4) fun a5 =>
 (∃ v1 : Value,
 w4.drew.cell? a5 = some v1) ∧
 (w4.drew.frozen? a5 = false) ∧
 (∃ v2 : Value,
 w4.drew.cell? (a5.add 1) = some v2) ∧
 (w4.drew.frozen? (a5.add 1) = false) ∧
 (∃ v3 : Value,
 w4.drew.cell? (a5.add 2) = some v3) ∧
 (w4.drew.frozen? (a5.add 2) = false) ∧
 (∃ v4 : Value,
 w4.drew.cell? (a5.add 3) = some v4) ∧
 (w4.drew.frozen? (a5.add 3) = false) ∧
 idx (sa1) (sl1) (IntKind.i64.wrap (n14 + 1)) (4) fun a6 =>
 (∃ v5 : Value,
 (setCells w4.drew a5 [.int .u16 n15, .int .u16 n16, .int .u16 n17, .int .u16 n18] 0).cell? a6 = some v5) ∧
 ((setCells w4.drew a5 [.int .u16 n15, .int .u16 n16, .int .u16 n17, .int .u16 n18] 0).frozen? a6 = false) ∧
 (∃ v6 : Value,
 (setCells w4.drew a5 [.int .u16 n15, .int .u16 n16, .int .u16 n17, .int .u16 n18] 0).cell? (a6.add 1) = some v6) ∧
 ((setCells w4.drew a5 [.int .u16 n15, .int .u16 n16, .int .u16 n17, .int .u16 n18] 0).frozen? (a6.add 1) = false) ∧
 (∃ v7 : Value,
 (setCells w4.drew a5 [.int .u16 n15, .int .u16 n16, .int .u16 n17, .int .u16 n18] 0).cell? (a6.add 2) = some v7) ∧
 ((setCells w4.drew a5 [.int .u16 n15, .int .u16 n16, .int .u16 n17, .int .u16 n18] 0).frozen? (a6.add 2) = false) ∧
 (∃ v8 : Value,
 (setCells w4.drew a5 [.int .u16 n15, .int .u16 n16, .int .u16 n17, .int .u16 n18] 0).cell? (a6.add 3) = some v8) ∧
 ((setCells w4.drew a5 [.int .u16 n15, .int .u16 n16, .int .u16 n17, .int .u16 n18] 0).frozen? (a6.add 3) = false) ∧
 (I3 [.int .i64 (IntKind.i64.wrap (n14 + 1))] (setCells (setCells w4.drew a5 [.int .u16 n15, .int .u16 n16, .int .u16 n17, .int .u16 n18] 0) a6 [.int .u16 n19, .int .u16 n20, .int .u16 n21, .int .u16 n22] 0)) ∧
 m2 [.int .i64 (IntKind.i64.wrap (n14 + 1))] (setCells (setCells w4.drew a5 [.int .u16 n15, .int .u16 n16, .int .u16 n17, .int .u16 n18] 0) a6 [.int .u16 n19, .int .u16 n20, .int .u16 n21, .int .u16 n22] 0) < m2 [.int .i64 n14] w4)
 (R (.returned (.tuple #[])) w4)))
 (brB (IntKind.i64.wrap (x3 - x2) == 1)
 (∃ I4 : List Value → World → Prop,
 ∃ m3 : List Value → World → Nat,
 (I4 [.int .i64 x1, .int .i64 x2] w) ∧
 ∀ (n23 n24 : Int) (w5 : World),
 (I4 [.int .i64 n23, .int .i64 n24] w5) →
 brB (decide (n23 < n24))
 (∃ I5 : List Value → World → Prop,
 (idx (sa1) (sl1) (x2) (4) fun a7 =>
 ∃ n25 n26 n27 n28 : Int,
 (w5.drew.cell? a7 = some (.int .u16 n25)) ∧
 (w5.drew.cell? (a7.add 1) = some (.int .u16 n26)) ∧
 (w5.drew.cell? (a7.add 2) = some (.int .u16 n27)) ∧
 (w5.drew.cell? (a7.add 3) = some (.int .u16 n28)) ∧
 idx (sa1) (sl1) (IntKind.i64.wrap (shiftZ .shr .u64 (IntKind.u64.wrap (IntKind.i64.wrap (n23 + n24))) 1)) (4) fun a8 =>
 ∃ n29 n30 n31 n32 : Int,
 (w5.drew.cell? a8 = some (.int .u16 n29)) ∧
 (w5.drew.cell? (a8.add 1) = some (.int .u16 n30)) ∧
 (w5.drew.cell? (a8.add 2) = some (.int .u16 n31)) ∧
 (w5.drew.cell? (a8.add 3) = some (.int .u16 n32)) ∧
 callV P (va1) [.agg #[.int .u16 n25, .int .u16 n26, .int .u16 n27, .int .u16 n28], .agg #[.int .u16 n29, .int .u16 n30, .int .u16 n31, .int .u16 n32]] (w5.drew) fun e2 w6 =>
 ∃ n33 : Int,
 (e2 = .returned (.int .i64 n33)) ∧
 brB (!decide (n33 < 0))
 (I5 [.int .i64 (IntKind.i64.wrap (IntKind.i64.wrap (shiftZ .shr .u64 (IntKind.u64.wrap (IntKind.i64.wrap (n23 + n24))) 1) + 1)), .int .i64 n24] w6)
 (I5 [.int .i64 n23, .int .i64 (IntKind.i64.wrap (shiftZ .shr .u64 (IntKind.u64.wrap (IntKind.i64.wrap (n23 + n24))) 1))] w6)) ∧
 ∀ (n34 n35 : Int) (w7 : World),
 (I5 [.int .i64 n34, .int .i64 n35] w7) →
 (I4 [.int .i64 n34, .int .i64 n35] w7) ∧
 m3 [.int .i64 n34, .int .i64 n35] w7 < m3 [.int .i64 n23, .int .i64 n24] w5)
 (∃ I6 : List Value → World → Prop,
 ∃ m4 : List Value → World → Nat,
 (I6 [.int .i64 x2] w5) ∧
 ∀ (n36 : Int) (w8 : World),
 (I6 [.int .i64 n36] w8) →
 brB (decide (n36 > n23))
 (idx (sa1) (sl1) (IntKind.i64.wrap (n36 - 1)) (4) fun a9 =>
 ∃ n37 n38 n39 n40 : Int,
 (w8.drew.cell? a9 = some (.int .u16 n37)) ∧
 (w8.drew.cell? (a9.add 1) = some (.int .u16 n38)) ∧
 (w8.drew.cell? (a9.add 2) = some (.int .u16 n39)) ∧
 (w8.drew.cell? (a9.add 3) = some (.int .u16 n40)) ∧
 idx (sa1) (sl1) (n36) (4) fun a10 =>
 ∃ n41 n42 n43 n44 : Int,
 (w8.drew.cell? a10 = some (.int .u16 n41)) ∧
 (w8.drew.cell? (a10.add 1) = some (.int .u16 n42)) ∧
 (w8.drew.cell? (a10.add 2) = some (.int .u16 n43)) ∧
 (w8.drew.cell? (a10.add 3) = some (.int .u16 n44)) ∧
 idx (sa1) (sl1) (n36) (4) fun a11 =>
 (∃ v9 : Value,
 w8.drew.cell? a11 = some v9) ∧
 (w8.drew.frozen? a11 = false) ∧
 (∃ v10 : Value,
 w8.drew.cell? (a11.add 1) = some v10) ∧
 (w8.drew.frozen? (a11.add 1) = false) ∧
 (∃ v11 : Value,
 w8.drew.cell? (a11.add 2) = some v11) ∧
 (w8.drew.frozen? (a11.add 2) = false) ∧
 (∃ v12 : Value,
 w8.drew.cell? (a11.add 3) = some v12) ∧
 (w8.drew.frozen? (a11.add 3) = false) ∧
 idx (sa1) (sl1) (IntKind.i64.wrap (n36 - 1)) (4) fun a12 =>
 (∃ v13 : Value,
 (setCells w8.drew a11 [.int .u16 n37, .int .u16 n38, .int .u16 n39, .int .u16 n40] 0).cell? a12 = some v13) ∧
 ((setCells w8.drew a11 [.int .u16 n37, .int .u16 n38, .int .u16 n39, .int .u16 n40] 0).frozen? a12 = false) ∧
 (∃ v14 : Value,
 (setCells w8.drew a11 [.int .u16 n37, .int .u16 n38, .int .u16 n39, .int .u16 n40] 0).cell? (a12.add 1) = some v14) ∧
 ((setCells w8.drew a11 [.int .u16 n37, .int .u16 n38, .int .u16 n39, .int .u16 n40] 0).frozen? (a12.add 1) = false) ∧
 (∃ v15 : Value,
 (setCells w8.drew a11 [.int .u16 n37, .int .u16 n38, .int .u16 n39, .int .u16 n40] 0).cell? (a12.add 2) = some v15) ∧
 ((setCells w8.drew a11 [.int .u16 n37, .int .u16 n38, .int .u16 n39, .int .u16 n40] 0).frozen? (a12.add 2) = false) ∧
 (∃ v16 : Value,
 (setCells w8.drew a11 [.int .u16 n37, .int .u16 n38, .int .u16 n39, .int .u16 n40] 0).cell? (a12.add 3) = some v16) ∧
 ((setCells w8.drew a11 [.int .u16 n37, .int .u16 n38, .int .u16 n39, .int .u16 n40] 0).frozen? (a12.add 3) = false) ∧
 (I6 [.int .i64 (IntKind.i64.wrap (n36 - 1))] (setCells (setCells w8.drew a11 [.int .u16 n37, .int .u16 n38, .int .u16 n39, .int .u16 n40] 0) a12 [.int .u16 n41, .int .u16 n42, .int .u16 n43, .int .u16 n44] 0)) ∧
 m4 [.int .i64 (IntKind.i64.wrap (n36 - 1))] (setCells (setCells w8.drew a11 [.int .u16 n37, .int .u16 n38, .int .u16 n39, .int .u16 n40] 0) a12 [.int .u16 n41, .int .u16 n42, .int .u16 n43, .int .u16 n44] 0) < m4 [.int .i64 n36] w8)
 (R (.returned (.tuple #[])) w8)))
 (∃ I7 : List Value → World → Prop,
 (brB (decide (x2 > IntKind.i64.wrap (shiftZ .shr .u64 (IntKind.u64.wrap (IntKind.i64.wrap (x1 + x3))) 1)))
 (I7 [.int .i64 (IntKind.i64.wrap (IntKind.i64.wrap (IntKind.i64.wrap (shiftZ .shr .u64 (IntKind.u64.wrap (IntKind.i64.wrap (x1 + x3))) 1) + x2) - x3)), .int .i64 (IntKind.i64.wrap (shiftZ .shr .u64 (IntKind.u64.wrap (IntKind.i64.wrap (x1 + x3))) 1))] w)
 (I7 [.int .i64 x1, .int .i64 x2] w)) ∧
 ∀ (n45 n46 : Int) (w9 : World),
 (I7 [.int .i64 n45, .int .i64 n46] w9) →
 ∃ (I8 : List Value → World → Prop) (m5 : List Value → World → Nat),
 (I8 [.int .i64 n45, .int .i64 n46] w9) ∧
 ∀ (n47 n48 : Int) (w10 : World),
 (I8 [.int .i64 n47, .int .i64 n48] w10) →
 brB (decide (n47 < n48))
 (∃ I9 : List Value → World → Prop,
 (idx (sa1) (sl1) (IntKind.i64.wrap (IntKind.i64.wrap (IntKind.i64.wrap (IntKind.i64.wrap (shiftZ .shr .u64 (IntKind.u64.wrap (IntKind.i64.wrap (x1 + x3))) 1) + x2) - 1) - IntKind.i64.wrap (shiftZ .shr .u64 (IntKind.u64.wrap (IntKind.i64.wrap (n47 + n48))) 1))) (4) fun a13 =>
 ∃ n49 n50 n51 n52 : Int,
 (w10.drew.cell? a13 = some (.int .u16 n49)) ∧
 (w10.drew.cell? (a13.add 1) = some (.int .u16 n50)) ∧
 (w10.drew.cell? (a13.add 2) = some (.int .u16 n51)) ∧
 (w10.drew.cell? (a13.add 3) = some (.int .u16 n52)) ∧
 idx (sa1) (sl1) (IntKind.i64.wrap (shiftZ .shr .u64 (IntKind.u64.wrap (IntKind.i64.wrap (n47 + n48))) 1)) (4) fun a14 =>
 ∃ n53 n54 n55 n56 : Int,
 (w10.drew.cell? a14 = some (.int .u16 n53)) ∧
 (w10.drew.cell? (a14.add 1) = some (.int .u16 n54)) ∧
 (w10.drew.cell? (a14.add 2) = some (.int .u16 n55)) ∧
 (w10.drew.cell? (a14.add 3) = some (.int .u16 n56)) ∧
 callV P (va1) [.agg #[.int .u16 n49, .int .u16 n50, .int .u16 n51, .int .u16 n52], .agg #[.int .u16 n53, .int .u16 n54, .int .u16 n55, .int .u16 n56]] (w10.drew) fun e3 w11 =>
 ∃ n57 : Int,
 (e3 = .returned (.int .i64 n57)) ∧
 brB (!decide (n57 < 0))
 (I9 [.int .i64 (IntKind.i64.wrap (IntKind.i64.wrap (shiftZ .shr .u64 (IntKind.u64.wrap (IntKind.i64.wrap (n47 + n48))) 1) + 1)), .int .i64 n48] w11)
 (I9 [.int .i64 n47, .int .i64 (IntKind.i64.wrap (shiftZ .shr .u64 (IntKind.u64.wrap (IntKind.i64.wrap (n47 + n48))) 1))] w11)) ∧
 ∀ (n58 n59 : Int) (w12 : World),
 (I9 [.int .i64 n58, .int .i64 n59] w12) →
 (I8 [.int .i64 n58, .int .i64 n59] w12) ∧
 m5 [.int .i64 n58, .int .i64 n59] w12 < m5 [.int .i64 n47, .int .i64 n48] w10)
 (∃ I10 : List Value → World → Prop,
 (brB (decide (n47 < x2) && decide (x2 < IntKind.i64.wrap (IntKind.i64.wrap (IntKind.i64.wrap (shiftZ .shr .u64 (IntKind.u64.wrap (IntKind.i64.wrap (x1 + x3))) 1) + x2) - n47)))
 (Calls P F.slices_rotateCmpFunc_api_Color #[.slice sa1 sl1 sc1, .int .i64 n47, .int .i64 x2, .int .i64 (IntKind.i64.wrap (IntKind.i64.wrap (IntKind.i64.wrap (shiftZ .shr .u64 (IntKind.u64.wrap (IntKind.i64.wrap (x1 + x3))) 1) + x2) - n47)), va1] w10 fun e4 w13 =>
 (e4 = .returned (.tuple #[])) ∧
 I10 [] w13)
 (I10 [] w10)) ∧
 ∀ w14 : World,
 (I10 [] w14) →
 ∃ I11 : List Value → World → Prop,
 (brB (decide (x1 < n47) && decide (n47 < IntKind.i64.wrap (shiftZ .shr .u64 (IntKind.u64.wrap (IntKind.i64.wrap (x1 + x3))) 1)))
 (Calls P F.slices_symMergeCmpFunc_api_Color #[.slice sa1 sl1 sc1, .int .i64 x1, .int .i64 n47, .int .i64 (IntKind.i64.wrap (shiftZ .shr .u64 (IntKind.u64.wrap (IntKind.i64.wrap (x1 + x3))) 1)), va1] w14 fun e5 w15 =>
 (e5 = .returned (.tuple #[])) ∧
 I11 [] w15)
 (I11 [] w14)) ∧
 ∀ w16 : World,
 (I11 [] w16) →
 brB (decide (IntKind.i64.wrap (shiftZ .shr .u64 (IntKind.u64.wrap (IntKind.i64.wrap (x1 + x3))) 1) < IntKind.i64.wrap (IntKind.i64.wrap (IntKind.i64.wrap (shiftZ .shr .u64 (IntKind.u64.wrap (IntKind.i64.wrap (x1 + x3))) 1) + x2) - n47)) && decide (IntKind.i64.wrap (IntKind.i64.wrap (IntKind.i64.wrap (shiftZ .shr .u64 (IntKind.u64.wrap (IntKind.i64.wrap (x1 + x3))) 1) + x2) - n47) < x3))
 (Calls P F.slices_symMergeCmpFunc_api_Color #[.slice sa1 sl1 sc1, .int .i64 (IntKind.i64.wrap (shiftZ .shr .u64 (IntKind.u64.wrap (IntKind.i64.wrap (x1 + x3))) 1)), .int .i64 (IntKind.i64.wrap (IntKind.i64.wrap (IntKind.i64.wrap (shiftZ .shr .u64 (IntKind.u64.wrap (IntKind.i64.wrap (x1 + x3))) 1) + x2) - n47)), .int .i64 x3, va1] w16 fun e6 w17 =>
 (e6 = .returned (.tuple #[])) ∧
 R (.returned (.tuple #[])) w17)
 (R (.returned (.tuple #[])) w16))))
theorem calls_slices_symMergeCmpFunc_api_Color (sa1 : Option Addr) (sl1 sc1 : Nat) (x1 x2 x3 : Int) (va1 : Value) (w : World) (R : Ending → World → Prop) (h : vc_slices_symMergeCmpFunc_api_Color sa1 sl1 sc1 x1 x2 x3 va1 w R) : Calls P F.slices_symMergeCmpFunc_api_Color #[.slice sa1 sl1 sc1, .int .i64 x1, .int .i64 x2, .int .i64 x3, va1] w R :=
  calls_of_vc (ac := ac_slices_symMergeCmpFunc_api_Color) mixed Try.func87 (by kernel_rfl) (cast (by unfold vc_slices_symMergeCmpFunc_api_Color FnVc; kernel_rfl) h)
end Go.Proofs.Ytiiaihiliimcoaa
