/- Words for memory: what may have turned, cells of a block, slices. -/
import Derived.Test.YthfnohbpdoklgaaVc
set_option linter.unusedVariables false
set_option linter.unusedSimpArgs false
namespace Go.Vc
open Go.RowKit

/-! ## Words for the conditions' parts -/
theorem nn_i {p : Option Addr} {a : Addr} {F : Addr → Prop} (h : p = some a) (hF : F a) : nn p F := by subst h; exact hF
theorem brB_i {b : Bool} {A B : Prop} (ht : b = true → A) (hf : b = false → B) : brB b A B := by cases b; exact hf rfl; exact ht rfl
theorem brB_t {b : Bool} {A B : Prop} (h : b = true) (hA : A) : brB b A B := by subst h; exact hA
theorem brB_f {b : Bool} {A B : Prop} (h : b = false) (hB : B) : brB b A B := by subst h; exact hB
theorem idx_i {base : Option Addr} {len : Nat} {i : Int} {sz : Nat} {F : Addr → Prop} {a : Addr} (h0 : 0 ≤ i) (h1 : i < len) (ha : base = some a) (hF : F (a.add (i.toNat * sz))) : idx base len i sz F := ⟨h0, h1, a, ha, hF⟩
theorem w64 {x : Int} (h0 : -9223372036854775808 ≤ x) (h1 : x ≤ 9223372036854775807) : IntKind.i64.wrap x = x := IntWalk.i64_in x ⟨h0, h1⟩
theorem add_zero' (a : Addr) : a.add 0 = a := by unfold Addr.add; cases a with | mk b o s => cases s <;> rfl

/-! ## What may have turned -/
/-- only blocks of S have turned, of those that were there -/
structure Chg (S : Nat → Prop) (w w' : World) : Prop where
  os : w'.os = w.os
  tape : w'.tape = w.tape
  output : w'.output = w.output
  size : w.heap.size ≤ w'.heap.size
  block : ∀ k, k < w.heap.size → ¬ S k → w'.heap[k]? = w.heap[k]?
theorem Chg.refl (S : Nat → Prop) (w : World) : Chg S w w := ⟨rfl, rfl, rfl, Nat.le_refl _, fun _ _ _ => rfl⟩
theorem Ext.chg {S : Nat → Prop} {w w' : World} (h : Ext w w') : Chg S w w' := ⟨h.os, h.tape, h.output, h.size, fun k hk _ => h.block k hk⟩
theorem Chg.trans {S T : Nat → Prop} {a b c : World} (h : Chg S a b) (k : Chg T b c) (hT : ∀ i, T i → i < a.heap.size → S i) : Chg S a c :=
  ⟨k.os.trans h.os, k.tape.trans h.tape, k.output.trans h.output, Nat.le_trans h.size k.size,
    fun i hi hS => (k.block i (Nat.lt_of_lt_of_le hi h.size) (fun ht => hS (hT i ht hi))).trans (h.block i hi hS)⟩
theorem Chg.mono {S T : Nat → Prop} {a b : World} (h : Chg S a b) (hT : ∀ i, S i → i < a.heap.size → T i) : Chg T a b :=
  ⟨h.os, h.tape, h.output, h.size, fun i hi hS => h.block i hi (fun hs => hS (hT i hs hi))⟩
theorem Chg.below {S : Nat → Prop} {w w' : World} {N : Nat} (h : Chg S w w') (hS : ∀ i, S i → i < w.heap.size → N ≤ i) (hN : N ≤ w.heap.size) : Below N w w' :=
  ⟨h.os, h.tape, h.output, h.size, fun k hk => h.block k (by omega) (fun hs => by have := hS k hs (by omega); omega)⟩
theorem Chg.ext {S : Nat → Prop} {w w' : World} (h : Chg S w w') (hS : ∀ i, S i → w.heap.size ≤ i) : Ext w w' := h.below (fun i hi _ => hS i hi) (Nat.le_refl _)
theorem Chg.keep {S : Nat → Prop} {w w' : World} (h : Chg S w w') {bs : List Nat} (hb : ∀ b, b ∈ bs → ¬ S b) : Keep bs w w' :=
  fun b hm hlt => ⟨Nat.lt_of_lt_of_le hlt h.size, h.block b hlt (hb b hm)⟩
theorem Locl.chg {bs : List Nat} {w w' : World} (h : Locl bs w w') : Chg (· ∈ bs) w w' := ⟨h.os, h.tape, h.output, h.size, fun k hk hn => h.block k hk hn⟩
theorem Locl.ext {bs : List Nat} {w w' : World} (h : Locl bs w w') (hb : ∀ b, b ∈ bs → w.heap.size ≤ b) : Ext w w' := h.below (Nat.le_refl _) hb
theorem New.ext {w w' : World} {o : Obj} {b : Nat} (h : New w o b w') : Ext w w' := by rw [h.2]; exact (Ext.refl w).alloc o
theorem New.size {w w' : World} {o : Obj} {b : Nat} (h : New w o b w') : b < w'.heap.size := by rw [h.1, h.2]; simp
theorem Chg.setCells (w : World) (a : Addr) (vs : List Value) (i : Nat) : Chg (· = a.block) w (setCells w a vs i) :=
  have h := setCells_same vs w a i
  ⟨h.os, h.tape, h.output, Nat.le_of_eq h.size.symm, fun k _ hk => h.block k hk⟩
theorem Chg.drew {S : Nat → Prop} {w w' : World} (h : Chg S w w') : Chg S w w'.drew := ⟨h.os, h.tape, h.output, h.size, h.block⟩
theorem Chg.of_below {N : Nat} {w w' : World} (h : Below N w w') : Chg (fun k => N ≤ k) w w' := ⟨h.os, h.tape, h.output, h.size, fun k _ hk => h.block k (by omega)⟩
theorem Below.join {N : Nat} {a b c : World} (h : Below N a b) (k : Ext b c) (hN : N ≤ a.heap.size) : Below N a c := h.trans (Below.mono k (Nat.le_trans hN h.size))

theorem Put.chg {D : Nat} {w w' : World} (h : Put D w w') : Chg (· = D) w w' := ⟨h.os, h.tape, h.output, Nat.le_of_eq h.size.symm, fun k _ hk => h.block k hk⟩
theorem Ext.step {S : Nat → Prop} {a b c : World} (h : Ext a b) (k : Chg S b c) (hS : ∀ i, S i → a.heap.size ≤ i) : Ext a c :=
  ((h.chg (S := fun k => a.heap.size ≤ k)).trans k (fun i hi _ => hS i hi)).ext (fun i hi => hi)
/-! ## A block's cells -/
def Cs (w : World) (b : Nat) (vs : List Value) : Prop := ∃ e, w.heap[b]? = some (.cells vs.toArray e (0, 0))
theorem Cs.lt {w : World} {b : Nat} {vs : List Value} (h : Cs w b vs) : b < w.heap.size := by
  obtain ⟨e, h⟩ := h
  rcases Nat.lt_or_ge b w.heap.size with h' | h'
  · exact h'
  · rw [Array.getElem?_eq_none h'] at h; cases h
theorem Cs.chg {S : Nat → Prop} {w w' : World} {b : Nat} {vs : List Value} (h : Cs w b vs) (hc : Chg S w w') (hb : ¬ S b) : Cs w' b vs := by
  obtain ⟨e, h1⟩ := h; exact ⟨e, by rw [hc.block b (Cs.lt ⟨e, h1⟩) hb]; exact h1⟩
theorem Cs.below {N : Nat} {w w' : World} {b : Nat} {vs : List Value} (h : Cs w b vs) (hc : Below N w w') (hb : b < N) : Cs w' b vs := by
  obtain ⟨e, h1⟩ := h; exact ⟨e, by rw [hc.block b hb]; exact h1⟩
theorem Cs.ext {w w' : World} {b : Nat} {vs : List Value} (h : Cs w b vs) (hc : Ext w w') : Cs w' b vs := h.below hc h.lt
theorem Cs.drew {w : World} {b : Nat} {vs : List Value} (h : Cs w b vs) : Cs w.drew b vs := h
theorem New.cs {w w' : World} {b : Nat} {vs : Array Value} {e : TypeId} (h : New w (.cells vs e (0, 0)) b w') : Cs w' b vs.toList :=
  ⟨e, by rw [h.1, h.2]; exact cells_alloc_new w _⟩
theorem Cs.cell {w : World} {b : Nat} {vs : List Value} (h : Cs w b vs) {i : Nat} {v : Value} (hv : vs[i]? = some v) : w.cell? ⟨b, i, none⟩ = some v := by
  obtain ⟨e, h⟩ := h; exact cell_of_block h hv
theorem Cs.frozen {w : World} {b : Nat} {vs : List Value} (h : Cs w b vs) (i : Nat) : w.frozen? ⟨b, i, none⟩ = false := by
  obtain ⟨e, h⟩ := h
  simp [World.frozen?, h]
theorem Cs.set {w : World} {b off : Nat} {vs us : List Value} (h : Cs w b vs) (hl : off + us.length ≤ vs.length) :
    Cs (setCells w ⟨b, off, none⟩ us 0) b (vs.take off ++ us ++ vs.drop (off + us.length)) := by
  obtain ⟨e, h⟩ := h
  exact ⟨e, by simpa using setCells_block (i := 0) h (by simpa using hl)⟩
theorem Cs.set1 {w : World} {b off : Nat} {vs : List Value} {v : Value} (h : Cs w b vs) (hl : off < vs.length) :
    Cs (setCells w ⟨b, off, none⟩ [v] 0) b (vs.set off v) := by
  have := h.set (off := off) (us := [v]) (by simp; omega)
  rwa [show vs.take off ++ [v] ++ vs.drop (off + [v].length) = vs.set off v by simp [List.set_eq_take_append_cons_drop, hl]] at this
theorem Cs.canSet {w : World} {b off n : Nat} {vs : List Value} (h : Cs w b vs) (hl : off + n ≤ vs.length) : CanSet w ⟨b, off, none⟩ n := by
  intro j hj
  rw [loc_add]
  exact ⟨⟨vs[off + j]'(by omega), h.cell (List.getElem?_eq_getElem (by omega))⟩, h.frozen _⟩

/-! ## Slices -/
/-- a slice's cells, all in blocks below N -/
def Sl (N : Nat) (w : World) (base : Option Addr) (vs : List Value) : Prop := ∀ j v, vs[j]? = some v → ∃ a, base = some a ∧ a.block < N ∧ w.cell? (a.add j) = some v
theorem Sl.below {N : Nat} {w w' : World} {base : Option Addr} {vs : List Value} (h : Sl N w base vs) (hb : Below N w w') : Sl N w' base vs := by
  intro j v hj
  obtain ⟨a, h1, h2, h3⟩ := h j v hj
  exact ⟨a, h1, h2, by rw [Below.cell hb (by rw [add_block]; exact h2)]; exact h3⟩
theorem Sl.mono {N M : Nat} {w : World} {base : Option Addr} {vs : List Value} (h : Sl N w base vs) (hNM : N ≤ M) : Sl M w base vs := by
  intro j v hj
  obtain ⟨a, h1, h2, h3⟩ := h j v hj
  exact ⟨a, h1, by omega, h3⟩
theorem Sl.up {N : Nat} {w : World} {base : Option Addr} {vs : List Value} (h : Sl N w base vs) : Sl w.heap.size w base vs := by
  intro j v hj
  obtain ⟨a, h1, h2, h3⟩ := h j v hj
  have := World.block_lt_of_cell? w _ h3
  rw [add_block] at this
  exact ⟨a, h1, this, h3⟩
theorem Sl.ext {N : Nat} {w w' : World} {base : Option Addr} {vs : List Value} (h : Sl N w base vs) (hb : Ext w w') : Sl N w' base vs := by
  intro j v hj
  obtain ⟨a, h1, h2, h3⟩ := h j v hj
  exact ⟨a, h1, h2, hb.cell h3⟩
theorem Sl.drew {N : Nat} {w : World} {base : Option Addr} {vs : List Value} (h : Sl N w base vs) : Sl N w.drew base vs := h
theorem Sl.nil (N : Nat) (w : World) (base : Option Addr) : Sl N w base [] := fun j v h => by simp at h
theorem Sl.cells {N : Nat} {w : World} {base : Option Addr} {vs : List Value} (h : Sl N w base vs) : CellsAre w base vs := by
  intro j v hj
  obtain ⟨a, h1, _, h3⟩ := h j v hj
  exact ⟨a, h1, h3⟩
theorem Sl.spot {N : Nat} {w : World} {a : Addr} {vs : List Value} (h : Sl N w (some a) vs) (hne : vs ≠ []) : a.spot = none := by
  cases vs with
  | nil => exact (hne rfl).elim
  | cons v vs =>
    obtain ⟨b, h1, _, h3⟩ := h 0 v rfl
    cases h1
    have := World.cell?_spot h3
    simpa [Addr.add] using this
theorem Cs.sl {w : World} {b off : Nat} {vs us : List Value} (h : Cs w b vs) (hu : us <+: vs.drop off) {N : Nat} (hN : b < N) : Sl N w (some ⟨b, off, none⟩) us := by
  intro j v hj
  refine ⟨_, rfl, hN, ?_⟩
  rw [loc_add]
  obtain ⟨t, ht⟩ := hu
  refine h.cell ?_
  have : (us ++ t)[j]? = some v := by
    rw [List.getElem?_append_left]; exact hj
    rcases Nat.lt_or_ge j us.length with h' | h'
    · exact h'
    · rw [List.getElem?_eq_none h'] at hj; cases hj
  rw [ht, List.getElem?_drop] at this; exact this
theorem Sl.part {N : Nat} {w : World} {base : Option Addr} {vs us : List Value} (h : Sl N w base vs) {lo cap : Nat} (hc : vs.length ≤ cap) (hu : us <+: vs.drop lo) : Sl N w (slcBase base lo cap 1) us := by
  intro j v hj
  obtain ⟨t, ht⟩ := hu
  have hlt : j < us.length := by
    rcases Nat.lt_or_ge j us.length with h' | h'
    · exact h'
    · rw [List.getElem?_eq_none h'] at hj; cases hj
  have h1 : (us ++ t)[j]? = some v := by rw [List.getElem?_append_left hlt]; exact hj
  rw [ht, List.getElem?_drop] at h1
  obtain ⟨a, h2, h3, h4⟩ := h _ _ h1
  have hlo : cap ≠ lo := by
    intro e
    have : lo + j < vs.length := by
      rcases Nat.lt_or_ge (lo + j) vs.length with h' | h'
      · exact h'
      · rw [List.getElem?_eq_none h'] at h1; cases h1
    omega
  refine ⟨a.add lo, by simp [slcBase, hlo, h2], by rw [add_block]; exact h3, ?_⟩
  subst h2
  rw [add_add a (h.spot fun e => by rw [e] at h1; simp at h1)]; exact h4
theorem Sl.get {N : Nat} {w : World} {base : Option Addr} {vs : List Value} (h : Sl N w base vs) {i : Int} {len : Nat} {v : Value} (h0 : 0 ≤ i) (hl : vs.length = len) (hv : vs[i.toNat]? = some v) {F : Addr → Prop}
    (hF : ∀ a : Addr, w.cell? a = some v → F a) : idx base len i 1 F := by
  have hlt : i.toNat < vs.length := by
    rcases Nat.lt_or_ge i.toNat vs.length with h' | h'
    · exact h'
    · rw [List.getElem?_eq_none h'] at hv; cases hv
  obtain ⟨a, h1, h2, h3⟩ := h _ _ hv
  exact ⟨h0, by omega, a, h1, hF _ (by simpa using h3)⟩

/-! ## Slices that may grow and be written: their block is one of [N, M) -/
def Ow (N M : Nat) (w : World) (base : Option Addr) (len cap sz : Nat) (vs : List Value) : Prop :=
  len * sz = vs.length ∧ len ≤ cap ∧ (cap = 0 ∨ ∃ b rest, N ≤ b ∧ b < M ∧ base = some ⟨b, 0, none⟩ ∧ cap * sz = vs.length + rest.length ∧ Cs w b (vs ++ rest))
theorem Ow.chg {N M : Nat} {w w' : World} {base : Option Addr} {len cap sz : Nat} {vs : List Value} {S : Nat → Prop} (h : Ow N M w base len cap sz vs) (hc : Chg S w w') (hS : ∀ b, N ≤ b → b < M → ¬ S b) : Ow N M w' base len cap sz vs := by
  obtain ⟨h1, h2, h3⟩ := h
  refine ⟨h1, h2, ?_⟩
  rcases h3 with h3 | ⟨b, rest, h4, h5, h6, h7, h8⟩
  · exact .inl h3
  · exact .inr ⟨b, rest, h4, h5, h6, h7, h8.chg hc (hS b h4 h5)⟩
theorem Ow.ext {N M : Nat} {w w' : World} {base : Option Addr} {len cap sz : Nat} {vs : List Value} (h : Ow N M w base len cap sz vs) (hc : Ext w w') : Ow N M w' base len cap sz vs :=
  h.chg (S := fun _ => False) hc.chg (fun _ _ _ h => h)
theorem Ow.mono {N M N' M' : Nat} {w : World} {base : Option Addr} {len cap sz : Nat} {vs : List Value} (h : Ow N M w base len cap sz vs) (hN : N' ≤ N) (hM : M ≤ M') : Ow N' M' w base len cap sz vs := by
  obtain ⟨h1, h2, h3⟩ := h
  refine ⟨h1, h2, ?_⟩
  rcases h3 with h3 | ⟨b, rest, h4, h5, h6⟩
  · exact .inl h3
  · exact .inr ⟨b, rest, by omega, by omega, h6⟩
theorem Ow.nil (N M : Nat) (w : World) (base : Option Addr) (sz : Nat) : Ow N M w base 0 0 sz [] := ⟨by simp, Nat.le_refl _, .inl rfl⟩
theorem Ow.sl {N M : Nat} {w : World} {base : Option Addr} {len cap sz : Nat} {vs : List Value} (h : Ow N M w base len cap sz vs) : Sl M w base vs := by
  obtain ⟨h1, h2, h3⟩ := h
  rcases h3 with h3 | ⟨b, rest, h4, h5, h6, h7, h8⟩
  · have : len = 0 := by omega
    subst this
    rw [Nat.zero_mul] at h1
    rw [List.length_eq_zero_iff.1 h1.symm]; exact Sl.nil _ _ _
  · subst h6; exact h8.sl (by simp) h5
theorem Ow.len {N M : Nat} {w : World} {base : Option Addr} {len cap : Nat} {vs : List Value} (h : Ow N M w base len cap 1 vs) : len = vs.length := by have := h.1; omega
theorem Ow.base {N M : Nat} {w : World} {base : Option Addr} {len cap sz : Nat} {vs : List Value} (h : Ow N M w base len cap sz vs) (h0 : 0 < len) : ∃ b, base = some ⟨b, 0, none⟩ ∧ N ≤ b ∧ b < M := by
  obtain ⟨_, h2, h3⟩ := h
  rcases h3 with h3 | ⟨b, rest, h4, h5, h6, _⟩
  · omega
  · exact ⟨b, h6, h4, h5⟩
theorem Ow.write {N M : Nat} {w : World} {b : Nat} {len cap i : Nat} {vs : List Value} (h : Ow N M w (some ⟨b, 0, none⟩) len cap 1 vs) (hi : i < len) :
    (∃ u, w.cell? ⟨b, i, none⟩ = some u) ∧ w.frozen? ⟨b, i, none⟩ = false ∧ ∀ v, Ow N M (setCells w ⟨b, i, none⟩ [v] 0) (some ⟨b, 0, none⟩) len cap 1 (vs.set i v) ∧ Chg (· = b) w (setCells w ⟨b, i, none⟩ [v] 0) := by
  obtain ⟨h1, h2, h3⟩ := h
  rcases h3 with h3 | ⟨b', rest, h4, h5, h6, h7, h8⟩
  · omega
  · cases h6
    obtain ⟨hu, hf⟩ := h8.canSet (off := i) (n := 1) (by rw [List.length_append]; omega) 0 (by omega)
    rw [loc_add, Nat.add_zero] at hu hf
    refine ⟨hu, hf, fun v => ⟨⟨by simpa using h1, h2, .inr ⟨b, rest, h4, h5, rfl, by simpa using h7, ?_⟩⟩, (Chg.setCells w ⟨b, i, none⟩ [v] 0 :)⟩⟩
    have := h8.set1 (off := i) (v := v) (by rw [List.length_append]; omega)
    rwa [List.set_append_left _ _ (by omega)] at this
theorem mkCells_length (zero : List Value) (n : Nat) : (mkCells zero n).size = n * zero.length := by simp [mkCells]
theorem New.own {w w' : World} {b : Nat} {vs : List Value} {arr : Array Value} {e : TypeId} {len cap sz N M : Nat} (h : New w (.cells arr e (0, 0)) b w') (hv : vs <+: arr.toList) (hl : len * sz = vs.length) (hc : cap * sz = arr.size) (hle : len ≤ cap) (hN : N ≤ w.heap.size) (hM : w'.heap.size ≤ M) :
    Ow N M w' (some ⟨b, 0, none⟩) len cap sz vs := by
  obtain ⟨t, ht⟩ := hv
  have hs := h.size
  refine ⟨hl, hle, .inr ⟨b, t, by rw [h.1]; exact hN, by omega, rfl, ?_, by rw [ht]; exact h.cs⟩⟩
  rw [hc, ← Array.length_toList, ← ht, List.length_append]
/-- the same, its block one of S -/
def OwnS (S : Nat → Prop) (w : World) (base : Option Addr) (len cap sz : Nat) (vs : List Value) : Prop :=
  len * sz = vs.length ∧ len ≤ cap ∧ (cap = 0 ∨ ∃ b rest, S b ∧ base = some ⟨b, 0, none⟩ ∧ cap * sz = vs.length + rest.length ∧ Cs w b (vs ++ rest))
theorem OwnS.own {S : Nat → Prop} {N M : Nat} {w : World} {base : Option Addr} {len cap sz : Nat} {vs : List Value} (h : OwnS S w base len cap sz vs) (hS : ∀ i, S i → i < w.heap.size → N ≤ i ∧ i < M) : Ow N M w base len cap sz vs := by
  obtain ⟨h1, h2, h3⟩ := h
  refine ⟨h1, h2, ?_⟩
  rcases h3 with h3 | ⟨b, rest, h4, h6, h7, h8⟩
  · exact .inl h3
  · exact .inr ⟨b, rest, (hS b h4 h8.lt).1, (hS b h4 h8.lt).2, h6, h7, h8⟩
theorem OwnS.chg {S T : Nat → Prop} {w w' : World} {base : Option Addr} {len cap sz : Nat} {vs : List Value} (h : OwnS S w base len cap sz vs) (hc : Chg T w w') (hS : ∀ b, S b → b < w.heap.size → ¬ T b) : OwnS S w' base len cap sz vs := by
  obtain ⟨h1, h2, h3⟩ := h
  refine ⟨h1, h2, ?_⟩
  rcases h3 with h3 | ⟨b, rest, h4, h6, h7, h8⟩
  · exact .inl h3
  · exact .inr ⟨b, rest, h4, h6, h7, h8.chg hc (hS b h4 h8.lt)⟩
theorem OwnS.mono {S T : Nat → Prop} {w : World} {base : Option Addr} {len cap sz : Nat} {vs : List Value} (h : OwnS S w base len cap sz vs) (hS : ∀ i, S i → i < w.heap.size → T i) : OwnS T w base len cap sz vs := by
  obtain ⟨h1, h2, h3⟩ := h
  refine ⟨h1, h2, ?_⟩
  rcases h3 with h3 | ⟨b, rest, h4, h6, h7, h8⟩
  · exact .inl h3
  · exact .inr ⟨b, rest, hS b h4 h8.lt, h6, h7, h8⟩
theorem OwnS.base {S : Nat → Prop} {w : World} {base : Option Addr} {len cap sz : Nat} {vs : List Value} (h : OwnS S w base len cap sz vs) (h0 : 0 < len) : ∃ b, base = some ⟨b, 0, none⟩ ∧ S b ∧ b < w.heap.size := by
  obtain ⟨_, h2, h3⟩ := h
  rcases h3 with h3 | ⟨b, rest, h4, h6, _, h8⟩
  · omega
  · exact ⟨b, h6, h4, h8.lt⟩
theorem OwnS.write {S : Nat → Prop} {w : World} {b : Nat} {len cap i : Nat} {vs : List Value} (h : OwnS S w (some ⟨b, 0, none⟩) len cap 1 vs) (hi : i < len) :
    (∃ u, w.cell? ⟨b, i, none⟩ = some u) ∧ w.frozen? ⟨b, i, none⟩ = false ∧ ∀ v, OwnS S (setCells w ⟨b, i, none⟩ [v] 0) (some ⟨b, 0, none⟩) len cap 1 (vs.set i v) ∧ Chg (· = b) w (setCells w ⟨b, i, none⟩ [v] 0) := by
  obtain ⟨h1, h2, h3⟩ := h
  rcases h3 with h3 | ⟨b', rest, h4, h6, h7, h8⟩
  · omega
  · cases h6
    obtain ⟨hu, hf⟩ := h8.canSet (off := i) (n := 1) (by rw [List.length_append]; omega) 0 (by omega)
    rw [loc_add, Nat.add_zero] at hu hf
    refine ⟨hu, hf, fun v => ⟨⟨by simpa using h1, h2, .inr ⟨b, rest, h4, rfl, by simpa using h7, ?_⟩⟩, (Chg.setCells w ⟨b, i, none⟩ [v] 0 :)⟩⟩
    have := h8.set1 (off := i) (v := v) (by rw [List.length_append]; omega)
    rwa [List.set_append_left _ _ (by omega)] at this
theorem OwnS.app {S : Nat → Prop} {w : World} {l : List (Nat × Nat × List Value)} {base : Option Addr} {len cap n sz bytes : Nat} {elem : TypeId} {zero vs fs : List Value} {F : Option Addr → Nat → Nat → World → Prop}
    (h : OwnS S w base len cap sz vs) (hl : ∀ b ∈ blocks l, S b → False) (hz : zero.length = sz) (hn : fs.length = n * sz)
    (hby : (len + n) * bytes ≤ 2 ^ 47) (h62 : len + n < 2 ^ 62)
    (hF : ∀ base' cap' w', OwnS (fun i => S i ∨ w.heap.size ≤ i) w' base' (len + n) cap' sz (vs ++ fs) → Chg S w w' → F base' (len + n) cap' w') :
    appVC w l base len cap n sz bytes elem zero fs F := by
  obtain ⟨h1, h2, h3⟩ := h
  refine ⟨fun hle => ?_, fun hgt => ⟨hby, h62, vs, h1.symm, ?_, fun cap' b w' hc' hnew => ?_⟩⟩
  · rcases h3 with h3 | ⟨b, rest, h4, h6, h7, h8⟩
    · have e0 : len = 0 := by omega
      have e1 : n = 0 := by omega
      subst e0; subst e1
      have e2 : fs = [] := List.length_eq_zero_iff.1 (by simpa using hn)
      refine .inl ⟨e2, hF _ _ _ ⟨?_, by omega, .inl h3⟩ (Chg.refl _ _)⟩
      subst e2; simpa using h1
    · subst h6
      refine .inr ⟨_, rfl, ?_, ?_⟩
      · rw [loc_add, Nat.zero_add]
        refine h8.canSet ?_
        rw [List.length_append, hn, h1]
        have : (len + n) * sz ≤ cap * sz := Nat.mul_le_mul_right _ hle
        rw [Nat.add_mul, h7] at this; omega
      · have key : F (some ⟨b, 0, none⟩) (len + n) cap (setCells w ((⟨b, 0, none⟩ : Addr).add (len * sz)) fs 0) := by
          rw [loc_add, Nat.zero_add]
          have hroom : (len + n) * sz ≤ cap * sz := Nat.mul_le_mul_right _ hle
          rw [Nat.add_mul, h7] at hroom
          have hset := h8.set (off := len * sz) (us := fs) (by rw [List.length_append]; omega)
          have hchg := Chg.setCells w ⟨b, len * sz, none⟩ fs 0
          have hsz : (setCells w ⟨b, len * sz, none⟩ fs 0).heap.size = w.heap.size := (setCells_same fs w _ 0).size
          refine hF _ _ _ ⟨?_, hle, .inr ⟨b, rest.drop fs.length, .inl h4, rfl, ?_, ?_⟩⟩ (hchg.mono fun i hi _ => ?_)
          · rw [Nat.add_mul, List.length_append]; omega
          · rw [List.length_append, List.length_drop]; omega
          · rw [h1, List.take_append_of_le_length (by omega), List.take_of_length_le (Nat.le_refl _), List.drop_append, List.drop_eq_nil_of_le (by omega)] at hset
            simpa [show vs.length + fs.length - vs.length = fs.length by omega, h1] using hset
          · simp only at hi; subst hi; exact h4
        show notIn l b _
        unfold notIn
        split
        · exact key
        · refine ⟨fun hm => ?_, key⟩
          exact hl b hm h4
  · rcases h3 with h3 | ⟨b, rest, h4, h6, h7, h8⟩
    · intro j v hj
      have e0 : len = 0 := by omega
      subst e0
      rw [Nat.zero_mul] at h1
      rw [List.length_eq_zero_iff.1 h1.symm] at hj; simp at hj
    · subst h6; exact (h8.sl (off := 0) (by simp) (Nat.lt_succ_self b)).cells
  · have hex : Ext w w' := (Ext.refl w).drew.trans hnew.ext
    refine hF _ _ _ ?_ hex.chg
    have := New.own (N := w.heap.size) (M := w'.heap.size) (vs := vs ++ fs) (len := len + n) (cap := cap') (sz := sz) hnew (by simp) (by rw [Nat.add_mul, List.length_append]; omega) ?_ hc' (by exact Nat.le_refl _) (Nat.le_refl _)
    · obtain ⟨t1, t2, t3⟩ := this
      refine ⟨t1, t2, ?_⟩
      rcases t3 with t3 | ⟨b, rest, t4, t5, t6, t7, t8⟩
      · exact .inl t3
      · exact .inr ⟨b, rest, .inr t4, t6, t7, t8⟩
    · simp only [List.size_toArray, List.length_append, Array.length_toList, mkCells_length, hz]
      rw [Nat.sub_mul, Nat.add_mul]
      have : (len + n) * sz ≤ cap' * sz := Nat.mul_le_mul_right _ hc'
      rw [Nat.add_mul] at this
      omega
theorem Ow.ownS {N M : Nat} {w : World} {base : Option Addr} {len cap sz : Nat} {vs : List Value} (h : Ow N M w base len cap sz vs) : OwnS (fun i => N ≤ i ∧ i < M) w base len cap sz vs := by
  obtain ⟨h1, h2, h3⟩ := h
  refine ⟨h1, h2, ?_⟩
  rcases h3 with h3 | ⟨b, rest, h4, h5, h6⟩
  · exact .inl h3
  · exact .inr ⟨b, rest, ⟨h4, h5⟩, h6⟩
theorem OwnS.sl {S : Nat → Prop} {w : World} {base : Option Addr} {len cap sz : Nat} {vs : List Value} (h : OwnS S w base len cap sz vs) : Sl w.heap.size w base vs :=
  (h.own (N := 0) (M := w.heap.size) fun i _ hi => ⟨Nat.zero_le _, hi⟩).sl
theorem OwnS.len {S : Nat → Prop} {w : World} {base : Option Addr} {len cap : Nat} {vs : List Value} (h : OwnS S w base len cap 1 vs) : len = vs.length := by have := h.1; omega
theorem OwnS.nil (S : Nat → Prop) (w : World) (base : Option Addr) (sz : Nat) : OwnS S w base 0 0 sz [] := ⟨by simp, Nat.le_refl _, .inl rfl⟩
theorem Ow.appS {w : World} {l : List (Nat × Nat × List Value)} {base : Option Addr} {len cap n sz bytes N M : Nat} {elem : TypeId} {zero vs fs : List Value} {F : Option Addr → Nat → Nat → World → Prop}
    (h : Ow N M w base len cap sz vs) (hl : ∀ b ∈ blocks l, b < N ∨ M ≤ b) (hN : N ≤ w.heap.size) (hM : M ≤ w.heap.size) (hz : zero.length = sz) (hn : fs.length = n * sz)
    (hby : (len + n) * bytes ≤ 2 ^ 47) (h62 : len + n < 2 ^ 62)
    (hF : ∀ base' cap' w', OwnS (fun i => (N ≤ i ∧ i < M) ∨ w.heap.size ≤ i) w' base' (len + n) cap' sz (vs ++ fs) → Chg (fun k => N ≤ k ∧ k < M) w w' → F base' (len + n) cap' w') :
    appVC w l base len cap n sz bytes elem zero fs F :=
  h.ownS.app (fun b hb hs => by have := hl b hb; omega) hz hn hby h62 hF
/-- a call of a function that is known -/
theorem callV_i {P : Program} {f : FuncId} {args : List Value} {w : World} {R : Ending → World → Prop} (hok : FnOk P f = true) (h : Calls P f args.toArray w R) : callV P (.func (.func f) #[] #[]) args w R := by
  unfold callV
  simp only [hok]
  simpa using h
theorem Ow.app {w : World} {l : List (Nat × Nat × List Value)} {base : Option Addr} {len cap n sz bytes N M : Nat} {elem : TypeId} {zero vs fs : List Value} {F : Option Addr → Nat → Nat → World → Prop}
    (h : Ow N M w base len cap sz vs) (hl : ∀ b ∈ blocks l, b < N ∨ M ≤ b) (hN : N ≤ w.heap.size) (hM : M ≤ w.heap.size) (hz : zero.length = sz) (hn : fs.length = n * sz)
    (hby : (len + n) * bytes ≤ 2 ^ 47) (h62 : len + n < 2 ^ 62)
    (hF : ∀ base' cap' w', Ow N w'.heap.size w' base' (len + n) cap' sz (vs ++ fs) → Chg (fun k => N ≤ k ∧ k < M) w w' → F base' (len + n) cap' w') :
    appVC w l base len cap n sz bytes elem zero fs F :=
  h.appS hl hN hM hz hn hby h62 fun base' cap' w' ho hc => hF base' cap' w' (ho.own fun i hi hlt => by omega) hc
/-- what a growing thing's blocks become: those it had, and new ones -/
def Gr (S S' : Nat → Prop) (w w' : World) : Prop := w.heap.size ≤ w'.heap.size ∧ ∀ i, S' i → S i ∨ (w.heap.size ≤ i ∧ i < w'.heap.size)
theorem Gr.refl (S : Nat → Prop) (w : World) : Gr S S w w := ⟨Nat.le_refl _, fun _ h => .inl h⟩
theorem Gr.trans {S T U : Nat → Prop} {a b c : World} (h : Gr S T a b) (k : Gr T U b c) : Gr S U a c :=
  ⟨Nat.le_trans h.1 k.1, fun i hi => by
    have h1 := h.1; have k1 := k.1
    rcases k.2 i hi with h2 | h2
    · rcases h.2 i h2 with h3 | h3
      · exact .inl h3
      · exact .inr (by omega)
    · exact .inr (by omega)⟩
theorem Gr.size {S S' : Nat → Prop} {a b c : World} (h : Gr S S' a b) (hs : b.heap.size ≤ c.heap.size) : Gr S S' a c :=
  ⟨Nat.le_trans h.1 hs, fun i hi => by rcases h.2 i hi with h | h; exact .inl h; exact .inr (by omega)⟩
theorem Gr.pre {S S' : Nat → Prop} {a b c : World} (h : Gr S S' b c) (hs : a.heap.size ≤ b.heap.size) : Gr S S' a c :=
  ⟨Nat.le_trans hs h.1, fun i hi => by rcases h.2 i hi with h | h; exact .inl h; exact .inr (by omega)⟩
/-- a growing slice and the blocks that may be its own, all there -/
structure OwB (S : Nat → Prop) (w : World) (base : Option Addr) (len cap sz : Nat) (vs : List Value) : Prop where
  own : OwnS S w base len cap sz vs
  bd : ∀ i, S i → i < w.heap.size
theorem OwB.chg {S T : Nat → Prop} {w w' : World} {base : Option Addr} {len cap sz : Nat} {vs : List Value} (h : OwB S w base len cap sz vs) (hc : Chg T w w') (hS : ∀ i, S i → ¬ T i) : OwB S w' base len cap sz vs :=
  ⟨h.own.chg hc fun i hi _ => hS i hi, fun i hi => Nat.lt_of_lt_of_le (h.bd i hi) hc.size⟩
theorem OwB.ext {S : Nat → Prop} {w w' : World} {base : Option Addr} {len cap sz : Nat} {vs : List Value} (h : OwB S w base len cap sz vs) (hc : Ext w w') : OwB S w' base len cap sz vs :=
  h.chg (T := fun _ => False) hc.chg fun _ _ => id
theorem OwB.nil (w : World) (base : Option Addr) (sz : Nat) : OwB (fun _ => False) w base 0 0 sz [] := ⟨OwnS.nil _ _ _ _, fun _ h => h.elim⟩
theorem OwB.locl {S : Nat → Prop} {w w' : World} {bs : List Nat} {base : Option Addr} {len cap sz : Nat} {vs : List Value} (h : OwB S w base len cap sz vs) (hc : Locl bs w w') (hS : ∀ b, b ∈ bs → w.heap.size ≤ b) : OwB S w' base len cap sz vs :=
  h.chg hc.chg fun i hi hb => by have := h.bd i hi; have := hS i hb; omega
theorem Ow.owB {N M : Nat} {w : World} {base : Option Addr} {len cap sz : Nat} {vs : List Value} (h : Ow N M w base len cap sz vs) (hM : M ≤ w.heap.size) : OwB (fun i => N ≤ i ∧ i < M) w base len cap sz vs := ⟨h.ownS, fun i hi => by omega⟩
theorem OwB.app {S : Nat → Prop} {w : World} {l : List (Nat × Nat × List Value)} {base : Option Addr} {len cap n sz bytes : Nat} {elem : TypeId} {zero vs fs : List Value} {F : Option Addr → Nat → Nat → World → Prop}
    (h : OwB S w base len cap sz vs) (hl : ∀ b ∈ blocks l, ¬ S b) (hz : zero.length = sz) (hn : fs.length = n * sz)
    (hby : (len + n) * bytes ≤ 2 ^ 47) (h62 : len + n < 2 ^ 62)
    (hF : ∀ S' base' cap' w', Gr S S' w w' → OwB S' w' base' (len + n) cap' sz (vs ++ fs) → Chg S w w' → F base' (len + n) cap' w') :
    appVC w l base len cap n sz bytes elem zero fs F :=
  h.own.app hl hz hn hby h62 fun base' cap' w' ho hc => hF (fun i => S i ∨ (w.heap.size ≤ i ∧ i < w'.heap.size)) base' cap' w' ⟨hc.size, fun i hi => hi⟩
    ⟨ho.mono fun i hi hlt => hi.elim .inl fun h => .inr ⟨h, hlt⟩, fun i hi => by have := hc.size; rcases hi with hi | hi; have := h.bd i hi; omega; omega⟩ hc
/-- a slice that was made since w, nothing that was in w having turned; its block is none of 'av' -/
structure Fg (av : List Nat) (w w' : World) (sz : Nat) (base : Option Addr) (len cap : Nat) (vs : List Value) : Prop where
  ext : Ext w w'
  own : ∃ S : Nat → Prop, (∀ i, S i → w.heap.size ≤ i) ∧ (∀ b, b ∈ av → ¬ S b) ∧ OwB S w' base len cap sz vs
  avs : ∀ b, b ∈ av → w.heap.size ≤ b ∧ b < w'.heap.size
theorem Fg.nil {w w' : World} (h : Ext w w') (sz : Nat) : Fg [] w w' sz none 0 0 [] := ⟨h, ⟨fun _ => False, fun _ h => h.elim, fun _ _ => id, OwB.nil _ _ _⟩, by simp⟩
theorem Fg.of_ow {w w1 w' : World} {M sz : Nat} {base : Option Addr} {len cap : Nat} {vs : List Value} (he : Ext w w1) (h1 : Ext w1 w') (h : Ow w1.heap.size M w' base len cap sz vs) (hM : M ≤ w'.heap.size) : Fg [] w w' sz base len cap vs :=
  ⟨he.trans h1, ⟨_, fun i hi => Nat.le_trans he.size hi.1, by simp, h.owB hM⟩, by simp⟩
theorem Fg.weak {av : List Nat} {w w' : World} {sz : Nat} {base : Option Addr} {len cap : Nat} {vs : List Value} (h : Fg av w w' sz base len cap vs) : Fg [] w w' sz base len cap vs := by
  obtain ⟨S, h1, _, h2⟩ := h.own
  exact ⟨h.ext, ⟨S, h1, by simp, h2⟩, by simp⟩
theorem Fg.ow {av : List Nat} {w w' : World} {sz : Nat} {base : Option Addr} {len cap : Nat} {vs : List Value} (h : Fg av w w' sz base len cap vs) : Ow w.heap.size w'.heap.size w' base len cap sz vs := by
  obtain ⟨S, h1, _, h2⟩ := h.own
  exact h2.own.own fun i hi hlt => ⟨h1 i hi, hlt⟩
theorem Fg.step {av : List Nat} {w w1 w' : World} {sz : Nat} {base : Option Addr} {len cap : Nat} {vs : List Value} (h : Fg av w w1 sz base len cap vs) (he : Ext w1 w') : Fg av w w' sz base len cap vs := by
  obtain ⟨S, h1, h3, h2⟩ := h.own
  exact ⟨h.ext.trans he, ⟨S, h1, h3, h2.ext he⟩, fun b hb => ⟨(h.avs b hb).1, Nat.lt_of_lt_of_le (h.avs b hb).2 he.size⟩⟩
theorem Fg.pre {av : List Nat} {w0 w w' : World} {sz : Nat} {base : Option Addr} {len cap : Nat} {vs : List Value} (h : Fg av w w' sz base len cap vs) (he : Ext w0 w) : Fg av w0 w' sz base len cap vs := by
  obtain ⟨S, h1, h3, h2⟩ := h.own
  exact ⟨he.trans h.ext, ⟨S, fun i hi => Nat.le_trans he.size (h1 i hi), h3, h2⟩, fun b hb => ⟨Nat.le_trans he.size (h.avs b hb).1, (h.avs b hb).2⟩⟩
theorem Fg.app {av bs : List Nat} {w w1 w3 : World} {l : List (Nat × Nat × List Value)} {base : Option Addr} {len cap n sz bytes : Nat} {elem : TypeId} {zero vs fs : List Value} {F : Option Addr → Nat → Nat → World → Prop}
    (h : Fg av w w1 sz base len cap vs) (hL : Locl bs w1 w3) (hbs : ∀ b, b ∈ bs → b ∈ av ∨ w1.heap.size ≤ b) (hl : ∀ b, b ∈ blocks l → b ∈ bs) (hz : zero.length = sz) (hn : fs.length = n * sz)
    (hby : (len + n) * bytes ≤ 2 ^ 47) (h62 : len + n < 2 ^ 62)
    (hF : ∀ base' cap' w4, Fg bs w w4 sz base' (len + n) cap' (vs ++ fs) → F base' (len + n) cap' w4) :
    appVC w3 l base len cap n sz bytes elem zero fs F := by
  obtain ⟨S, h1, h3, h2⟩ := h.own
  have hno : ∀ b, b ∈ bs → ¬ S b := fun b hb hS => by
    rcases hbs b hb with hb | hb
    · exact h3 b hb hS
    · have := h2.bd b hS; omega
  have hge : ∀ b, b ∈ bs → w.heap.size ≤ b := fun b hb => by
    rcases hbs b hb with hb | hb
    · exact (h.avs b hb).1
    · exact Nat.le_trans h.ext.size hb
  have he3 : Ext w w3 := h.ext.step hL.chg hge
  refine (h2.chg hL.chg fun i hi hb => hno i hb hi).app (fun b hb hS => hno b (hl b hb) hS) hz hn hby h62 fun S' base' cap' w4 hg ho hc => hF base' cap' w4 ⟨he3.step hc h1, ⟨S', fun i hi => ?_, fun b hb hS => ?_, ho⟩, fun b hb => ⟨hge b hb, Nat.lt_of_lt_of_le (hL.there b hb) hc.size⟩⟩
  · have := he3.size
    rcases hg.2 i hi with hi | hi
    · exact h1 i hi
    · omega
  · have := hL.there b hb
    rcases hg.2 b hS with hS | hS
    · exact hno b hb hS
    · omega
theorem Fg.locl {av bs : List Nat} {w w1 w2 : World} {sz : Nat} {base : Option Addr} {len cap : Nat} {vs : List Value} (h : Fg av w w1 sz base len cap vs) (hL : Locl bs w1 w2) (hbs : ∀ b, b ∈ bs → b ∈ av ∨ w1.heap.size ≤ b) : Fg bs w w2 sz base len cap vs := by
  obtain ⟨S, h1, h3, h2⟩ := h.own
  have hno : ∀ b, b ∈ bs → ¬ S b := fun b hb hS => by
    rcases hbs b hb with hb | hb
    · exact h3 b hb hS
    · have := h2.bd b hS; omega
  have hge : ∀ b, b ∈ bs → w.heap.size ≤ b := fun b hb => by
    rcases hbs b hb with hb | hb
    · exact (h.avs b hb).1
    · exact Nat.le_trans h.ext.size hb
  exact ⟨h.ext.step hL.chg hge, ⟨S, h1, hno, h2.chg hL.chg fun i hi hb => hno i hb hi⟩, fun b hb => ⟨hge b hb, hL.there b hb⟩⟩
theorem Fg.dr {av : List Nat} {w w1 : World} {sz : Nat} {base : Option Addr} {len cap : Nat} {vs : List Value} (h : Fg av w w1 sz base len cap vs) : Fg av w w1.drew sz base len cap vs := h.step (Ext.refl w1).drew
theorem Fg.here {av : List Nat} {w w1 : World} {sz : Nat} {base : Option Addr} {len cap : Nat} {vs : List Value} (h : Fg av w w1 sz base len cap vs) : Locl av w1 w1 :=
  ⟨rfl, rfl, rfl, Nat.le_refl _, fun _ _ _ => rfl, fun b hb => (h.avs b hb).2⟩
/-- an empty slice, its locals laid out -/
theorem Fg.nil' {bs : List Nat} {w w1 w2 : World} (hE : Ext w w1) (hL : Locl bs w1 w2) (hb : ∀ b, b ∈ bs → w.heap.size ≤ b) (sz : Nat) : Fg bs w w2 sz none 0 0 [] :=
  ⟨hE.step hL.chg hb, ⟨fun _ => False, fun _ h => h.elim, fun _ _ => id, OwB.nil _ _ _⟩, fun b h => ⟨hb b h, hL.there b h⟩⟩
theorem Fg.mono {av bs : List Nat} {w w' : World} {sz : Nat} {base : Option Addr} {len cap : Nat} {vs : List Value} (h : Fg av w w' sz base len cap vs) (hb : ∀ b, b ∈ bs → b ∈ av) : Fg bs w w' sz base len cap vs := by
  obtain ⟨S, h1, h3, h2⟩ := h.own
  exact ⟨h.ext, ⟨S, h1, fun b hb' => h3 b (hb b hb'), h2⟩, fun b hb' => h.avs b (hb b hb')⟩
theorem Fg.len {av : List Nat} {w w' : World} {base : Option Addr} {len cap : Nat} {vs : List Value} (h : Fg av w w' 1 base len cap vs) : len = vs.length := by
  obtain ⟨S, h1, h3, h2⟩ := h.own
  exact h2.own.len
theorem Fg.sl {av : List Nat} {w w' : World} {sz : Nat} {base : Option Addr} {len cap : Nat} {vs : List Value} (h : Fg av w w' sz base len cap vs) : Sl w'.heap.size w' base vs := h.ow.sl
/-- blocks that a slice made since avoids may be called such -/
theorem Fg.of_owB {av : List Nat} {S : Nat → Prop} {w w' : World} {sz : Nat} {base : Option Addr} {len cap : Nat} {vs : List Value} (hE : Ext w w') (ho : OwB S w' base len cap sz vs) (hS : ∀ i, S i → w.heap.size ≤ i) (ha : ∀ b, b ∈ av → ¬ S b) (hb : ∀ b, b ∈ av → w.heap.size ≤ b ∧ b < w'.heap.size) : Fg av w w' sz base len cap vs :=
  ⟨hE, ⟨S, hS, ha, ho⟩, hb⟩
/-- an append that leaves the slice's neighbours as they are: those avoided, and any block at all that stood at w -/
theorem Fg.app' {av : List Nat} {w w1 : World} {l : List (Nat × Nat × List Value)} {base : Option Addr} {len cap n sz bytes : Nat} {elem : TypeId} {zero vs fs : List Value} {F : Option Addr → Nat → Nat → World → Prop}
    (h : Fg av w w1 sz base len cap vs) (hl : ∀ b, b ∈ blocks l → b ∈ av) (hz : zero.length = sz) (hn : fs.length = n * sz)
    (hby : (len + n) * bytes ≤ 2 ^ 47) (h62 : len + n < 2 ^ 62)
    (hF : ∀ base' cap' w4, Fg av w w4 sz base' (len + n) cap' (vs ++ fs) → Keep av w1 w4 → w1.heap.size ≤ w4.heap.size → F base' (len + n) cap' w4) :
    appVC w1 l base len cap n sz bytes elem zero fs F := by
  obtain ⟨S, h1, h3, h2⟩ := h.own
  refine h2.app (fun b hb hS => h3 b (hl b hb) hS) hz hn hby h62 fun S' base' cap' w4 hg ho hc => hF base' cap' w4 ⟨h.ext.step hc h1, ⟨S', fun i hi => ?_, fun b hb hS => ?_, ho⟩, fun b hb => ⟨(h.avs b hb).1, Nat.lt_of_lt_of_le (h.avs b hb).2 hc.size⟩⟩ (hc.keep fun b hb => h3 b hb) hc.size
  · have := h.ext.size
    rcases hg.2 i hi with hi | hi
    · exact h1 i hi
    · omega
  · have := (h.avs b hb).2
    rcases hg.2 b hS with hS | hS
    · exact h3 b hb hS
    · omega
/-- writing into a slice made since -/
theorem Fg.set {av : List Nat} {w u : World} {sz : Nat} {base : Option Addr} {len cap : Nat} {vs : List Value} (h : Fg av w u sz base len cap vs) {i : Nat} {us : List Value} (hi : i + us.length ≤ vs.length) (h0 : 0 < len) :
    ∃ b, base = some ⟨b, 0, none⟩ ∧ b ∉ av ∧ w.heap.size ≤ b ∧ CanSet u ⟨b, i, none⟩ us.length ∧ Fg av w (setCells u ⟨b, i, none⟩ us 0) sz base len cap (vs.take i ++ us ++ vs.drop (i + us.length)) ∧ Keep av u (setCells u ⟨b, i, none⟩ us 0) := by
  obtain ⟨S, h1, h3, h2⟩ := h.own
  obtain ⟨⟨o1, o2, o3⟩, hb⟩ := h2
  rcases o3 with o3 | ⟨b, rest, o3, o4, o5, o6⟩
  · omega
  refine ⟨b, o4, fun hm => h3 b hm o3, h1 b o3, o6.canSet (by rw [List.length_append]; omega), ?_, ?_⟩
  · have hc := Chg.setCells u ⟨b, i, none⟩ us 0
    have hs := o6.set (off := i) (us := us) (by rw [List.length_append]; omega)
    have hl : (vs.take i ++ us ++ vs.drop (i + us.length)).length = vs.length := by simp only [List.length_append, List.length_take, List.length_drop]; omega
    have e : (vs ++ rest).take i ++ us ++ (vs ++ rest).drop (i + us.length) = (vs.take i ++ us ++ vs.drop (i + us.length)) ++ rest := by
      rw [List.take_append_of_le_length (by omega), List.drop_append_of_le_length (by omega)]; simp
    rw [e] at hs
    exact ⟨h.ext.step hc fun k hk => by have hk : k = b := hk; have := h1 b o3; omega, ⟨S, h1, h3, ⟨by rw [hl]; exact o1, o2, .inr ⟨b, rest, o3, o4, by rw [hl]; exact o5, hs⟩⟩, fun k hk => by rw [(setCells_same _ _ _ _).size]; exact hb k hk⟩, fun k hk => by rw [(setCells_same _ _ _ _).size]; exact h.avs k hk⟩
  · exact (Chg.setCells u ⟨b, i, none⟩ us 0).keep fun k hk e => by have e : k = b := e; subst e; exact h3 k hk o3
theorem Fg.set1 {av : List Nat} {w u : World} {sz : Nat} {base : Option Addr} {len cap : Nat} {vs : List Value} (h : Fg av w u sz base len cap vs) {i : Nat} (hi : i < vs.length) (h0 : 0 < len) :
    ∃ b, base = some ⟨b, 0, none⟩ ∧ b ∉ av ∧ w.heap.size ≤ b ∧ (∃ v, u.cell? ⟨b, i, none⟩ = some v) ∧ u.frozen? ⟨b, i, none⟩ = false ∧ ∀ v, Fg av w (setCells u ⟨b, i, none⟩ [v] 0) sz base len cap (vs.set i v) ∧ Keep av u (setCells u ⟨b, i, none⟩ [v] 0) := by
  obtain ⟨b, h1, h2, h3, h4, _⟩ := h.set (i := i) (us := [.bool true]) (by simp; omega) h0
  obtain ⟨hv, hf⟩ := h4 0 (by simp)
  rw [loc_add, Nat.add_zero] at hv hf
  refine ⟨b, h1, h2, h3, hv, hf, fun v => ?_⟩
  obtain ⟨b', g1, _, _, _, g5, g6⟩ := h.set (i := i) (us := [v]) (by simp; omega) h0
  rw [h1] at g1; cases g1
  rw [show vs.take i ++ [v] ++ vs.drop (i + [v].length) = vs.set i v by simp [List.set_eq_take_append_cons_drop, hi]] at g5
  exact ⟨g5, g6⟩
theorem Keep.trans {bs : List Nat} {a b c : World} (h : Keep bs a b) (k : Keep bs b c) : Keep bs a c := fun i hi hlt =>
  ⟨(k i hi (h i hi hlt).1).1, (k i hi (h i hi hlt).1).2.trans (h i hi hlt).2⟩
theorem Locl.keep {bs cs : List Nat} {w w' : World} (h : Locl bs w w') (hd : ∀ b, b ∈ cs → b < w.heap.size → b ∉ bs) : Keep cs w w' := fun b hb hlt => ⟨Nat.lt_of_lt_of_le hlt h.size, h.block b hlt (hd b hb hlt)⟩
theorem Locl.wide {bs cs : List Nat} {w w' : World} (h : Locl bs w w') (hc : ∀ b, b ∈ cs → b < w.heap.size) : Locl (bs ++ cs) w w' :=
  ⟨h.os, h.tape, h.output, h.size, fun k hk hn => h.block k hk (fun h => hn (List.mem_append_left _ h)), fun b hb => by
    rcases List.mem_append.1 hb with hb | hb
    · exact h.there b hb
    · exact Nat.lt_of_lt_of_le (hc b hb) h.size⟩
theorem Mp.same {kd : Kd} {w w' : World} {b : Nat} {kvs : List (Value × Value)} (h : Mp kd w b kvs) (e : w'.heap[b]? = w.heap[b]?) : Mp kd w' b kvs := by
  obtain ⟨⟨es, cl, h1, h2⟩, h3⟩ := h
  exact ⟨⟨es, cl, e.trans h1, h2⟩, h3⟩
theorem New.mp {w w' : World} {b : Nat} (h : New w (.map #[] 0) b w') (kd : Kd) : Mp kd w' b [] :=
  ⟨⟨#[], 0, by rw [h.1, h.2]; exact cells_alloc_new w _, rfl⟩, by simp⟩
theorem Put.locl {D : Nat} {w w' : World} (h : Put D w w') (hD : D < w.heap.size) : Locl [D] w w' :=
  ⟨h.os, h.tape, h.output, Nat.le_of_eq h.size.symm, fun k _ hk => h.block k (by simpa using hk), fun b hb => by rw [h.size]; simp at hb; omega⟩
theorem Fg.push {av bs : List Nat} {w u u' : World} {sz : Nat} {base : Option Addr} {len cap : Nat} {vs : List Value} (h : Fg av w u sz base len cap vs) (hL : Locl bs u u') (hb : ∀ b, b ∈ bs → b ∈ av ∨ u.heap.size ≤ b) : Fg (bs ++ av) w u' sz base len cap vs :=
  h.locl (hL.wide fun b hb => (h.avs b hb).2) fun b hm => by
    rcases List.mem_append.1 hm with hm | hm
    · exact hb b hm
    · exact .inl hm
theorem Cs.same {w w' : World} {b : Nat} {vs : List Value} (h : Cs w b vs) (e : w'.heap[b]? = w.heap[b]?) : Cs w' b vs := by
  obtain ⟨t, ht⟩ := h
  exact ⟨t, e.trans ht⟩
theorem Cs.keep {bs : List Nat} {w w' : World} {b : Nat} {vs : List Value} (h : Cs w b vs) (k : Keep bs w w') (hb : b ∈ bs) : Cs w' b vs := h.same (k b hb h.lt).2
theorem Cs.locl {bs : List Nat} {w w' : World} {b : Nat} {vs : List Value} (h : Cs w b vs) (k : Locl bs w w') (hb : b ∉ bs) : Cs w' b vs := h.same (k.block b h.lt hb)
theorem Cs.put {D : Nat} {w w' : World} {b : Nat} {vs : List Value} (h : Cs w b vs) (k : Put D w w') (hb : b ≠ D) : Cs w' b vs := h.same (k.block b hb)
theorem Sl.pre {N : Nat} {w : World} {base : Option Addr} {vs us : List Value} (h : Sl N w base vs) (hu : us <+: vs) : Sl N w base us := by
  intro j v hj
  refine h j v ?_
  obtain ⟨t, rfl⟩ := hu
  rw [List.getElem?_append_left (List.getElem?_eq_some_iff.1 hj).1]; exact hj
/-- the same, told from an earlier world on; what was laid out since is avoided -/
theorem Fg.from {av bs : List Nat} {w0 w w' : World} {sz : Nat} {base : Option Addr} {len cap : Nat} {vs : List Value} (h : Fg av w w' sz base len cap vs) (hE : Ext w0 w) (hb : ∀ b, b ∈ bs → w0.heap.size ≤ b ∧ b < w.heap.size) : Fg (bs ++ av) w0 w' sz base len cap vs := by
  obtain ⟨S, h1, h3, h2⟩ := h.own
  have hs := hE.size
  have hs' := h.ext.size
  refine ⟨hE.trans h.ext, ⟨S, fun i hi => Nat.le_trans hs (h1 i hi), fun b hm hS => ?_, h2⟩, fun b hm => ?_⟩
  · rcases List.mem_append.1 hm with hm | hm
    · have := hb b hm; have := h1 b hS; omega
    · exact h3 b hm hS
  · rcases List.mem_append.1 hm with hm | hm
    · have := hb b hm; omega
    · have := h.avs b hm; omega
theorem Fg.ofOw {bs : List Nat} {w0 w w' : World} {sz : Nat} {base : Option Addr} {len cap : Nat} {vs : List Value} (h : Ow w.heap.size w'.heap.size w' base len cap sz vs) (hE : Ext w0 w) (hE' : Ext w w') (hb : ∀ b, b ∈ bs → w0.heap.size ≤ b ∧ b < w.heap.size) : Fg (bs ++ []) w0 w' sz base len cap vs :=
  Fg.from (Fg.of_owB hE' (h.owB (Nat.le_refl _)) (fun i hi => hi.1) (by simp) (by simp)) hE hb
/-! ## Many growing things apart from one another: each block that was made since w has a colour; a thing's blocks have its own; locals have none (0) -/
def fOn (f : Nat → Nat) (N i : Nat) : Nat → Nat := fun b => if b < N then f b else i
def ThS (w u : World) (f : Nat → Nat) (i : Nat) : Nat → Prop := fun b => f b = i ∧ w.heap.size ≤ b ∧ b < u.heap.size
def Th (w u : World) (f : Nat → Nat) (i : Nat) (base : Option Addr) (len cap sz : Nat) (vs : List Value) : Prop := OwnS (ThS w u f i) u base len cap sz vs
/-- what has turned since w is new; the locals L are there, of no colour -/
structure Pal (w u : World) (f : Nat → Nat) (L : List Nat) : Prop where
  ext : Ext w u
  av : ∀ b, b ∈ L → w.heap.size ≤ b ∧ b < u.heap.size ∧ f b = 0
theorem fOn_lt {f : Nat → Nat} {N i b : Nat} (h : b < N) : fOn f N i b = f b := by simp [fOn, h]
theorem fOn_ge {f : Nat → Nat} {N i b : Nat} (h : N ≤ b) : fOn f N i b = i := by simp [fOn, Nat.not_lt.2 h]
theorem Th.chg {w u u' : World} {f : Nat → Nat} {i k : Nat} {base : Option Addr} {len cap sz : Nat} {vs : List Value} {Z : Nat → Prop} (h : Th w u f i base len cap sz vs) (hC : Chg Z u u') (hZ : ∀ b, b < u.heap.size → f b = i → w.heap.size ≤ b → ¬ Z b) : Th w u' (fOn f u.heap.size k) i base len cap sz vs :=
  (OwnS.chg h hC fun b hb _ => hZ b hb.2.2 hb.1 hb.2.1).mono fun b hb _ => ⟨by rw [fOn_lt hb.2.2]; exact hb.1, hb.2.1, Nat.lt_of_lt_of_le hb.2.2 hC.size⟩
theorem Th.ext {w u u' : World} {f : Nat → Nat} {i k : Nat} {base : Option Addr} {len cap sz : Nat} {vs : List Value} (h : Th w u f i base len cap sz vs) (hE : Ext u u') : Th w u' (fOn f u.heap.size k) i base len cap sz vs :=
  h.chg (Z := fun _ => False) hE.chg fun _ _ _ _ => id
theorem Th.sl {w u : World} {f : Nat → Nat} {i : Nat} {base : Option Addr} {len cap sz : Nat} {vs : List Value} (h : Th w u f i base len cap sz vs) : Sl u.heap.size u base vs := OwnS.sl h
theorem Th.len {w u : World} {f : Nat → Nat} {i : Nat} {base : Option Addr} {len cap : Nat} {vs : List Value} (h : Th w u f i base len cap 1 vs) : len = vs.length := OwnS.len h
theorem Th.room {w u : World} {f : Nat → Nat} {i : Nat} {base : Option Addr} {len cap sz : Nat} {vs : List Value} (h : Th w u f i base len cap sz vs) : len ≤ cap := h.2.1
theorem Th.nil (w u : World) (f : Nat → Nat) (i : Nat) (base : Option Addr) (sz : Nat) : Th w u f i base 0 0 sz [] := OwnS.nil _ _ _ _
theorem Th.ow {w u : World} {f : Nat → Nat} {i : Nat} {base : Option Addr} {len cap sz : Nat} {vs : List Value} (h : Th w u f i base len cap sz vs) : Ow w.heap.size u.heap.size u base len cap sz vs := OwnS.own h fun b hb _ => ⟨hb.2.1, hb.2.2⟩
theorem Th.fg {w u : World} {f : Nat → Nat} {i : Nat} {base : Option Addr} {len cap sz : Nat} {vs : List Value} (h : Th w u f i base len cap sz vs) (hE : Ext w u) : Fg [] w u sz base len cap vs :=
  ⟨hE, ⟨_, fun b hb => hb.2.1, by simp, ⟨h, fun b hb => hb.2.2⟩⟩, by simp⟩
theorem Th.new {w u u' : World} {f : Nat → Nat} {i : Nat} {base : Option Addr} {len cap sz : Nat} {vs : List Value} (h : Ow u.heap.size u'.heap.size u' base len cap sz vs) (hE : Ext w u) : Th w u' (fOn f u.heap.size i) i base len cap sz vs :=
  (h.ownS).mono fun b hb _ => ⟨fOn_ge hb.1, Nat.le_trans hE.size hb.1, hb.2⟩
theorem Th.of {w u u' : World} {f g : Nat → Nat} {i : Nat} {base : Option Addr} {len cap sz : Nat} {vs : List Value} (h : Th w u f i base len cap sz vs) (hg : ∀ b, b < u.heap.size → f b = i → w.heap.size ≤ b → g b = i) : Th w u g i base len cap sz vs :=
  OwnS.mono h fun b hb _ => ⟨hg b hb.2.2 hb.1 hb.2.1, hb.2⟩
theorem Pal.chg {w u u' : World} {f : Nat → Nat} {L : List Nat} {k : Nat} {Z : Nat → Prop} (h : Pal w u f L) (hC : Chg Z u u') (hZ : ∀ b, b < u.heap.size → Z b → w.heap.size ≤ b) : Pal w u' (fOn f u.heap.size k) L :=
  ⟨((h.ext.chg (S := fun b => w.heap.size ≤ b)).trans (hC.mono fun b hb hlt => hZ b hlt hb) fun b hb _ => hb).ext fun b hb => hb, fun b hb => by
    have := h.av b hb
    exact ⟨this.1, Nat.lt_of_lt_of_le this.2.1 hC.size, by rw [fOn_lt this.2.1]; exact this.2.2⟩⟩
theorem Pal.step {w u u' : World} {f : Nat → Nat} {L : List Nat} {k : Nat} (h : Pal w u f L) (hE : Ext u u') : Pal w u' (fOn f u.heap.size k) L := h.chg (Z := fun _ => False) hE.chg fun _ _ h => h.elim
theorem Pal.mono {w u : World} {f : Nat → Nat} {L L' : List Nat} (h : Pal w u f L) (hL : ∀ b, b ∈ L' → b ∈ L) : Pal w u f L' := ⟨h.ext, fun b hb => h.av b (hL b hb)⟩
/-- locals laid out anew -/
theorem Pal.locl {w u u' : World} {f : Nat → Nat} {L bs : List Nat} (h : Pal w u f L) (hL : Locl bs u u') (hb : ∀ b, b ∈ bs → b ∈ L ∨ u.heap.size ≤ b) :
    Pal w u' (fOn f u.heap.size 0) (bs ++ L) ∧ ∀ {i : Nat} {base : Option Addr} {len cap sz : Nat} {vs : List Value}, i ≠ 0 → Th w u f i base len cap sz vs → Th w u' (fOn f u.heap.size 0) i base len cap sz vs := by
  have hs := h.ext.size
  have hge : ∀ b, b ∈ bs → w.heap.size ≤ b := fun b hm => by
    rcases hb b hm with hm | hm
    · exact (h.av b hm).1
    · omega
  have h' := h.chg (k := 0) hL.chg fun b _ hm => hge b hm
  refine ⟨⟨h'.ext, fun b hm => ?_⟩, fun hi ht => ht.chg hL.chg fun b hlt hc _ hm => ?_⟩
  · rcases List.mem_append.1 hm with hm | hm
    · refine ⟨hge b hm, hL.there b hm, ?_⟩
      rcases hb b hm with hm' | hm'
      · exact (h'.av b hm').2.2
      · exact fOn_ge hm'
    · exact h'.av b hm
  · rcases hb b hm with hm | hm
    · exact hi (hc.symm.trans (h.av b hm).2.2)
    · omega
/-- an append to one thing -/
theorem Th.app {w u : World} {f : Nat → Nat} {L : List Nat} {i : Nat} {l : List (Nat × Nat × List Value)} {base : Option Addr} {len cap n sz bytes : Nat} {elem : TypeId} {zero vs fs : List Value} {F : Option Addr → Nat → Nat → World → Prop}
    (h : Th w u f i base len cap sz vs) (hP : Pal w u f L) (hi : i ≠ 0) (hl : ∀ b, b ∈ blocks l → b ∈ L) (hz : zero.length = sz) (hn : fs.length = n * sz)
    (hby : (len + n) * bytes ≤ 2 ^ 47) (h62 : len + n < 2 ^ 62)
    (hF : ∀ base' cap' u', Pal w u' (fOn f u.heap.size i) L → Th w u' (fOn f u.heap.size i) i base' (len + n) cap' sz (vs ++ fs) → Chg (ThS w u f i) u u' → F base' (len + n) cap' u') :
    appVC u l base len cap n sz bytes elem zero fs F := by
  refine OwnS.app h (fun b hb hs => hi (hs.1.symm.trans (hP.av b (hl b hb)).2.2)) hz hn hby h62 fun base' cap' u' ho hC => hF base' cap' u' (hP.chg hC fun b _ hb => hb.2.1) (ho.mono fun b hb hlt => ?_) hC
  have := hP.ext.size
  have := hC.size
  rcases hb with hb | hb
  · exact ⟨by rw [fOn_lt hb.2.2]; exact hb.1, hb.2.1, hlt⟩
  · exact ⟨fOn_ge hb, by omega, hlt⟩
/-- what another thing is behind it -/
theorem Th.other {w u u' : World} {f : Nat → Nat} {i j k : Nat} {base : Option Addr} {len cap sz : Nat} {vs : List Value} (h : Th w u f j base len cap sz vs) (hC : Chg (ThS w u f i) u u') (hij : j ≠ i) : Th w u' (fOn f u.heap.size k) j base len cap sz vs :=
  h.chg hC fun b _ hc _ hz => hij (hc.symm.trans hz.1)
/-- writing into a thing -/
theorem Th.set {w u : World} {f : Nat → Nat} {i : Nat} {base : Option Addr} {len cap sz : Nat} {vs : List Value} (h : Th w u f i base len cap sz vs) {k : Nat} {us : List Value} (hk : k + us.length ≤ vs.length) (h0 : 0 < len) :
    ∃ b, base = some ⟨b, 0, none⟩ ∧ ThS w u f i b ∧ CanSet u ⟨b, k, none⟩ us.length ∧ Th w (setCells u ⟨b, k, none⟩ us 0) f i base len cap sz (vs.take k ++ us ++ vs.drop (k + us.length)) ∧ Chg (ThS w u f i) u (setCells u ⟨b, k, none⟩ us 0) := by
  obtain ⟨o1, o2, o3⟩ := h
  rcases o3 with o3 | ⟨b, rest, o3, o4, o5, o6⟩
  · omega
  have hs := o6.set (off := k) (us := us) (by rw [List.length_append]; omega)
  have hl : (vs.take k ++ us ++ vs.drop (k + us.length)).length = vs.length := by simp only [List.length_append, List.length_take, List.length_drop]; omega
  have e : (vs ++ rest).take k ++ us ++ (vs ++ rest).drop (k + us.length) = (vs.take k ++ us ++ vs.drop (k + us.length)) ++ rest := by
    rw [List.take_append_of_le_length (by omega), List.drop_append_of_le_length (by omega)]; simp
  rw [e] at hs
  refine ⟨b, o4, o3, o6.canSet (by rw [List.length_append]; omega), ⟨by rw [hl]; exact o1, o2, .inr ⟨b, rest, ⟨o3.1, o3.2.1, by rw [(setCells_same _ _ _ _).size]; exact o3.2.2⟩, o4, by rw [hl]; exact o5, hs⟩⟩, (Chg.setCells u ⟨b, k, none⟩ us 0).mono fun j hj _ => by have hj : j = b := hj; rw [hj]; exact o3⟩
/-- the first of a thing's elements, what stands behind left where it is -/
theorem Th.cut {w u : World} {f : Nat → Nat} {i : Nat} {base : Option Addr} {len cap sz : Nat} {vs : List Value} (h : Th w u f i base len cap sz vs) {n : Nat} (hn : n ≤ len) : Th w u f i (slcBase base 0 cap sz) n cap sz (vs.take (n * sz)) := by
  obtain ⟨o1, o2, o3⟩ := h
  have hm : n * sz ≤ len * sz := Nat.mul_le_mul_right _ hn
  have hl : (vs.take (n * sz)).length = n * sz := by rw [List.length_take]; omega
  refine ⟨hl.symm, by omega, ?_⟩
  rcases o3 with o3 | ⟨b, rest, o3, o4, o5, o6⟩
  · exact .inl o3
  refine .inr ⟨b, vs.drop (n * sz) ++ rest, o3, ?_, ?_, ?_⟩
  · subst o4
    unfold slcBase
    split
    · rfl
    · simp [loc_add]
  · rw [hl, List.length_append, List.length_drop]; omega
  · rw [← List.append_assoc, List.take_append_drop]; exact o6
theorem slcBase0 {p : Option Addr} {cap sz : Nat} : slcBase p 0 cap sz = p := by
  unfold slcBase
  split
  · rfl
  · cases p with
    | none => rfl
    | some a => rw [Option.map_some, Nat.zero_mul, add_zero']
theorem Th.same {w u u' : World} {f : Nat → Nat} {i : Nat} {base : Option Addr} {len cap sz : Nat} {vs : List Value} {Z : Nat → Prop} (h : Th w u f i base len cap sz vs) (hC : Chg Z u u') (hZ : ∀ b, b < u.heap.size → f b = i → w.heap.size ≤ b → ¬ Z b) : Th w u' f i base len cap sz vs :=
  (OwnS.chg h hC fun b hb _ => hZ b hb.2.2 hb.1 hb.2.1).mono fun b hb _ => ⟨hb.1, hb.2.1, Nat.lt_of_lt_of_le hb.2.2 hC.size⟩
theorem Pal.same {w u u' : World} {f : Nat → Nat} {L : List Nat} {Z : Nat → Prop} (h : Pal w u f L) (hC : Chg Z u u') (hZ : ∀ b, b < u.heap.size → Z b → w.heap.size ≤ b) : Pal w u' f L :=
  ⟨((h.ext.chg (S := fun b => w.heap.size ≤ b)).trans (hC.mono fun b hb hlt => hZ b hlt hb) fun b hb _ => hb).ext fun b hb => hb, fun b hb => by
    have := h.av b hb
    exact ⟨this.1, Nat.lt_of_lt_of_le this.2.1 hC.size, this.2.2⟩⟩
/-! ### a list of such things -/
structure Tg where
  c : Nat
  p : Option Addr
  len : Nat
  cap : Nat
  sz : Nat
  vs : List Value
structure Ths (w u : World) (f : Nat → Nat) (L : List Nat) (l : List Tg) : Prop where
  pal : Pal w u f L
  th : ∀ t, t ∈ l → t.c ≠ 0 ∧ Th w u f t.c t.p t.len t.cap t.sz t.vs
section
variable {w u u' : World} {f : Nat → Nat} {L : List Nat} {l : List Tg}
theorem Ths.get (h : Ths w u f L l) {t : Tg} (ht : t ∈ l) : Th w u f t.c t.p t.len t.cap t.sz t.vs := (h.th t ht).2
theorem Ths.mono (h : Ths w u f L l) {L' : List Nat} {l' : List Tg} (hL : ∀ b, b ∈ L' → b ∈ L) (hl : ∀ t, t ∈ l' → t ∈ l) : Ths w u f L' l' := ⟨h.pal.mono hL, fun t ht => h.th t (hl t ht)⟩
theorem Ths.step (h : Ths w u f L l) (hE : Ext u u') (k : Nat) : Ths w u' (fOn f u.heap.size k) L l := ⟨h.pal.step hE, fun t ht => ⟨(h.th t ht).1, (h.th t ht).2.ext hE⟩⟩
theorem Ths.dr (h : Ths w u f L l) : Ths w u.drew f L l := ⟨h.pal.same (Z := fun _ => False) (Ext.refl u).drew.chg fun _ _ h => h.elim, fun t ht => h.th t ht⟩
theorem Ths.locl {bs : List Nat} (h : Ths w u f L l) (hL : Locl bs u u') (hb : ∀ b, b ∈ bs → b ∈ L ∨ u.heap.size ≤ b) : Ths w u' (fOn f u.heap.size 0) (bs ++ L) l :=
  ⟨(h.pal.locl hL hb).1, fun t ht => ⟨(h.th t ht).1, (h.pal.locl hL hb).2 (h.th t ht).1 (h.th t ht).2⟩⟩
theorem Ths.new {i : Nat} {base : Option Addr} {len cap sz : Nat} {vs : List Value} (h : Ths w u f L l) (hE : Ext u u') (hi : i ≠ 0) (ho : Ow u.heap.size u'.heap.size u' base len cap sz vs) : Ths w u' (fOn f u.heap.size i) L (⟨i, base, len, cap, sz, vs⟩ :: l) :=
  ⟨h.pal.step hE, fun t ht => by
    rcases List.mem_cons.1 ht with rfl | ht
    · exact ⟨hi, Th.new ho h.pal.ext⟩
    · exact ⟨(h.th t ht).1, (h.th t ht).2.ext hE⟩⟩
theorem Ths.app {t : Tg} {m : List (Nat × Nat × List Value)} {n bytes : Nat} {elem : TypeId} {zero fs : List Value} {F : Option Addr → Nat → Nat → World → Prop}
    (h : Ths w u f L (t :: l)) (hd : ∀ t', t' ∈ l → t'.c ≠ t.c) (hm : ∀ b, b ∈ blocks m → b ∈ L) (hz : zero.length = t.sz) (hn : fs.length = n * t.sz)
    (hby : (t.len + n) * bytes ≤ 2 ^ 47) (h62 : t.len + n < 2 ^ 62)
    (hF : ∀ base' cap' u' f', Ths w u' f' L (⟨t.c, base', t.len + n, cap', t.sz, t.vs ++ fs⟩ :: l) → F base' (t.len + n) cap' u') :
    appVC u m t.p t.len t.cap n t.sz bytes elem zero fs F := by
  have ht := h.th t (by simp)
  refine ht.2.app h.pal ht.1 hm hz hn hby h62 fun base' cap' u' hP hT hC => hF base' cap' u' _ ⟨hP, fun t' ht' => ?_⟩
  rcases List.mem_cons.1 ht' with rfl | ht'
  · exact ⟨ht.1, hT⟩
  · have h' := h.th t' (List.mem_cons_of_mem _ ht')
    exact ⟨h'.1, h'.2.other hC (hd t' ht')⟩
theorem Ths.set {t : Tg} (h : Ths w u f L (t :: l)) (hd : ∀ t', t' ∈ l → t'.c ≠ t.c) {k : Nat} {us : List Value} (hk : k + us.length ≤ t.vs.length) (h0 : 0 < t.len) :
    ∃ b, t.p = some ⟨b, 0, none⟩ ∧ b ∉ L ∧ CanSet u ⟨b, k, none⟩ us.length ∧ Ths w (setCells u ⟨b, k, none⟩ us 0) f L (⟨t.c, t.p, t.len, t.cap, t.sz, t.vs.take k ++ us ++ t.vs.drop (k + us.length)⟩ :: l) := by
  have ht := h.th t (by simp)
  obtain ⟨b, h1, h2, h3, h4, h5⟩ := ht.2.set hk h0
  refine ⟨b, h1, fun hm => ht.1 (h2.1.symm.trans (h.pal.av b hm).2.2), h3, h.pal.same h5 fun _ _ hz => hz.2.1, fun t' ht' => ?_⟩
  rcases List.mem_cons.1 ht' with rfl | ht'
  · exact ⟨ht.1, h4⟩
  · have h' := h.th t' (List.mem_cons_of_mem _ ht')
    exact ⟨h'.1, h'.2.same h5 fun b' _ hf _ hz => hd t' ht' (hf.symm.trans hz.1)⟩
end
/-! ### a growing slice whose first element may stand anywhere in its block -/
def OwO (S : Nat → Prop) (w : World) (base : Option Addr) (len cap sz : Nat) (vs : List Value) : Prop :=
  len * sz = vs.length ∧ len ≤ cap ∧ (cap = 0 ∨ ∃ b pre rest, S b ∧ base = some ⟨b, List.length pre, none⟩ ∧ cap * sz = vs.length + rest.length ∧ Cs w b (pre ++ vs ++ rest))
theorem OwnS.owO {S : Nat → Prop} {w : World} {base : Option Addr} {len cap sz : Nat} {vs : List Value} (h : OwnS S w base len cap sz vs) : OwO S w base len cap sz vs := by
  obtain ⟨h1, h2, h3⟩ := h
  refine ⟨h1, h2, ?_⟩
  rcases h3 with h3 | ⟨b, rest, h4, h6, h7, h8⟩
  · exact .inl h3
  · exact .inr ⟨b, [], rest, h4, h6, h7, h8⟩
theorem OwO.chg {S T : Nat → Prop} {w w' : World} {base : Option Addr} {len cap sz : Nat} {vs : List Value} (h : OwO S w base len cap sz vs) (hc : Chg T w w') (hS : ∀ b, S b → b < w.heap.size → ¬ T b) : OwO S w' base len cap sz vs := by
  obtain ⟨h1, h2, h3⟩ := h
  refine ⟨h1, h2, ?_⟩
  rcases h3 with h3 | ⟨b, pre, rest, h4, h6, h7, h8⟩
  · exact .inl h3
  · exact .inr ⟨b, pre, rest, h4, h6, h7, h8.chg hc (hS b h4 h8.lt)⟩
theorem OwO.mono {S T : Nat → Prop} {w : World} {base : Option Addr} {len cap sz : Nat} {vs : List Value} (h : OwO S w base len cap sz vs) (hS : ∀ i, S i → i < w.heap.size → T i) : OwO T w base len cap sz vs := by
  obtain ⟨h1, h2, h3⟩ := h
  refine ⟨h1, h2, ?_⟩
  rcases h3 with h3 | ⟨b, pre, rest, h4, h6, h7, h8⟩
  · exact .inl h3
  · exact .inr ⟨b, pre, rest, hS b h4 h8.lt, h6, h7, h8⟩
theorem OwO.len {S : Nat → Prop} {w : World} {base : Option Addr} {len cap : Nat} {vs : List Value} (h : OwO S w base len cap 1 vs) : len = vs.length := by have := h.1; omega
theorem OwO.nil (S : Nat → Prop) (w : World) (base : Option Addr) (sz : Nat) : OwO S w base 0 0 sz [] := ⟨by simp, Nat.le_refl _, .inl rfl⟩
theorem OwO.sl {S : Nat → Prop} {w : World} {base : Option Addr} {len cap sz : Nat} {vs : List Value} (h : OwO S w base len cap sz vs) : Sl w.heap.size w base vs := by
  obtain ⟨h1, h2, h3⟩ := h
  rcases h3 with h3 | ⟨b, pre, rest, h4, h6, h7, h8⟩
  · have : len = 0 := by omega
    subst this
    rw [Nat.zero_mul] at h1
    rw [List.length_eq_zero_iff.1 h1.symm]; exact Sl.nil _ _ _
  · subst h6
    exact h8.sl (by rw [List.append_assoc, List.drop_left]; exact List.prefix_append _ _) h8.lt
theorem OwO.from_ {S : Nat → Prop} {w : World} {base : Option Addr} {len cap n : Nat} {vs : List Value} (h : OwO S w base len cap 1 vs) (hn : n ≤ len) : OwO S w (slcBase base n cap 1) (len - n) (cap - n) 1 (vs.drop n) := by
  obtain ⟨h1, h2, h3⟩ := h
  refine ⟨by rw [List.length_drop]; omega, by omega, ?_⟩
  by_cases hc : cap = n
  · exact .inl (by omega)
  rcases h3 with h3 | ⟨b, pre, rest, h4, h6, h7, h8⟩
  · exact .inl (by omega)
  refine .inr ⟨b, pre ++ vs.take n, rest, h4, ?_, by rw [List.length_drop]; omega, ?_⟩
  · subst h6
    simp only [slcBase, if_neg hc, Option.map_some, loc_add, Nat.mul_one, List.length_append, List.length_take]
    rw [Nat.min_eq_left (by omega)]
  · rw [List.append_assoc pre, List.take_append_drop]; exact h8
theorem OwO.app {S : Nat → Prop} {w : World} {l : List (Nat × Nat × List Value)} {base : Option Addr} {len cap n sz bytes : Nat} {elem : TypeId} {zero vs fs : List Value} {F : Option Addr → Nat → Nat → World → Prop}
    (h : OwO S w base len cap sz vs) (hl : ∀ b ∈ blocks l, S b → False) (hz : zero.length = sz) (hn : fs.length = n * sz)
    (hby : (len + n) * bytes ≤ 2 ^ 47) (h62 : len + n < 2 ^ 62)
    (hF : ∀ base' cap' w', OwO (fun i => S i ∨ w.heap.size ≤ i) w' base' (len + n) cap' sz (vs ++ fs) → Chg S w w' → F base' (len + n) cap' w') :
    appVC w l base len cap n sz bytes elem zero fs F := by
  have hsl := h.sl
  obtain ⟨h1, h2, h3⟩ := h
  refine ⟨fun hle => ?_, fun hgt => ⟨hby, h62, vs, h1.symm, hsl.cells, fun cap' b w' hc' hnew => ?_⟩⟩
  · rcases h3 with h3 | ⟨b, pre, rest, h4, h6, h7, h8⟩
    · have e0 : len = 0 := by omega
      have e1 : n = 0 := by omega
      subst e0; subst e1
      have e2 : fs = [] := List.length_eq_zero_iff.1 (by simpa using hn)
      refine .inl ⟨e2, hF _ _ _ ⟨?_, by omega, .inl h3⟩ (Chg.refl _ _)⟩
      subst e2; simpa using h1
    · subst h6
      have hroom : (len + n) * sz ≤ cap * sz := Nat.mul_le_mul_right _ hle
      rw [Nat.add_mul, h7] at hroom
      refine .inr ⟨_, rfl, ?_, ?_⟩
      · rw [loc_add]
        refine h8.canSet ?_
        rw [List.length_append, List.length_append, hn, h1]; omega
      · have key : F (some ⟨b, pre.length, none⟩) (len + n) cap (setCells w ((⟨b, pre.length, none⟩ : Addr).add (len * sz)) fs 0) := by
          rw [loc_add]
          have hset := h8.set (off := pre.length + len * sz) (us := fs) (by rw [List.length_append, List.length_append]; omega)
          have hchg := Chg.setCells w ⟨b, pre.length + len * sz, none⟩ fs 0
          refine hF _ _ _ ⟨?_, hle, .inr ⟨b, pre, rest.drop fs.length, .inl h4, rfl, ?_, ?_⟩⟩ (hchg.mono fun i hi _ => ?_)
          · rw [Nat.add_mul, List.length_append]; omega
          · rw [List.length_append, List.length_drop]; omega
          · have hpl : (pre ++ vs).length = pre.length + len * sz := by rw [List.length_append]; omega
            rw [← hpl, List.take_left, ← List.drop_drop, List.drop_left] at hset
            rw [← List.append_assoc pre, ← hpl]; exact hset
          · simp only at hi; subst hi; exact h4
        show notIn l b _
        unfold notIn
        split
        · exact key
        · exact ⟨fun hm => hl b hm h4, key⟩
  · have hex : Ext w w' := (Ext.refl w).drew.trans hnew.ext
    refine hF _ _ _ ?_ hex.chg
    have := New.own (N := w.heap.size) (M := w'.heap.size) (vs := vs ++ fs) (len := len + n) (cap := cap') (sz := sz) hnew (by simp) (by rw [Nat.add_mul, List.length_append]; omega) ?_ hc' (by exact Nat.le_refl _) (Nat.le_refl _)
    · refine (OwnS.owO this.ownS).mono fun i hi _ => .inr hi.1
    · simp only [List.size_toArray, List.length_append, Array.length_toList, mkCells_length, hz]
      rw [Nat.sub_mul, Nat.add_mul]
      have : (len + n) * sz ≤ cap' * sz := Nat.mul_le_mul_right _ hc'
      rw [Nat.add_mul] at this
      omega
def ThO (w u : World) (f : Nat → Nat) (i : Nat) (base : Option Addr) (len cap sz : Nat) (vs : List Value) : Prop := OwO (ThS w u f i) u base len cap sz vs
theorem Th.o {w u : World} {f : Nat → Nat} {i : Nat} {base : Option Addr} {len cap sz : Nat} {vs : List Value} (h : Th w u f i base len cap sz vs) : ThO w u f i base len cap sz vs := OwnS.owO h
theorem ThO.chg {w u u' : World} {f : Nat → Nat} {i k : Nat} {base : Option Addr} {len cap sz : Nat} {vs : List Value} {Z : Nat → Prop} (h : ThO w u f i base len cap sz vs) (hC : Chg Z u u') (hZ : ∀ b, b < u.heap.size → f b = i → w.heap.size ≤ b → ¬ Z b) : ThO w u' (fOn f u.heap.size k) i base len cap sz vs :=
  (OwO.chg h hC fun b hb _ => hZ b hb.2.2 hb.1 hb.2.1).mono fun b hb _ => ⟨by rw [fOn_lt hb.2.2]; exact hb.1, hb.2.1, Nat.lt_of_lt_of_le hb.2.2 hC.size⟩
theorem ThO.same {w u u' : World} {f : Nat → Nat} {i : Nat} {base : Option Addr} {len cap sz : Nat} {vs : List Value} {Z : Nat → Prop} (h : ThO w u f i base len cap sz vs) (hC : Chg Z u u') (hZ : ∀ b, b < u.heap.size → f b = i → w.heap.size ≤ b → ¬ Z b) : ThO w u' f i base len cap sz vs :=
  (OwO.chg h hC fun b hb _ => hZ b hb.2.2 hb.1 hb.2.1).mono fun b hb _ => ⟨hb.1, hb.2.1, Nat.lt_of_lt_of_le hb.2.2 hC.size⟩
theorem ThO.app {w u : World} {f : Nat → Nat} {L : List Nat} {i : Nat} {l : List (Nat × Nat × List Value)} {base : Option Addr} {len cap n sz bytes : Nat} {elem : TypeId} {zero vs fs : List Value} {F : Option Addr → Nat → Nat → World → Prop}
    (h : ThO w u f i base len cap sz vs) (hP : Pal w u f L) (hi : i ≠ 0) (hl : ∀ b, b ∈ blocks l → b ∈ L) (hz : zero.length = sz) (hn : fs.length = n * sz)
    (hby : (len + n) * bytes ≤ 2 ^ 47) (h62 : len + n < 2 ^ 62)
    (hF : ∀ base' cap' u', Pal w u' (fOn f u.heap.size i) L → ThO w u' (fOn f u.heap.size i) i base' (len + n) cap' sz (vs ++ fs) → Chg (ThS w u f i) u u' → F base' (len + n) cap' u') :
    appVC u l base len cap n sz bytes elem zero fs F := by
  refine OwO.app h (fun b hb hs => hi (hs.1.symm.trans (hP.av b (hl b hb)).2.2)) hz hn hby h62 fun base' cap' u' ho hC => hF base' cap' u' (hP.chg hC fun b _ hb => hb.2.1) (ho.mono fun b hb hlt => ?_) hC
  have := hP.ext.size
  have := hC.size
  rcases hb with hb | hb
  · exact ⟨by rw [fOn_lt hb.2.2]; exact hb.1, hb.2.1, hlt⟩
  · exact ⟨fOn_ge hb, by omega, hlt⟩
theorem Locl.refl (w : World) : Locl [] w w := ⟨rfl, rfl, rfl, Nat.le_refl _, fun _ _ _ => rfl, fun _ h => by cases h⟩
theorem Locl.of_ext {w w' : World} (h : Ext w w') : Locl [] w w' := ⟨h.os, h.tape, h.output, h.size, fun k hk _ => h.block k hk, fun _ h => by cases h⟩
/-! ## Bits of numbers -/
theorem bv_nat {n : Nat} {a : Int} (h0 : 0 ≤ a) (h1 : a < 2 ^ n) : (BitVec.ofInt n a).toNat = a.toNat := by
  rw [BitVec.toNat_ofInt]
  have : a % (2 ^ n : Nat) = a := Int.emod_eq_of_lt h0 (by simpa using h1)
  rw [this]
theorem bitsZ_and {k : IntKind} {a b : Int} (a0 : 0 ≤ a) (a1 : a < 2 ^ k.bits) (b0 : 0 ≤ b) (b1 : b < 2 ^ k.bits) : bitsZ .and k a b = ((a.toNat &&& b.toNat : Nat) : Int) := by
  simp only [bitsZ, BitVec.toNat_and, bv_nat a0 a1, bv_nat b0 b1]
theorem bitsZ_or {k : IntKind} {a b : Int} (a0 : 0 ≤ a) (a1 : a < 2 ^ k.bits) (b0 : 0 ≤ b) (b1 : b < 2 ^ k.bits) : bitsZ .or k a b = ((a.toNat ||| b.toNat : Nat) : Int) := by
  simp only [bitsZ, BitVec.toNat_or, bv_nat a0 a1, bv_nat b0 b1]
theorem bitsZ_and1 {k : IntKind} {a : Int} (a0 : 0 ≤ a) (a1 : a < 2 ^ k.bits) : bitsZ .and k a 1 = a % 2 := by
  have h2 : (1 : Int) < 2 ^ k.bits := by cases k <;> decide
  rw [bitsZ_and a0 a1 (by omega) h2]
  rw [show (1 : Int).toNat = 1 by rfl, Nat.and_one_is_mod]
  omega
theorem bitsZ_orAdd {k : IntKind} {a b : Int} {i : Nat} (a0 : 0 ≤ a) (a1 : 2 ^ i * a + b < 2 ^ k.bits) (b0 : 0 ≤ b) (b1 : b < 2 ^ i) : bitsZ .or k (2 ^ i * a) b = 2 ^ i * a + b := by
  have hp : (0 : Int) < 2 ^ i := Int.pow_pos (by omega)
  have hm : 0 ≤ 2 ^ i * a := Int.mul_nonneg (by omega) a0
  rw [bitsZ_or hm (by omega) b0 (by omega)]
  obtain ⟨m, rfl⟩ := Int.eq_ofNat_of_zero_le a0
  obtain ⟨c, rfl⟩ := Int.eq_ofNat_of_zero_le b0
  have hc : c < 2 ^ i := by
    have : ((c : Int)) < ((2 ^ i : Nat) : Int) := by simpa using b1
    omega
  have e : ((2 : Int) ^ i * (m : Int)) = ((2 ^ i * m : Nat) : Int) := by simp
  rw [e]
  have := Nat.two_pow_add_eq_or_of_lt hc m
  show (((2 ^ i * m : Nat) : Int).toNat ||| ((c : Nat) : Int).toNat : Nat) = ((2 ^ i * m : Nat) : Int) + (c : Int)
  rw [Int.toNat_natCast, Int.toNat_natCast, ← this]; simp
theorem shiftZ_shr {k : IntKind} {a b : Int} (a0 : 0 ≤ a) (b0 : 0 ≤ b) (b1 : b ≤ k.bits) : shiftZ .shr k a b = a / 2 ^ b.toNat := by
  simp only [shiftZ]
  rw [Nat.min_eq_left (by omega), Int.fdiv_eq_ediv_of_nonneg _ (Int.le_of_lt (Int.pow_pos (by omega)))]
theorem shiftZ_shl {k : IntKind} {a b : Int} (b0 : 0 ≤ b) (b1 : b ≤ k.bits) : shiftZ .shl k a b = k.wrap (a * 2 ^ b.toNat) := by
  simp only [shiftZ]
  rw [Nat.min_eq_left (by omega)]
theorem wrap_u {k : IntKind} (hk : k.signed = false) {x : Int} (h0 : 0 ≤ x) (h1 : x < 2 ^ k.bits) : k.wrap x = x := by
  cases k <;> simp [IntKind.signed] at hk <;> simp [IntKind.wrap, IntKind.signed, IntKind.bits] at h1 ⊢ <;> omega
theorem wu8 {x : Int} (h0 : 0 ≤ x) (h1 : x < 256) : IntKind.u8.wrap x = x := wrap_u rfl h0 h1
theorem wu16 {x : Int} (h0 : 0 ≤ x) (h1 : x < 65536) : IntKind.u16.wrap x = x := wrap_u rfl h0 h1
theorem wu32 {x : Int} (h0 : 0 ≤ x) (h1 : x < 4294967296) : IntKind.u32.wrap x = x := wrap_u rfl h0 h1
theorem wu64 {x : Int} (h0 : 0 ≤ x) (h1 : x < 18446744073709551616) : IntKind.u64.wrap x = x := wrap_u rfl h0 h1
theorem wb8 (x : Int) : IntKind.u8.wrap x = x % 256 := rfl
theorem wb32 (x : Int) : IntKind.u32.wrap x = x % 4294967296 := rfl
end Go.Vc

