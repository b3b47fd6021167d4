/- A writer and the document's beside it. -/
import Derived.Test.YtlmnooodinfifaaBits6
namespace Go.Proofs.Ytlmnooodinfifaa
open Go Go.Vc Go.RowKit
set_option maxRecDepth 100000
set_option linter.unusedVariables false
set_option linter.unusedSimpArgs false

/-- made since W: a writer (object wb, bytes bs, m bits) and a slice (bytes cs), apart from each other and from the blocks av -/
structure Pair2 (W w : World) (q : Option Addr) (wb : Nat) (p : Option Addr) (c : Nat) (bs : List Int) (m : Nat) (cs : List Int) (up : Bool) (av : List Nat) : Prop where
  ext : Ext W w
  wr : ∃ S T : Nat → Prop, WrAt w q wb S bs m up ∧ OwB T w p cs.length c 1 (bytes cs) ∧ (∀ i, S i → i < w.heap.size ∧ W.heap.size ≤ i ∧ ¬ T i ∧ i ∉ av) ∧ (∀ i, T i → W.heap.size ≤ i ∧ i ≠ wb ∧ i ∉ av)
  wb : W.heap.size ≤ wb ∧ wb < w.heap.size ∧ wb ∉ av
  avs : ∀ b, b ∈ av → W.heap.size ≤ b ∧ b < w.heap.size
variable {W w : World} {q : Option Addr} {wb : Nat} {p : Option Addr} {c : Nat} {bs : List Int} {m : Nat} {cs : List Int} {up : Bool} {av : List Nat}
theorem Pair2.start {q : Option Addr} {wb : Nat} {av : List Nat} (hE : Ext W w) (h : WrAt w q wb (fun _ => False) bs m up) (h0 : W.heap.size ≤ wb) (hav : ∀ b, b ∈ av → W.heap.size ≤ b ∧ b < w.heap.size ∧ b ≠ wb) : Pair2 W w q wb none 0 bs m [] up av :=
  ⟨hE, ⟨fun _ => False, fun _ => False, h, OwB.nil _ _ _, fun _ h => h.elim, fun _ h => h.elim⟩, ⟨h0, h.lt, fun hm => (hav _ hm).2.2 rfl⟩, fun b hb => ⟨(hav b hb).1, (hav b hb).2.1⟩⟩
theorem Pair2.step {w' : World} (h : Pair2 W w q wb p c bs m cs up av) (hE : Ext w w') : Pair2 W w' q wb p c bs m cs up av := by
  obtain ⟨S, T, h1, h2, h3, h4⟩ := h.wr
  have hs := hE.size
  exact ⟨h.ext.trans hE, ⟨S, T, h1.ext hE, h2.ext hE, fun i hi => ⟨by have := (h3 i hi).1; omega, (h3 i hi).2⟩, h4⟩, ⟨h.wb.1, by have := h.wb.2.1; omega, h.wb.2.2⟩, fun b hb => ⟨(h.avs b hb).1, by have := (h.avs b hb).2; omega⟩⟩
theorem Pair2.locl {w' : World} {ls : List Nat} (h : Pair2 W w q wb p c bs m cs up av) (hL : Locl ls w w') (hl : ∀ b, b ∈ ls → b ∈ av ∨ w.heap.size ≤ b) : Pair2 W w' q wb p c bs m cs up av := by
  obtain ⟨S, T, h1, h2, h3, h4⟩ := h.wr
  have hs := hL.size
  have hwb := h.wb
  refine ⟨h.ext.step hL.chg fun i hi => ?_, ⟨S, T, h1.chg hL.chg (fun hm => ?_) (fun i hi hm => ?_), h2.chg hL.chg fun i hi hm => ?_, fun i hi => ⟨by have := (h3 i hi).1; omega, (h3 i hi).2⟩, h4⟩, ⟨hwb.1, by omega, hwb.2.2⟩, fun b hb => ⟨(h.avs b hb).1, by have := (h.avs b hb).2; omega⟩⟩
  · rcases hl i hi with hb | hb
    · exact (h.avs i hb).1
    · have := h.ext.size; omega
  · rcases hl _ hm with hb | hb
    · exact hwb.2.2 hb
    · omega
  · rcases hl _ hm with hb | hb
    · exact (h3 i hi).2.2.2 hb
    · have := (h3 i hi).1; omega
  · rcases hl _ hm with hb | hb
    · exact (h4 i hi).2.2 hb
    · have := h2.bd i hi; omega
theorem Pair2.locl' {w' : World} {ls av' : List Nat} (h : Pair2 W w q wb p c bs m cs up av) (hL : Locl ls w w') (hl : ∀ b, b ∈ ls → b ∈ av ∨ w.heap.size ≤ b) (ha : ∀ b, b ∈ av' → b ∈ av ∨ b ∈ ls) : Pair2 W w' q wb p c bs m cs up av' := by
  have hs := hL.size
  have hsz := h.ext.size
  obtain ⟨S, T, h1, h2, h3, h4⟩ := h.wr
  obtain ⟨e, _, hwb, hav⟩ := h.locl hL hl
  have hwb0 := h.wb
  refine ⟨e, ⟨S, T, ?_, ?_, fun i hi => ?_, fun i hi => ?_⟩, ⟨hwb.1, hwb.2.1, fun hm => ?_⟩, fun b hb => ?_⟩
  · exact h1.chg hL.chg (fun hm => (hl _ hm).elim hwb0.2.2 fun hb => by omega) (fun i hi hm => (hl _ hm).elim (h3 i hi).2.2.2 fun hb => by have := (h3 i hi).1; omega)
  · exact h2.chg hL.chg fun i hi hm => (hl _ hm).elim (h4 i hi).2.2 fun hb => by have := h2.bd i hi; omega
  · obtain ⟨a1, a2, a3, a4⟩ := h3 i hi
    refine ⟨by omega, a2, a3, fun hm => ?_⟩
    rcases ha i hm with hm | hm
    · exact a4 hm
    · exact (hl i hm).elim a4 fun hb => by omega
  · obtain ⟨a1, a2, a3⟩ := h4 i hi
    refine ⟨a1, a2, fun hm => ?_⟩
    rcases ha i hm with hm | hm
    · exact a3 hm
    · exact (hl i hm).elim a3 fun hb => by have := h2.bd i hi; omega
  · rcases ha _ hm with hm | hm
    · exact hwb0.2.2 hm
    · exact (hl _ hm).elim hwb0.2.2 fun hb => by omega
  · rcases ha b hb with hb | hb
    · exact hav b hb
    · exact ⟨(hl b hb).elim (fun hb => (h.avs b hb).1) fun hb => by omega, hL.there b hb⟩
/-- the writer has turned -/
theorem Pair2.turnW {w' : World} {bs' : List Int} {m' : Nat} {S T S' : Nat → Prop} (h : Pair2 W w q wb p c bs m cs up av)
    (h2 : OwB T w p cs.length c 1 (bytes cs)) (h3 : ∀ i, S i → i < w.heap.size ∧ W.heap.size ≤ i ∧ ¬ T i ∧ i ∉ av) (h4 : ∀ i, T i → W.heap.size ≤ i ∧ i ≠ wb ∧ i ∉ av)
    (hg : Gr S S' w w') (hc : Chg (fun k => k = wb ∨ S k) w w') (h' : WrAt w' q wb S' bs' m' up) : Pair2 W w' q wb p c bs' m' cs up av := by
  have hs := hc.size
  have hwb := h.wb
  refine ⟨h.ext.step hc fun i hi => ?_, ⟨S', T, h', h2.chg hc fun i hi hm => ?_, fun i hi => ?_, h4⟩, ⟨hwb.1, by omega, hwb.2.2⟩, fun b hb => ⟨(h.avs b hb).1, by have := (h.avs b hb).2; omega⟩⟩
  · rcases hi with hi | hi
    · omega
    · exact (h3 i hi).2.1
  · rcases hm with hm | hm
    · exact (h4 i hi).2.1 hm
    · exact (h3 i hm).2.2.1 hi
  · rcases hg.2 i hi with hi | hi
    · exact ⟨by have := (h3 i hi).1; omega, (h3 i hi).2⟩
    · refine ⟨hi.2, by have := h.ext.size; omega, fun ht => by have := h2.bd i ht; omega, fun hm => by have := (h.avs i hm).2; omega⟩
theorem Pair2.turnR {w' : World} {p' : Option Addr} {c' : Nat} {cs' : List Int} {S T T' : Nat → Prop} (h : Pair2 W w q wb p c bs m cs up av)
    (h1 : WrAt w q wb S bs m up) (h3 : ∀ i, S i → i < w.heap.size ∧ W.heap.size ≤ i ∧ ¬ T i ∧ i ∉ av) (h4 : ∀ i, T i → W.heap.size ≤ i ∧ i ≠ wb ∧ i ∉ av)
    (hg : Gr T T' w w') (hc : Chg T w w') (h' : OwB T' w' p' cs'.length c' 1 (bytes cs')) : Pair2 W w' q wb p' c' bs m cs' up av := by
  have hs := hc.size
  have hwb := h.wb
  refine ⟨h.ext.step hc fun i hi => (h4 i hi).1, ⟨S, T', h1.chg hc (fun hm => (h4 _ hm).2.1 rfl) (fun i hi hm => (h3 i hi).2.2.1 hm), h', fun i hi => ?_, fun i hi => ?_⟩, ⟨hwb.1, by omega, hwb.2.2⟩, fun b hb => ⟨(h.avs b hb).1, by have := (h.avs b hb).2; omega⟩⟩
  · obtain ⟨a1, a2, a3, a4⟩ := h3 i hi
    refine ⟨by omega, a2, fun ht => ?_, a4⟩
    rcases hg.2 i ht with ht | ht
    · exact a3 ht
    · omega
  · rcases hg.2 i hi with hi | hi
    · exact h4 i hi
    · exact ⟨by have := h.ext.size; omega, by omega, fun hm => by have := (h.avs i hm).2; omega⟩
theorem Pair2.keepW {w' : World} (h : Pair2 W w q wb p c bs m cs up av) {S : Nat → Prop} (hc : Chg (fun k => k = wb ∨ S k) w w') (hS : ∀ i, S i → i ∉ av) : Keep av w w' :=
  hc.keep fun b hb hm => by
    rcases hm with hm | hm
    · exact h.wb.2.2 (hm ▸ hb)
    · exact hS b hm hb
/-- what Put writes -/
def putA (up : Bool) (bs : List Int) (m : Nat) (v n : Int) : List Int := if n < 0 ∨ n > 32 then bs else putV up bs m v n.toNat n.toNat
def putM (m : Nat) (n : Int) : Nat := if n < 0 ∨ n > 32 then m else m + n.toNat
def putE (n : Int) : Int := if n < 0 ∨ n > 32 then 2 else 0
theorem putA_ok (h : WOk up bs m) (v n : Int) : WOk up (putA up bs m v n) (putM m n) := by
  unfold putA putM
  split
  · exact h
  · exact putV_ok h _
theorem putM_le (m : Nat) (n : Int) : putM m n ≤ m + 32 := by unfold putM; split <;> omega
theorem Pair2.put {v n : Int} {R : Ending → World → Prop} (h : Pair2 W w q wb p c bs m cs up av) (hok : WOk up bs m) (hm : m ≤ 2 ^ 48 + 2 ^ 47) (v0 : 0 ≤ v) (v1 : v < 4294967296)
    (hR : ∀ w', Keep av w w' → Pair2 W w' q wb p c (putA up bs m v n) (putM m n) cs up av → R (.returned (i64 (putE n))) w') : Calls P F.bits_Writer_Put #[.pointer q, .int .u32 v, i64 n] w R := by
  obtain ⟨S, T, h1, h2, h3, h4⟩ := h.wr
  refine Put_spec h1 hok hm v0 (by omega) (fun hb => ?_) fun n0 n1 S' w' hg hc hw => ?_
  · have := hR w ((Ext.refl w).keep _) (by unfold putA putM; rw [if_pos hb, if_pos hb]; exact h)
    unfold putE at this; rwa [if_pos hb] at this
  · have := hR w' (h.keepW hc fun i hi => (h3 i hi).2.2.2) (by
      unfold putA putM; rw [if_neg (by omega), if_neg (by omega)]
      exact h.turnW h2 h3 h4 hg hc hw)
    unfold putE at this; rwa [if_neg (by omega)] at this
theorem Pair2.rput {v n : Int} {k : Nat} {R : Ending → World → Prop} (h : Pair2 W w q wb p c bs m cs up av) (hok : WOk up cs k) (hm : k ≤ 2 ^ 48 + 2 ^ 47) (v0 : 0 ≤ v) (v1 : v < 4294967296)
    (hR : ∀ p' c' w', Keep av w w' → Pair2 W w' q wb p' c' bs m (putA up cs k v n) up av → R (.returned (.tuple #[refW up p' (putA up cs k v n).length c' (putM k n : Nat), i64 (putE n)])) w') : Calls P F.ref01_Put #[refW up p cs.length c k, .int .u32 v, i64 n] w R := by
  obtain ⟨S, T, h1, h2, h3, h4⟩ := h.wr
  refine refPut_spec h2 hok hm v0 (by omega) (fun hb w' hE => ?_) fun n0 n1 T' p' c' w' hg hc hw => ?_
  · have := hR p c w' (hE.keep _) (by unfold putA; rw [if_pos hb]; exact h.step hE)
    unfold putE putA putM at this; rwa [if_pos hb, if_pos hb, if_pos hb] at this
  · have := hR p' c' w' (hc.keep fun b hb ht => (h4 b ht).2.2 hb) (by
      unfold putA; rw [if_neg (by omega)]
      exact h.turnR h1 h3 h4 hg hc hw)
    unfold putE putA putM at this; rwa [if_neg (by omega), if_neg (by omega), if_neg (by omega)] at this
theorem Pair2.align {R : Ending → World → Prop} (h : Pair2 W w q wb p c bs m cs up av) (hsz : bs.length ≤ 2 ^ 47)
    (hR : ∀ w', Keep av w w' → Pair2 W w' q wb p c bs (8 * bs.length) cs up av → R (.returned (.tuple #[])) w') : Calls P F.bits_Writer_Align #[.pointer q] w R := by
  obtain ⟨S, T, h1, h2, h3, h4⟩ := h.wr
  refine AlignWr_spec h1 hsz fun w' hc hw => hR w' (hc.keep fun b hb hm => h.wb.2.2 (by have hm : b = wb := hm; rwa [hm] at hb)) ?_
  exact h.turnW h2 h3 h4 ((Gr.refl S w).size hc.size) (hc.mono fun i hi _ => .inl hi) hw
theorem Pair2.ralign {k : Nat} {R : Ending → World → Prop} (h : Pair2 W w q wb p c bs m cs up av) (hok : WOk up cs k) (hm : k ≤ 2 ^ 48 + 2 ^ 47)
    (hR : ∀ p' c' w', Keep av w w' → Pair2 W w' q wb p' c' bs m cs up av → R (.returned (refW up p' cs.length c' ((8 * cs.length : Nat) : Int))) w') : Calls P F.ref01_AlignW #[refW up p cs.length c k] w R := by
  obtain ⟨S, T, h1, h2, h3, h4⟩ := h.wr
  refine refAlignW_spec h2 hok hm fun T' p' c' w' hg hc hw => hR p' c' w' (hc.keep fun b hb ht => (h4 b ht).2.2 hb) ?_
  exact h.turnR h1 h3 h4 hg hc hw
theorem Pair2.len {R : Ending → World → Prop} (h : Pair2 W w q wb p c bs m cs up av) (hR : R (.returned (i64 m)) w) : Calls P F.bits_Writer_Len #[.pointer q] w R := by
  obtain ⟨S, T, h1, h2, h3, h4⟩ := h.wr
  exact Len_spec h1 hR
theorem Pair2.out {R : Ending → World → Prop} (h : Pair2 W w q wb p c bs m cs up av) (hsz : bs.length ≤ 2 ^ 47)
    (hR : ∀ p' k w', Ext w w' → Ow w.heap.size w'.heap.size w' p' bs.length k 1 (bytes bs) → R (.returned (.slice p' bs.length k)) w') : Calls P F.bits_Writer_Bytes #[.pointer q] w R := by
  obtain ⟨S, T, h1, h2, h3, h4⟩ := h.wr
  exact WBytes_spec h1 hsz hR
theorem Pair2.rsl (h : Pair2 W w q wb p c bs m cs up av) : Sl w.heap.size w p (bytes cs) := by
  obtain ⟨S, T, h1, h2, h3, h4⟩ := h.wr
  exact h2.own.sl
end Go.Proofs.Ytlmnooodinfifaa
