/- LZW: packing, walked. -/
import Derived.Test.YtlbokiaolmflaaaLZ11
namespace Go.Proofs.Ytlbokiaolmflaaa
open Go Go.Vc Go.RowKit
set_option maxRecDepth 100000
set_option linter.unusedVariables false
set_option linter.unusedSimpArgs false

/-- while the codes' table, the width and the next code are laid out, in whatever order -/
structure IS (u0 : World) (ms cs : List Nat) (u : World) : Prop where
  ext : Ext u0 u
  fm : ∀ k, k ∈ ms → u0.heap.size ≤ k ∧ Mp kdP u k [] ∧ k ∉ cs
  fc : ∀ k, k ∈ cs → u0.heap.size ≤ k ∧ ∃ v, Cs u k [v]
  nd : cs.Nodup
theorem IS.init (u0 : World) : IS u0 [] [] u0 := ⟨Ext.refl u0, by simp, by simp, by simp⟩
theorem IS.map {u0 u u' : World} {ms cs : List Nat} {k : Nat} (h : IS u0 ms cs u) (hn : New u (.map #[] 0) k u') : IS u0 (k :: ms) cs u' := by
  have hk := hn.1
  have hs := h.ext.size
  refine ⟨h.ext.trans hn.ext, fun j hj => ?_, fun j hj => ?_, h.nd⟩
  · rcases List.mem_cons.1 hj with rfl | hj
    · exact ⟨by omega, hn.mp kdP, fun hm => by obtain ⟨_, v, hv⟩ := h.fc _ hm; have := hv.lt; omega⟩
    · obtain ⟨h1, h2, h3⟩ := h.fm j hj
      exact ⟨h1, h2.same (hn.ext.block j (mp_lt h2)), h3⟩
  · obtain ⟨h1, v, hv⟩ := h.fc j hj
    exact ⟨h1, v, hv.ext hn.ext⟩
theorem IS.cell {u0 u u' : World} {ms cs : List Nat} {k : Nat} (h : IS u0 ms cs u) (hn : New u (.cells #[i64 0] 3 (0, 0)) k u') : IS u0 ms (k :: cs) u' := by
  have hk := hn.1
  have hs := h.ext.size
  refine ⟨h.ext.trans hn.ext, fun j hj => ?_, fun j hj => ?_, List.nodup_cons.2 ⟨fun hm => ?_, h.nd⟩⟩
  · obtain ⟨h1, h2, h3⟩ := h.fm j hj
    refine ⟨h1, h2.same (hn.ext.block j (mp_lt h2)), fun hm => ?_⟩
    rcases List.mem_cons.1 hm with rfl | hm
    · have := mp_lt h2; omega
    · exact h3 hm
  · rcases List.mem_cons.1 hj with rfl | hj
    · exact ⟨by omega, _, hn.cs⟩
    · obtain ⟨h1, v, hv⟩ := h.fc j hj
      exact ⟨h1, v, hv.ext hn.ext⟩
  · obtain ⟨_, v, hv⟩ := h.fc k hm
    have := hv.lt; omega
theorem IS.st {u0 u : World} {ms cs : List Nat} {a : Nat} {v : Value} (h : IS u0 ms cs u) (ha : a ∈ cs) : IS u0 ms cs (setCells u ⟨a, 0, none⟩ [v] 0) := by
  have hC := Chg.setCells u ⟨a, 0, none⟩ [v] 0
  have e : ∀ {k : Nat}, (· = (⟨a, 0, none⟩ : Addr).block) k → k = a := fun h => h
  refine ⟨h.ext.step hC fun i hi => by have := e hi; subst this; exact (h.fc i ha).1, fun j hj => ?_, fun j hj => ?_, h.nd⟩
  · obtain ⟨h1, h2, h3⟩ := h.fm j hj
    exact ⟨h1, h2.same (hC.block j (mp_lt h2) fun hi => by have := e hi; subst this; exact h3 ha), h3⟩
  · obtain ⟨h1, v', hv⟩ := h.fc j hj
    by_cases hja : j = a
    · subst hja
      have := hv.set1 (off := 0) (v := v) (by simp)
      exact ⟨h1, v, by simpa using this⟩
    · exact ⟨h1, v', hv.chg hC fun hi => hja (e hi)⟩
theorem IS.ex {u0 u : World} {ms cs : List Nat} {a : Nat} (h : IS u0 ms cs u) (ha : a ∈ cs) : ∃ v, u.cell? ⟨a, 0, none⟩ = some v := by
  obtain ⟨_, v, hv⟩ := h.fc a ha
  exact ⟨v, hv.cell rfl⟩
theorem IS.fz {u0 u : World} {ms cs : List Nat} {a : Nat} (h : IS u0 ms cs u) (ha : a ∈ cs) : u.frozen? ⟨a, 0, none⟩ = false := by
  obtain ⟨_, v, hv⟩ := h.fc a ha
  exact hv.frozen 0
theorem IS.ld {u0 u : World} {ms cs : List Nat} {k1 i : Nat} {vs : List Value} {v : Value} (h : IS u0 ms cs u) (hc : Cs u0 k1 vs) (hv : vs[i]? = some v) : u.cell? ⟨k1, i, none⟩ = some v := (hc.ext h.ext).cell hv
theorem IS.fin {w u0 u : World} {a b km k1 k2 wb : Nat} {cs : List Nat} {cl w0 early : Nat} {up : Bool} (h : IS u0 [km] cs u) (ha : a ∈ cs) (hb : b ∈ cs) (hab : a ≠ b) (hE : Ext w u0)
    (hk : Cs u0 k1 [i64 cl, i64 w0, .bool up, i64 early]) (hr : Cs u0 k2 [.pointer (some ⟨wb, 0, none⟩)]) (hw : WrAt u0 (some ⟨wb, 0, none⟩) wb (fun _ => False) [] 0 up)
    (hlo : w.heap.size ≤ k1 ∧ w.heap.size ≤ k2 ∧ w.heap.size ≤ wb) (hnd : k1 ≠ k2 ∧ k1 ≠ wb ∧ k2 ≠ wb) (hcl : cl ≤ 256) :
    KM w (setCells (setCells u ⟨a, 0, none⟩ [i64 w0] 0) ⟨b, 0, none⟩ [i64 (IntKind.i64.wrap ((cl : Int) + 2))] 0) k1 k2 a b km wb (fun _ => False) cl w0 early up [] w0 (cl + 2) [] 0 := by
  rw [w64 (by omega) (by omega)]
  have e1 : (cl : Int) + 2 = ((cl + 2 : Nat) : Int) := by omega
  rw [e1]
  obtain ⟨m1, m2, m3⟩ := h.fm km (by simp)
  obtain ⟨a1, va, a2⟩ := h.fc a ha
  obtain ⟨b1, vb, b2⟩ := h.fc b hb
  have hs := hE.size
  have hkl := hk.lt
  have hrl := hr.lt
  have hwl := hw.lt
  have hma : km ≠ a := fun e => m3 (e ▸ ha)
  have hmb : km ≠ b := fun e => m3 (e ▸ hb)
  have hE' := h.ext
  have base : KM w (setCells (setCells u ⟨a, 0, none⟩ [i64 w0] 0) ⟨b, 0, none⟩ [i64 (cl + 2 : Nat)] 0) k1 k2 a b km wb (fun _ => False) cl w0 early up [] w0 (cl + 2) [] 0 := by
    have hC1 := Chg.setCells u ⟨a, 0, none⟩ [i64 w0] 0
    have hC2 := Chg.setCells (setCells u ⟨a, 0, none⟩ [i64 w0] 0) ⟨b, 0, none⟩ [i64 (cl + 2 : Nat)] 0
    have e : ∀ {k : Nat}, (· = (⟨a, 0, none⟩ : Addr).block) k → k = a := fun h => h
    have e' : ∀ {k : Nat}, (· = (⟨b, 0, none⟩ : Addr).block) k → k = b := fun h => h
    have s1 := a2.set1 (off := 0) (v := i64 w0) (by simp)
    have s2 := (b2.chg hC1 (fun hi => hab (e hi).symm)).set1 (off := 0) (v := i64 (cl + 2 : Nat)) (by simp)
    have hEE : Ext u0 (setCells (setCells u ⟨a, 0, none⟩ [i64 w0] 0) ⟨b, 0, none⟩ [i64 (cl + 2 : Nat)] 0) := (hE'.step hC1 fun i hi => by have := e hi; omega).step hC2 fun i hi => by have := e' hi; omega
    have mm := (m2.same (hC1.block km (mp_lt m2) fun hi => hma (e hi)))
    refine ⟨hE.trans hEE, hk.ext hEE, hr.ext hEE, ?_, ?_, mm.same (hC2.block km (mp_lt mm) fun hi => hmb (e' hi)), hw.ext hEE, WOk.nil up, by omega, by simp, by omega, by simp⟩
    · have := s1.chg hC2 (fun hi => hab (e' hi))
      simpa using this
    · simpa using s2
  exact base
end Go.Proofs.Ytlbokiaolmflaaa
