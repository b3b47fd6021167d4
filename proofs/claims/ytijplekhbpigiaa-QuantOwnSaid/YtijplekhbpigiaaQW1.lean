/- Quant: what an answer of two slices adds to the things that are kept apart. -/
import Derived.Test.YtijplekhbpigiaaQL5
namespace Go.Proofs.Ytijplekhbpigiaa
open Go Go.Vc Go.RowKit Go.Qn
set_option maxRecDepth 100000
set_option linter.unusedVariables false
set_option linter.unusedSimpArgs false

section
variable {w u u' : World} {f : Nat → Nat} {L : List Nat} {l : List Tg}
open Classical in
theorem Ths.pald {i j : Nat} {p q : Option Addr} {n c m d : Nat} {pal : List Co} {ix : List Int} (h : Ths w u f L l) (hP : Pald u u' p n c pal q m d ix) (hi : i ≠ 0) (hj : j ≠ 0) (hij : i ≠ j) :
    ∃ f', Ths w u' f' L (⟨i, p, n, c, 4, cos pal⟩ :: ⟨j, q, m, d, 1, bytes ix⟩ :: l) := by
  obtain ⟨S1, S2, a1, a2, a3, o1, o2⟩ := hP.two
  have hE := hP.ext
  have hw := h.pal.ext.size
  refine ⟨fun b => if b < u.heap.size then f b else if S1 b then i else j, ⟨h.pal.ext.trans hE, fun b hb => ?_⟩, fun t ht => ?_⟩
  · have := h.pal.av b hb
    refine ⟨this.1, Nat.lt_of_lt_of_le this.2.1 hE.size, ?_⟩
    simp only [this.2.1, if_true]; exact this.2.2
  · rcases List.mem_cons.1 ht with rfl | ht
    · refine ⟨hi, OwnS.mono o1.own fun b hb hlt => ?_⟩
      have := a1 b hb
      refine ⟨?_, by omega, hlt⟩
      simp only [show ¬ b < u.heap.size by omega, if_false, hb, if_true]
    · rcases List.mem_cons.1 ht with rfl | ht
      · refine ⟨hj, OwnS.mono o2.own fun b hb hlt => ?_⟩
        have := a2 b hb
        refine ⟨?_, by omega, hlt⟩
        simp only [show ¬ b < u.heap.size by omega, if_false, show ¬ S1 b from fun hx => a3 b hx hb]
      · have h' := h.th t ht
        refine ⟨h'.1, Th.of (u' := u') (h'.2.ext (k := 0) hE) fun b hlt hf hge => ?_⟩
        rcases Nat.lt_or_ge b u.heap.size with g | g
        · simp only [g, if_true]
          rw [fOn_lt g] at hf; exact hf
        · rw [fOn_ge g] at hf; exact absurd hf.symm h'.1
theorem St.cols (h : Ths w u f L l) {c len cap : Nat} {p : Option Addr} {xs : List Co} (ht : (⟨c, p, len, cap, 4, cos xs⟩ : Tg) ∈ l) : Sl u.heap.size u p (cos xs) ∧ len = xs.length := by
  have := h.get ht
  have e := this.1
  simp only [cos_length] at e
  exact ⟨this.sl, by omega⟩
end
end Go.Proofs.Ytijplekhbpigiaa
