/- Quant: an image of few solid colours of eight bits comes back: the plain law. -/
import Derived.Test.YtijplekhbpigiaaQP4
namespace Go.Proofs.Ytijplekhbpigiaa
open Go Go.Vc Go.RowKit Go.Qn
set_option maxRecDepth 100000
set_option linter.unusedVariables false
set_option linter.unusedSimpArgs false

theorem nearN_min (l : List Co) (c : Co) : ∀ n j, j < n → farV (l.getD (nearN l c n).toNat zeroC) c ≤ farV (l.getD j zeroC) c
  | 0, j, h => by omega
  | n + 1, j, h => by
    have hr := nearN_range l c n
    have key : ∀ j, j < n → farV (l.getD (nearN l c n).toNat zeroC) c ≤ farV (l.getD j zeroC) c := fun j hj => nearN_min l c n j hj
    unfold nearN
    split
    · rename_i h0
      have : n = 0 := by omega
      subst this
      obtain rfl : j = 0 := by omega
      exact Int.le_refl _
    · split
      · rename_i h1
        rw [show ((n : Int)).toNat = n by omega]
        rcases Nat.lt_or_ge j n with g | g
        · have := key j g; omega
        · rw [show j = n by omega]; exact Int.le_refl _
      · rename_i h1
        rcases Nat.lt_or_ge j n with g | g
        · exact key j g
        · rw [show j = n by omega]; omega
theorem sq_nn (x : Int) : 0 ≤ x * x := by
  rcases Int.le_total 0 x with h | h
  · exact Int.mul_nonneg h h
  · exact Int.mul_nonneg_of_nonpos_of_nonpos h h
theorem sq_zero {x : Int} (h : x * x = 0) : x = 0 := by
  rcases Int.mul_eq_zero.1 h with h | h <;> exact h
theorem sq_le {x : Int} (h1 : -65535 ≤ x) (h2 : x ≤ 65535) : x * x ≤ 4294836225 := by
  rcases Int.le_total 0 x with h | h
  · have := Int.mul_le_mul h2 h2 h (by omega); omega
  · have := Int.mul_le_mul (show -x ≤ 65535 by omega) (show -x ≤ 65535 by omega) (by omega) (by omega)
    rw [Int.neg_mul_neg] at this; omega
theorem far_eq {p c : Co} (hp : CoOk p) (hc : CoOk c) : farV p c = (p.1 - c.1) * (p.1 - c.1) + (p.2.1 - c.2.1) * (p.2.1 - c.2.1) + (p.2.2.1 - c.2.2.1) * (p.2.2.1 - c.2.2.1) := by
  obtain ⟨⟨a1, a2⟩, ⟨a3, a4⟩, ⟨a5, a6⟩, _⟩ := hp
  obtain ⟨⟨b1, b2⟩, ⟨b3, b4⟩, ⟨b5, b6⟩, _⟩ := hc
  unfold farV wr
  rw [w64 (x := p.1) (by omega) (by omega), w64 (x := c.1) (by omega) (by omega), w64 (x := p.2.1) (by omega) (by omega), w64 (x := c.2.1) (by omega) (by omega), w64 (x := p.2.2.1) (by omega) (by omega), w64 (x := c.2.2.1) (by omega) (by omega)]
  rw [w64 (x := p.1 - c.1) (by omega) (by omega), w64 (x := p.2.1 - c.2.1) (by omega) (by omega), w64 (x := p.2.2.1 - c.2.2.1) (by omega) (by omega)]
  have n1 := sq_nn (p.1 - c.1); have n2 := sq_nn (p.2.1 - c.2.1); have n3 := sq_nn (p.2.2.1 - c.2.2.1)
  have l1 := sq_le (x := p.1 - c.1) (by omega) (by omega); have l2 := sq_le (x := p.2.1 - c.2.1) (by omega) (by omega); have l3 := sq_le (x := p.2.2.1 - c.2.2.1) (by omega) (by omega)
  generalize (p.1 - c.1) * (p.1 - c.1) = u at *
  generalize (p.2.1 - c.2.1) * (p.2.1 - c.2.1) = v at *
  generalize (p.2.2.1 - c.2.2.1) * (p.2.2.1 - c.2.2.1) = z at *
  rw [w64 (x := u) (by omega) (by omega), w64 (x := v) (by omega) (by omega), w64 (x := z) (by omega) (by omega), w64 (x := u + v) (by omega) (by omega), w64 (x := u + v + z) (by omega) (by omega)]
/-- a solid colour that is in the palette is found -/
theorem near_self {l : List Co} {c : Co} (hl : ∀ x, x ∈ l → CoOk x ∧ x.2.2.2 = 65535) (hc : c ∈ l) : 0 ≤ nearV l c ∧ nearV l c < l.length ∧ l.getD (nearV l c).toNat zeroC = c := by
  obtain ⟨j, hj, he⟩ := List.getElem_of_mem hc
  have hr := nearN_range l c l.length
  have hm := nearN_min l c l.length j hj
  have h0 := hr.2.2 (by omega)
  have hlt := hr.2.1
  have hg : l.getD j zeroC = c := by simp [List.getD, hj, he]
  rw [hg] at hm
  have hn := hl _ (getD_mem (l := l) (i := (nearN l c l.length).toNat) (by omega))
  have hcc := hl c hc
  rw [far_eq hn.1 hcc.1, far_eq hcc.1 hcc.1] at hm
  unfold nearV
  refine ⟨h0, hlt, ?_⟩
  generalize l.getD (nearN l c l.length).toNat zeroC = x at *
  obtain ⟨x1, x2, x3, x4⟩ := x
  obtain ⟨c1, c2, c3, c4⟩ := c
  simp only [Int.sub_self] at hm
  have n1 := sq_nn (x1 - c1); have n2 := sq_nn (x2 - c2); have n3 := sq_nn (x3 - c3)
  have z1 := sq_zero (x := x1 - c1) (by omega)
  have z2 := sq_zero (x := x2 - c2) (by omega)
  have z3 := sq_zero (x := x3 - c3) (by omega)
  have w1 := hn.2; have w2 := hcc.2
  simp only at w1 w2
  simp only [Prod.mk.injEq]
  exact ⟨by omega, by omega, by omega, by omega⟩
def whI (i : Nat) (v : Int) : Int := if i % 4 = 3 then 65535 else v / 257 * 257
def whX (xs : List Int) : List Int := (List.range xs.length).map fun i => whI i (xs.getD i 0)
theorem whX_length (xs : List Int) : (whX xs).length = xs.length := by simp [whX]
theorem whX_getD {xs : List Int} {i : Nat} (h : i < xs.length) : (whX xs).getD i 0 = whI i (xs.getD i 0) := by simp [whX, List.getD, h]
theorem whI_ok {i : Nat} {v : Int} (h : Byt v) : Byt (whI i v) := by
  unfold Byt at *
  unfold whI
  split <;> omega
theorem whX_ok {xs : List Int} (h : PxOk xs) : PxOk (whX xs) := fun x hx => by
  unfold whX at hx
  obtain ⟨i, _, rfl⟩ := List.mem_map.1 hx
  exact whI_ok (getD_ok h i)
theorem round_wh {v : Int} (h : Byt v) : roundV (v / 257 * 257) = v / 257 * 257 := by
  unfold Byt at h
  unfold roundV upV dnV
  omega
theorem wh_col {xs : List Int} {k : Nat} (h : PxOk xs) (hk : 4 * k + 3 < xs.length) : eightC (colAt (whX xs) k) = colAt (whX xs) k ∧ (colAt (whX xs) k).2.2.2 = 65535 := by
  unfold eightC colAt
  rw [whX_getD (by omega), whX_getD (by omega), whX_getD (by omega), whX_getD (by omega)]
  have e0 : whI (4 * k) (xs.getD (4 * k) 0) = xs.getD (4 * k) 0 / 257 * 257 := by unfold whI; rw [if_neg (by omega)]
  have e1 : whI (4 * k + 1) (xs.getD (4 * k + 1) 0) = xs.getD (4 * k + 1) 0 / 257 * 257 := by unfold whI; rw [if_neg (by omega)]
  have e2 : whI (4 * k + 2) (xs.getD (4 * k + 2) 0) = xs.getD (4 * k + 2) 0 / 257 * 257 := by unfold whI; rw [if_neg (by omega)]
  have e3 : whI (4 * k + 3) (xs.getD (4 * k + 3) 0) = 65535 := by unfold whI; rw [if_pos (by omega)]
  rw [e0, e1, e2, e3]
  exact ⟨by rw [round_wh (getD_ok h _), round_wh (getD_ok h _), round_wh (getD_ok h _)], rfl⟩
end Go.Proofs.Ytijplekhbpigiaa
