/- Raster: the colours of an image, each once; the program's map, the document's list. -/
import Derived.Test.YtombfebgojeliaaBR3
namespace Go.Proofs.Ytombfebgojeliaa
open Go Go.Vc Go.RowKit
set_option maxRecDepth 100000
set_option linter.unusedVariables false
set_option linter.unusedSimpArgs false

def addC (l : List Co) (c : Co) : List Co := if c ∈ l then l else l ++ [c]
def distX (xs : List Int) : Nat → List Co
  | 0 => []
  | n + 1 => addC (distX xs n) (colAt xs n)
theorem distX_succ (xs : List Int) (n : Nat) : distX xs (n + 1) = addC (distX xs n) (colAt xs n) := rfl
theorem addC_length (l : List Co) (c : Co) : (addC l c).length ≤ l.length + 1 := by unfold addC; split <;> simp
theorem distX_length (xs : List Int) : ∀ n, (distX xs n).length ≤ n
  | 0 => by simp [distX]
  | n + 1 => by have := addC_length (distX xs n) (colAt xs n); have := distX_length xs n; rw [distX_succ]; omega
theorem mem_addC (l : List Co) (c : Co) : c ∈ addC l c := by unfold addC; split <;> simp_all
theorem distX_mem (xs : List Int) (n : Nat) : colAt xs n ∈ distX xs (n + 1) := mem_addC _ _
theorem addC_old {l : List Co} {c : Co} (h : c ∈ l) : addC l c = l := by simp [addC, h]
theorem addC_new {l : List Co} {c : Co} (h : c ∉ l) : addC l c = l ++ [c] := by simp [addC, h]
/-- the colours answered -/
def distR (W H : Int) (xs : List Int) : List Co := if good W H xs then distX xs (W * H).toNat else []
theorem co_inj {a b : Co} : (decide (a.1 = b.1) && (decide (a.2.1 = b.2.1) && (decide (a.2.2.1 = b.2.2.1) && (decide (a.2.2.2 = b.2.2.2) && true)))) = decide (a = b) := by
  obtain ⟨a1, a2, a3, a4⟩ := a; obtain ⟨b1, b2, b3, b4⟩ := b
  rw [Bool.eq_iff_iff]; simp
/-! ## lists of colours -/
theorem cos_elem {N : Nat} {w : World} {p : Option Addr} {len : Nat} {l : List Co} {F : Addr → Prop} (h : Sl N w p (cos l)) (hl : l.length = len) {i : Int} (h0 : 0 ≤ i) (h1 : i < len)
    (hF : ∀ a : Addr, w.cell? a = some (u16 (l.getD i.toNat zeroC).1) → w.cell? (a.add 1) = some (u16 (l.getD i.toNat zeroC).2.1) → w.cell? (a.add 2) = some (u16 (l.getD i.toNat zeroC).2.2.1) → w.cell? (a.add 3) = some (u16 (l.getD i.toNat zeroC).2.2.2) → F a) : idx p len i 4 F := by
  have hlt : i.toNat < l.length := by omega
  refine h.elem (f := co) (fun _ => rfl) (by omega) h0 hl (List.getElem?_eq_getElem hlt) fun c hc => ?_
  have e : l.getD i.toNat zeroC = l[i.toNat] := by simp [List.getD, hlt]
  rw [e] at hF
  have h0 := hc 0 _ rfl
  rw [add_zero'] at h0
  exact hF c h0 (hc 1 _ rfl) (hc 2 _ rfl) (hc 3 _ rfl)
/-! ## the program's map -/
abbrev kdC : Kd := .agg [.u16, .u16, .u16, .u16]
def kvC (l : List Co) : List (Value × Value) := l.map fun c => (.agg (co c).toArray, .agg #[])
theorem keyEq_co (a b : Co) : keyEq (.agg (co a).toArray) (.agg (co b).toArray) = decide (a = b) := by
  have := keyEq_iff (kd := kdC) (u := .agg (co a).toArray) (v := .agg (co b).toArray) rfl rfl
  rw [Bool.eq_iff_iff, this]
  obtain ⟨a1, a2, a3, a4⟩ := a; obtain ⟨b1, b2, b3, b4⟩ := b
  simp [co]
theorem mfind_co (c : Co) : ∀ l : List Co, mfind (.agg (co c).toArray) (kvC l) = if c ∈ l then some (.agg #[]) else none
  | [] => rfl
  | d :: l => by
    have ih := mfind_co c l
    show (match keyEq (.agg (co c).toArray) (.agg (co d).toArray) with | true => some (Value.agg #[]) | false => mfind (.agg (co c).toArray) (kvC l)) = _
    rw [keyEq_co]
    by_cases h : c = d
    · simp [h]
    · simp [h, ih]
theorem mgot_co (c : Co) (l : List Co) : mgot (kvC l) (.agg (co c).toArray) (.agg #[]) = (.agg #[], decide (c ∈ l)) := by
  unfold mgot; rw [mfind_co]
  by_cases h : c ∈ l <;> simp [h]
theorem mput_co (c : Co) : ∀ l : List Co, c ∉ l → mput (.agg (co c).toArray) (.agg #[]) (kvC l) = kvC (l ++ [c])
  | [], _ => rfl
  | d :: l, h => by
    have ih := mput_co c l (fun hm => h (by simp [hm]))
    show (match keyEq (.agg (co c).toArray) (.agg (co d).toArray) with | true => ((Value.agg (co c).toArray, Value.agg #[]) :: kvC l) | false => (Value.agg (co d).toArray, Value.agg #[]) :: mput (.agg (co c).toArray) (.agg #[]) (kvC l)) = (Value.agg (co d).toArray, Value.agg #[]) :: kvC (l ++ [c])
    rw [keyEq_co]
    have : c ≠ d := fun e => h (by simp [e])
    simp [this, ih]
theorem pixNext {W H y x : Int} (h0 : 0 ≤ y) (h1 : 0 ≤ x) : (y * W + (x + 1)) = y * W + x + 1 := by omega
end Go.Proofs.Ytombfebgojeliaa
