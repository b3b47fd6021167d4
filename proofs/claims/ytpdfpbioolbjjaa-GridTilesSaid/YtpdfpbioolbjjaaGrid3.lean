/- What grid's loops over functions hand out: told by an invariant over the count of what came. -/
import Derived.Test.YtpdfpbioolbjjaaGridArgs
namespace Go.Proofs.Ytpdfpbioolbjjaa
open Go Go.Vc Go.RowKit
set_option maxRecDepth 100000
set_option linter.unusedVariables false
set_option linter.unusedSimpArgs false

theorem yield_mono {F : Fence} {m : Nat} {P : Program} {l : Nat} {args : Array Value} {W : World} {R R' : Ending → World → Prop} (h : YieldAt F m P l args W R) (hr : ∀ e w, R e w → R' e w) : YieldAt F m P l args W R' := by
  obtain ⟨fn, tmps, assign, body, hy, hR⟩ := h
  exact ⟨fn, tmps, assign, body, hy, hR.mono hr⟩
theorem callF_i {P : Program} {f : FuncId} {first caps : Array Value} {args : List Value} {w : World} {R : Ending → World → Prop} (hok : FnOk P f = true) (h : Calls P f (first.toList ++ args ++ caps.toList).toArray w R) : callF P (.func (.func f) first caps) args w R := by
  unfold callF
  simp only [hok]
  exact h
/-- what a round may answer: go on, or stop -/
def Goes (go : World → Prop) (R : Ending → World → Prop) (e : Ending) (w : World) : Prop :=
  (e = .returned (.bool true) ∧ go w) ∨ (e = .returned (.bool false) ∧ R (.returned (.tuple #[])) w)

def rowL (xs : List Int) (W : Int) (k : Nat) : List Int := (xs.drop (k * W).toNat).take W.toNat
theorem rowL_at {W H n k : Int} (hW0 : 1 ≤ W) (hW : W ≤ 4096) (hH : H ≤ 4096) (hn : W * H = n) (h0 : 0 ≤ k) (h1 : k < H) :
    0 ≤ k * W ∧ (k + 1) * W = k * W + W ∧ k * W + W ≤ n ∧ n ≤ 16777216 := by
  have a : 0 ≤ k * W := Int.mul_nonneg (by omega) (by omega)
  have b' : W * H ≤ 4096 * 4096 := Int.mul_le_mul hW hH (by omega) (by omega)
  have e : (k + 1) * W = k * W + W := by rw [Int.add_mul]; omega
  refine ⟨a, e, ?_, by omega⟩
  rw [← e, ← hn, Int.mul_comm W H]
  exact Int.mul_le_mul_of_nonneg_right (by omega) (by omega)
theorem rowL_length {xs : List Int} {W : Int} {k : Nat} (h0 : 0 ≤ (k : Int) * W) (h1 : (k : Int) * W + W ≤ xs.length) (hW : 0 ≤ W) : (rowL xs W k).length = W.toNat := by
  simp only [rowL, List.length_take, List.length_drop]; omega
theorem Rows_iter {w : World} {fr : Addr} {yl : Nat} {q : Option Addr} {gb cb : Nat} {W H : Int} (J : Nat → List Int → World → Prop) {xs0 : List Int} {R : Ending → World → Prop}
    (hJ : ∀ k xs w, J k xs w → w.cell? fr = some (.pointer q) ∧ GridAt w q gb cb W H (ints xs)) (h0 : J 0 xs0 w)
    (hy : ∀ (k : Nat) xs w0 w' p c, (k : Int) < H → J k xs w0 → Ext w0 w' → Ow w0.heap.size w'.heap.size w' p W.toNat c 1 (ints (rowL xs W k)) →
      YieldAt Fence.wide 0 P yl #[i64 k, .slice p W.toNat c] w' (Goes (fun w'' => ∃ xs', J (k + 1) xs' w'') R))
    (hend : ∀ xs w', J H.toNat xs w' → R (.returned (.tuple #[])) w') :
    Calls P F.grid_Grid_int_Rows_fn1 #[.func (.yield yl) #[] #[], .pointer (some fr)] w R := by
  refine calls_grid_Grid_int_Rows_fn1 _ _ _ _ ?_
  obtain ⟨hc0, hg0⟩ := hJ _ _ _ h0
  have hd := hg0.dims
  refine ⟨_, hc0, H_spec hg0 ⟨_, rfl, fun vs w' => match vs with | [.int _ k] => 0 ≤ k ∧ k ≤ H ∧ ∃ xs, J k.toNat xs w' | _ => False,
    fun vs _ => match vs with | [.int _ k] => (H - k).toNat | _ => 0, ⟨Int.le_refl _, by omega, _, h0⟩, fun k w2 hI => ?_⟩⟩
  obtain ⟨k0, k1, xs, hI⟩ := hI
  obtain ⟨hc, hg⟩ := hJ _ _ _ hI
  refine brB_i (fun hlt => ?_) (fun hge => ?_)
  · have hlt : k < H := by simpa using hlt
    have hlen := hg.len
    have hd := hg.dims
    rw [ints_length] at hlen hd
    have hsl := hg.sl
    obtain ⟨rest, h3, h4⟩ := hg.cells
    obtain ⟨a1, a2, a3, a4⟩ := rowL_at hd.1 hd.2.2.1 hd.2.2.2.1 hlen k0 hlt
    refine ⟨_, hc, nn_i hg.ptr ⟨_, _, _, h3.drew.cell (i := 2) rfl, _, hc, nn_i hg.ptr ⟨_, h3.drew.cell (i := 0) rfl, _, hc, nn_i hg.ptr ⟨_, h3.drew.cell (i := 0) rfl, ?_⟩⟩⟩⟩
    rw [w64 (x := k * W) (by omega) (by omega), w64 (x := k + 1) (by omega) (by omega), w64 (x := (k + 1) * W) (by omega) (by omega)]
    refine ⟨a1, by omega, by rw [ints_length]; omega, ?_⟩
    have hkk : (k.toNat : Int) = k := by omega
    have hrow : (rowL xs W k.toNat).length = W.toNat := rowL_length (by rw [hkk]; omega) (by rw [hkk]; omega) (by omega)
    have hp : Sl w2.drew.heap.size w2.drew (slcBase (some ⟨cb, 0, none⟩) (k * W).toNat ((ints xs).length + rest.length) 1) (ints (rowL xs W k.toNat)) := by
      refine ((hsl.drew).up).part (by omega) ?_
      rw [rowL, hkk]
      simp only [ints, List.map_take, List.map_drop]
      exact List.take_prefix _ _
    rw [show ((k + 1) * W).toNat - (k * W).toNat = W.toNat by omega]
    refine clone_spec hp hrow.symm (by omega) fun p c w3 hE3 ho => ⟨_, _, _, rfl, ?_⟩
    have := hy k.toNat xs w2 w3 p c (by omega) hI ((Ext.refl w2).drew.trans hE3) ho
    rw [hkk] at this
    refine yield_mono this fun e w4 he => ?_
    rcases he with ⟨rfl, xs', he⟩ | ⟨rfl, he⟩
    · refine ⟨_, rfl, brB_f rfl ⟨?_, ?_⟩⟩
      · exact ⟨by omega, by omega, xs', by rw [show (k + 1).toNat = k.toNat + 1 by omega]; exact he⟩
      · show (H - (k + 1)).toNat < (H - k).toNat
        omega
    · exact ⟨_, rfl, brB_t rfl he⟩
  · have hge : k = H := by simp at hge; omega
    subst hge
    exact hend xs w2 hI
theorem Rows_spec {w : World} {q : Option Addr} {R : Ending → World → Prop} (hR : ∀ k w', Ext w w' → w.heap.size ≤ k → Cs w' k [.pointer q] → R (.returned (.func (.func F.grid_Grid_int_Rows_fn1) #[] #[.pointer (some ⟨k, 0, none⟩)])) w') :
    Calls P F.grid_Grid_int_Rows #[.pointer q] w R := by
  refine calls_grid_Grid_int_Rows _ _ _ fun k1 w1 hn => ?_
  exact hR k1 w1 hn.ext (Nat.le_of_eq hn.1.symm) hn.cs

/-! ## All cells -/
theorem All_iter {w : World} {fr : Addr} {yl : Nat} {q : Option Addr} {gb cb : Nat} {W H : Int} (J : Nat → List Int → World → Prop) {xs0 : List Int} {R : Ending → World → Prop}
    (hJ : ∀ k xs w, J k xs w → w.cell? fr = some (.pointer q) ∧ GridAt w q gb cb W H (ints xs)) (h0 : J 0 xs0 w.drew)
    (hy : ∀ (k : Nat) xs w0, (k : Int) < W * H → J k xs w0 →
      YieldAt Fence.wide 0 P yl #[.agg #[i64 (k % W), i64 (k / W)], i64 (xs.getD k 0)] w0.drew (Goes (fun w'' => ∃ xs', J (k + 1) xs' w'') R))
    (hend : ∀ xs w', J (W * H).toNat xs w' → R (.returned (.tuple #[])) w') :
    Calls P F.grid_Grid_int_All_fn1 #[.func (.yield yl) #[] #[], .pointer (some fr)] w R := by
  refine calls_grid_Grid_int_All_fn1 _ _ _ _ ?_
  obtain ⟨hc0, hg0⟩ := hJ _ _ _ h0
  have hd := hg0.dims
  have hwm := wrapmul hd.1 hd.2.1 hd.2.2.1 hd.2.2.2.1
  have hpos : 0 < W * H := Int.mul_pos (by omega) (by omega)
  have hlen := hg0.len
  refine ⟨_, hc0, _, hc0, W_spec hg0 ⟨_, rfl, Keeps.refl _, H_spec hg0 ⟨_, rfl, fun vs w' => match vs with | [.int _ k] => 0 ≤ k ∧ k ≤ W * H ∧ ∃ xs, J k.toNat xs w' | _ => False,
    fun vs _ => match vs with | [.int _ k] => (W * H - k).toNat | _ => 0, ⟨Int.le_refl _, by omega, _, h0⟩, fun k w2 hI => ?_⟩⟩⟩
  obtain ⟨k0, k1, xs, hI⟩ := hI
  obtain ⟨hc, hg⟩ := hJ _ _ _ hI
  rw [hwm]
  refine brB_i (fun hlt => ?_) (fun hge => ?_)
  · have hlt : k < W * H := by simpa using hlt
    have hlen := hg.len
    rw [ints_length] at hlen
    have hsl := hg.sl
    obtain ⟨rest, h3, h4⟩ := hg.cells
    refine ⟨_, hc, nn_i hg.ptr ⟨_, h3.drew.cell (i := 0) rfl, by omega, _, hc, nn_i hg.ptr ⟨_, h3.drew.cell (i := 0) rfl, by omega, _, hc, nn_i hg.ptr ⟨_, _, _, h3.drew.cell (i := 2) rfl, ?_⟩⟩⟩⟩
    refine hsl.drew.get k0 rfl (ints_get (by omega)) fun a hca => ⟨_, hca, ?_⟩
    have hkk : (k.toNat : Int) = k := by omega
    have := hy k.toNat xs w2 (by omega) hI
    rw [hkk] at this
    have hq : k / W ≤ k := Int.ediv_le_self _ k0
    have hq0 : 0 ≤ k / W := Int.ediv_nonneg k0 (by omega)
    rw [show divZ .rem .i64 k W = k % W by simp only [divZ]; exact Int.tmod_eq_emod_of_nonneg k0,
      show divZ .quo .i64 k W = k / W by simp only [divZ]; rw [Int.tdiv_eq_ediv_of_nonneg k0]; exact w64 (by omega) (by omega)]
    refine yield_mono this fun e w4 he => ?_
    rcases he with ⟨rfl, xs', he⟩ | ⟨rfl, he⟩
    · refine ⟨_, rfl, brB_f rfl ⟨?_, ?_⟩⟩
      · rw [w64 (by omega) (by omega)]
        exact ⟨by omega, by omega, xs', by rw [show (k + 1).toNat = k.toNat + 1 by omega]; exact he⟩
      · rw [w64 (by omega) (by omega)]
        show (W * H - (k + 1)).toNat < (W * H - k).toNat
        omega
    · exact ⟨_, rfl, brB_t rfl he⟩
  · have hge : k = W * H := by simp at hge; omega
    subst hge
    exact hend xs w2 hI
theorem All_spec {w : World} {q : Option Addr} {R : Ending → World → Prop} (hR : ∀ k w', Ext w w' → w.heap.size ≤ k → Cs w' k [.pointer q] → R (.returned (.func (.func F.grid_Grid_int_All_fn1) #[] #[.pointer (some ⟨k, 0, none⟩)])) w') :
    Calls P F.grid_Grid_int_All #[.pointer q] w R := by
  refine calls_grid_Grid_int_All _ _ _ fun k1 w1 hn => ?_
  exact hR k1 w1 hn.ext (Nat.le_of_eq hn.1.symm) hn.cs
end Go.Proofs.Ytpdfpbioolbjjaa
