/- What the laws of lzw are handed. -/
import Derived.Test.YtlbokiaolmflaaaLZ18
import Derived.Test.YtlbokiaolmflaaaUpto
namespace Go.Proofs.Ytlbokiaolmflaaa
open Go Go.Vc Go.RowKit Go.ChangeShapes Go.WideShapes Go.Joins
set_option maxRecDepth 100000
set_option linter.unusedVariables false

theorem own_ : ownKnob Try.prog.godebug = none := by kernel_rfl
theorem laidOut : laidOutB Try.prog = true := by kernel_rfl
/-- bytes that are handed in -/
structure BytesOk (W : World) (b : Option Addr) (len cap : Nat) (xs : List Int) : Prop where
  long : len = xs.length
  cap : len ≤ cap
  sl : Sl W.heap.size W b (bytes xs)
  fit : Bs xs
theorem open_ints22' {H : Type} {enc : TypeId × Value → H} {W : World} {base : Nat} {v : Value} {d : DataW H} {p : List MemPlace} (hv : Value.okWide Try.prog W .any base 22 v) (h : DataW.Trod enc Try.prog W 0 (fun _ => true) true 22 v d p) :
    ∃ (b : Option Addr) (len cap : Nat) (xs : List Int), v = .slice b len cap ∧ BytesOk W b len cap xs ∧ SlLen d len := by
  obtain ⟨a, b, c, rfl⟩ := okWide_slice Try.underlying22 hv
  obtain ⟨fuel, h⟩ := h
  obtain ⟨b, len, cap, xs, e, h1, h2, h3, h4, h5⟩ := cell_ints Try.underlying22 Try.underlying5 (by kernel_rfl) h
  cases e
  exact ⟨_, _, _, xs, rfl, ⟨h1, h2, h3, fun n hn => wfu8 (h4 n hn)⟩, h5⟩
theorem open_uints22 {H : Type} {enc : TypeId × Value → H} {W : World} {base : Nat} {v : Value} {d : DataW H} {p : List MemPlace} (hv : Value.okWide Try.prog W .any base 22 v) (h : DataW.Trod enc Try.prog W 0 (fun _ => true) true 22 v d p)
    (hw : Rows.uptoBulk d ≤ 1048576) :
    ∃ (b : Option Addr) (len cap : Nat) (xs : List Int), v = .slice b len cap ∧ (BytesOk W b len cap xs ∧ len ≤ 1048576) := by
  obtain ⟨b, len, cap, xs, rfl, h1, h2⟩ := open_ints22' hv h
  have := bulk_slice h2
  exact ⟨b, len, cap, xs, rfl, h1, by omega⟩
/-! ## how long what is read may be -/
theorem lz_len {bs : List Int} {up : Bool} {cl w0 early : Nat} {most : Int} (hw1 : 1 ≤ w0) (hw2 : w0 ≤ 12) : ∀ (F : Nat) (s : LS), Inv cl s → s.pos ≤ 8 * bs.length → (lz bs up cl w0 early most F s).1.length ≤ 32768 * bs.length
  | 0, s, _, _ => by simp [lz]
  | F + 1, s, hi, hp => by
    rw [lz_step]
    have h1 := hi.long
    split
    · simp
    split
    · exact lz_len hw1 hw2 F _ (hi.clear hw1 hw2) (by simp only; omega)
    split
    · show s.out.length ≤ _
      omega
    split
    · simp
    split
    · simp
    · rename_i h2 h3 h4 h5 h6
      have nx := hi.nxt (early := early) h3 h4 h5
      exact lz_len hw1 hw2 F _ nx.inv (by rw [nx.pos]; omega)
theorem lzR_len {bs : List Int} {cl w0 : Nat} {up : Bool} {early : Nat} {most : Int} (hcl : cl ≤ 256) (hc4 : 4 ≤ cl) (hw1 : 1 ≤ w0) (hw2 : w0 ≤ 12) : (lzR bs cl w0 up early most).1.length ≤ 32768 * bs.length :=
  lz_len hw1 hw2 _ _ ⟨hcl, hc4, hw1, hw2, by simp [initS]; omega, rfl, by simp [initS], by simp [initS], fun _ => rfl, by simp [initS, Bs], by simp [initS]⟩ (by simp [initS])
theorem gifR_len {bs : List Int} {size most : Int} : (gifR bs size most).1.length ≤ 32768 * bs.length := by
  unfold gifR
  split
  · simp
  · obtain ⟨n, rfl⟩ := Int.eq_ofNat_of_zero_le (show 0 ≤ size by omega)
    have hp := pow8 n (by omega) (by omega)
    exact lzR_len hp.2 hp.1 (by omega) (by omega)
theorem tiffR_len {bs : List Int} {most : Int} : (tiffR bs most).1.length ≤ 32768 * bs.length := lzR_len (by omega) (by omega) (by omega) (by omega)
theorem rl_len (most : Int) : ∀ (F : Nat) (bs out : List Int), (rl most F bs out).1.length ≤ out.length + 256 * bs.length
  | 0, bs, out => by simp [rl]
  | F + 1, [], out => by simp [rl_nil]
  | F + 1, b :: r, out => by
    rw [rl_cons]
    simp only [List.length_cons]
    split
    · split
      · simp
      split
      · simp
      · have := rl_len most F (r.drop (b + 1).toNat) (out ++ r.take (b + 1).toNat)
        simp only [List.length_append, List.length_take, List.length_drop] at this
        omega
    split
    · have := rl_len most F r out
      omega
    · rename_i h1 h2
      cases r with
      | nil => simp
      | cons x r' =>
        simp only
        split
        · simp
        · have := rl_len most F r' (out ++ List.replicate (257 - b).toNat x)
          simp only [List.length_append, List.length_replicate] at this
          simp only [List.length_cons]
          omega
theorem runR_len {bs : List Int} {most : Int} : (runR bs most).1.length ≤ 256 * bs.length := by
  have := rl_len (max most 0) bs.length bs []
  simpa [runR] using this
end Go.Proofs.Ytlbokiaolmflaaa
