/- LZW: GIF's and TIFF's packers; spoil. -/
import Derived.Test.YtlbokiaolmflaaaLZ13
namespace Go.Proofs.Ytlbokiaolmflaaa
open Go Go.Vc Go.RowKit
set_option maxRecDepth 100000
set_option linter.unusedVariables false
set_option linter.unusedSimpArgs false

def fitsB (bs : List Int) (size : Int) : Bool := bs.all fun x => decide (x < 2 ^ size.toNat)
def gifPackR (bs : List Int) (size : Int) : List Int × Int := if size < 2 ∨ size > 8 then ([], 2) else if fitsB bs size then (packL bs (2 ^ size.toNat) (size.toNat + 1) 0 false, 0) else ([], 2)
def tiffPackR (bs : List Int) : List Int := packL bs 256 9 1 true
theorem fitsB_iff {bs : List Int} {size : Int} : fitsB bs size = true ↔ ∀ i, i < bs.length → bs.getD i 0 < 2 ^ size.toNat := by
  unfold fitsB
  rw [List.all_eq_true]
  constructor
  · intro h i hi
    have := h (bs.getD i 0) (by simp [List.getD, List.getElem?_eq_getElem hi])
    simpa using this
  · intro h x hx
    obtain ⟨i, hi, rfl⟩ := List.getElem_of_mem hx
    have := h i hi
    simpa [List.getD, List.getElem?_eq_getElem hi] using this
section
variable {N : Nat} {size : Int} {w : World} {base : Option Addr} {len cap : Nat} {bs : List Int} {R : Ending → World → Prop}
theorem TiffPack_spec (h : Sl N w base (bytes bs)) (hl : len = bs.length) (hsz : len ≤ 2 ^ 24) (hf : Bs bs)
    (hR : ∀ p l c w', Fg [] w w' 1 p l c (bytes (tiffPackR bs)) → R (.returned (.slice p l c)) w') :
    Calls P F.lzw_TiffPack #[.slice base len cap] w R := by
  refine calls_lzw_TiffPack _ _ _ _ _ ?_
  refine tiff_spec fun w1 hE1 => ⟨_, _, _, _, rfl, ?_⟩
  exact packK_spec (cl := 256) (w0 := 9) (early := 1) (h.ext hE1) hl hsz hf (by omega) (by omega) (by omega) (by omega) fun p l c w2 hF => ⟨_, _, _, rfl, hR p l c w2 (hF.from (bs := []) hE1 (by simp))⟩
theorem GifPack_spec (h : Sl N w base (bytes bs)) (hl : len = bs.length) (hsz : len ≤ 2 ^ 24) (hf : Bs bs)
    (hR : ∀ p l c w', Fg [] w w' 1 p l c (bytes (gifPackR bs size).1) → R (.returned (.tuple #[.slice p l c, i64 (gifPackR bs size).2])) w') :
    Calls P F.lzw_GifPack #[.slice base len cap, i64 size] w R := by
  refine calls_lzw_GifPack _ _ _ _ _ _ ?_
  refine brB_i (fun hb => ?_) (fun hb => ?_)
  · have hb : size < 2 ∨ size > 8 := by simpa using hb
    rw [gifPackR, if_pos hb] at hR
    exact hR none 0 0 w (Fg.nil (Ext.refl w) 1)
  have hb : ¬ (size < 2 ∨ size > 8) := by simpa using hb
  rw [gifPackR, if_neg hb] at hR
  obtain ⟨n, rfl⟩ := Int.eq_ofNat_of_zero_le (show 0 ≤ size by omega)
  rw [Int.toNat_natCast] at hR
  have hp := pow8 n (by omega) (by omega)
  refine ⟨fun vs u => match vs with | [.int _ k] => ∃ i : Nat, k = i ∧ i ≤ bs.length ∧ Ext w u ∧ ∀ j, j < i → bs.getD j 0 < 2 ^ n | _ => False, fun vs _ => match vs with | [.int _ k] => (bs.length - k).toNat | _ => 0, ⟨0, rfl, by omega, Ext.refl w, by simp⟩, fun k w1 hI => ?_⟩
  obtain ⟨i, rfl, hi, hE1, hall⟩ := hI
  have e2 : ((2 : Int) ^ n) = ((2 ^ n : Nat) : Int) := by simp
  refine brB_i (fun hlt => ?_) (fun hge => ?_)
  · have hlt : (i : Int) < len := by simpa using hlt
    have hil : i < bs.length := by omega
    have hxr : 0 ≤ bs.getD i 0 ∧ bs.getD i 0 ≤ 255 := by
      obtain ⟨v, h1, h2⟩ := getD_fit hf i
      omega
    refine (h.ext hE1).get (by omega) (by rw [bytes_length]; omega) (v := u8 (bs.getD i 0)) (by rw [Int.toNat_natCast, bytes_get hil]) fun a ha => ⟨_, ha, by omega, ?_⟩
    rw [w64 (x := bs.getD i 0) (by omega) (by omega), shl8 n (by omega)]
    refine brB_i (fun hb2 => ?_) (fun hb2 => ?_)
    · have hb2 : bs.getD i 0 ≥ ((2 ^ n : Nat) : Int) := by simpa using hb2
      have : fitsB bs (n : Int) = false := by
        rw [← Bool.not_eq_true, fitsB_iff]
        intro hh
        have := hh i hil
        rw [Int.toNat_natCast] at this; omega
      rw [this] at hR
      exact hR none 0 0 w1 (Fg.nil hE1 1)
    · have hb2 : ¬ bs.getD i 0 ≥ ((2 ^ n : Nat) : Int) := by simpa using hb2
      rw [w64 (by omega) (by omega)]
      refine ⟨⟨i + 1, by omega, by omega, hE1, fun j hj => ?_⟩, by show ((bs.length : Int) - (i + 1)).toNat < ((bs.length : Int) - i).toNat; omega⟩
      by_cases hji : j < i
      · exact hall j hji
      · have : j = i := by omega
        subst this; omega
  · have hge : ¬ (i : Int) < len := by simpa using hge
    have : fitsB bs (n : Int) = true := by
      rw [fitsB_iff, Int.toNat_natCast]
      exact fun j hj => hall j (by omega)
    rw [this] at hR
    simp only [if_true] at hR
    refine gif_spec (by omega) (by omega) fun w2 hE2 => ⟨_, _, _, _, rfl, ?_⟩
    have hE := hE1.trans hE2
    exact packK_spec (early := 0) (h.ext hE) hl hsz hf hp.2 (by omega) (by omega) (by omega) fun p l c w3 hF => ⟨_, _, _, rfl, hR p l c w3 (hF.from (bs := []) hE (by simp))⟩
end
end Go.Proofs.Ytlbokiaolmflaaa
