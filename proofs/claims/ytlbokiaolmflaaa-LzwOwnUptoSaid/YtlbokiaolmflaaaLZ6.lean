/- LZW: GIF's and TIFF's readers; runs. -/
import Derived.Test.YtlbokiaolmflaaaLZ5
namespace Go.Proofs.Ytlbokiaolmflaaa
open Go Go.Vc Go.RowKit
set_option maxRecDepth 100000
set_option linter.unusedVariables false
set_option linter.unusedSimpArgs false

def lzR (bs : List Int) (cl w0 : Nat) (up : Bool) (early : Nat) (most : Int) : List Int × Int := lz bs up cl w0 early (max most 0) (8 * bs.length + 1) (initS w0)
def gifR (bs : List Int) (size most : Int) : List Int × Int := if size < 2 ∨ size > 8 then ([], 2) else lzR bs (2 ^ size.toNat) (size.toNat + 1) false 0 most
def tiffR (bs : List Int) (most : Int) : List Int × Int := lzR bs 256 9 true 1 most
theorem shl8 : ∀ n : Nat, n < 9 → shiftZ .shl .i64 1 (n : Int) = ((2 ^ n : Nat) : Int) := by decide
theorem pow8 : ∀ n : Nat, 2 ≤ n → n < 9 → 4 ≤ 2 ^ n ∧ 2 ^ n ≤ 256 := by
  intro n h1 h2
  have : ∀ n : Nat, n < 9 → 2 ≤ n → 4 ≤ 2 ^ n ∧ 2 ^ n ≤ 256 := by decide
  exact this n h2 h1
theorem gif_spec {w : World} {n : Nat} {R : Ending → World → Prop} (h1 : 2 ≤ n) (h2 : n < 9)
    (hR : ∀ w', Ext w w' → R (.returned (.agg #[i64 (2 ^ n : Nat), i64 (n + 1 : Nat), .bool false, i64 0])) w') : Calls P F.lzw_gif #[i64 n] w R := by
  refine calls_lzw_gif _ _ _ ?_
  intro k1 hk1
  refine ⟨by omega, fun w1 hL => ?_⟩
  rw [shl8 n h2, w64 (by omega) (by omega)]
  exact hR w1 (hL.ext (by simpa using hk1))
theorem tiff_spec {w : World} {R : Ending → World → Prop}
    (hR : ∀ w', Ext w w' → R (.returned (.agg #[i64 256, i64 9, .bool true, i64 1])) w') : Calls P F.lzw_tiff #[] w R := by
  refine calls_lzw_tiff _ _ ?_
  intro k1 hk1 w1 hL
  exact hR w1 (hL.ext (by simpa using hk1))
section
variable {N : Nat} {most size : Int} {w : World} {base : Option Addr} {len cap : Nat} {bs : List Int} {R : Ending → World → Prop}
theorem GifUnpack_spec (h : Sl N w base (bytes bs)) (hl : len = bs.length) (hsz : len ≤ 2 ^ 24) (hf : Bs bs) (m0 : -9223372036854775808 ≤ most) (m1 : most ≤ 9223372036854775807)
    (hR : ∀ p l c w', Fg [] w w' 1 p l c (bytes (gifR bs size most).1) → R (.returned (.tuple #[.slice p l c, i64 (gifR bs size most).2])) w') :
    Calls P F.lzw_GifUnpack #[.slice base len cap, i64 size, i64 most] w R := by
  refine calls_lzw_GifUnpack _ _ _ _ _ _ _ ?_
  refine brB_i (fun hb => ?_) (fun hb => ?_)
  · have hb : size < 2 ∨ size > 8 := by simpa using hb
    rw [gifR, if_pos hb] at hR
    exact hR none 0 0 w (Fg.nil (Ext.refl w) 1)
  · have hb : ¬ (size < 2 ∨ size > 8) := by simpa using hb
    rw [gifR, if_neg hb] at hR
    obtain ⟨n, rfl⟩ := Int.eq_ofNat_of_zero_le (show 0 ≤ size by omega)
    rw [Int.toNat_natCast] at hR
    have hp := pow8 n (by omega) (by omega)
    refine gif_spec (by omega) (by omega) fun w1 hE1 => ⟨_, _, _, _, rfl, ?_⟩
    refine unpack_spec (early := 0) (h.ext hE1) hl hsz hf hp.2 hp.1 (by omega) (by omega) (by omega) (by omega) (by omega) fun p l c w2 hF => ⟨_, _, _, _, rfl, hR p l c w2 (hF.from (bs := []) hE1 (by simp))⟩
theorem TiffUnpack_spec (h : Sl N w base (bytes bs)) (hl : len = bs.length) (hsz : len ≤ 2 ^ 24) (hf : Bs bs) (m0 : -9223372036854775808 ≤ most) (m1 : most ≤ 9223372036854775807)
    (hR : ∀ p l c w', Fg [] w w' 1 p l c (bytes (tiffR bs most).1) → R (.returned (.tuple #[.slice p l c, i64 (tiffR bs most).2])) w') :
    Calls P F.lzw_TiffUnpack #[.slice base len cap, i64 most] w R := by
  refine calls_lzw_TiffUnpack _ _ _ _ _ _ ?_
  refine tiff_spec fun w1 hE1 => ⟨_, _, _, _, rfl, ?_⟩
  refine unpack_spec (cl := 256) (w0 := 9) (early := 1) (h.ext hE1) hl hsz hf (by omega) (by omega) (by omega) (by omega) (by omega) (by omega) (by omega) fun p l c w2 hF => ⟨_, _, _, _, rfl, hR p l c w2 (hF.from (bs := []) hE1 (by simp))⟩
theorem refGifUnpack_spec (h : Sl N w base (bytes bs)) (hl : len = bs.length) (hsz : len ≤ 2 ^ 24) (hf : Bs bs) (m0 : -9223372036854775808 ≤ most) (m1 : most ≤ 9223372036854775807)
    (hR : ∀ p l c w', Fg [] w w' 1 p l c (bytes (gifR bs size most).1) → R (.returned (.tuple #[.slice p l c, i64 (gifR bs size most).2])) w') :
    Calls P F.ref06_GifUnpack #[.slice base len cap, i64 size, i64 most] w R := by
  refine calls_ref06_GifUnpack _ _ _ _ _ _ _ ?_
  refine brB_i (fun hb => ?_) (fun hb => ?_)
  · have hb : size < 2 ∨ size > 8 := by simpa using hb
    rw [gifR, if_pos hb] at hR
    exact hR none 0 0 w (Fg.nil (Ext.refl w) 1)
  · have hb : ¬ (size < 2 ∨ size > 8) := by simpa using hb
    rw [gifR, if_neg hb] at hR
    obtain ⟨n, rfl⟩ := Int.eq_ofNat_of_zero_le (show 0 ≤ size by omega)
    rw [Int.toNat_natCast] at hR
    have hp := pow8 n (by omega) (by omega)
    rw [wu64 (by omega) (by omega), shl8 n (by omega), w64 (by omega) (by omega)]
    refine ⟨by omega, ?_⟩
    refine refUnpack_spec (w0 := n + 1) (early := 0) h hl hsz hf hp.2 hp.1 (by omega) (by omega) (by omega) m0 m1 fun p l c w2 hF => ⟨_, _, _, _, rfl, hR p l c w2 hF⟩
theorem refTiffUnpack_spec (h : Sl N w base (bytes bs)) (hl : len = bs.length) (hsz : len ≤ 2 ^ 24) (hf : Bs bs) (m0 : -9223372036854775808 ≤ most) (m1 : most ≤ 9223372036854775807)
    (hR : ∀ p l c w', Fg [] w w' 1 p l c (bytes (tiffR bs most).1) → R (.returned (.tuple #[.slice p l c, i64 (tiffR bs most).2])) w') :
    Calls P F.ref06_TiffUnpack #[.slice base len cap, i64 most] w R := by
  refine calls_ref06_TiffUnpack _ _ _ _ _ _ ?_
  exact refUnpack_spec (cl := 256) (w0 := 9) (early := 1) h hl hsz hf (by omega) (by omega) (by omega) (by omega) (by omega) m0 m1 fun p l c w2 hF => ⟨_, _, _, _, rfl, hR p l c w2 hF⟩
end

/-! ## Runs -/
/-- what bytes read as runs give -/
def rl (most : Int) : Nat → List Int → List Int → List Int × Int
  | 0, _, out => (out, 0)
  | F + 1, bs, out => match bs with
    | [] => (out, 0)
    | b :: r =>
      if b < 128 then (if (r.length : Int) < b + 1 then ([], 5) else if most < out.length + (b + 1) then ([], 3) else rl most F (r.drop (b + 1).toNat) (out ++ r.take (b + 1).toNat))
      else if b = 128 then rl most F r out
      else match r with
        | [] => ([], 5)
        | x :: r' => if most < out.length + (257 - b) then ([], 3) else rl most F r' (out ++ List.replicate (257 - b).toNat x)
theorem rl_cons (most : Int) (F : Nat) (b : Int) (r out : List Int) : rl most (F + 1) (b :: r) out = if b < 128 then (if (r.length : Int) < b + 1 then ([], 5) else if most < out.length + (b + 1) then ([], 3) else rl most F (r.drop (b + 1).toNat) (out ++ r.take (b + 1).toNat))
      else if b = 128 then rl most F r out
      else match r with
        | [] => ([], 5)
        | x :: r' => if most < out.length + (257 - b) then ([], 3) else rl most F r' (out ++ List.replicate (257 - b).toNat x) := rfl
theorem rl_nil (most : Int) (F : Nat) (out : List Int) : rl most F [] out = (out, 0) := by cases F <;> rfl
theorem slcc_sl {N : Nat} {w : World} {base : Option Addr} {xs : List Int} {len cap lo hi : Nat} {F : Option Addr → Nat → Nat → Prop} (h : Sl N w base (bytes xs)) (hl : len = xs.length) (hc : len ≤ cap) (h1 : lo ≤ hi) (h2 : hi ≤ len)
    (hF : ∀ p, Sl N w p (bytes ((xs.drop lo).take (hi - lo))) → F p (hi - lo) (cap - lo)) : slcc base cap (lo : Int) (hi : Int) 1 F := by
  refine ⟨by omega, by omega, by omega, ?_⟩
  rw [Int.toNat_natCast, Int.toNat_natCast]
  refine hF _ (h.part (by rw [bytes_length]; omega) ?_)
  refine ⟨(bytes xs).drop hi, ?_⟩
  have : bytes ((xs.drop lo).take (hi - lo)) = ((bytes xs).drop lo).take (hi - lo) := by simp [bytes, List.map_take, List.map_drop]
  rw [this]
  have e : (bytes xs).drop hi = ((bytes xs).drop lo).drop (hi - lo) := by rw [List.drop_drop]; congr 1; omega
  rw [e, List.take_append_drop]
theorem Bs.drop {xs : List Int} (h : Bs xs) (n : Nat) : Bs (xs.drop n) := fun m hm => h m (List.mem_of_mem_drop hm)
theorem Bs.take {xs : List Int} (h : Bs xs) (n : Nat) : Bs (xs.take n) := fun m hm => h m (List.mem_of_mem_take hm)
def runR (bs : List Int) (most : Int) : List Int × Int := rl (max most 0) bs.length bs []
theorem Unpack_spec {N : Nat} {most : Int} {w : World} {base : Option Addr} {len cap : Nat} {bs : List Int} {R : Ending → World → Prop} (h : Sl N w base (bytes bs)) (hl : len = bs.length) (hc : len ≤ cap) (hsz : len ≤ 2 ^ 24) (hf : Bs bs) (m1 : most ≤ 9223372036854775807)
    (hR : ∀ p l c w', Fg [] w w' 1 p l c (bytes (runR bs most).1) → R (.returned (.tuple #[.slice p l c, i64 (runR bs most).2])) w') :
    Calls P F.lzw_Unpack #[.slice base len cap, i64 most] w R := by
  refine calls_lzw_Unpack _ _ _ _ _ _ ?_
  unfold vc_lzw_Unpack
  have hm0 : 0 ≤ max most 0 := by omega
  have hm1 : max most 0 ≤ 9223372036854775807 := by omega
  generalize hres : runR bs most = res at hR
  unfold runR at hres
  generalize max most 0 = most at *
  refine ⟨fun vs u => match vs with | [.slice p1 k1 k2, .slice p2 k3 k4] => ∃ (rest out : List Int) (F : Nat), Bs rest ∧ Sl w.heap.size w p1 (bytes rest) ∧ k1 = rest.length ∧ k1 ≤ k2 ∧ rest.length ≤ F ∧ rl most F rest out = res ∧ Fg [] w u 1 p2 k3 k4 (bytes out) ∧ out.length + 128 * rest.length ≤ 2 ^ 40 | _ => False,
    fun vs _ => match vs with | [.slice p1 k1 k2, .slice p2 k3 k4] => k1 | _ => 0, ⟨bs, [], bs.length, hf, h.up, hl, hc, Nat.le_refl _, hres, Fg.nil (Ext.refl w) 1, by simp; omega⟩, ?_⟩
  intro p1 k1 k2 p2 k3 k4 w1 hI
  obtain ⟨rest, out, F, hrf, hsl, rfl, hcap, hF, hrl, hfg, hbd⟩ := hI
  have hk3 : k3 = out.length := by have := hfg.len; rwa [bytes_length] at this
  refine brB_i (fun hb => ?_) (fun hb => ?_)
  rotate_left
  · have hb : ¬ (rest.length : Int) > 0 := by simpa using hb
    have : rest = [] := List.length_eq_zero_iff.1 (by omega)
    subst this
    have : rl most F [] out = (out, 0) := by cases F <;> rfl
    rw [this] at hrl
    subst hrl
    exact hR _ _ _ _ hfg
  have hb : (rest.length : Int) > 0 := by simpa using hb
  obtain ⟨b, r, rfl⟩ : ∃ b r, rest = b :: r := by
    cases rest with
    | nil => simp at hb
    | cons b r => exact ⟨b, r, rfl⟩
  obtain ⟨G, rfl⟩ : ∃ G, F = G + 1 := ⟨F - 1, by simp at hF; omega⟩
  simp only [List.length_cons] at hF hbd hcap
  have hbr := hrf b (by simp)
  have hrr : Bs r := fun n hn => hrf n (by simp [hn])
  rw [rl_cons] at hrl
  refine (hsl.ext hfg.ext).get (by omega) (by simp [bytes]) (v := u8 b) rfl fun a ha => ⟨b, ha, ?_⟩
  refine slcc_sl (lo := 1) (hi := r.length + 1) hsl (by simp) hcap (by omega) (by simp) fun p3 hsl3 => ?_
  have e3 : ((b :: r).drop 1).take (r.length + 1 - 1) = r := by simp
  rw [e3] at hsl3
  have e4 : r.length + 1 - 1 = r.length := by omega
  rw [e4, w64 (x := b) (by omega) (by omega), w64 (x := b + 1) (by omega) (by omega), w64 (x := (257 : Int) - b) (by omega) (by omega), w64 (x := most - (k3 : Int)) (by omega) (by omega)]
  refine ⟨fun vs u => match vs with | [.slice p1 k1 k2, .slice p2 k3 k4] => ∃ (rest out : List Int) (F : Nat), Bs rest ∧ Sl w.heap.size w p1 (bytes rest) ∧ k1 = rest.length ∧ k1 ≤ k2 ∧ rest.length ≤ F ∧ rl most F rest out = res ∧ Fg [] w u 1 p2 k3 k4 (bytes out) ∧ out.length + 128 * rest.length ≤ 2 ^ 40 ∧ rest.length ≤ r.length | _ => False, ?_, fun p10 k20 k21 p11 k22 k23 w6 hI2 => ?_⟩
  rotate_left
  · obtain ⟨rest, out, F, h1, h2, rfl, h4, h5, h6, h7, h8, h9⟩ := hI2
    exact ⟨⟨rest, out, F, h1, h2, rfl, h4, h5, h6, h7, h8⟩, by show rest.length < r.length + 1; omega⟩
  refine brB_i (fun hb1 => ?_) (fun hb1 => ?_)
  · have hb1 : b < 128 := by simpa using hb1
    rw [if_pos hb1] at hrl
    refine brB_i (fun hb2 => ?_) (fun hb2 => ?_)
    · have hb2 : b + 1 > (r.length : Int) := by simpa using hb2
      rw [if_pos (by omega)] at hrl
      subst hrl
      exact hR none 0 0 _ (Fg.nil hfg.ext 1)
    have hb2 : ¬ b + 1 > (r.length : Int) := by simpa using hb2
    rw [if_neg (by omega)] at hrl
    refine brB_i (fun hb3 => ?_) (fun hb3 => ?_)
    · have hb3 : b + 1 > most - k3 := by simpa using hb3
      rw [if_pos (by omega)] at hrl
      subst hrl
      exact hR none 0 0 _ (Fg.nil hfg.ext 1)
    have hb3 : ¬ b + 1 > most - k3 := by simpa using hb3
    rw [if_neg (by omega)] at hrl
    obtain ⟨m, hm⟩ := Int.eq_ofNat_of_zero_le (show 0 ≤ b + 1 by omega)
    rw [hm] at hrl hb2 ⊢
    rw [Int.toNat_natCast] at hrl
    refine slcc_sl (lo := 0) (hi := m) hsl3 rfl (by omega) (by omega) (by omega) fun p4 hsl4 => ?_
    have e5 : (r.drop 0).take (m - 0) = r.take m := by simp
    rw [e5] at hsl4
    have htl : (r.take m).length = m := by rw [List.length_take]; omega
    refine ⟨bytes (r.take m), by rw [bytes_length, htl]; omega, bytes_oneAll _, (hsl4.ext hfg.ext).cells, ?_⟩
    refine hfg.app' (by simp [blocks]) rfl (by rw [bytes_length, htl]; omega) (by omega) (by omega) fun p5 k10 w2 hfg2 hk2 hs2 => ?_
    refine slcc_sl (lo := m) (hi := r.length) hsl3 rfl (by omega) (by omega) (by omega) fun p6 hsl6 => ?_
    have e6 : (r.drop m).take (r.length - m) = r.drop m := by rw [List.take_of_length_le]; simp
    rw [e6] at hsl6
    rw [← bytes_append] at hfg2
    refine ⟨r.drop m, out ++ r.take m, G, hrr.drop m, hsl6, by simp, by omega, by simp; omega, hrl, hfg2, by simp only [List.length_append, htl, List.length_drop]; omega, by simp⟩
  have hb1 : ¬ b < 128 := by simpa using hb1
  rw [if_neg hb1] at hrl
  refine brB_i (fun hb4 => ?_) (fun hb4 => ?_)
  rotate_left
  · have hb4 : ¬ b > 128 := by simpa using hb4
    rw [if_pos (by omega)] at hrl
    exact ⟨r, out, G, hrr, hsl3, rfl, by omega, by omega, hrl, hfg, by omega, Nat.le_refl _⟩
  have hb4 : b > 128 := by simpa using hb4
  rw [if_neg (by omega)] at hrl
  refine brB_i (fun hb5 => ?_) (fun hb5 => ?_)
  · have hb5 : (r.length : Int) = 0 := by simpa using hb5
    have : r = [] := List.length_eq_zero_iff.1 (by omega)
    subst this
    simp only at hrl
    subst hrl
    exact hR none 0 0 _ (Fg.nil hfg.ext 1)
  have hb5 : ¬ (r.length : Int) = 0 := by simpa using hb5
  obtain ⟨x, r', rfl⟩ : ∃ x r', r = x :: r' := by
    cases r with
    | nil => simp at hb5
    | cons x r' => exact ⟨x, r', rfl⟩
  simp only [List.length_cons] at hF hbd hcap
  simp only at hrl
  refine brB_i (fun hb6 => ?_) (fun hb6 => ?_)
  · have hb6 : 257 - b > most - k3 := by simpa using hb6
    rw [if_pos (by omega)] at hrl
    subst hrl
    exact hR none 0 0 _ (Fg.nil hfg.ext 1)
  have hb6 : ¬ 257 - b > most - k3 := by simpa using hb6
  rw [if_neg (by omega)] at hrl
  refine ⟨fun vs u => match vs with | [.slice p7 k13 k14, .int _ n2] => 0 ≤ n2 ∧ n2 ≤ 257 - b ∧ Fg [] w u 1 p7 k13 k14 (bytes (out ++ List.replicate n2.toNat x)) | _ => False,
    fun vs _ => match vs with | [.slice p7 k13 k14, .int _ n2] => (257 - b - n2).toNat | _ => 0, ⟨by omega, by omega, by simpa using hfg⟩, fun p7 k13 k14 n2 w3 hI3 => ?_⟩
  obtain ⟨n0, n1, hfg3⟩ := hI3
  have hk13 : k13 = out.length + n2.toNat := by have := hfg3.len; rw [bytes_length] at this; simpa using this
  refine brB_i (fun hb7 => ?_) (fun hb7 => ?_)
  · have hb7 : n2 < 257 - b := by simpa using hb7
    refine (hsl3.ext hfg3.ext).get (by omega) (by simp [bytes]) (v := u8 x) rfl fun a2 ha2 => ⟨x, ha2, fun k15 hk15 w4 hL4 => ?_⟩
    refine (hfg3.push (bs := [k15]) hL4 (by simp; omega)).app' (by simp [blocks]) rfl rfl (by omega) (by omega) fun p8 k17 w5 hfg5 _ _ => ?_
    rw [w64 (by omega) (by omega)]
    refine ⟨⟨by omega, by omega, ?_⟩, by show (257 - b - (n2 + 1)).toNat < (257 - b - n2).toNat; omega⟩
    have := hfg5.mono (bs := []) (by simp)
    rw [show (n2 + 1).toNat = n2.toNat + 1 by omega, List.replicate_succ', ← List.append_assoc, bytes_append]
    exact this
  · have hb7 : ¬ n2 < 257 - b := by simpa using hb7
    have : n2 = 257 - b := by omega
    subst this
    refine slcc_sl (lo := 1) (hi := r'.length + 1) (len := r'.length + 1) hsl3 (by simp) (by omega) (by omega) (by omega) fun p9 hsl9 => ?_
    have e9 : ((x :: r').drop 1).take (r'.length + 1 - 1) = r' := by simp
    rw [e9] at hsl9
    refine ⟨r', out ++ List.replicate (257 - b).toNat x, G, fun n hn => hrr n (by simp [hn]), hsl9, by omega, by omega, by omega, hrl, hfg3, ?_, ?_⟩
    · simp only [List.length_append, List.length_replicate]; omega
    · simp
end Go.Proofs.Ytlbokiaolmflaaa
