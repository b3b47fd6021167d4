/- Bmp: what writing makes; the document's writer. -/
import Derived.Test.YtjdljddfiddnoaaDoorBM17
namespace Go.Proofs.YtjdljddfiddnoaaDoor
open Go Go.Vc Go.RowKit
set_option maxRecDepth 100000
set_option linter.unusedVariables false
set_option linter.unusedSimpArgs false

/-- samples that fit -/
def Sm16 (xs : List Int) : Prop := ∀ n ∈ xs, 0 ≤ n ∧ n ≤ 65535
theorem sm_getD {xs : List Int} (h : Sm16 xs) (i : Nat) : 0 ≤ xs.getD i 0 ∧ xs.getD i 0 ≤ 65535 := by
  by_cases hi : i < xs.length
  · rw [show xs.getD i 0 = xs[i] by simp [List.getD, hi]]
    exact h _ (List.getElem_mem hi)
  · simp [List.getD, List.getElem?_eq_none (Nat.le_of_not_lt hi)]
def rowE (al : Bool) (W : Int) : Int := (W * (if al then 4 else 3) + 3) / 4 * 4
def hdS (al : Bool) : Int := if al then 108 else 40
def h0 (al : Bool) : List Int := ((List.replicate (14 + hdS al).toNat 0).set 0 66).set 1 77
def hdA (al : Bool) (W H : Int) : List Int :=
  setV (setV (setV (setV (setV (setV (setV (setV (h0 al) 2 4 false (14 + hdS al + rowE al W * H)) 10 4 false (14 + hdS al)) 14 4 false (hdS al)) 18 4 false W) 22 4 false H) 26 2 false 1) 28 2 false (if al then 32 else 24)) 34 4 false (rowE al W * H)
def hdC (al : Bool) (W H : Int) : List Int :=
  if al then setV (setV (setV (setV (setV (hdA al W H) 30 4 false 3) 54 4 false 16711680) 58 4 false 65280) 62 4 false 255) 66 4 false 4278190080 else hdA al W H
theorem setV_length (bs : List Int) (a n : Nat) (big : Bool) (v : Int) : (setV bs a n big v).length = bs.length := setP_length _ _ _ _ _ _
theorem setV_fit {bs : List Int} {a n : Nat} {big : Bool} {v : Int} (h : Bs bs) : Bs (setV bs a n big v) := setP_fit h
theorem h0_length (al : Bool) : ((h0 al).length : Int) = 14 + hdS al := by cases al <;> rfl
theorem h0_fit (al : Bool) : Bs (h0 al) := by
  have : (h0 al).all (fun n => decide (0 ≤ n ∧ n ≤ 255)) = true := by cases al <;> decide +kernel
  intro n hn
  simpa using List.all_eq_true.1 this n hn
theorem hdA_length (al : Bool) (W H : Int) : ((hdA al W H).length : Int) = 14 + hdS al := by unfold hdA; simp only [setV_length]; exact h0_length al
theorem hdC_length (al : Bool) (W H : Int) : ((hdC al W H).length : Int) = 14 + hdS al := by
  unfold hdC
  split
  · simp only [setV_length]; exact hdA_length al W H
  · exact hdA_length al W H
theorem hdA_fit (al : Bool) (W H : Int) : Bs (hdA al W H) := by
  unfold hdA
  exact setV_fit (setV_fit (setV_fit (setV_fit (setV_fit (setV_fit (setV_fit (setV_fit (h0_fit al))))))))
theorem hdC_fit (al : Bool) (W H : Int) : Bs (hdC al W H) := by
  unfold hdC
  split
  · exact setV_fit (setV_fit (setV_fit (setV_fit (setV_fit (hdA_fit al W H)))))
  · exact hdA_fit al W H
/-- a pixel's bytes -/
def pixB (al : Bool) (c : Co) : List Int := [dnV c.2.2.1 255, dnV c.2.1 255, dnV c.1 255] ++ if al then [dnV c.2.2.2 255] else []
def szB (al : Bool) : Nat := if al then 4 else 3
theorem pixB_length (al : Bool) (c : Co) : (pixB al c).length = szB al := by cases al <;> rfl
/-- the first n pixels of row y -/
def lnB (al : Bool) (xs : List Int) (W y : Int) : Nat → List Int
  | 0 => []
  | n + 1 => lnB al xs W y n ++ pixB al (colAt xs (y * W + n).toNat)
theorem lnB_length (al : Bool) (xs : List Int) (W y : Int) : ∀ n, (lnB al xs W y n).length = szB al * n
  | 0 => rfl
  | n + 1 => by rw [lnB, List.length_append, lnB_length al xs W y n, pixB_length, Nat.mul_succ]
def padN (al : Bool) (W : Int) : Nat := (rowE al W - W * (if al then 4 else 3)).toNat
def rwB (al : Bool) (xs : List Int) (W y : Int) : List Int := lnB al xs W y W.toNat ++ List.replicate (padN al W) 0
/-- the last k rows, from the bottom up -/
def bdB (al : Bool) (xs : List Int) (W H : Int) : Nat → List Int
  | 0 => []
  | k + 1 => bdB al xs W H k ++ rwB al xs W (H - 1 - k)
theorem rw_bounds {al : Bool} {W : Int} (w1 : 1 ≤ W) (w2 : W ≤ 4096) : 4 ≤ rowE al W ∧ rowE al W ≤ 16384 ∧ W * (if al then 4 else 3) ≤ rowE al W ∧ rowE al W ≤ W * (if al then 4 else 3) + 3 := by
  unfold rowE
  cases al
  · simp only [Bool.false_eq_true, if_false]; omega
  · simp only [if_true]; omega
theorem szB_int (al : Bool) : ((szB al : Nat) : Int) = if al then 4 else 3 := by cases al <;> rfl
theorem ln_pad {al : Bool} {W : Int} (w1 : 1 ≤ W) (w2 : W ≤ 4096) : ((szB al * W.toNat : Nat) : Int) + padN al W = rowE al W := by
  have := rw_bounds (al := al) w1 w2
  unfold padN
  cases al
  · simp only [szB, Bool.false_eq_true, if_false] at *; omega
  · simp only [szB, if_true] at *; omega
theorem rwB_length {al : Bool} {xs : List Int} {W y : Int} (w1 : 1 ≤ W) (w2 : W ≤ 4096) : ((rwB al xs W y).length : Int) = rowE al W := by
  unfold rwB
  rw [List.length_append, lnB_length, List.length_replicate]
  have := ln_pad (al := al) w1 w2
  omega
theorem bdB_length {al : Bool} {xs : List Int} {W H : Int} (w1 : 1 ≤ W) (w2 : W ≤ 4096) : ∀ k : Nat, ((bdB al xs W H k).length : Int) = rowE al W * k
  | 0 => by simp [bdB]
  | k + 1 => by
    rw [bdB, List.length_append, Int.natCast_add, bdB_length w1 w2 k, rwB_length w1 w2, Int.natCast_add, Int.mul_add]; simp
theorem pixB_fit {al : Bool} {c : Co} (h : ∀ v ∈ coL c, 0 ≤ v ∧ v ≤ 65535) : Bs (pixB al c) := by
  intro n hn
  have d : ∀ v ∈ coL c, 0 ≤ dnV v 255 ∧ dnV v 255 ≤ 255 := fun v hv => dnV_range (h v hv).1 (h v hv).2 (by omega)
  have h1 := d c.1 (by simp [coL])
  have h2 := d c.2.1 (by simp [coL])
  have h3 := d c.2.2.1 (by simp [coL])
  have h4 := d c.2.2.2 (by simp [coL])
  cases al <;> simp [pixB] at hn <;> rcases hn with rfl | rfl | hn <;> first | assumption | (rcases hn with rfl | rfl <;> assumption) | (subst hn; assumption)
theorem colAt_sm {xs : List Int} (h : Sm16 xs) (k : Nat) : ∀ v ∈ coL (colAt xs k), 0 ≤ v ∧ v ≤ 65535 := by
  intro v hv
  simp only [coL, colAt, List.mem_cons, List.not_mem_nil, or_false] at hv
  rcases hv with rfl | rfl | rfl | rfl <;> exact sm_getD h _
theorem lnB_fit {al : Bool} {xs : List Int} {W y : Int} (h : Sm16 xs) : ∀ n, Bs (lnB al xs W y n)
  | 0 => by intro n hn; cases hn
  | n + 1 => by
    intro v hv
    rcases List.mem_append.1 hv with hv | hv
    · exact lnB_fit h n v hv
    · exact pixB_fit (colAt_sm h _) v hv
theorem rwB_fit {al : Bool} {xs : List Int} {W y : Int} (h : Sm16 xs) : Bs (rwB al xs W y) := by
  intro v hv
  rcases List.mem_append.1 hv with hv | hv
  · exact lnB_fit h _ v hv
  · rw [List.eq_of_mem_replicate hv]; omega
theorem bdB_fit {al : Bool} {xs : List Int} {W H : Int} (h : Sm16 xs) : ∀ k, Bs (bdB al xs W H k)
  | 0 => by intro n hn; cases hn
  | k + 1 => by
    intro v hv
    rcases List.mem_append.1 hv with hv | hv
    · exact bdB_fit h k v hv
    · exact rwB_fit h v hv
def encB (al : Bool) (W H : Int) (xs : List Int) : List Int := hdC al W H ++ bdB al xs W H H.toNat
def encR (al : Bool) (W H : Int) (xs : List Int) : List Int × Int := if good W H xs then (encB al W H xs, 0) else ([], 6)
theorem encB_fit {al : Bool} {W H : Int} {xs : List Int} (h : Sm16 xs) : Bs (encB al W H xs) := by
  intro v hv
  rcases List.mem_append.1 hv with hv | hv
  · exact hdC_fit _ _ _ v hv
  · exact bdB_fit h _ v hv
theorem rset_spec {w : World} {p : Option Addr} {len cap : Nat} {bs : List Int} {a n v : Int} {R : Ending → World → Prop} (h : By w p len bs) (n1 : 1 ≤ n) (n4 : n ≤ 4) (a0 : 0 ≤ a) (a1 : a + n ≤ len) (v0 : 0 ≤ v) (v1 : v < 4294967296)
    (hR : ∀ p' c' w', Ext w w' → Ow w.heap.size w'.heap.size w' p' len c' 1 (bytes (setV bs a.toNat n.toNat false v)) → By w' p' len (setV bs a.toNat n.toNat false v) → R (.returned (.slice p' len c')) w') :
    Calls P F.ref11_set #[.slice p len cap, i64 a, i64 n, i64 v] w R := by
  refine calls_ref11_set _ _ _ _ _ _ _ _ ?_
  unfold vc_ref11_set
  rw [wu32 v0 v1]
  refine refSet_spec h.sl h.ln h.lim h.fit v0 v1 (fun hne => (hne (by unfold thereE; rw [if_neg (by omega), if_neg (by omega)])).elim) fun _ p' c' w' hE ho => ⟨_, _, _, _, rfl, hR p' c' w' hE ho ⟨ho.sl, by rw [setV_length]; exact h.ln, h.lim, setV_fit h.fit⟩⟩
theorem refEncode_spec {w : World} {p : Option Addr} {len cap : Nat} {W H : Int} {xs : List Int} {al : Bool} {R : Ending → World → Prop} (h : Img w p len xs) (hsm : Sm16 xs)
    (hR : ∀ s n c w', Ext w w' → Ow w.heap.size w'.heap.size w' s n c 1 (bytes (encR al W H xs).1) → R (.returned (.tuple #[.slice s n c, i64 (encR al W H xs).2])) w') :
    Calls P F.ref11_Encode #[.agg #[i64 W, i64 H, .slice p len cap], .bool al] w R := by
  refine calls_ref11_Encode _ _ _ _ _ _ _ _ ?_
  unfold vc_ref11_Encode
  intro k1 hk1 w1 hL1
  have hE1 : Ext w w1 := hL1.ext (by simpa using hk1)
  have ht1 := hL1.there k1 (by simp)
  refine refGood_spec (xs := xs) h.len fun w2 hE2 => ⟨_, rfl, hE2.keep _, ?_⟩
  have hE02 := hE1.trans hE2
  refine brB_i (fun hb => ?_) fun hb => ?_
  · have hb : good W H xs = false := by simpa using hb
    have e : encR al W H xs = ([], 6) := by unfold encR; rw [hb]; rfl
    have := hR none 0 0 w2 hE02 (by rw [e]; exact Ow.nil _ _ _ _ _)
    rw [e] at this; exact this
  have hb : good W H xs = true := by simpa using hb
  have e : encR al W H xs = (encB al W H xs, 0) := by unfold encR; rw [hb]; rfl
  rw [e] at hR
  obtain ⟨hg, hxl⟩ := good_iff.1 hb
  obtain ⟨g1, g2, g3, g4, g5⟩ := gfits_iff.1 hg
  have hlen := h.len
  obtain ⟨r1, r2, r3, r4⟩ := rw_bounds (al := al) g1 g3
  have rh : rowE al W * H ≤ 16384 * 4096 := Int.mul_le_mul r2 g4 (by omega) (by omega)
  have rh0 : 0 ≤ rowE al W * H := Int.mul_nonneg (by omega) (by omega)
  have hS : hdS al = 108 ∨ hdS al = 40 := by cases al <;> simp [hdS]
  have hD : (if al then (32 : Int) else 24) = 32 ∨ (if al then (32 : Int) else 24) = 24 := by cases al <;> simp
  refine ⟨fun vs u => vs = [i64 (hdS al), i64 (if al then 32 else 24)] ∧ u = w2, brB_i (fun ha => ⟨by subst ha; rfl, rfl⟩) fun ha => ⟨by subst ha; rfl, rfl⟩, fun n1 n2 w3 hI => ?_⟩
  obtain ⟨hv, rfl⟩ := hI
  simp only [List.cons.injEq, Value.int.injEq, true_and, and_true] at hv
  obtain ⟨rfl, rfl⟩ := hv
  have hrow : IntKind.i64.wrap (divZ .quo .i64 (IntKind.i64.wrap (IntKind.i64.wrap (W * (if al then 32 else 24)) + 31)) 32 * 4) = rowE al W := by
    unfold rowE at *
    cases al
    · simp only [Bool.false_eq_true, if_false] at *
      rw [w64 (x := W * 24) (by omega) (by omega), w64 (x := W * 24 + 31) (by omega) (by omega), quoN (by omega) (by omega) (by omega), w64 (by omega) (by omega)]; omega
    · simp only [if_true] at *
      rw [w64 (x := W * 32) (by omega) (by omega), w64 (x := W * 32 + 31) (by omega) (by omega), quoN (by omega) (by omega) (by omega), w64 (by omega) (by omega)]; omega
  rw [hrow, w64 (x := rowE al W * H) (by omega) (by omega), w64 (x := 14 + hdS al) (by omega) (by omega), w64 (x := 14 + hdS al + rowE al W * H) (by omega) (by omega)]
  refine ⟨by omega, Int.le_refl _, by omega, by omega, fun k2 w4 hN4 => ?_⟩
  have hk2 : k2 = w3.heap.size := hN4.1
  have hs02 := hE02.size
  have hs2 := hE2.size
  have hs4 := hN4.size
  have hc4 : Cs w4 k2 (bytes (List.replicate (14 + hdS al).toNat 0)) := by
    have := hN4.cs
    have er : ∀ n : Nat, rep n [u8 0] = bytes (List.replicate n 0) := fun n => by
      induction n with
      | zero => rfl
      | succ n ih => rw [List.replicate_succ, rep, ih]; rfl
    rw [mkCells_rep, er] at this; exact this
  have hnk : k2 ≠ k1 := by omega
  refine idx_i (a := ⟨k2, 0, none⟩) (by omega) (by omega) rfl ?_
  rw [loc_add, show 0 + (0 : Int).toNat * 1 = 0 by rfl]
  have hl4 : 1 < (bytes (List.replicate (14 + hdS al).toNat 0)).length := by rw [bytes_length, List.length_replicate]; omega
  have c5 := hc4.set1 (off := 0) (v := u8 66) (by omega)
  refine ⟨⟨_, hc4.cell (List.getElem?_eq_getElem (by omega))⟩, hc4.frozen _, by simpa using hnk, idx_i (a := ⟨k2, 0, none⟩) (by omega) (by omega) rfl ?_⟩
  rw [loc_add, show 0 + (1 : Int).toNat * 1 = 1 by rfl]
  have hl5 : 1 < ((bytes (List.replicate (14 + hdS al).toNat 0)).set 0 (u8 66)).length := by rw [List.length_set]; exact hl4
  refine ⟨⟨_, c5.cell (List.getElem?_eq_getElem hl5)⟩, c5.frozen _, by simpa using hnk, ?_⟩
  have c6 := c5.set1 (off := 1) (v := u8 77) hl5
  have hE4 : Ext w w4 := hE02.trans hN4.ext
  have hL5 := set_locl (u := w4) (b := k2) (i := 0) (vs := [u8 66]) hc4.lt
  have hL6 := set_locl (u := setCells w4 ⟨k2, 0, none⟩ [u8 66] 0) (b := k2) (i := 1) (vs := [u8 77]) c5.lt
  have hE6 : Ext w (setCells (setCells w4 ⟨k2, 0, none⟩ [u8 66] 0) ⟨k2, 1, none⟩ [u8 77] 0) := (hE4.step hL5.chg (by simp; omega)).step hL6.chg (by simp; omega)
  have hs6 : (setCells (setCells w4 ⟨k2, 0, none⟩ [u8 66] 0) ⟨k2, 1, none⟩ [u8 77] 0).heap.size = w4.heap.size := ((setCells_same _ _ _ _).size).trans (setCells_same _ _ _ _).size
  have hB6 : By (setCells (setCells w4 ⟨k2, 0, none⟩ [u8 66] 0) ⟨k2, 1, none⟩ [u8 77] 0) (some ⟨k2, 0, none⟩) (14 + hdS al).toNat (h0 al) := by
    refine ⟨Cs.sl (us := bytes (h0 al)) c6 ?_ c6.lt, ?_, by omega, h0_fit al⟩
    · unfold h0
      rw [bytes_set, bytes_set]
      exact List.prefix_refl _
    · have := h0_length al; omega
  generalize setCells (setCells w4 ⟨k2, 0, none⟩ [u8 66] 0) ⟨k2, 1, none⟩ [u8 77] 0 = u6 at hE6 hs6 hB6 ⊢
  have hT6 : Ths w u6 (fun _ => 0) [k1] [] := ⟨⟨hE6, by simp; omega⟩, by simp⟩
  refine rset_spec hB6 (by omega) (by omega) (by omega) (by omega) (by omega) (by omega) fun p1 c1 u1 x1 _ hB1 => ⟨_, _, _, rfl, x1.keep _, ?_⟩
  refine rset_spec hB1 (by omega) (by omega) (by omega) (by omega) (by omega) (by omega) fun p2 c2 u2 x2 _ hB2 => ⟨_, _, _, rfl, x2.keep _, ?_⟩
  refine rset_spec hB2 (by omega) (by omega) (by omega) (by omega) (by omega) (by omega) fun p3 c3 u3 x3 _ hB3 => ⟨_, _, _, rfl, x3.keep _, ?_⟩
  refine rset_spec hB3 (by omega) (by omega) (by omega) (by omega) (by omega) (by omega) fun p4 c4 u4 x4 _ hB4 => ⟨_, _, _, rfl, x4.keep _, ?_⟩
  refine rset_spec hB4 (by omega) (by omega) (by omega) (by omega) (by omega) (by omega) fun p5 c5 u5 x5 _ hB5 => ⟨_, _, _, rfl, x5.keep _, ?_⟩
  refine rset_spec hB5 (by omega) (by omega) (by omega) (by omega) (by omega) (by omega) fun p6 c6 u6' x6 _ hB6' => ⟨_, _, _, rfl, x6.keep _, ?_⟩
  refine rset_spec hB6' (by omega) (by omega) (by omega) (by omega) (by omega) (by omega) fun p7 c7 u7 x7 _ hB7 => ⟨_, _, _, rfl, x7.keep _, ?_⟩
  refine rset_spec hB7 (by omega) (by omega) (by omega) (by omega) (by omega) (by omega) fun p8 c8 u8' x8 ho8 hB8 => ⟨_, _, _, rfl, x8.keep _, ?_⟩
  have hTb : ∃ f, Ths w u7 f [k1] [] := ⟨_, ((((((hT6.step x1 0).step x2 0).step x3 0).step x4 0).step x5 0).step x6 0).step x7 0⟩
  obtain ⟨f7, hT7⟩ := hTb
  have hT8 := hT7.new x8 (i := 1) (by decide) ho8
  refine ⟨fun vs u => ∃ (s : Option Addr) (c : Nat) (f : Nat → Nat), vs = [.slice s (14 + hdS al).toNat c] ∧ Ths w u f [k1] [⟨1, s, (14 + hdS al).toNat, c, 1, bytes (hdC al W H)⟩], brB_i (fun ha => ?_) fun ha => ⟨p8, c8, fOn f7 u7.heap.size 1, rfl, by subst ha; exact hT8⟩, fun p14 k29 k30 w18 hI => ?_⟩
  · subst ha
    refine rset_spec hB8 (by omega) (by omega) (by omega) (by omega) (by omega) (by omega) fun p9 c9 u9 x9 _ hB9 => ⟨_, _, _, rfl, x9.keep _, ?_⟩
    refine rset_spec hB9 (by omega) (by omega) (by omega) (by simp [hdS]) (by omega) (by omega) fun p10 c10 u10 x10 _ hB10 => ⟨_, _, _, rfl, x10.keep _, ?_⟩
    refine rset_spec hB10 (by omega) (by omega) (by omega) (by simp [hdS]) (by omega) (by omega) fun p11 c11 u11 x11 _ hB11 => ⟨_, _, _, rfl, x11.keep _, ?_⟩
    refine rset_spec hB11 (by omega) (by omega) (by omega) (by simp [hdS]) (by omega) (by omega) fun p12 c12 u12 x12 _ hB12 => ⟨_, _, _, rfl, x12.keep _, ?_⟩
    refine rset_spec hB12 (by omega) (by omega) (by omega) (by simp [hdS]) (by omega) (by omega) fun p13 c13 u13 x13 ho13 hB13 => ⟨_, _, _, rfl, x13.keep _, ?_⟩
    have hT12 := (((hT7.step x8 0).step x9 0).step x10 0).step x11 0
    exact ⟨p13, c13, _, rfl, (hT12.step x12 0).new x13 (i := 1) (by decide) ho13⟩
  obtain ⟨s0, c0, f18, hv, hT18⟩ := hI
  simp only [List.cons.injEq, Value.slice.injEq, true_and, and_true] at hv
  obtain ⟨rfl, rfl, rfl⟩ := hv
  have hhl := hdC_length al W H
  have hbd := fun k => bdB_length (al := al) (xs := xs) (H := H) g1 g3 k
  rw [w64 (x := H - 1) (by omega) (by omega)]
  refine ⟨fun vs u => ∃ (k : Nat) (s : Option Addr) (c : Nat) (f : Nat → Nat), vs = [.slice s (hdC al W H ++ bdB al xs W H k).length c, i64 (H - 1 - k)] ∧ (k : Int) ≤ H ∧ Ths w u f [k1] [⟨1, s, (hdC al W H ++ bdB al xs W H k).length, c, 1, bytes (hdC al W H ++ bdB al xs W H k)⟩],
    fun vs _ => match vs with | _ :: .int _ n :: _ => (n + 1).toNat | _ => 0, ⟨0, p14, k30, f18, ?_, by omega, ?_⟩, fun p15 k31 k32 n3 w19 hI => ?_⟩
  · simp only [bdB, List.append_nil]; rw [show (hdC al W H).length = (14 + hdS al).toNat by omega]; simp
  · simp only [bdB, List.append_nil]; rw [show (hdC al W H).length = (14 + hdS al).toNat by omega]; exact hT18
  obtain ⟨k, s, c, f, hv, hk, hT⟩ := hI
  simp only [List.cons.injEq, Value.int.injEq, Value.slice.injEq, true_and, and_true] at hv
  obtain ⟨⟨rfl, rfl, rfl⟩, rfl⟩ := hv
  refine brB_i (fun hy => ?_) fun hy => ?_
  · have hy : 0 ≤ H - 1 - (k : Int) := by simpa using hy
    generalize hyy : H - 1 - (k : Int) = y at hy ⊢
    have yw0 : 0 ≤ y * W := Int.mul_nonneg hy (by omega)
    refine ⟨fun vs u => ∃ (x : Nat) (s : Option Addr) (c : Nat) (f : Nat → Nat), vs = [.slice s (lnB al xs W y x).length c, i64 x] ∧ (x : Int) ≤ W ∧ Ths w u f [k1] [⟨2, s, (lnB al xs W y x).length, c, 1, bytes (lnB al xs W y x)⟩, ⟨1, p15, (hdC al W H ++ bdB al xs W H k).length, k32, 1, bytes (hdC al W H ++ bdB al xs W H k)⟩],
      fun vs _ => match vs with | _ :: .int _ n :: _ => (W - n).toNat | _ => 0, ⟨0, none, 0, f, rfl, by omega, hT.pal, fun t ht => ?_⟩, fun p16 k33 k34 n4 w20 hI => ?_⟩
    · rcases List.mem_cons.1 ht with rfl | ht
      · exact ⟨by show (2 : Nat) ≠ 0; decide, Th.nil _ _ _ _ _ _⟩
      · exact hT.th t ht
    obtain ⟨x, s2, c2, f2, hv, hx, hT20⟩ := hI
    simp only [List.cons.injEq, Value.int.injEq, Value.slice.injEq, true_and, and_true] at hv
    obtain ⟨⟨rfl, rfl, rfl⟩, rfl⟩ := hv
    have hlnl := lnB_length al xs W y x
    have hsz : szB al = 3 ∨ szB al = 4 := by cases al <;> simp [szB]
    have hszx : szB al * x ≤ 4 * x := Nat.mul_le_mul_right _ (by omega)
    have hbig : (lnB al xs W y x).length ≤ 16384 := by omega
    refine brB_i (fun hxb => ?_) fun hxb => ?_
    · have hxb : (x : Int) < W := by simpa using hxb
      rw [w64 (x := (x : Int) + 1) (by omega) (by omega)]
      refine ⟨fun vs u => ∃ (s : Option Addr) (c : Nat) (f : Nat → Nat), vs = [.slice s (lnB al xs W y (x + 1)).length c] ∧ Ths w u f [k1] [⟨2, s, (lnB al xs W y (x + 1)).length, c, 1, bytes (lnB al xs W y (x + 1))⟩, ⟨1, p15, (hdC al W H ++ bdB al xs W H k).length, k32, 1, bytes (hdC al W H ++ bdB al xs W H k)⟩], ?_, fun p19 k42 k43 w31 hI => ?_⟩
      · refine refPixel_spec (h.ext hT20.pal.ext) hb (by omega) hy hxb (by omega) fun w21 hE21 => ⟨_, _, _, _, rfl, hE21.keep _, fun k35 hk35 w22 hL22 => ?_⟩
        have hT21 := hT20.step hE21 0
        have hT22 := hT21.locl hL22 (by intro b hb; simp at hb; rcases hb with rfl | rfl; right; exact hk35; left; simp)
        have hsmc := colAt_sm hsm (y * W + x).toNat
        have hlb : lnB al xs W y (x + 1) = lnB al xs W y x ++ pixB al (colAt xs (y * W + x).toNat) := rfl
        generalize colAt xs (y * W + x).toNat = c at hsmc hlb ⊢
        have hs1 := hsmc c.1 (by simp [coL])
        have hs2 := hsmc c.2.1 (by simp [coL])
        have hs3 := hsmc c.2.2.1 (by simp [coL])
        have hs4 := hsmc c.2.2.2 (by simp [coL])
        have kp : ∀ {l : List Nat} {u : World}, Keep l u u := fun {l u} => (Ext.refl u).keep _
        refine rdown_spec hs3.1 hs3.2 ⟨_, rfl, kp, (Ext.refl _).keeps, rdown_spec hs2.1 hs2.2 ⟨_, rfl, kp, (Ext.refl _).keeps, rdown_spec hs1.1 hs1.2 ⟨_, rfl, kp, fun k36 hk36 w26 hL26 => ?_⟩⟩⟩
        have hT26 := hT22.locl hL26 (by intro b hb; simp at hb; rcases hb with rfl | rfl | rfl; right; exact hk36; left; simp; left; simp)
        refine hT26.app (t := ⟨2, p16, (lnB al xs W y x).length, k34, 1, bytes (lnB al xs W y x)⟩) (by simp) (by simp [blocks]) rfl rfl (by show ((lnB al xs W y x).length + 3) * 1 ≤ 2 ^ 47; omega) (by show (lnB al xs W y x).length + 3 < 2 ^ 62; omega) fun p17 c17 w27 f27 hT27 => brB_i (fun ha => ?_) fun ha => ?_
        · subst ha
          refine rdown_spec hs4.1 hs4.2 ⟨_, rfl, kp, fun k39 hk39 w29 hL29 => ?_⟩
          have hT29 := hT27.locl hL29 (by intro b hb; simp at hb; rcases hb with rfl | rfl | rfl | rfl; right; exact hk39; left; simp; left; simp; left; simp)
          refine hT29.app (t := ⟨2, p17, (lnB true xs W y x).length + 3, c17, 1, _⟩) (by simp) (by simp [blocks]) rfl rfl (by show ((lnB true xs W y x).length + 3 + 1) * 1 ≤ 2 ^ 47; omega) (by show (lnB true xs W y x).length + 3 + 1 < 2 ^ 62; omega) fun p18 c18 w30 f30 hT30 => ⟨p18, c18, f30, ?_, ?_⟩
          · rw [hlb, List.length_append]; rfl
          · rw [hlb, List.length_append, bytes_append]
            have := hT30.mono (L' := [k1]) (l' := [⟨2, p18, (lnB true xs W y x).length + 3 + 1, c18, 1, (bytes (lnB true xs W y x) ++ [u8 (dnV c.2.2.1 255), u8 (dnV c.2.1 255), u8 (dnV c.1 255)]) ++ [u8 (dnV c.2.2.2 255)]⟩, ⟨1, p15, (hdC true W H ++ bdB true xs W H k).length, k32, 1, bytes (hdC true W H ++ bdB true xs W H k)⟩]) (by simp) (by intro t ht; exact ht)
            rw [List.append_assoc (bytes (lnB true xs W y x))] at this
            exact this
        · subst ha
          refine ⟨p17, c17, f27, ?_, ?_⟩
          · rw [hlb, List.length_append]; rfl
          · rw [hlb, List.length_append, bytes_append]
            exact hT27.mono (by simp) (by intro t ht; exact ht)
      · obtain ⟨s, c, f, hv, hT31⟩ := hI
        simp only [List.cons.injEq, Value.slice.injEq, true_and, and_true] at hv
        obtain ⟨rfl, rfl, rfl⟩ := hv
        exact ⟨⟨x + 1, _, _, f, rfl, by omega, hT31⟩, by show (W - ((x : Int) + 1)).toNat < (W - (x : Int)).toNat; omega⟩
    · have hxb : (x : Int) = W := by simp at hxb; omega
      have ex : x = W.toNat := by omega
      subst ex
      have hlp := ln_pad (al := al) g1 g3
      refine ⟨fun vs u => ∃ (j : Nat) (s : Option Addr) (c : Nat) (f : Nat → Nat), vs = [.slice s ((lnB al xs W y W.toNat).length + j) c] ∧ j ≤ padN al W ∧ Ths w u f [k1] [⟨2, s, (lnB al xs W y W.toNat).length + j, c, 1, bytes (lnB al xs W y W.toNat ++ List.replicate j 0)⟩, ⟨1, p15, (hdC al W H ++ bdB al xs W H k).length, k32, 1, bytes (hdC al W H ++ bdB al xs W H k)⟩],
        fun vs _ => match vs with | [.slice _ n _] => (rowE al W - n).toNat | _ => 0, ⟨0, p16, k34, f2, rfl, by omega, by simpa using hT20⟩, fun p20 k44 k45 w32 hI => ?_⟩
      obtain ⟨j, s, c, f, hv, hj, hT32⟩ := hI
      simp only [List.cons.injEq, Value.slice.injEq, true_and, and_true] at hv
      obtain ⟨rfl, rfl, rfl⟩ := hv
      refine brB_i (fun hjb k46 hk46 w33 hL33 => ?_) fun hjb => ?_
      · have hjb : j < padN al W := by simp at hjb; omega
        have hT33 := hT32.locl hL33 (by intro b hb; simp at hb; rcases hb with rfl | rfl; right; exact hk46; left; simp)
        refine hT33.app (t := ⟨2, p20, (lnB al xs W y W.toNat).length + j, k45, 1, _⟩) (by simp) (by simp [blocks]) rfl rfl (by show ((lnB al xs W y W.toNat).length + j + 1) * 1 ≤ 2 ^ 47; omega) (by show (lnB al xs W y W.toNat).length + j + 1 < 2 ^ 62; omega) fun p21 c21 w34 f34 hT34 => ⟨⟨j + 1, p21, c21, f34, rfl, by omega, ?_⟩, by show (rowE al W - (((lnB al xs W y W.toNat).length + j + 1 : Nat) : Int)).toNat < (rowE al W - (((lnB al xs W y W.toNat).length + j : Nat) : Int)).toNat; omega⟩
        rw [List.replicate_succ', ← List.append_assoc, bytes_append (lnB al xs W y W.toNat ++ List.replicate j 0)]
        exact hT34.mono (by simp) (by intro t ht; exact ht)
      · have hjb : j = padN al W := by simp at hjb; omega
        subst hjb
        have hrw : lnB al xs W y W.toNat ++ List.replicate (padN al W) 0 = rwB al xs W y := rfl
        rw [hrw] at hT32
        have hrl := rwB_length (al := al) (xs := xs) (y := y) g1 g3
        have hll : (lnB al xs W y W.toNat).length + padN al W = (rwB al xs W y).length := by rw [← hrw, List.length_append, List.length_replicate]
        rw [hll] at hT32 ⊢
        refine ⟨bytes (rwB al xs W y), by rw [bytes_length]; omega, bytes_oneAll _, (hT32.get (t := ⟨2, p20, (rwB al xs W y).length, k45, 1, bytes (rwB al xs W y)⟩) (by simp)).sl.cells, ?_⟩
        have hT' := hT32.mono (L' := [k1]) (l' := [⟨1, p15, (hdC al W H ++ bdB al xs W H k).length, k32, 1, bytes (hdC al W H ++ bdB al xs W H k)⟩, ⟨2, p20, (rwB al xs W y).length, k45, 1, bytes (rwB al xs W y)⟩]) (by simp) (by intro t ht; simp at ht ⊢; rcases ht with rfl | rfl; right; rfl; left; rfl)
        have hbk := hbd k
        have hrk : rowE al W * k ≤ rowE al W * H := Int.mul_le_mul_of_nonneg_left (by omega) (by omega)
        have hlo : (hdC al W H ++ bdB al xs W H k).length ≤ 70000000 := by rw [List.length_append]; omega
        refine hT'.app (t := ⟨1, p15, _, k32, 1, _⟩) (by simp) (by simp [blocks]) rfl (by rw [bytes_length]; show _ = _ * 1; omega) (by show ((hdC al W H ++ bdB al xs W H k).length + (rwB al xs W y).length) * 1 ≤ 2 ^ 47; omega) (by show (hdC al W H ++ bdB al xs W H k).length + (rwB al xs W y).length < 2 ^ 62; omega) fun p22 c22 w35 f35 hT35 => ?_
        rw [w64 (x := y - 1) (by omega) (by omega)]
        have hbs : hdC al W H ++ bdB al xs W H (k + 1) = (hdC al W H ++ bdB al xs W H k) ++ rwB al xs W y := by rw [bdB, hyy, List.append_assoc]
        refine ⟨⟨k + 1, p22, c22, f35, ?_, by omega, ?_⟩, by show (y - 1 + 1).toNat < (y + 1).toNat; omega⟩
        · rw [hbs, List.length_append (bs := rwB al xs W y)]
          congr 2
          congr 1; omega
        · rw [hbs, List.length_append (bs := rwB al xs W y), bytes_append (hdC al W H ++ bdB al xs W H k)]
          exact hT35.mono (fun b hb => hb) (by intro t ht; simp at ht ⊢; left; exact ht)
  · have hy : (k : Int) = H := by simp at hy; omega
    have ek : k = H.toNat := by omega
    subst ek
    have := (hT.get (t := ⟨1, p15, (hdC al W H ++ bdB al xs W H H.toNat).length, k32, 1, bytes (hdC al W H ++ bdB al xs W H H.toNat)⟩) (by simp)).ow
    exact hR p15 _ k32 w19 hT.pal.ext this
end Go.Proofs.YtjdljddfiddnoaaDoor
