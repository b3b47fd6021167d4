/- Bmp: the program's writer. -/
import Derived.Test.YtjdljddfiddnoaaDoorBM18
namespace Go.Proofs.YtjdljddfiddnoaaDoor
open Go Go.Vc Go.RowKit
set_option maxRecDepth 100000
set_option linter.unusedVariables false
set_option linter.unusedSimpArgs false

theorem GridC.keep {bs : List Nat} {w w' : World} {q : Option Addr} {gb cb : Nat} {W H : Int} {l : List Co} (h : GridC w q gb cb W H l) (k : Keep bs w w') (h1 : gb ∈ bs) (h2 : cb ∈ bs) : GridC w' q gb cb W H l := by
  obtain ⟨rest, c, h3, h5, h4⟩ := h.cells
  exact ⟨h.ptr, ⟨rest, c, h3.keep k h1, h5, h4.keep k h2⟩, h.ne, h.ok, h.len⟩
theorem GAt_spec {w : World} {q : Option Addr} {gb cb : Nat} {W H x y : Int} {l : List Co} {R : Ending → World → Prop} (h : GridC w q gb cb W H l) (hx0 : 0 ≤ x) (hy0 : 0 ≤ y) (hx : x < W) (hy : y < H)
    (hR : ∀ w', Ext w w' → R (.returned (.tuple #[.agg (co (l.getD (y * W + x).toNat zeroC)).toArray, .bool true])) w') : Calls P F.grid_Grid_api_Color_At #[.pointer q, i64 x, i64 y] w R := by
  refine calls_grid_Grid_api_Color_At _ _ _ _ _ ?_
  intro k1 hk1 w1 hL1
  have hE1 : Ext w w1 := hL1.ext (by simpa using hk1)
  have h1 := h.ext hE1
  refine Ghas_spec h1 ⟨_, rfl, (Ext.refl _).keep _, brB_f (by simp; omega) ?_⟩
  have hsl := h1.sl
  have hlen := h1.len
  obtain ⟨rest, cc, h3, h5, h4⟩ := h1.cells
  obtain ⟨p0, p1, _, p3, _⟩ := pixAt h1.ok (n := 4 * (W * H)) rfl hx0 hy0 hx hy
  refine nn_i h1.ptr ⟨_, _, _, h3.drew.cell (i := 2) rfl, nn_i h1.ptr ⟨_, h3.drew.cell (i := 0) rfl, ?_⟩⟩
  rw [p3]
  refine cos_elem hsl.drew rfl p0 (by omega) fun a ⟨e1, e2, e3, e4⟩ => ⟨_, _, _, _, e1, e2, e3, e4, fun w4 hL4 => ?_⟩
  exact hR w4 (hE1.drew.step hL4.chg (by simpa using hk1))
/-- bytes that grow, their slice in a block -/
structure Ob (w0 u : World) (av : List Nat) (kb : Nat) (bs : List Int) : Prop where
  cs : ∃ s c, Cs u kb [.slice s bs.length c] ∧ Fg av w0 u 1 s bs.length c (bytes bs)
  mem : kb ∈ av
section
variable {w0 u u' : World} {av : List Nat} {kb : Nat} {bs : List Int}
theorem Ob.ext (h : Ob w0 u av kb bs) : Ext w0 u := by obtain ⟨s, c, _, h⟩ := h.cs; exact h.ext
theorem Ob.avs (h : Ob w0 u av kb bs) : ∀ b, b ∈ av → w0.heap.size ≤ b ∧ b < u.heap.size := by obtain ⟨s, c, _, h⟩ := h.cs; exact h.avs
theorem Ob.locl {l : List Nat} (h : Ob w0 u av kb bs) (hL : Locl l u u') (hb : ∀ b, b ∈ l → (b ∈ av ∧ b ≠ kb) ∨ u.heap.size ≤ b) : Ob w0 u' (l ++ av) kb bs := by
  obtain ⟨s, c, hC, hF⟩ := h.cs
  refine ⟨⟨s, c, hC.locl hL fun hm => ?_, hF.push hL fun b hm => ?_⟩, List.mem_append_right _ h.mem⟩
  · have := hC.lt
    rcases hb kb hm with hx | hx
    · exact hx.2 rfl
    · omega
  · rcases hb b hm with hx | hx
    · exact .inl hx.1
    · exact .inr hx
theorem Ob.mono {l : List Nat} (h : Ob w0 u av kb bs) (hb : ∀ b, b ∈ l → b ∈ av) (hm : kb ∈ l) : Ob w0 u l kb bs := by
  obtain ⟨s, c, hC, hF⟩ := h.cs
  exact ⟨⟨s, c, hC, hF.mono hb⟩, hm⟩
theorem Ob.step (h : Ob w0 u av kb bs) (hE : Ext u u') : Ob w0 u' av kb bs := by
  obtain ⟨s, c, hC, hF⟩ := h.cs
  exact ⟨⟨s, c, hC.ext hE, hF.step hE⟩, h.mem⟩
theorem Ob.dr (h : Ob w0 u av kb bs) : Ob w0 u.drew av kb bs := h.step (Ext.refl u).drew
end
theorem Ob.app {w0 w : World} {av : List Nat} {kb n : Nat} {m : List (Nat × Nat × List Value)} {bs ns : List Int} {elem : TypeId} {p : Option Addr} {len cap : Nat} {F : Option Addr → Nat → Nat → World → Prop} (h : Ob w0 w av kb bs)
    (hp : Cs w kb [.slice p len cap]) (hm : ∀ b, b ∈ blocks m → b ∈ av) (hn : n = ns.length) (hsz : bs.length + ns.length ≤ 2 ^ 40)
    (hF : ∀ p' c' w3, (∃ v, w3.cell? ⟨kb, 0, none⟩ = some v) → w3.frozen? ⟨kb, 0, none⟩ = false → Ob w0 (setCells w3 ⟨kb, 0, none⟩ [.slice p' (len + n) c'] 0) av kb (bs ++ ns) →
      (∀ l, (∀ b, b ∈ l → b ∈ av ∧ b ≠ kb) → Keep l w (setCells w3 ⟨kb, 0, none⟩ [.slice p' (len + n) c'] 0)) → F p' (len + n) c' w3) :
    appVC w m p len cap n 1 1 elem [u8 0] (bytes ns) F := by
  obtain ⟨s, cc, hC, hFg⟩ := h.cs
  have he := Cs.uniq hC hp
  simp only [List.cons.injEq, Value.slice.injEq, true_and, and_true] at he
  obtain ⟨rfl, rfl, rfl⟩ := he
  subst hn
  refine hFg.app' hm rfl (by rw [bytes_length]; omega) (by omega) (by omega) fun p' c' w4 hF4 kp hs4 => ?_
  have hC4 := hC.keep kp h.mem
  have hL := set_locl (u := w4) (b := kb) (i := 0) (vs := [.slice p' (bs.length + ns.length) c']) hC4.lt
  refine hF p' c' _ ⟨_, hC4.cell (i := 0) rfl⟩ (hC4.frozen _) ⟨⟨p', c', ?_, ?_⟩, h.mem⟩ fun bs hb => ?_
  · have := hC4.set1 (off := 0) (v := .slice p' (bs.length + ns.length) c') (by simp)
    rw [List.length_append]; exact this
  · rw [List.length_append, bytes_append]
    exact (hF4.push hL (by intro b hb; simp at hb; rw [hb]; exact .inl h.mem)).mono fun b hb => List.mem_append_right _ hb
  · exact (Keep.trans (fun b hm hlt => kp b (hb b hm).1 hlt) (hL.keep fun b hm _ => by simp; exact (hb b hm).2))
theorem bset_spec {w0 u : World} {av : List Nat} {kb : Nat} {bs : List Int} {a n v : Int} {R : Ending → World → Prop} (h : Ob w0 u av kb bs) (n1 : 1 ≤ n) (n4 : n ≤ 4) (a0 : 0 ≤ a) (a1 : a + n ≤ bs.length) (hsz : bs.length ≤ 2 ^ 40) (v0 : 0 ≤ v) (v1 : v < 4294967296)
    (hR : ∀ u', Ob w0 u' av kb (setV bs a.toNat n.toNat false v) → Keep av u u' → R (.returned (.tuple #[])) u') :
    Calls P F.bmp_Encode_fn1 #[i64 a, i64 n, .int .u32 v, .pointer (some ⟨kb, 0, none⟩)] u R := by
  refine calls_bmp_Encode_fn1 _ _ _ _ _ _ ?_
  unfold vc_bmp_Encode_fn1
  refine ⟨fun vs u' => ∃ i : Nat, vs = [i64 i] ∧ (i : Int) ≤ n ∧ Ob w0 u' av kb (setP bs a.toNat n.toNat false v fun j => decide (a ≤ j ∧ j < a + i)) ∧ Keep av u u', fun vs _ => match vs with | [.int _ i] => (n - i).toNat | _ => 0, ⟨0, rfl, by omega, ?_, (Ext.refl u).keep _⟩, fun n1' w1 hI => ?_⟩
  · rw [setP_congr (B := fun _ => false) (by intro j; simp), setP_none]; exact h
  obtain ⟨i, hv, hi, hO, kp⟩ := hI
  obtain rfl : n1' = i := by simpa using hv
  refine brB_i (fun hb => ?_) fun hb => ?_
  · have hb : (i : Int) < n := by simpa using hb
    have hOd := hO.dr
    obtain ⟨s, c, hcs, hF⟩ := hOd.cs
    rw [w64 (x := 8 * (i : Int)) (by omega) (by omega), w64 (x := a + (i : Int)) (by omega) (by omega), w64 (x := (i : Int) + 1) (by omega) (by omega)]
    refine ⟨_, _, _, hcs.cell (i := 0) rfl, by omega, ?_⟩
    rw [setP_length] at hF hcs ⊢
    obtain ⟨b, hs, hb1, hb2, hcv, hfz, hset⟩ := hF.set1 (i := (a + (i : Int)).toNat) (by rw [bytes_length, setP_length]; omega) (by omega)
    subst hs
    refine idx_i (a := ⟨b, 0, none⟩) (by omega) (by omega) rfl ?_
    rw [loc_add, Nat.zero_add, Nat.mul_one]
    have hby : IntKind.u8.wrap (shiftZ .shr .u32 v (8 * (i : Int))) = byteAt a.toNat n.toNat false v (a + (i : Int)).toNat := by
      rw [shiftZ_shr v0 (by omega) (by simp [IntKind.bits]; omega), wb8]
      have e2 : (2 : Int) ^ (8 * (i : Int)).toNat = 256 ^ i := by
        rw [show (8 * (i : Int)).toNat = 8 * i by omega, Int.pow_mul]; rfl
      rw [e2]
      unfold byteAt
      simp only [Bool.false_eq_true, if_false]
      rw [show (a + (i : Int)).toNat - a.toNat = i by omega]
    rw [hby]
    obtain ⟨hF', kp'⟩ := hset (u8 (byteAt a.toNat n.toNat false v (a + (i : Int)).toNat))
    have hkb : kb ∈ av := hO.mem
    refine ⟨hcv, hfz, ⟨i + 1, rfl, by omega, ⟨⟨some ⟨b, 0, none⟩, c, ?_, ?_⟩, hkb⟩, ?_⟩, by show (n - ((i : Int) + 1)).toNat < (n - (i : Int)).toNat; omega⟩
    · rw [setP_length]; exact hcs.keep kp' hkb
    · rw [setP_length, ← setP_step (A := fun j => decide (a ≤ j ∧ j < a + (i : Int))) (k := (a + (i : Int)).toNat) rfl (by intro j; rw [Bool.eq_iff_iff]; simp; omega), bytes_set]
      exact hF'
    · exact kp.trans ((Ext.refl w1).drew.keep _ |>.trans kp')
  · have hb : (i : Int) = n := by simp at hb; omega
    refine hR w1 ?_ kp
    unfold setV
    rw [setP_congr (B := fun j => decide (a ≤ j ∧ j < a + (i : Int))) (by intro j; rw [Bool.eq_iff_iff]; simp; omega)]
    exact hO
def mkV (i : Nat) : Int := [16711680, 65280, 255, 4278190080].getD i 0
/-- the head while its masks are written -/
def mkH (W H : Int) : Nat → List Int
  | 0 => setV (hdA true W H) 30 4 false 3
  | i + 1 => setV (mkH W H i) (54 + 4 * i) 4 false (mkV i)
theorem mkH_length (W H : Int) : ∀ i, (mkH W H i).length = 122
  | 0 => by
    rw [mkH, setV_length]
    have := hdA_length true W H
    rw [show (14 + hdS true : Int) = 122 from rfl] at this
    omega
  | i + 1 => by rw [mkH, setV_length]; exact mkH_length W H i
theorem mkH_4 (W H : Int) : mkH W H 4 = hdC true W H := by
  unfold hdC
  rw [if_pos rfl, mkH, mkH, mkH, mkH, mkH]
  rfl
theorem mkV_get {i : Nat} (h : i < 4) : [u32 16711680, u32 65280, u32 255, u32 4278190080][((i : Nat) : Int).toNat]? = some (u32 (mkV i)) ∧ 0 ≤ mkV i ∧ mkV i < 4294967296 := by
  rw [Int.toNat_natCast]
  match i, h with
  | 0, _ => exact ⟨rfl, by decide, by decide⟩
  | 1, _ => exact ⟨rfl, by decide, by decide⟩
  | 2, _ => exact ⟨rfl, by decide, by decide⟩
  | 3, _ => exact ⟨rfl, by decide, by decide⟩
theorem h0_set (al : Bool) : setV (List.replicate (14 + hdS al).toNat 0) 0 2 false 19778 = h0 al := by cases al <;> decide +kernel
theorem Encode_spec {w : World} {p : Option Addr} {len cap : Nat} {W H : Int} {xs : List Int} {al : Bool} {R : Ending → World → Prop} (h : Img w p len xs) (hc : len ≤ cap) (hsm : Sm16 xs)
    (hR : ∀ s n c w', Ext w w' → Ow w.heap.size w'.heap.size w' s n c 1 (bytes (encR al W H xs).1) → R (.returned (.tuple #[.slice s n c, i64 (encR al W H xs).2])) w') :
    Calls P F.bmp_Encode #[.agg #[i64 W, i64 H, .slice p len cap], .bool al] w R := by
  refine calls_bmp_Encode _ _ _ _ _ _ _ _ ?_
  unfold vc_bmp_Encode
  intro k1 hk1 w1 hL1
  have hE1 : Ext w w1 := hL1.ext (by simpa using hk1)
  have ht1 := hL1.there k1 (by simp)
  refine Grid_spec (h.ext hE1) hc (fun hb w2 hE2 => ⟨_, _, rfl, hE2.keep _, brB_t (by decide) ?_⟩) fun hb gb cb w2 hE2 hgb hcb hG => ⟨_, _, rfl, hE2.keep _, brB_f (by decide) ?_⟩
  · have e : encR al W H xs = ([], 6) := by unfold encR; rw [hb]; rfl
    have := hR none 0 0 w2 (hE1.trans hE2) (by rw [e]; exact Ow.nil _ _ _ _ _)
    rw [e] at this; exact this
  have hE02 := hE1.trans hE2
  have e : encR al W H xs = (encB al W H xs, 0) := by unfold encR; rw [hb]; rfl
  rw [e] at hR
  obtain ⟨hg, hxl⟩ := good_iff.1 hb
  obtain ⟨g1, g2, g3, g4, g5⟩ := gfits_iff.1 hg
  have hlen := h.len
  obtain ⟨r1, r2, r3, r4⟩ := rw_bounds (al := al) g1 g3
  have rh : rowE al W * H ≤ 16384 * 4096 := Int.mul_le_mul r2 g4 (by omega) (by omega)
  have rh0 : 0 ≤ rowE al W * H := Int.mul_nonneg (by omega) (by omega)
  have hS : hdS al = 108 ∨ hdS al = 40 := by cases al <;> simp [hdS]
  have hz : (if al then (4 : Int) else 3) = 4 ∨ (if al then (4 : Int) else 3) = 3 := by cases al <;> simp
  have hw0 : 0 ≤ W * (if al then 4 else 3) := Int.mul_nonneg (by omega) (by omega)
  refine ⟨fun vs u => vs = [i64 (hdS al), i64 (if al then 4 else 3)] ∧ u = w2, brB_i (fun ha => ⟨by subst ha; rfl, rfl⟩) fun ha => ⟨by subst ha; rfl, rfl⟩, fun n1 n2 w3 hI => ?_⟩
  obtain ⟨hv, rfl⟩ := hI
  simp only [List.cons.injEq, Value.int.injEq, true_and, and_true] at hv
  obtain ⟨rfl, rfl⟩ := hv
  have hrow : IntKind.i64.wrap (divZ .quo .i64 (IntKind.i64.wrap (IntKind.i64.wrap (W * (if al then 4 else 3)) + 3)) 4 * 4) = rowE al W := by
    rw [w64 (x := W * (if al then 4 else 3)) (by omega) (by omega), w64 (x := W * (if al then 4 else 3) + 3) (by omega) (by omega), quoN (by omega) (by omega) (by omega), w64 (by unfold rowE at r1; omega) (by unfold rowE at r2; omega)]
    rfl
  simp only [arithZ]
  rw [hrow, w64 (x := rowE al W * H) (by omega) (by omega), w64 (x := 14 + hdS al) (by omega) (by omega), w64 (x := 14 + hdS al + rowE al W * H) (by omega) (by omega), w64 (x := W * (if al then 4 else 3)) (by omega) (by omega), w64 (x := rowE al W - W * (if al then 4 else 3)) (by omega) (by omega)]
  refine ⟨by omega, by omega, by omega, by omega, fun k2 w4 hN4 k3 w5 hN5 => ?_⟩
  have hk2 : k2 = w3.heap.size := hN4.1
  have hk3 : k3 = w4.heap.size := hN5.1
  have hs1 := hE1.size
  have hs2 := hE2.size
  have hs4 := hN4.size
  have hs5 := hN5.size
  obtain ⟨hglt, hclt⟩ := hG.lt
  have er : ∀ n : Nat, rep n [u8 0] = bytes (List.replicate n 0) := fun n => by
    induction n with
    | zero => rfl
    | succ n ih => rw [List.replicate_succ, rep, ih]; rfl
  have hE5 : Ext w w5 := (hE02.trans hN4.ext).trans hN5.ext
  have hO4 := hN4.own (N := k2) (M := k2 + 1) (vs := bytes (List.replicate (14 + hdS al).toNat 0)) (len := (14 + hdS al).toNat) (cap := (14 + hdS al + rowE al W * H).toNat) (sz := 1) (by
    rw [mkCells_rep, er]
    refine ⟨bytes (List.replicate (rowE al W * H).toNat 0), ?_⟩
    rw [← bytes_append, List.replicate_append_replicate, show (14 + hdS al).toNat + (rowE al W * H).toNat = (14 + hdS al + rowE al W * H).toNat by omega]) (by simp [bytes_length]) (by rw [mkCells_length]; simp) (by omega) (by omega) (by rw [hN4.2, hk2]; simp)
  have hc5 := hN5.cs
  refine ⟨⟨_, hc5.cell (i := 0) rfl⟩, hc5.frozen _, by simp; omega, ?_⟩
  have hL6 := set_locl (u := w5) (b := k3) (i := 0) (vs := [.slice (some ⟨k2, 0, none⟩) (14 + hdS al).toNat (14 + hdS al + rowE al W * H).toNat]) hc5.lt
  have hc6 := hc5.set1 (off := 0) (v := .slice (some ⟨k2, 0, none⟩) (14 + hdS al).toNat (14 + hdS al + rowE al W * H).toNat) (by simp)
  have hs6 : (setCells w5 ⟨k3, 0, none⟩ [.slice (some ⟨k2, 0, none⟩) (14 + hdS al).toNat (14 + hdS al + rowE al W * H).toNat] 0).heap.size = w5.heap.size := (setCells_same _ _ _ _).size
  have hne : k1 ≠ k3 ∧ gb ≠ k3 ∧ cb ≠ k3 ∧ k1 ≠ gb ∧ k1 ≠ cb := by omega
  obtain ⟨n1, n2, n3, n4, n5⟩ := hne
  have hob6 : Ob w (setCells w5 ⟨k3, 0, none⟩ [.slice (some ⟨k2, 0, none⟩) (14 + hdS al).toNat (14 + hdS al + rowE al W * H).toNat] 0) [k3, gb, cb, k1] k3 (List.replicate (14 + hdS al).toNat 0) := by
    refine ⟨⟨some ⟨k2, 0, none⟩, (14 + hdS al + rowE al W * H).toNat, by rw [List.length_replicate]; exact hc6, ?_⟩, by simp⟩
    rw [List.length_replicate]
    have ho6 := (hO4.ext hN5.ext).chg hL6.chg (by intro b b1 b2 hm; simp at hm; omega)
    exact Fg.of_owB (hE5.step hL6.chg (by simp; omega)) (ho6.owB (by omega)) (fun i hi => by omega) (by simp; omega) (by rw [hs6]; simp; omega)
  have hG6 : GridC (setCells w5 ⟨k3, 0, none⟩ [.slice (some ⟨k2, 0, none⟩) (14 + hdS al).toNat (14 + hdS al + rowE al W * H).toNat] 0) (some ⟨gb, 0, none⟩) gb cb W H (colsOf xs (W * H).toNat) :=
    ((hG.ext hN4.ext).ext hN5.ext).chg hL6.chg (by simp; omega) (by simp; omega)
  generalize setCells w5 ⟨k3, 0, none⟩ [.slice (some ⟨k2, 0, none⟩) (14 + hdS al).toNat (14 + hdS al + rowE al W * H).toNat] 0 = u6 at hob6 hG6 ⊢
  have sub : ∀ {u u' : World}, Keep [k3, gb, cb, k1] u u' → Keep [k1] u u' := fun k b hb => k b (by simp at hb ⊢; omega)
  refine bset_spec hob6 (by omega) (by omega) (by omega) (by rw [List.length_replicate]; omega) (by rw [List.length_replicate]; omega) (by omega) (by omega) fun u1 o1 y1 => ⟨rfl, sub y1, ?_⟩
  rw [show (0 : Int).toNat = 0 by rfl, show (2 : Int).toNat = 2 by rfl, h0_set] at o1
  have q1 := hG6.keep y1 (by simp) (by simp)
  have hl0 := h0_length al
  have u32w : ∀ {v : Int}, 0 ≤ v → v < 4294967296 → IntKind.u32.wrap v = v := fun a b => wu32 a b
  rw [u32w (v := 14 + hdS al + rowE al W * H) (by omega) (by omega), u32w (v := 14 + hdS al) (by omega) (by omega), u32w (v := hdS al) (by omega) (by omega), u32w (v := W) (by omega) (by omega), u32w (v := H) (by omega) (by omega), w64 (x := 8 * (if al then 4 else 3)) (by omega) (by omega), u32w (v := 8 * (if al then 4 else 3)) (by omega) (by omega), u32w (v := rowE al W * H) (by omega) (by omega)]
  have e8 : 8 * (if al then (4 : Int) else 3) = if al then 32 else 24 := by cases al <;> rfl
  have hD : (if al then (32 : Int) else 24) = 32 ∨ (if al then (32 : Int) else 24) = 24 := by cases al <;> simp
  rw [e8]
  refine bset_spec o1 (by omega) (by omega) (by omega) (by omega) (by omega) (by omega) (by omega) fun u2 o2 y2 => ⟨rfl, sub y2, ?_⟩
  refine bset_spec o2 (by omega) (by omega) (by omega) (by simp only [setV_length]; omega) (by simp only [setV_length]; omega) (by omega) (by omega) fun u3 o3 y3 => ⟨rfl, sub y3, ?_⟩
  refine bset_spec o3 (by omega) (by omega) (by omega) (by simp only [setV_length]; omega) (by simp only [setV_length]; omega) (by omega) (by omega) fun u4 o4 y4 => ⟨rfl, sub y4, ?_⟩
  refine bset_spec o4 (by omega) (by omega) (by omega) (by simp only [setV_length]; omega) (by simp only [setV_length]; omega) (by omega) (by omega) fun u5 o5 y5 => ⟨rfl, sub y5, ?_⟩
  refine bset_spec o5 (by omega) (by omega) (by omega) (by simp only [setV_length]; omega) (by simp only [setV_length]; omega) (by omega) (by omega) fun u6' o6 y6 => ⟨rfl, sub y6, ?_⟩
  refine bset_spec o6 (by omega) (by omega) (by omega) (by simp only [setV_length]; omega) (by simp only [setV_length]; omega) (by omega) (by omega) fun u7 o7 y7 => ⟨rfl, sub y7, ?_⟩
  refine bset_spec o7 (by omega) (by omega) (by omega) (by simp only [setV_length]; omega) (by simp only [setV_length]; omega) (by omega) (by omega) fun u8' o8 y8 => ⟨rfl, sub y8, ?_⟩
  refine bset_spec o8 (by omega) (by omega) (by omega) (by simp only [setV_length]; omega) (by simp only [setV_length]; omega) (by omega) (by omega) fun u9 o9 y9 => ⟨rfl, sub y9, ?_⟩
  have o9' : Ob w u9 [k3, gb, cb, k1] k3 (hdA al W H) := o9
  have q9 := (((((((q1.keep y2 (by simp) (by simp)).keep y3 (by simp) (by simp)).keep y4 (by simp) (by simp)).keep y5 (by simp) (by simp)).keep y6 (by simp) (by simp)).keep y7 (by simp) (by simp)).keep y8 (by simp) (by simp)).keep y9 (by simp) (by simp)
  have hal := hdA_length al W H
  refine ⟨fun vs u => vs = [] ∧ Ob w u [k3, gb, cb, k1] k3 (hdC al W H) ∧ GridC u (some ⟨gb, 0, none⟩) gb cb W H (colsOf xs (W * H).toNat), brB_i (fun ha => ?_) fun ha => ⟨rfl, ?_, q9⟩, fun w18 hI => ?_⟩
  · subst ha
    refine bset_spec o9' (by omega) (by omega) (by omega) (by omega) (by omega) (by omega) (by omega) fun u10 o10 y10 => ⟨rfl, sub y10, ?_⟩
    refine ⟨fun vs u => ∃ i : Nat, vs = [i64 i] ∧ i ≤ 4 ∧ Ob w u [k3, gb, cb, k1] k3 (mkH W H i) ∧ GridC u (some ⟨gb, 0, none⟩) gb cb W H (colsOf xs (W * H).toNat), fun vs _ => match vs with | [.int _ n] => (4 - n).toNat | _ => 0, ⟨0, rfl, by omega, o10, q9.keep y10 (by simp) (by simp)⟩, fun n4 w16 hI => ?_⟩
    obtain ⟨i, hv, hi, o, q⟩ := hI
    obtain rfl : n4 = i := by simpa using hv
    refine brB_i (fun hb => ?_) fun hb => ?_
    · have hb : i < 4 := by simp at hb; omega
      obtain ⟨v1, v2, v3⟩ := mkV_get hb
      have hl := mkH_length W H i
      rw [w64 (x := 4 * (i : Int)) (by omega) (by omega), w64 (x := 54 + 4 * (i : Int)) (by omega) (by omega), w64 (x := (i : Int) + 1) (by omega) (by omega)]
      refine ⟨by omega, by omega, mkV i, v1, bset_spec o (by omega) (by omega) (by omega) (by omega) (by omega) v2 v3 fun u' o' y' => ⟨rfl, sub y', ⟨i + 1, rfl, by omega, ?_, q.keep y' (by simp) (by simp)⟩, by show (4 - ((i : Int) + 1)).toNat < (4 - (i : Int)).toNat; omega⟩⟩
      rw [show (54 + 4 * (i : Int)).toNat = 54 + 4 * i by omega] at o'
      exact o'
    · have hb : i = 4 := by simp at hb; omega
      subst hb
      rw [mkH_4] at o
      exact ⟨rfl, o, q⟩
  · subst ha; exact o9'
  obtain ⟨_, hO18, hG18⟩ := hI
  have hhl := hdC_length al W H
  have hbd := fun k => bdB_length (al := al) (xs := xs) (H := H) g1 g3 k
  have kLk : ∀ {u u' : World} {l : List Nat}, Locl l u u' → (∀ b, b ∈ l → b = k1 ∨ u.heap.size ≤ b) → GridC u (some ⟨gb, 0, none⟩) gb cb W H (colsOf xs (W * H).toNat) → GridC u' (some ⟨gb, 0, none⟩) gb cb W H (colsOf xs (W * H).toNat) := fun hL hl hG => by
    obtain ⟨a, b⟩ := hG.lt
    exact hG.chg hL.chg (fun hm => by have := hl _ hm; omega) (fun hm => by have := hl _ hm; omega)
  rw [w64 (x := H - 1) (by omega) (by omega)]
  refine ⟨fun vs u => ∃ k : Nat, vs = [i64 (H - 1 - k)] ∧ (k : Int) ≤ H ∧ Ob w u [k3, gb, cb, k1] k3 (hdC al W H ++ bdB al xs W H k) ∧ GridC u (some ⟨gb, 0, none⟩) gb cb W H (colsOf xs (W * H).toNat),
    fun vs _ => match vs with | [.int _ n] => (n + 1).toNat | _ => 0, ⟨0, by simp, by omega, by simpa [bdB] using hO18, hG18⟩, fun n6 w19 hI => ?_⟩
  obtain ⟨k, hv, hk, hO, hG19⟩ := hI
  obtain rfl : n6 = H - 1 - k := by simpa using hv
  refine brB_i (fun hy => ?_) fun hy => ?_
  · have hy : 0 ≤ H - 1 - (k : Int) := by simpa using hy
    generalize hyy : H - 1 - (k : Int) = y at hy ⊢
    have yw0 : 0 ≤ y * W := Int.mul_nonneg hy (by omega)
    have yw1 : y * W + W ≤ W * H := by
      rw [show y * W + W = (y + 1) * W by rw [Int.add_mul y 1]; omega, Int.mul_comm W H]
      exact Int.mul_le_mul_of_nonneg_right (by omega) (by omega)
    have hbk := hbd k
    have hrk : rowE al W * k ≤ rowE al W * H := Int.mul_le_mul_of_nonneg_left (by omega) (by omega)
    have hlo : (hdC al W H ++ bdB al xs W H k).length ≤ 70000000 := by rw [List.length_append]; omega
    refine ⟨fun vs u => ∃ x : Nat, vs = [i64 x] ∧ (x : Int) ≤ W ∧ Ob w u [k3, gb, cb, k1] k3 ((hdC al W H ++ bdB al xs W H k) ++ lnB al xs W y x) ∧ GridC u (some ⟨gb, 0, none⟩) gb cb W H (colsOf xs (W * H).toNat),
      fun vs _ => match vs with | [.int _ n] => (W - n).toNat | _ => 0, ⟨0, rfl, by omega, by simpa [lnB] using hO, hG19⟩, fun n7 w20 hI => ?_⟩
    obtain ⟨x, hv, hx, hO20, hG20⟩ := hI
    obtain rfl : n7 = x := by simpa using hv
    have hlnl := lnB_length al xs W y x
    have hsz : szB al = 3 ∨ szB al = 4 := by cases al <;> simp [szB]
    have hszx : szB al * x ≤ 4 * x := Nat.mul_le_mul_right _ (by omega)
    have hbig : ((hdC al W H ++ bdB al xs W H k) ++ lnB al xs W y x).length ≤ 80000000 := by rw [List.length_append]; omega
    refine brB_i (fun hxb => ?_) fun hxb => ?_
    · have hxb : (x : Int) < W := by simpa using hxb
      rw [w64 (x := (x : Int) + 1) (by omega) (by omega)]
      refine ⟨fun vs u => vs = [] ∧ Ob w u [k3, gb, cb, k1] k3 ((hdC al W H ++ bdB al xs W H k) ++ lnB al xs W y (x + 1)) ∧ GridC u (some ⟨gb, 0, none⟩) gb cb W H (colsOf xs (W * H).toNat), ?_, fun w31 hI => ⟨⟨x + 1, rfl, by omega, hI.2.1, hI.2.2⟩, by show (W - ((x : Int) + 1)).toNat < (W - (x : Int)).toNat; omega⟩⟩
      refine GAt_spec hG20 (by omega) hy hxb (by omega) fun w21 hE21 => ⟨_, _, _, _, _, rfl, hE21.keep _, fun k4 hk4 w22 hL22 => ?_⟩
      have hcol : (colsOf xs (W * H).toNat).getD (y * W + x).toNat zeroC = colAt xs (y * W + x).toNat := colsOf_getD (by omega)
      rw [hcol] at *
      have hsmc := colAt_sm hsm (y * W + x).toNat
      have hlb : lnB al xs W y (x + 1) = lnB al xs W y x ++ pixB al (colAt xs (y * W + x).toNat) := rfl
      generalize colAt xs (y * W + x).toNat = c at hsmc hlb ⊢
      have hs1 := hsmc c.1 (by simp [coL])
      have hs2 := hsmc c.2.1 (by simp [coL])
      have hs3 := hsmc c.2.2.1 (by simp [coL])
      have hs4 := hsmc c.2.2.2 (by simp [coL])
      have kp : ∀ {l : List Nat} {u : World}, Keep l u u := fun {l u} => (Ext.refl u).keep _
      have hO21 := hO20.step hE21
      have hG21 := hG20.ext hE21
      have hk3lt := (hO21.avs k3 (by simp)).2
      have hk1lt := (hO21.avs k1 (by simp)).2
      have hO22 := hO21.locl hL22 (by intro b hb; simp at hb; rcases hb with rfl | rfl; right; exact hk4; left; exact ⟨by simp, n1⟩)
      have hG22 := kLk hL22 (by intro b hb; simp at hb; rcases hb with rfl | rfl; right; exact hk4; left; rfl) hG21
      obtain ⟨s22, c22, hcs22, hF22⟩ := hO22.cs
      refine ⟨_, _, _, hcs22.cell (i := 0) rfl, ?_⟩
      refine down_spec hs3.1 hs3.2 ⟨_, rfl, kp, (Ext.refl _).keeps, down_spec hs2.1 hs2.2 ⟨_, rfl, kp, (Ext.refl _).keeps, down_spec hs1.1 hs1.2 ⟨_, rfl, kp, (Ext.refl _).keeps, fun k7 hk7 w26 hL26 => ?_⟩⟩⟩
      have hs22 := hL22.size
      have ht22 := hL22.there k4 (by simp)
      have hO26 := hO22.locl hL26 (by intro b hb; simp at hb; rcases hb with rfl | rfl | rfl; right; exact hk7; left; exact ⟨by simp, by omega⟩; left; exact ⟨by simp, n1⟩)
      have hG26 : GridC w26 (some ⟨gb, 0, none⟩) gb cb W H (colsOf xs (W * H).toNat) := by
        obtain ⟨a, b⟩ := hG22.lt
        obtain ⟨a', b'⟩ := hG21.lt
        exact hG22.chg hL26.chg (by simp; omega) (by simp; omega)
      have hcs26 := hcs22.locl hL26 (by simp; omega)
      refine Ob.app (ns := [dnV c.2.2.1 255, dnV c.2.1 255, dnV c.1 255]) (n := 3) (elem := 5) (m := [(139, k7, [u8 (dnV c.2.2.1 255), u8 (dnV c.2.1 255), u8 (dnV c.1 255)]), (18, k4, [u16 c.1, u16 c.2.1, u16 c.2.2.1, u16 c.2.2.2]), (2, k1, [i64 W, i64 H, .slice p len cap])]) (w := w26) hO26 hcs26 (by simp [blocks]) rfl (by simp only [List.length_cons, List.length_nil]; omega) fun p' c' w27 d1 d2 hO27 kp27 => ⟨d1, d2, by simp; omega, brB_i (fun ha => ?_) fun ha => ⟨rfl, ?_, ?_⟩⟩
      · subst ha
        have hG27 := hG26.keep (kp27 [gb, cb] (by simp; omega)) (by simp) (by simp)
        have hO27d := hO27.dr
        obtain ⟨s27, c27, hcs27, hF27⟩ := hO27d.cs
        refine ⟨_, _, _, hcs27.cell (i := 0) rfl, down_spec hs4.1 hs4.2 ⟨_, rfl, kp, (Ext.refl _).keeps, fun k12 hk12 w29 hL29 => ?_⟩⟩
        have ha27 := hO27d.avs
        have hO29 := hO27d.locl hL29 (by intro b hb; simp at hb; rcases hb with rfl | rfl | rfl | rfl; right; exact hk12; left; exact ⟨by simp, by omega⟩; left; exact ⟨by simp, by omega⟩; left; exact ⟨by simp, n1⟩)
        have hk3' := (ha27 k3 (by simp)).2
        have hgb' := (ha27 gb (by simp)).2
        have hcb' := (ha27 cb (by simp)).2
        obtain ⟨a', b'⟩ := hG21.lt
        have hs26 := hL26.size
        have hcs29 := hcs27.locl hL29 (by simp; omega)
        have hG29 := (hG27.ext (Ext.refl _).drew).chg hL29.chg (by simp; omega) (by simp; omega)
        refine Ob.app (ns := [dnV c.2.2.2 255]) (n := 1) (elem := 5) (m := [(147, k12, [u8 (dnV c.2.2.2 255)]), (139, k7, [u8 (dnV c.2.2.1 255), u8 (dnV c.2.1 255), u8 (dnV c.1 255)]), (18, k4, [u16 c.1, u16 c.2.1, u16 c.2.2.1, u16 c.2.2.2]), (2, k1, [i64 W, i64 H, .slice p len cap])]) (w := w29) hO29 hcs29 (by simp [blocks]) rfl (by rw [List.length_append]; simp only [List.length_cons, List.length_nil]; omega) fun p'' c'' w30 d1 d2 hO30 kp30 => ⟨d1, d2, by simp; omega, rfl, ?_, hG29.keep (kp30 [gb, cb] (by simp; omega)) (by simp) (by simp)⟩
        rw [hlb, ← List.append_assoc]
        have := hO30.mono (l := [k3, gb, cb, k1]) (by simp) (by simp)
        rw [List.append_assoc (hdC true W H ++ bdB true xs W H k ++ lnB true xs W y x)] at this
        exact this
      · subst ha
        rw [hlb, ← List.append_assoc]
        exact hO27.mono (by simp) (by simp)
      · exact hG26.keep (kp27 [gb, cb] (by simp; omega)) (by simp) (by simp)
    · have hxb : (x : Int) = W := by simp at hxb; omega
      have ex : x = W.toNat := by omega
      subst ex
      obtain ⟨s, c, hcs, hF⟩ := hO20.cs
      refine ⟨_, _, _, hcs.cell (i := 0) rfl, by omega, by omega, by omega, ?_⟩
      have epad : (rowE al W - W * (if al then 4 else 3)).toNat = padN al W := rfl
      have hpn : padN al W ≤ 3 := by unfold padN; omega
      rw [epad]
      show appVC w20 _ s _ c _ 1 1 5 [u8 0] (rep (padN al W) [u8 0]) _
      rw [er]
      refine Ob.app (ns := List.replicate (padN al W) 0) (n := padN al W) hO20 hcs (by simp [blocks]) (by simp) (by rw [List.length_replicate]; omega) fun p7 c7 w32 d1 d2 hO32 kp32 => ⟨d1, d2, by simp; omega, ?_⟩
      rw [w64 (x := y - 1) (by omega) (by omega)]
      refine ⟨⟨k + 1, by congr 2; omega, by omega, ?_, hG20.keep (kp32 [gb, cb] (by simp; omega)) (by simp) (by simp)⟩, by show (y - 1 + 1).toNat < (y + 1).toNat; omega⟩
      have hbs : hdC al W H ++ bdB al xs W H (k + 1) = (hdC al W H ++ bdB al xs W H k) ++ lnB al xs W y W.toNat ++ List.replicate (padN al W) 0 := by rw [bdB, hyy, rwB]; simp [List.append_assoc]
      rw [hbs]; exact hO32
  · have hy : (k : Int) = H := by simp at hy; omega
    have ek : k = H.toNat := by omega
    subst ek
    obtain ⟨s, c, hcs, hF⟩ := hO.cs
    exact ⟨_, _, _, hcs.cell (i := 0) rfl, hR _ _ _ w19 hO.ext hF.ow⟩
end Go.Proofs.YtjdljddfiddnoaaDoor
