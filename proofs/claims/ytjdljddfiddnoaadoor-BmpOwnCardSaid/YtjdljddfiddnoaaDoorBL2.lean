/- Bmp: back; turns. -/
import Derived.Test.YtjdljddfiddnoaaDoorBP1
namespace Go.Proofs.YtjdljddfiddnoaaDoor
open Go Go.Vc Go.RowKit
set_option maxRecDepth 100000
set_option linter.unusedVariables false
set_option linter.unusedSimpArgs false

theorem flat_getD : ∀ {l : List Co} {q r : Nat}, q < l.length → r < 4 → (flat l).getD (4 * q + r) 0 = (coL (l.getD q zeroC)).getD r 0
  | [], q, r, h, _ => by simp at h
  | c :: l, 0, r, _, hr => by
    rw [flat_cons]
    match r, hr with
    | 0, _ => rfl
    | 1, _ => rfl
    | 2, _ => rfl
    | 3, _ => rfl
  | c :: l, q + 1, r, h, hr => by
    have ih := flat_getD (l := l) (q := q) (r := r) (by simpa using h) hr
    rw [flat_cons, show 4 * (q + 1) + r = (4 * q + r) + 1 + 1 + 1 + 1 by omega]
    simp only [List.getD_cons_succ]
    exact ih
def outX (al : Bool) (W H : Int) (xs : List Int) (dn : Bool) : List Int := flat ((List.range (W * H).toNat).map fun q => rndC al (colAt xs (posQ W H dn q)))
theorem outX_length (al : Bool) (W H : Int) (xs : List Int) (dn : Bool) : (outX al W H xs dn).length = 4 * (W * H).toNat := by simp [outX, flat_length]
theorem outX_get {al : Bool} {W H : Int} {xs : List Int} {dn : Bool} {q r : Nat} (hq : q < (W * H).toNat) (hr : r < 4) : (outX al W H xs dn).getD (4 * q + r) 0 = (coL (rndC al (colAt xs (posQ W H dn q)))).getD r 0 := by
  unfold outX
  rw [flat_getD (by simpa using hq) hr]
  congr 2
  simp [List.getD, hq]
theorem col_get {xs : List Int} {q r : Nat} (hr : r < 4) : (coL (colAt xs q)).getD r 0 = xs.getD (4 * q + r) 0 := by
  match r, hr with
  | 0, _ => rfl
  | 1, _ => rfl
  | 2, _ => rfl
  | 3, _ => rfl
theorem rnd_get {al : Bool} {c : Co} {r : Nat} (hr : r < 4) : (coL (rndC al c)).getD r 0 = if r = 3 ∧ al = false then 65535 else roundV ((coL c).getD r 0) := by
  match r, hr with
  | 0, _ => rfl
  | 1, _ => rfl
  | 2, _ => rfl
  | 3, _ => cases al <;> rfl
/-- what is read of a file just written -/
theorem enc_dec {al : Bool} {W H : Int} {xs : List Int} (hg : good W H xs = true) (hs : Sm16 xs) : decR (encB al W H xs) (W * H) = (W, H, outX al W H xs false, 0) := by
  obtain ⟨hgf, hxl⟩ := good_iff.1 hg
  obtain ⟨g1, g2, g3, g4, g5⟩ := gfits_iff.1 hgf
  have hd := hd_is al (W := W) (H := H) (by omega) g3 (by omega) g4
  have hcl := hdC_length al W H
  have hS : hdS al = 108 ∨ hdS al = 40 := by cases al <;> simp [hdS]
  have e : litN (encB al W H xs) 22 4 = H := (litN_congr 4 22 fun j h1 h2 => by unfold encB; exact getD_left (by omega)).trans hd.g
  have eg : fG (encB al W H xs) = H := by show sg (litN _ 22 4) = H; rw [e]; unfold sg; rw [if_neg (by omega)]
  have en : fN (encB al W H xs) = false := by unfold fN; rw [eg]; simp; omega
  have := read_back (al := al) (most := W * H) hg hs rfl (fun j _ => rfl) (.inl eg) (Int.le_refl _)
  rw [en] at this
  exact this
/-- the same, upside down -/
theorem turn_dec {al : Bool} {W H : Int} {xs : List Int} (hg : good W H xs = true) (hs : Sm16 xs) : decR (setV (encB al W H xs) 22 4 false (4294967296 - H)) (W * H) = (W, H, outX al W H xs true, 0) := by
  obtain ⟨hgf, hxl⟩ := good_iff.1 hg
  obtain ⟨g1, g2, g3, g4, g5⟩ := gfits_iff.1 hgf
  have hcl := hdC_length al W H
  have hS : hdS al = 108 ∨ hdS al = 40 := by cases al <;> simp [hdS]
  have p4 : (256 : Int) ^ 4 = 4294967296 := by decide
  have e : litN (setV (encB al W H xs) 22 4 false (4294967296 - H)) 22 4 = 4294967296 - H := lit_eq (by omega) (by omega) (by unfold encB; rw [List.length_append]; omega) (by omega) (by rw [p4]; omega)
  have eg : fG (setV (encB al W H xs) 22 4 false (4294967296 - H)) = -H := by show sg (litN _ 22 4) = -H; rw [e]; unfold sg; rw [if_pos (by omega)]; omega
  have en : fN (setV (encB al W H xs) 22 4 false (4294967296 - H)) = true := by unfold fN; rw [eg]; simp; omega
  have := read_back (al := al) (most := W * H) hg hs (setV_length _ _ _ _ _) (fun j hj => setV_ne (by omega)) (.inr eg) (Int.le_refl _)
  rw [en] at this
  exact this
theorem encR_good {al : Bool} {W H : Int} {xs : List Int} (hg : good W H xs = true) : encR al W H xs = (encB al W H xs, 0) := by unfold encR; rw [hg]; rfl
theorem encR_bad {al : Bool} {W H : Int} {xs : List Int} (hg : good W H xs = false) : encR al W H xs = ([], 6) := by unfold encR; rw [hg]; rfl
theorem encB_len {al : Bool} {W H : Int} {xs : List Int} (hg : gfits W H = true) : 54 ≤ (encB al W H xs).length ∧ (encB al W H xs).length ≤ 2 ^ 30 := by
  obtain ⟨g1, g2, g3, g4, g5⟩ := gfits_iff.1 hg
  have h1 := hdC_length al W H
  have h2 := bdB_length (al := al) (xs := xs) (H := H) g1 g3 H.toNat
  obtain ⟨r1, r2, r3, r4⟩ := rw_bounds (al := al) g1 g3
  have rh : rowE al W * H ≤ 16384 * 4096 := Int.mul_le_mul r2 g4 (by omega) (by omega)
  have rh0 : 0 ≤ rowE al W * H := Int.mul_nonneg (by omega) (by omega)
  have hS : hdS al = 108 ∨ hdS al = 40 := by cases al <;> simp [hdS]
  rw [show ((H.toNat : Nat) : Int) = H by omega] at h2
  unfold encB
  simp only [List.length_append]
  omega
theorem encR_small {al : Bool} {W H : Int} {xs : List Int} : (encR al W H xs).1.length ≤ 2 ^ 30 := by
  cases hg : good W H xs with
  | false => rw [encR_bad hg]; simp
  | true => rw [encR_good hg]; exact (encB_len (good_iff.1 hg).1).2
theorem encR_long {al : Bool} {W H : Int} {xs : List Int} (hg : good W H xs = true) : 54 ≤ (encR al W H xs).1.length := by
  rw [encR_good hg]; exact (encB_len (good_iff.1 hg).1).1
theorem back_walk {w : World} {p : Option Addr} {len cap : Nat} {W H : Int} {xs : List Int} {al : Bool} {R : Ending → World → Prop} (hT : Tab w) (hp : ImgOk w W H p len cap xs) (hR : ∀ w', Ext w w' → R (.returned (.bool true)) w') :
    Calls P F.law11_BmpBack #[.agg #[i64 W, i64 H, .slice p len cap], .bool al] w R := by
  refine calls_law11_BmpBack _ _ _ _ _ _ _ _ ?_
  unfold vc_law11_BmpBack
  intro k1 hk1
  refine St.locl (St.start w) (by simp; omega) fun w1 f1 H1 => ?_
  refine wakes_spec (hT.ext H1.pal.ext) fun w2 hE2 => ⟨_, rfl, hE2.keep _, brB_f rfl ?_⟩
  have H2 := H1.step hE2 0
  have hs := hp.sm
  have hlen := hp.img.len
  refine copy_st 1 H2 (hp.img.ext H2.pal.ext) hp.sz (by decide) fun p1 c1 w3 f3 hE3 H3 => ⟨_, _, _, _, _, rfl, hE3.keep _, ?_⟩
  refine enc_st 2 _ H3 (St.img (c := 1) H3 (List.Mem.head _)) (St.room (c := 1) H3 (List.Mem.head _)) hs (by decide) rfl fun p2 n2 c2 w4 f4 hE4 H4 => ⟨_, _, _, _, rfl, hE4.keep _, ?_⟩
  have l2 := St.blen H4 (c := 2) (p := p2) (List.Mem.head _)
  cases hg : good W H xs with
  | false =>
    rw [encR_bad hg] at l2 ⊢
    refine brB_t rfl (to_bool (hR w4 H4.pal.ext) ?_)
    have : n2 = 0 := l2
    subst this; rfl
  | true =>
    obtain ⟨hgf, hxl⟩ := good_iff.1 hg
    obtain ⟨g1, g2, g3, g4, g5⟩ := gfits_iff.1 hgf
    have wh0 : 0 ≤ W * H := Int.mul_nonneg (by omega) (by omega)
    have hle := encR_len (al := al) (W := W) (H := H) (xs := xs)
    have hlb := encR_small (al := al) (W := W) (H := H) (xs := xs)
    rw [encR_good hg] at l2 hle hlb H4 ⊢
    refine brB_f rfl ?_
    rw [w64 (x := W * H) (by omega) (by omega)]
    refine dec_st 3 _ H4 hT (St.by (c := 2) H4 (List.Mem.head _) (by have hlb' : (encB al W H xs).length ≤ 2 ^ 30 := hlb; simp only at l2; omega) (encB_fit hs)) (St.room (c := 2) H4 (List.Mem.head _)) (by decide) (enc_dec hg hs) fun p3 n3 c3 w5 f5 hE5 H5 => ⟨_, _, _, _, _, _, rfl, hE5.keep _, fun k8 hk8 => ?_⟩
    have l3 := St.len H5 (c := 3) (p := p3) (xs := outX al W H xs false) (List.Mem.head _)
    have ol := outX_length al W H xs false
    have hn3 : n3 = len := by omega
    subst hn3
    refine brB_f (by simp) ?_
    refine ⟨fun vs u => ∃ (i : Nat) (f : Nat → Nat), vs = [i64 i] ∧ i ≤ n3 ∧ Ths w u f [k8, k1] [⟨3, p3, n3, c3, 1, px (outX al W H xs false)⟩], fun vs _ => match vs with | [.int _ i] => (n3 - i).toNat | _ => 0, ?_, fun n7 w8 hI => ?_⟩
    · exact St.locl H5 (by simp; omega) fun u f Hu => ⟨0, f, rfl, by omega, Hu.mono (by simp) (by simp)⟩
    obtain ⟨i, f8, hv, hi, H8⟩ := hI
    obtain rfl : n7 = i := by simpa using hv
    refine brB_i (fun hb => ?_) fun hb => hR w8 H8.pal.ext
    have hb : i < n3 := by simp at hb; omega
    have hq : i / 4 < (W * H).toNat := by omega
    have hge := outX_get (al := al) (W := W) (H := H) (xs := xs) (dn := false) (q := i / 4) (r := i % 4) hq (by omega)
    rw [rnd_get (by omega)] at hge
    have hpos : posQ W H false (i / 4) = i / 4 := rfl
    rw [hpos, col_get (by omega), show 4 * (i / 4) + i % 4 = i by omega] at hge
    have hsm := sm_getD hs i
    have gx : (px (outX al W H xs false))[(i : Int).toNat]? = some (u16 ((outX al W H xs false).getD i 0)) := by rw [Int.toNat_natCast, px_get (by omega)]
    refine ⟨fun vs u => vs = [] ∧ ∃ f, Ths w u f [k8, k1] [⟨3, p3, n3, c3, 1, px (outX al W H xs false)⟩], ?_, fun w10 hI => ?_⟩
    · have hIm := hp.img.ext H8.pal.ext
      refine getE hIm.sl hlen (by omega) (by omega) fun a1 ha1 => ⟨_, ha1 w8 (Ext.refl _), ?_⟩
      rw [Int.toNat_natCast]
      refine Round_spec hsm.1 hsm.2 ⟨_, rfl, (Ext.refl _).keep _, ?_⟩
      rw [remN (by omega)]
      refine brB_i (fun hc => ?_) fun hc => ?_
      · have hc : (i : Int) % 4 = 3 ∧ al = false := by simpa using hc
        rw [if_pos ⟨by omega, hc.2⟩] at hge
        refine St.late H8 (c := 3) (List.Mem.head _) (by omega) gx fun a2 ha2 => ⟨_, ha2 _ _ _ _ H8 (List.Mem.head _), ?_⟩
        exact brB_f (by rw [hge]; rfl) ⟨rfl, f8, H8⟩
      · have hc : ¬ (i % 4 = 3 ∧ al = false) := by rintro ⟨h1, h2⟩; subst h2; simp at hc; omega
        rw [if_neg hc] at hge
        refine St.late H8 (c := 3) (List.Mem.head _) (by omega) gx fun a2 ha2 => ⟨_, ha2 _ _ _ _ H8 (List.Mem.head _), ?_⟩
        exact brB_f (by rw [hge]; simp) ⟨rfl, f8, H8⟩
    · obtain ⟨_, f, Hf⟩ := hI
      rw [w64 (x := (i : Int) + 1) (by omega) (by omega)]
      exact ⟨⟨i + 1, f, rfl, by omega, Hf⟩, by show (n3 - ((i : Int) + 1)).toNat < (n3 - (i : Int)).toNat; omega⟩
theorem turns_walk {w : World} {p : Option Addr} {len cap : Nat} {W H : Int} {xs : List Int} {al : Bool} {R : Ending → World → Prop} (hT : Tab w) (hp : ImgOk w W H p len cap xs) (hR : ∀ w', Ext w w' → R (.returned (.bool true)) w') :
    Calls P F.law11_BmpTurns #[.agg #[i64 W, i64 H, .slice p len cap], .bool al] w R := by
  refine calls_law11_BmpTurns _ _ _ _ _ _ _ _ ?_
  unfold vc_law11_BmpTurns
  intro k1 hk1
  refine St.locl (St.start w) (by simp; omega) fun w1 f1 H1 => ?_
  refine wakes_spec (hT.ext H1.pal.ext) fun w2 hE2 => ⟨_, rfl, hE2.keep _, brB_f rfl ?_⟩
  have H2 := H1.step hE2 0
  have hs := hp.sm
  have hlen := hp.img.len
  refine copy_st 1 H2 (hp.img.ext H2.pal.ext) hp.sz (by decide) fun p1 c1 w3 f3 hE3 H3 => ⟨_, _, _, _, _, rfl, hE3.keep _, ?_⟩
  refine enc_st 2 _ H3 (St.img (c := 1) H3 (List.Mem.head _)) (St.room (c := 1) H3 (List.Mem.head _)) hs (by decide) rfl fun p2 n2 c2 w4 f4 hE4 H4 => ⟨_, _, _, _, rfl, hE4.keep _, ?_⟩
  have l2 := St.blen H4 (c := 2) (p := p2) (List.Mem.head _)
  cases hg : good W H xs with
  | false =>
    rw [encR_bad hg] at l2 ⊢
    refine brB_t rfl (to_bool (hR w4 H4.pal.ext) ?_)
    have : n2 = 0 := l2
    subst this; rfl
  | true =>
    obtain ⟨hgf, hxl⟩ := good_iff.1 hg
    obtain ⟨g1, g2, g3, g4, g5⟩ := gfits_iff.1 hgf
    have wh0 : 0 ≤ W * H := Int.mul_nonneg (by omega) (by omega)
    have hlb := encR_small (al := al) (W := W) (H := H) (xs := xs)
    have hll := encR_long (al := al) hg
    rw [encR_good hg] at l2 hlb hll H4 ⊢
    have hlb' : (encB al W H xs).length ≤ 2 ^ 30 := hlb
    have hn47 : n2 ≤ 2 ^ 47 := by simp only at l2; omega
    have hfe := encB_fit (al := al) (W := W) (H := H) hs
    refine brB_f rfl ?_
    rw [w64 (x := W * H) (by omega) (by omega), w64 (x := 0 - H) (by omega) (by omega), wb32, show (0 - H) % 4294967296 = 4294967296 - H by omega]
    have H4' := H4.dr
    refine ⟨fun vs u => ∃ (k : Nat) (s : Option Addr) (n c : Nat) (f : Nat → Nat), vs = [i64 0, .pointer (some ⟨k, 0, none⟩), i64 W, i64 H, .slice s n c] ∧ Ths w u f [k, k1] [⟨3, s, n, c, 1, px (outX al W H xs false)⟩, ⟨2, p2, n2, c2, 1, bytes (encB al W H xs)⟩], ?_, ?_⟩
    · have dec : ∀ {u : World} {f : Nat → Nat} {L : List Nat} {l : List Tg} {q : Option Addr} {c : Nat} {R : Ending → World → Prop}, Ths w u f L l → (⟨4, q, n2, c, 1, bytes (encB al W H xs)⟩ : Tg) ∈ l →
          (∀ p' n' c' u' f', Ext u u' → Ths w u' f' L (⟨3, p', n', c', 1, px (outX al W H xs false)⟩ :: l) → R (.returned (.tuple #[.agg #[i64 W, i64 H, .slice p' n' c'], i64 0])) u') → Calls P F.bmp_Decode #[.slice q n2 c, i64 (W * H)] u R := fun h ht hK =>
        dec_st 3 _ h hT (St.by (c := 4) h ht hn47 hfe) (St.room (c := 4) h ht) (by decide) (enc_dec hg hs) hK
      repeat' first
        | (refine St.locl (by assumption) (by first | (simp; done) | (simp; omega) | (intro b hb; simp at *; omega)) fun u f H => ?_)
        | (refine own_st 4 (by assumption) (St.by (c := 2) (by assumption) (by repeat (first | exact List.Mem.head _ | apply List.Mem.tail)) hn47 hfe) (by decide) fun p c u f hE H => ⟨_, _, _, rfl, hE.keep _, hE.keeps, ?_⟩)
        | (refine dec (by assumption) (by repeat (first | exact List.Mem.head _ | apply List.Mem.tail)) fun p n c u f hE H => ⟨_, _, _, _, _, _, rfl, hE.keep _, ?_⟩)
        | (refine ⟨_, _, _, _, _, rfl, Ths.mono (by assumption) (by simp) (by simp)⟩)
        | (intro k hk)
        | (refine And.intro ?_ ?_)
    intro n13 k19 n14 n15 p8 k20 k21 w15 hI
    obtain ⟨k, s, n, c, f15, hv, H15⟩ := hI
    simp only [List.cons.injEq, Value.int.injEq, Value.pointer.injEq, Option.some.injEq, Addr.mk.injEq, Value.slice.injEq, true_and, and_true] at hv
    obtain ⟨rfl, rfl, rfl, rfl, rfl, rfl, rfl⟩ := hv
    have hB15 := St.by (c := 2) H15 (List.Mem.tail _ (List.Mem.head _)) hn47 hfe
    refine refSet_spec hB15.sl hB15.ln hB15.lim hB15.fit (by omega) (by omega) (fun hne => (hne (by unfold thereE; rw [if_neg (by omega), if_neg (by simp only at l2 hll; omega)])).elim) fun _ p9 c9 w16 hE16 ho16 => ⟨_, _, _, _, rfl, hE16.keep _, ?_⟩
    have H16 := H15.new hE16 (i := 5) (by decide) ho16
    refine dec_st 6 _ H16 hT (St.by (c := 5) (bs := setV (encB al n14 n15 xs) 22 4 false (4294967296 - n15)) H16 (List.Mem.head _) hn47 (setV_fit hfe)) (St.room (c := 5) H16 (List.Mem.head _)) (by decide) (turn_dec hg hs) fun p10 n10 c10 w17 f17 hE17 H17 => ⟨_, _, _, _, _, _, rfl, hE17.keep _, fun k26 hk26 => ?_⟩
    have l3 := St.len H17 (c := 3) (p := p8) (by repeat (first | exact List.Mem.head _ | apply List.Mem.tail))
    have l6 := St.len H17 (c := 6) (p := p10) (by repeat (first | exact List.Mem.head _ | apply List.Mem.tail))
    rw [outX_length] at l3 l6
    have e4 : 4 * n14 * n15 = 4 * (n14 * n15) := Int.mul_assoc _ _ _
    rw [w64 (x := 4 * n14) (by omega) (by omega), e4, w64 (x := 4 * (n14 * n15)) (by omega) (by omega)]
    have hk20 : (k20 : Int) = 4 * (n14 * n15) := by omega
    refine brB_f (by simp [hk20]; omega) ?_
    refine ⟨fun vs u => ∃ (i : Nat) (f : Nat → Nat), vs = [i64 i] ∧ i ≤ k20 ∧ Ths w u f [k26, k19, k1] [⟨6, p10, n10, c10, 1, px (outX al n14 n15 xs true)⟩, ⟨3, p8, k20, k21, 1, px (outX al n14 n15 xs false)⟩], fun vs _ => match vs with | [.int _ i] => (k20 - i).toNat | _ => 0, ?_, fun n20 w20 hI => ?_⟩
    · exact St.locl H17 (by simp; omega) fun u f Hu => ⟨0, f, rfl, by omega, Hu.mono (by simp) (by simp)⟩
    obtain ⟨i, f20, hv, hi, H20⟩ := hI
    obtain rfl : n20 = i := by simpa using hv
    refine brB_i (fun hb => ?_) fun hb => hR w20 H20.pal.ext
    have hb : i < k20 := by simp at hb; omega
    -- the place of the pixel
    generalize hq : i / 4 = q
    generalize hr : i % 4 = r
    have hi4 : i = 4 * q + r := by omega
    have hr4 : r < 4 := by omega
    have hqn : q < (n14 * n15).toNat := by omega
    have q0 : 0 ≤ (q : Int) / n14 := Int.ediv_nonneg (by omega) (by omega)
    have q1 : (q : Int) / n14 < n15 := Int.ediv_lt_of_lt_mul (by omega) (by rw [Int.mul_comm]; omega)
    have x0 : 0 ≤ (q : Int) % n14 := Int.emod_nonneg _ (by omega)
    have x1 : (q : Int) % n14 < n14 := Int.emod_lt_of_pos _ (by omega)
    have hqq : (q : Int) / n14 * n14 + (q : Int) % n14 = q := by have := Int.ediv_mul_add_emod (q : Int) n14; omega
    generalize hy : (q : Int) / n14 = y at q0 q1 hqq
    generalize hx : (q : Int) % n14 = x at x0 x1 hqq
    have p0 : 0 ≤ y * n14 := Int.mul_nonneg q0 (by omega)
    have hdi : (i : Int) / (4 * n14) = y ∧ (i : Int) % (4 * n14) = 4 * x + r := by
      have e : (i : Int) = y * (4 * n14) + (4 * x + r) := by
        have : y * (4 * n14) = 4 * (y * n14) := by rw [Int.mul_left_comm]
        omega
      have h1 := place_q (W := 4 * n14) (i := 4 * x + r) (k := y) (by omega) (by omega) (by omega)
      rw [e]; exact ⟨h1.2, h1.1⟩
    have hrr0 : 0 ≤ (n15 - 1 - y) * n14 := Int.mul_nonneg (by omega) (by omega)
    have hrr1 : (n15 - 1 - y) * n14 + n14 ≤ n14 * n15 := by
      rw [show (n15 - 1 - y) * n14 + n14 = (n15 - 1 - y + 1) * n14 by rw [Int.add_mul (n15 - 1 - y) 1]; omega, Int.mul_comm n14 n15]
      exact Int.mul_le_mul_of_nonneg_right (by omega) (by omega)
    have hmul : (n15 - 1 - y) * (4 * n14) = 4 * ((n15 - 1 - y) * n14) := by rw [Int.mul_left_comm]
    rw [quoN (a := (i : Int)) (by omega) (by omega) (by omega), remN (by omega), hdi.1, hdi.2, w64 (x := n15 - 1) (by omega) (by omega), w64 (x := n15 - 1 - y) (by omega) (by omega), hmul, w64 (x := 4 * ((n15 - 1 - y) * n14)) (by omega) (by omega), w64 (x := 4 * ((n15 - 1 - y) * n14) + (4 * x + r)) (by omega) (by omega), w64 (x := (i : Int) + 1) (by omega) (by omega)]
    have hq' : (4 * ((n15 - 1 - y) * n14) + (4 * x + r)).toNat = 4 * ((n15 - 1 - y) * n14 + x).toNat + r := by omega
    have v1 := outX_get (al := al) (W := n14) (H := n15) (xs := xs) (dn := true) (q := ((n15 - 1 - y) * n14 + x).toNat) (r := r) (by omega) hr4
    have v2 := outX_get (al := al) (W := n14) (H := n15) (xs := xs) (dn := false) (q := q) (r := r) hqn hr4
    have pp : posQ n14 n15 true ((n15 - 1 - y) * n14 + x).toNat = q := by
      unfold posQ
      obtain ⟨h1, h2⟩ := place_q' (W := n14) (i := x) (k := n15 - 1 - y) g1 x0 x1 (by omega)
      rw [h1, h2]
      simp only [if_true]
      rw [show n15 - 1 - (n15 - 1 - y) = y by omega]; omega
    rw [pp] at v1
    have v2' : posQ n14 n15 false q = q := rfl
    rw [v2'] at v2
    have H20d := H20.dr
    have o1 := outX_length al n14 n15 xs true
    have o2 := outX_length al n14 n15 xs false
    have gx : (px (outX al n14 n15 xs true))[(4 * ((n15 - 1 - y) * n14) + (4 * x + r)).toNat]? = some (u16 ((outX al n14 n15 xs true).getD (4 * ((n15 - 1 - y) * n14 + x).toNat + r) 0)) := by rw [hq', px_get (by omega)]
    have gy : (px (outX al n14 n15 xs false))[(i : Int).toNat]? = some (u16 ((outX al n14 n15 xs false).getD (4 * q + r) 0)) := by rw [Int.toNat_natCast, px_get (by omega), hi4]
    refine ⟨by omega, by omega, St.late H20d (c := 6) (List.Mem.head _) (by omega) gx fun a1 ha1 => ⟨_, ha1 _ _ _ _ H20d (List.Mem.head _), St.late H20d (c := 3) (List.Mem.tail _ (List.Mem.head _)) (by omega) gy fun a2 ha2 => ⟨_, ha2 _ _ _ _ H20d (List.Mem.tail _ (List.Mem.head _)), ?_⟩⟩⟩
    refine brB_f (by rw [v1, v2]; simp) ⟨⟨i + 1, f20, rfl, by omega, H20d⟩, by show (k20 - ((i : Int) + 1)).toNat < (k20 - (i : Int)).toNat; omega⟩
end Go.Proofs.YtjdljddfiddnoaaDoor
