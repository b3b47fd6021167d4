/- Moves: the outcome: the program. -/
import Derived.Test.YtdephacjcljinaaML9
namespace Go.Proofs.Ytdephacjcljinaa
open Go Go.Vc Go.RowKit
set_option maxRecDepth 100000
set_option linter.unusedVariables false
set_option linter.unusedSimpArgs false

theorem take4 {xs : List Int} {k : Nat} (h : 4 * k + 4 ≤ xs.length) : (xs.drop (4 * k)).take 4 = coL (colAt xs k) := by
  refine List.ext_getElem (by simp [coL]; omega) fun i h1 h2 => ?_
  have hi : i < 4 := by simpa [coL] using h2
  have e : ∀ j, j < 4 → xs.getD (4 * k + j) 0 = xs[4 * k + j]?.getD 0 := fun j _ => rfl
  rw [List.getElem_take, List.getElem_drop]
  have hx : ∀ j (hj : j < 4), xs[4 * k + j]'(by omega) = xs.getD (4 * k + j) 0 := fun j hj => by simp [List.getD, show 4 * k + j < xs.length by omega]
  rw [hx i hi]
  rcases (by omega : i = 0 ∨ i = 1 ∨ i = 2 ∨ i = 3) with rfl | rfl | rfl | rfl <;> rfl
theorem Ints.litE (k : Nat) {j : Int} (hj : j = k) {w : World} {p : Option Addr} {len : Nat} {l : List Int} (h : Ints w p len l) (h1 : k < len) {F : Addr → Prop} (hF : ∀ a : Addr, (∀ u, Ext w u → u.cell? a = some (i64 (l.getD k 0))) → F a) : idx p len j 1 F := by
  subst hj
  refine h.atE (by omega) (by omega) fun a ha => hF a fun u hu => ?_
  have := ha u hu
  rwa [Int.toNat_natCast] at this
/-- the outcome's samples so far, apart from the locals -/
structure Ap (AV : List Nat) (w u : World) (ka kb : Nat) (ow oh : Int) (N : Nat) (p : Option Addr) (ln cap : Nat) (xs : List Int) : Prop where
  f : Fg AV w u 1 p ln cap (px xs)
  a : Cs u ka [i64 ow]
  b : Cs u kb [i64 oh]
  n : N ≤ u.heap.size
section
variable {AV : List Nat} {w u u' : World} {ka kb : Nat} {ow oh : Int} {N : Nat} {p : Option Addr} {ln cap : Nat} {xs : List Int}
theorem Ap.ext (h : Ap AV w u ka kb ow oh N p ln cap xs) (hE : Ext u u') : Ap AV w u' ka kb ow oh N p ln cap xs := ⟨h.f.step hE, h.a.ext hE, h.b.ext hE, Nat.le_trans h.n hE.size⟩
theorem Ap.locl {bs : List Nat} (h : Ap AV w u ka kb ow oh N p ln cap xs) (hL : Locl bs u u') (hb : ∀ b, b ∈ bs → (b ∈ AV ∨ u.heap.size ≤ b) ∧ b ≠ ka ∧ b ≠ kb) : Ap AV w u' ka kb ow oh N p ln cap xs :=
  ⟨(h.f.push hL fun b hm => (hb b hm).1).mono fun b hm => List.mem_append_right _ hm, h.a.locl hL fun hm => (hb _ hm).2.1 rfl, h.b.locl hL fun hm => (hb _ hm).2.2 rfl, Nat.le_trans h.n hL.size⟩
theorem Ap.put {D : Nat} (h : Ap AV w u ka kb ow oh N p ln cap xs) (hP : Put D u u') (hD : D ∈ AV) (h1 : D ≠ ka) (h2 : D ≠ kb) : Ap AV w u' ka kb ow oh N p ln cap xs :=
  h.locl (hP.locl (h.f.avs D hD).2) (by simp; exact ⟨.inl hD, h1, h2⟩)
theorem Ap.app {m : List (Nat × Nat × List Value)} {n bytes : Nat} {elem : TypeId} {zero : List Value} {ys : List Int} {fs : List Value} {F : Option Addr → Nat → Nat → World → Prop} (h : Ap AV w u ka kb ow oh N p ln cap xs) (hka : ka ∈ AV) (hkb : kb ∈ AV)
    (hm : ∀ b, b ∈ blocks m → b ∈ AV) (hz : zero.length = 1) (hn : ys.length = n) (hby : (ln + n) * bytes ≤ 2 ^ 47) (h62 : ln + n < 2 ^ 62) (hfs : fs = px ys)
    (hF : ∀ p' c' u', Ap AV w u' ka kb ow oh N p' (ln + n) c' (xs ++ ys) → F p' (ln + n) c' u') : appVC u m p ln cap n 1 bytes elem zero fs F := by
  subst hfs
  refine h.f.app' hm hz (by rw [px_length]; omega) hby h62 fun p' c' u' hf hk hs => hF p' c' u' ⟨by rw [px_append]; exact hf, h.a.keep hk hka, h.b.keep hk hkb, Nat.le_trans h.n hs⟩
end
set_option maxHeartbeats 8000000 in
theorem Apply_spec {w : World} {op : ByteArray} {pa p : Option Addr} {la ca lp cp : Nat} {args xs : List Int} {W H : Int} {R : Ending → World → Prop} (ha : Ints w pa la args) (hca : la ≤ ca)
    (hp : Img w p lp xs) (hcp : lp ≤ cp) (hxs : SmL xs)
    (hR : ∀ p' l' c' w', Fg [] w w' 1 p' l' c' (px (appR op args W H xs).2.2.1) → R (.returned (.tuple #[.agg #[i64 (appR op args W H xs).1, i64 (appR op args W H xs).2.1, .slice p' l' c'], i64 (appR op args W H xs).2.2.2])) w') :
    Calls P F.moves_Apply #[.string op, .slice pa la ca, .agg #[i64 W, i64 H, .slice p lp cp]] w R := by
  refine calls_moves_Apply _ _ _ _ _ _ _ _ _ _ _ ?_
  intro k1 hk1 k2 hk2 k3 hk3 w1 hL1
  have hb3 : ∀ b, b ∈ [k3, k2, k1] → w.heap.size ≤ b := by simp; omega
  have hE1 := Locl.exW (Ext.refl w) hL1 hb3
  have t1 := hL1.there k1 (by simp)
  have t2 := hL1.there k2 (by simp)
  have t3 := hL1.there k3 (by simp)
  have hla := ha.lth
  refine find_spec (ha.ext hE1) fun s q n m v1 v2 w2 hE2 o1 o2 hv => ⟨_, _, _, _, _, _, _, rfl, hE2.keep _, fun k6 hk6 => brB_t (one_row' o1 o2) ?_⟩
  have hE12 := hE1.trans hE2
  have s2 := hE2.size
  have s12 := hE12.size
  have hb6 : ∀ b, b ∈ [k6, k3, k2, k1] → w.heap.size ≤ b := by simp; omega
  refine brB_i (fun hb w3 hL3 => ?_) (fun hb w4 hL4 => ?_)
  · have hb : chkR op args ≠ 0 := by simpa using hb
    unfold appR at hR
    rw [if_pos hb] at hR
    exact hR none 0 0 w3 (Fg.nil (Locl.exW hE12 hL3 hb6) 1)
  have hb : chkR op args = 0 := by simpa using hb
  obtain ⟨rfl, rfl⟩ := hv hb
  have hE4 := Locl.exW hE12 hL4 hb6
  have s4 := hL4.size
  have t6 := hL4.there k6 (by simp)
  refine good_spec hp.len fun w5 hE5 => ⟨_, rfl, hE5.keep _, brB_i (fun hb1 w6 hL6 => ?_) (fun hb1 => ?_)⟩
  · have hb1 : good W H xs = false := by simpa using hb1
    unfold appR at hR
    rw [if_neg (by omega), if_pos hb1] at hR
    exact hR none 0 0 w6 (Fg.nil (Locl.exW (hE4.trans hE5) hL6 hb6) 1)
  have hb1 : good W H xs = true := by simpa using hb1
  have hE45 := hE4.trans hE5
  have s5 := hE5.size
  refine Size_spec (ha.ext hE45) fun w7 hE7 => ⟨_, _, _, rfl, hE7.keep _, brB_i (fun hb4 w8 hL8 => ?_) (fun hb4 => ?_)⟩
  · have hb4 : (sizeR op args W H).2.2 ≠ 0 := by simpa using hb4
    unfold appR at hR
    rw [if_neg (by omega), if_neg (by simp [hb1]), if_pos hb4] at hR
    exact hR none 0 0 w8 (Fg.nil (Locl.exW (hE45.trans hE7) hL8 hb6) 1)
  have hb4 : (sizeR op args W H).2.2 = 0 := by simpa using hb4
  have hE47 := hE45.trans hE7
  have s7 := hE7.size
  unfold appR at hR
  rw [if_neg (by omega), if_neg (by simp [hb1]), if_neg (by omega)] at hR
  obtain ⟨_, hf, _, hz, hsz⟩ := size_facts hb4
  have hin : op ≠ sFrame → op ≠ sShrink → ∀ {x y : Int}, 0 ≤ x → x < (whF op args W H).1 → 0 ≤ y → y < (whF op args W H).2 → inI W H (frP op args W H x y) = true := fun n1 n2 x y => fr_in hb4 n1 n2
  have hwh : op = sShrink → (whF op args W H).1 = (W + args.getD 0 0 - 1) / args.getD 0 0 ∧ (whF op args W H).2 = (H + args.getD 0 0 - 1) / args.getD 0 0 := fun e => by subst e; exact ⟨rfl, rfl⟩
  rw [hsz] at hR ⊢
  generalize whF op args W H = z at *
  obtain ⟨ow, oh⟩ := z
  simp only at hz hin hwh hR ⊢
  obtain ⟨g1, g2, g3, g4, g5⟩ := gfits_iff.1 hz
  obtain ⟨a1, a2, a3, a4, a5⟩ := gfits_iff.1 hf
  obtain ⟨_, hlen⟩ := good_iff.1 hb1
  have hlp := hp.len
  refine eB (fun e => ?_) fun nt => ?_
  · rw [if_pos e] at hR
    refine trim_spec (hp.ext hE47) hcp hb1 fun p' l' c' w9 hf9 => ⟨_, _, _, _, _, rfl, hf9.ext.keep _, fun w10 hL10 => ?_⟩
    exact hR _ _ _ _ (((hf9.from (bs := [k6, k3, k2, k1]) hE47 (by simp; omega)).push hL10 (by simp)).weak)
  rw [if_neg nt] at hR
  have hnn : 1 ≤ ow * oh := by have := Int.mul_pos (show 0 < ow by omega) (show 0 < oh by omega); omega
  have e4 : 4 * ow * oh = 4 * (ow * oh) := Int.mul_assoc _ _ _
  rw [w64 (x := 4 * ow) (by omega) (by omega), w64 (x := 4 * ow * oh) (by omega) (by omega), e4]
  refine ⟨by omega, by omega, by omega, by omega, fun k9 w11 hn9 k10 hk10 w12 hL12 => ?_⟩
  have hk9 := hn9.1
  have s11 := hn9.size
  have s11' := hn9.ext.size
  have hE11 := hE47.trans hn9.ext
  have s12' := hL12.size
  have t10 := hL12.there k10 (by simp)
  have hE12' := Locl.exW hE11 hL12 (show ∀ b, b ∈ [k10, k6, k3, k2, k1] → w.heap.size ≤ b by simp; omega)
  have f11 : Fg [] w7 w11 1 (some ⟨k9, 0, none⟩) 0 (4 * (ow * oh)).toNat [] := Fg.of_ow (Ext.refl w7) hn9.ext (hn9.own (vs := []) (by simp) (by simp) (by simp [mkCells_length]) (by omega) (Nat.le_refl _) (Nat.le_refl _)) (Nat.le_refl _)
  have f12 := (f11.from (bs := [k6, k3, k2, k1]) hE47 (by simp; omega)).push hL12 (by simp; omega)
  refine places_spec fun ka kb w13 hE13 hka hkb lka lkb ca' cb' => ⟨_, _, _, rfl, hE13.keep _, fun k11 w14 hrf I1 Z1 stI stZ hI0 rule => ?_⟩
  have e11 := hrf.eq
  have s13 := hE13.size
  have s14 := hrf.size
  let AV : List Nat := [k11, w13.heap.size, k10, k6, k3, k2, k1, ka, kb]
  have hAV : ∀ b, b ∈ AV → w.heap.size ≤ b ∧ b < w14.heap.size := by simp only [AV]; simp; omega
  have A14 : Ap AV w w14 ka kb ow oh w14.heap.size (some ⟨k9, 0, none⟩) 0 (4 * (ow * oh)).toNat (pxs op args W H xs ow 0) := by
    refine ⟨?_, ca'.ext hrf.ext, cb'.ext hrf.ext, Nat.le_refl _⟩
    have f14 := (f12.step hE13).step hrf.ext
    obtain ⟨S, q1, q2, q3⟩ := f14.own
    obtain ⟨S2, r1, r2, r3⟩ := (f12 : Fg _ _ _ _ _ _ _ _).own
    have r4 := (r3.ext hE13).ext hrf.ext
    refine ⟨f14.ext, ⟨S2, r1, fun b hb hS => ?_, r4⟩, hAV⟩
    have hlt := r3.bd b hS
    have h1 := r2 b
    simp only [AV] at hb
    simp at hb h1
    rcases hb with rfl | rfl | rfl | rfl | rfl | rfl | rfl | rfl | rfl
    · omega
    · omega
    · exact h1 (by simp) hS
    · exact h1 (by simp) hS
    · exact h1 (by simp) hS
    · exact h1 (by simp) hS
    · exact h1 (by simp) hS
    · omega
    · omega
  have hkaA : ka ∈ AV := by simp [AV]
  have hkbA : kb ∈ AV := by simp [AV]
  have hmA : ∀ b, b ∈ [k10, k6, k3, k2, k1] → b ∈ AV := fun b hb => by simp only [AV]; simp at hb ⊢; omega
  have hlc : ∀ {u : World} {b : Nat}, b ∈ [k10, k6, k3, k2, k1] → (b ∈ AV ∨ u.heap.size ≤ b) ∧ b ≠ ka ∧ b ≠ kb := fun {u b} hb => ⟨.inl (hmA b hb), by simp at hb; omega, by simp at hb; omega⟩
  let J : Nat → World → Prop := fun q u => (q : Int) ≤ ow * oh ∧ ∃ p cap, I1 [i64 ow, i64 oh, .slice p (4 * q) cap] u ∧ Ap AV w u ka kb ow oh w14.heap.size p (4 * q) cap (pxs op args W H xs ow q)
  refine callF_i (by kernel_rfl) ?_
  refine places_iter J g1 g2 g3 g4 (fun q u ⟨_, p, cap, _, j⟩ => ⟨j.a.cell (i := 0) rfl, j.b.cell (i := 0) rfl⟩) ⟨by omega, _, _, hI0, A14⟩ (fun q u hq ⟨j0, p1, c1, j1, A0⟩ => ?_) (fun u ⟨j0, p1, c1, j1, A0⟩ => ?_)
  · have m0 : 0 ≤ (q : Int) % ow := Int.emod_nonneg _ (by omega)
    have m1 : (q : Int) % ow < ow := Int.emod_lt_of_pos _ (by omega)
    have d0 : 0 ≤ (q : Int) / ow := Int.ediv_nonneg (by omega) (by omega)
    have d1 : (q : Int) / ow < oh := Int.ediv_lt_of_lt_mul (by omega) (by rw [Int.mul_comm]; exact hq)
    have hpx : pxs op args W H xs ow (q + 1) = pxs op args W H xs ow q ++ coL (pixM op args W H xs ((q : Int) % ow) ((q : Int) / ow)) := by rw [pxs_succ]; rfl
    generalize (q : Int) % ow = x at *
    generalize (q : Int) / ow = y at *
    refine rule _ _ _ _ _ _ _ _ _ j1 fun y5 y6 w20 hP20 => ?_
    have A20 := A0.put hP20 (by simp [AV]) (by omega) (by omega)
    have hE20 := A20.f.ext
    refine ⟨fun vs u => ∃ p cap, [i64 ow, i64 oh, .slice p (4 * (q + 1)) cap] = vs ∧ Ap AV w u ka kb ow oh w14.heap.size p (4 * (q + 1)) cap (pxs op args W H xs ow (q + 1)), ⟨by cases frF op <;> rfl, ?_⟩, ?_⟩
    · refine brB_i (fun hnil => ?_) (fun hnil => ?_)
      · have hsh : op = sShrink := by
          rcases names_cases (chk_fit hb).1 with rfl | rfl | rfl | rfl | rfl | rfl | rfl | rfl | rfl | rfl | rfl | rfl | rfl | rfl
          all_goals first | rfl | exact absurd rfl nt | exact Bool.noConfusion (hnil : false = true)
        have hb' := hb
        rw [hsh] at hb'
        obtain ⟨l1', q0⟩ := shrink_args hb'
        obtain ⟨wh1, wh2⟩ := hwh hsh
        obtain ⟨i1, i2⟩ := sq_in (n := args.getD 0 0) (x := x) (W := W) (by omega) m0 (by omega)
        obtain ⟨i3, i4⟩ := sq_in (n := args.getD 0 0) (x := y) (W := H) (by omega) d0 (by omega)
        have hpm : pixM op args W H xs x y = meanC W H xs (args.getD 0 0) x y := by unfold pixM; rw [if_pos hsh]
        rw [hpm] at hpx
        refine ⟨fun vs u => ∃ k, vs = [.pointer (some ⟨k, 0, none⟩)] ∧ Ext w20 u ∧ Cs u k (co (meanC W H xs (args.getD 0 0) x y)), ?_, ?_⟩
        · refine Ints.litE 0 rfl ha (by omega) fun A hA => ⟨_, hA _ hE20.drew, ?_, fun k15 w23 hn23 => ?_⟩
          · refine mean_spec (hp.ext hE20.drew) hcp hb1 hxs (by omega) (by omega) i1 i2 i3 i4 fun w21 hE21 => ⟨_, _, _, _, rfl, hE21.keep _, fun k14 w22 hn22 => ?_⟩
            have s21 : w20.heap.size ≤ w21.heap.size := hE21.size
            have s20 := A20.n
            have hk14 := hn22.1
            have hset := hn22.cs.set (off := 0) (us := co (meanC W H xs (args.getD 0 0) x y)) (by simp [co])
            simp only [List.take_zero, List.nil_append] at hset
            have hC := Chg.setCells w22 ⟨k14, 0, none⟩ (co (meanC W H xs (args.getD 0 0) x y)) 0
            refine ⟨⟨_, hn22.cs.cell (i := 0) rfl⟩, hn22.cs.frozen 0, ⟨_, hn22.cs.cell (i := 1) rfl⟩, hn22.cs.frozen 1, ⟨_, hn22.cs.cell (i := 2) rfl⟩, hn22.cs.frozen 2, ⟨_, hn22.cs.cell (i := 3) rfl⟩, hn22.cs.frozen 3, by simp; omega, k14, rfl, ?_, hset⟩
            exact ((((Ext.refl w20).drew.trans hE21).trans hn22.ext)).step hC fun i hi => by have hi : i = k14 := hi; omega
          · have hE23 : Ext w20 w23 := (Ext.refl w20).drew.trans hn23.ext
            have hk15 : k15 = w20.heap.size := hn23.1
            have l15 := hn23.size
            have s20 := A20.n
            refine mean_spec ((hp.ext hE20).ext hE23) hcp hb1 hxs (by omega) (by omega) i1 i2 i3 i4 fun w24 hE24 => ⟨_, _, _, _, rfl, hE24.keep _, ?_⟩
            have hcs := hn23.cs.ext hE24
            have hset := hcs.set (off := 0) (us := co (meanC W H xs (args.getD 0 0) x y)) (by simp [co])
            simp only [List.take_zero, List.nil_append] at hset
            have hC := Chg.setCells w24 ⟨k15, 0, none⟩ (co (meanC W H xs (args.getD 0 0) x y)) 0
            refine ⟨⟨_, hcs.cell (i := 0) rfl⟩, hcs.frozen 0, ⟨_, hcs.cell (i := 1) rfl⟩, hcs.frozen 1, ⟨_, hcs.cell (i := 2) rfl⟩, hcs.frozen 2, ⟨_, hcs.cell (i := 3) rfl⟩, hcs.frozen 3, by simp; omega, k15, rfl, ?_, hset⟩
            exact (hE23.trans hE24).step hC fun i hi => by have hi : i = k15 := hi; omega
        · intro p4 w25 hI4
          obtain ⟨k, hv4, hE25, hcs⟩ := hI4
          simp only [List.cons.injEq, Value.pointer.injEq, and_true] at hv4
          subst hv4
          refine nn_i rfl ⟨by omega, by omega, by omega, ?_⟩
          rw [show (0 : Int).toNat = 0 from rfl, slcBase0]
          refine ⟨co (meanC W H xs (args.getD 0 0) x y), rfl, rfl, (hcs.drew.sl (List.prefix_refl _) hcs.lt).cells, ?_⟩
          refine (A20.ext hE25.drew).app (ys := coL (meanC W H xs (args.getD 0 0) x y)) hkaA hkbA (fun b hb => hmA b (by simpa [blocks] using hb)) rfl rfl (by omega) (by omega) rfl fun p6 c6 w26 A26 w27 hL27 => ⟨p6, c6, rfl, ?_⟩
          rw [hpx]
          exact A26.locl hL27 fun b hb => hlc hb
      · have hfr : frF op ≠ none := fun e => by rw [e] at hnil; cases hnil
        have ns : op ≠ sShrink := fun e => hfr (by rw [e]; rfl)
        refine from_call (ha.ext hE20) hb hf hfr m0 (by omega) d0 (by omega) fun w28 hE28 => ⟨_, _, rfl, hE28.keep _, ?_⟩
        have A28 := A20.ext hE28
        have hpm : pixM op args W H xs x y = if inI W H (frP op args W H x y) then colAt xs ((frP op args W H x y).2 * W + (frP op args W H x y).1).toNat else (args.getD 1 0, args.getD 2 0, args.getD 3 0, args.getD 4 0) := by unfold pixM; rw [if_neg ns]
        rw [hpm] at hpx
        have hcd : (decide ((frP op args W H x y).1 < 0) || decide ((frP op args W H x y).2 < 0) || decide ((frP op args W H x y).1 ≥ W) || decide ((frP op args W H x y).2 ≥ H)) = !inI W H (frP op args W H x y) := by
          unfold inI
          rw [Bool.eq_iff_iff]
          simp only [Bool.or_eq_true, decide_eq_true_eq, Bool.not_eq_true', decide_eq_false_iff_not]
          omega
        rw [hcd]
        refine brB_i (fun hi => ?_) (fun hi => ?_)
        · have hi : inI W H (frP op args W H x y) = false := by simpa using hi
          rw [if_neg (by simp [hi])] at hpx
          have hof : op = sFrame := Classical.byContradiction fun nf => by
            have := hin nf ns m0 m1 d0 d1
            rw [hi] at this; cases this
          have hb' := hb
          rw [hof] at hb'
          obtain ⟨l1', q0, q1, q2, q3, q4⟩ := frame_args hb'
          refine ⟨by omega, by omega, by omega, ?_⟩
          rw [show ((la : Int).toNat - (1 : Int).toNat) = 4 by omega, show (1 : Int).toNat = 1 from rfl]
          have hdl : (args.drop 1).length = 4 := by rw [List.length_drop]; omega
          have hd4 : (args.drop 1).take 4 = coL (args.getD 1 0, args.getD 2 0, args.getD 3 0, args.getD 4 0) := by
            match args, l1' with
            | [b0, b1, b2, b3, b4], _ => rfl
          refine ⟨fun vs u => ∃ (c : Nat) (p : Option Addr) (cap : Nat), [i64 c, i64 ow, i64 oh, .slice p (4 * q + c) cap] = vs ∧ c ≤ 4 ∧ Ap AV w u ka kb ow oh w14.heap.size p (4 * q + c) cap (pxs op args W H xs ow q ++ (args.drop 1).take c),
            fun vs _ => match vs with | [.int _ c, _, _, _] => (4 - c).toNat | _ => 0, ⟨0, p1, c1, rfl, by omega, by simpa using A28⟩, fun n22 n23 n24 p8 k22 k23 w29 hI5 => ?_⟩
          obtain ⟨c, p8', cap8, hv5, c4, A29⟩ := hI5
          simp only [List.cons.injEq, Value.int.injEq, Value.slice.injEq, true_and, and_true] at hv5
          obtain ⟨rfl, rfl, rfl, rfl, rfl, rfl⟩ := hv5
          have hsl : Sl w29.heap.size w29 (slcBase pa 1 ca 1) (i64s (args.drop 1)) := by
            refine (((ha.sl.ext A29.f.ext).up).part (lo := 1) (by rw [i64s_length]; omega) ?_)
            rw [i64s, i64s, List.map_drop]
            exact List.prefix_refl _
          refine brB_i (fun hlt => ?_) (fun hge => ?_)
          · have hlt : c < 4 := by simp at hlt; omega
            have hget : (args.drop 1).getD c 0 = args.getD (1 + c) 0 := by simp only [List.getD]; rw [List.getElem?_drop]
            have hsm : Sm (args.getD (1 + c) 0) := by
              rcases (by omega : c = 0 ∨ c = 1 ∨ c = 2 ∨ c = 3) with rfl | rfl | rfl | rfl
              · exact q1
              · exact q2
              · exact q3
              · exact q4
            refine hsl.get (by omega) (by rw [i64s_length, hdl]) (v := i64 (args.getD (1 + c) 0)) (by rw [Int.toNat_natCast, i64s_get (by omega), hget]) fun a3 ha3 => ⟨_, ha3, fun k24 hk24 w30 hL30 => ?_⟩
            have n29 := A29.n
            have A30 := A29.locl hL30 (by
              intro b hb
              simp only [List.mem_cons] at hb
              rcases hb with rfl | hb
              · exact ⟨.inr hk24, by omega, by omega⟩
              · exact hlc (by simpa using hb))
            have t24 := hL30.there k24 (by simp)
            have hAp : Ap (k24 :: AV) w w30 ka kb ow oh w14.heap.size p8' (4 * q + c) cap8 (pxs op args W H xs ow q ++ (args.drop 1).take c) := by
              obtain ⟨S, f1, f3, f2⟩ := A29.f.own
              refine ⟨?_, A30.a, A30.b, A30.n⟩
              have := A29.f.push hL30 (by
                intro b hb
                simp only [List.mem_cons] at hb
                rcases hb with rfl | hb
                · exact .inr hk24
                · exact .inl (hmA b (by simpa using hb)))
              refine this.mono fun b hb => ?_
              rcases List.mem_cons.1 hb with rfl | hb
              · simp
              · exact List.mem_append_right _ hb
            unfold Sm at hsm
            rw [wu16 (by omega) (by omega)]
            refine hAp.app (ys := [args.getD (1 + c) 0]) (List.mem_cons_of_mem _ hkaA) (List.mem_cons_of_mem _ hkbA) (fun b hb => ?_) rfl rfl (by omega) (by omega) rfl fun p9 c9 w31 A31 w32 hL32 => ?_
            · simp only [blocks, List.map_cons, List.map_nil, List.mem_cons] at hb
              rcases hb with rfl | hb
              · exact List.mem_cons_self
              · exact List.mem_cons_of_mem _ (hmA b (by simpa using hb))
            have A32 := A31.locl hL32 (by
              intro b hb
              simp only [List.mem_cons] at hb
              rcases hb with rfl | hb
              · exact ⟨.inl List.mem_cons_self, by omega, by omega⟩
              · exact ⟨.inl (List.mem_cons_of_mem _ (hmA b (by simpa using hb))), (hlc (u := w) (b := b) (by simpa using hb)).2⟩)
            rw [w64 (by omega) (by omega)]
            refine ⟨⟨c + 1, p9, c9, rfl, by omega, ?_⟩, by show (4 - ((c : Int) + 1)).toNat < (4 - (c : Int)).toNat; omega⟩
            have e : (args.drop 1).take (c + 1) = (args.drop 1).take c ++ [args.getD (1 + c) 0] := by
              have hc : c < (args.drop 1).length := by omega
              rw [List.take_add_one, ← hget, List.getD, List.getElem?_eq_getElem hc]
              rfl
            rw [e, ← List.append_assoc]
            exact ⟨A32.f.mono fun b hb => List.mem_cons_of_mem _ hb, A32.a, A32.b, A32.n⟩
          · have hge : c = 4 := by simp at hge; omega
            subst hge
            rw [hd4, ← hpx] at A29
            exact ⟨_, _, rfl, A29⟩
        · have hi : inI W H (frP op args W H x y) = true := by simpa using hi
          rw [if_pos hi] at hpx
          have hi' := of_decide_eq_true hi
          obtain ⟨p0, pp1, p2, p3, p4⟩ := pixAt (x := (frP op args W H x y).1) (y := (frP op args W H x y).2) hf hlen hi'.1 hi'.2.1 hi'.2.2.1 hi'.2.2.2
          rw [p3, p4, w64 (x := 4 * ((frP op args W H x y).2 * W + (frP op args W H x y).1) + 4) (by omega) (by omega)]
          generalize (frP op args W H x y).2 * W + (frP op args W H x y).1 = K at *
          refine ⟨by omega, by omega, by omega, ?_⟩
          rw [show (4 * K + 4).toNat - (4 * K).toNat = 4 by omega]
          have hsl : Sl w28.heap.size w28 (slcBase p (4 * K).toNat cp 1) (px (coL (colAt xs K.toNat))) := by
            refine ((hp.sl.ext A28.f.ext).up).part (by rw [px_length]; omega) ?_
            rw [← take4 (by omega), show (4 * K).toNat = 4 * K.toNat by omega, px, List.map_take, px, List.map_drop]
            exact List.take_prefix _ _
          refine ⟨_, rfl, px_oneAll _, hsl.drew.cells, ?_⟩
          refine (A28.ext (Ext.refl _).drew).app (ys := coL (colAt xs K.toNat)) hkaA hkbA (fun b hb => hmA b (by simpa [blocks] using hb)) rfl rfl (by omega) (by omega) rfl fun p6 c6 w33 A33 w34 hL34 => ⟨p6, c6, rfl, ?_⟩
          rw [hpx]
          exact A33.locl hL34 fun b hb => hlc hb
    · intro n26 n27 p12 k31 k32 w35 hI3 w36 hP36 hI1
      obtain ⟨p', c', hv3, A35⟩ := hI3
      simp only [List.cons.injEq, Value.int.injEq, Value.slice.injEq, true_and, and_true] at hv3
      obtain ⟨rfl, rfl, rfl, rfl, rfl⟩ := hv3
      exact .inl ⟨rfl, by omega, _, _, hI1, A35.put hP36 (by simp [AV]) (by omega) (by omega)⟩
  · refine ⟨_, rfl, .inl ⟨_, _, _, _, _, j1, fun w38 hP38 w39 hL39 w40 hP40 => ?_⟩⟩
    have A38 := A0.put hP38 (by simp [AV]) (by omega) (by omega)
    have A39 := A38.locl hL39 fun b hb => hlc hb
    have A40 := A39.put hP40 (by simp [AV]) (by omega) (by omega)
    exact hR _ _ _ _ A40.f.weak
end Go.Proofs.Ytdephacjcljinaa
