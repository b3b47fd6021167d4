/- Quant: what is handed in stays; what is answered is new memory. -/
import Derived.Test.YtijplekhbpigiaaQW1
namespace Go.Proofs.Ytijplekhbpigiaa
open Go Go.Vc Go.RowKit Go.Qn
set_option maxRecDepth 100000
set_option linter.unusedVariables false
set_option linter.unusedSimpArgs false
set_option maxHeartbeats 8000000

section
variable {w u u' : World} {f : Nat → Nat} {L : List Nat} {l : List Tg}
theorem St.loc {bs : List Nat} {X : World → Prop} (h : Ths w u f L l) (hb : ∀ b, b ∈ bs → b ∈ L ∨ u.heap.size ≤ b) (hX : ∀ u' f', Ths w u' f' bs l → X u') : ∀ u', Locl bs u u' → X u' := fun u' hL =>
  hX u' _ ((h.locl hL hb).mono (fun b hb => List.mem_append_left _ hb) fun t ht => ht)
theorem St.pix (h : Ths w u f L l) {c len cap : Nat} {p : Option Addr} {xs : List Int} (ht : (⟨c, p, len, cap, 1, px xs⟩ : Tg) ∈ l) : Img u p len xs ∧ len ≤ cap :=
  ⟨⟨(h.get ht).sl, by have := (h.get ht).len; rwa [px_length] at this⟩, (h.get ht).room⟩
end
theorem St.start (w : World) : Ths w w (fun _ => 0) [] [] := ⟨⟨Ext.refl w, fun _ h => by cases h⟩, fun _ h => by cases h⟩
def last3 (p1 : Option Addr) (n1 c1 : Nat) (xs : List Int) (p3 : Option Addr) (c3 : Nat) (l : List Co) (p5 : Option Addr) (c5 : Nat) (A : List Co) : List Tg :=
  [⟨4, p5, A.length, c5, 4, cos A⟩, ⟨2, p3, l.length + 1, c3, 4, cos (l ++ [(9, 0, 0, 0)])⟩, ⟨1, p1, n1, c1, 1, px xs⟩]
/-- an answer of Apply -/
def appT (W H : Int) (xs : List Int) (l : List Co) (i j : Nat) (p : Option Addr) (c : Nat) (q : Option Addr) (d : Nat) : List Tg :=
  [⟨i, p, (appR W H xs l).2.2.1.length, c, 4, cos (appR W H xs l).2.2.1⟩, ⟨j, q, (appR W H xs l).2.2.2.1.length, d, 1, bytes (appR W H xs l).2.2.2.1⟩]
def appVs (W H : Int) (xs : List Int) (l : List Co) (k : Nat) (p : Option Addr) (c : Nat) (q : Option Addr) (d : Nat) : List Value :=
  [.pointer (some ⟨k, 0, none⟩), i64 (appR W H xs l).1, i64 (appR W H xs l).2.1, .slice p (appR W H xs l).2.2.1.length c, .slice q (appR W H xs l).2.2.2.1.length d]
/-- the things that QuantOwn has: the image, the colours, two palettes -/
def base4 (p1 : Option Addr) (n1 c1 : Nat) (xs : List Int) (p3 : Option Addr) (c3 : Nat) (l : List Co) (p4 : Option Addr) (c4 : Nat) (p5 : Option Addr) (c5 : Nat) (A : List Co) : List Tg :=
  [⟨4, p5, A.length, c5, 4, cos A⟩, ⟨3, p4, A.length, c4, 4, cos A⟩, ⟨2, p3, l.length + 1, c3, 4, cos (l ++ [(9, 0, 0, 0)])⟩, ⟨1, p1, n1, c1, 1, px xs⟩]
section
variable {w u : World} {f : Nat → Nat} {L : List Nat} {T : List Tg}
theorem St.cut (h : Ths w u f L T) {c3 : Nat} {p3 : Option Addr} {l : List Co} (ht : (⟨2, p3, l.length + 1, c3, 4, cos (l ++ [(9, 0, 0, 0)])⟩ : Tg) ∈ T) : Sl u.heap.size u p3 (cos l) ∧ l.length + 1 ≤ c3 :=
  ⟨(St.cols h (len := l.length + 1) ht).1.pre (by rw [cos_append]; exact List.prefix_append _ _), (h.get ht).room⟩
theorem St.apply (h : Ths w u f L T) {W H : Int} {c1 c3 c' len i j : Nat} {p1 p3 : Option Addr} {xs : List Int} {l : List Co} {R : Ending → World → Prop} (hI : (⟨1, p1, len, c1, 1, px xs⟩ : Tg) ∈ T) (hF : (⟨2, p3, l.length + 1, c3, 4, cos (l ++ [(9, 0, 0, 0)])⟩ : Tg) ∈ T)
    (hok : PxOk xs) (hsz : l.length * 8 ≤ 2 ^ 47) (hi : i ≠ 0) (hj : j ≠ 0) (hij : i ≠ j)
    (hR : ∀ p c q d u' f', Ext u u' → Ths w u' f' L (appT W H xs l i j p c q d ++ T) →
      R (.returned (.tuple #[.agg #[i64 (appR W H xs l).1, i64 (appR W H xs l).2.1, .slice p (appR W H xs l).2.2.1.length c, .slice q (appR W H xs l).2.2.2.1.length d], i64 (appR W H xs l).2.2.2.2])) u') :
    Calls P F.quant_Apply #[.agg #[i64 W, i64 H, .slice p1 len c1], .slice p3 l.length c'] u R := by
  obtain ⟨i1, r1⟩ := St.pix h hI
  refine Apply_spec i1 r1 hok (St.cut h hF).1 rfl hsz fun p c q d u' hP => ?_
  obtain ⟨f', H'⟩ := Ths.pald h hP hi hj hij
  exact hR p c q d u' f' hP.ext H'
end
theorem palR_len {W H most : Int} {xs : List Int} : (palR W H xs most).1.length ≤ 256 := by
  unfold palR
  split
  · split
    · simp
    · show (palV _ most).length ≤ 256
      unfold palV
      split
      · omega
      · rw [List.length_map, (spN_ok (most.toNat - 1) (by omega)).len]; omega
  · simp
section
variable {w u : World} {f : Nat → Nat} {L : List Nat} {T : List Tg}
theorem add_zero0 (a : Addr) : a.add 0 = a := by simp [Addr.add]
theorem St.put {c len cap sz : Nat} {p : Option Addr} {vs us : List Value} (h : Ths w u f L (⟨c, p, len, cap, sz, vs⟩ :: T)) (hd : ∀ t', t' ∈ T → t'.c ≠ c) (hl : vs.length = len * sz) (hu : us.length = sz) {n : Nat} (hn : n < len) {F : Addr → Prop}
    (hF : ∀ a : Addr, CanSet u a sz → a.block ∉ L → Ths w (setCells u a us 0) f L (⟨c, p, len, cap, sz, vs.take (n * sz) ++ us ++ vs.drop (n * sz + us.length)⟩ :: T) → F a) : idx p len n sz F := by
  subst hu
  have hle : (n + 1) * us.length ≤ len * us.length := Nat.mul_le_mul_right _ hn
  have e1 : (n + 1) * us.length = n * us.length + us.length := by rw [Nat.add_mul, Nat.one_mul]
  obtain ⟨b, e, q1, q2, q3⟩ := h.set hd (k := n * us.length) (us := us) (by show n * us.length + us.length ≤ vs.length; omega) (by show 0 < len; omega)
  subst e
  refine idx_i (by omega) (by omega) rfl ?_
  rw [loc_add, Nat.zero_add, Int.toNat_natCast]
  exact hF _ q2 q1 q3
end
theorem cos_len {A : List Co} : (cos A).length = A.length * 4 := cos_length A
theorem own_walk {w : World} {W H most : Int} {p q : Option Addr} {len cap qn qc : Nat} {xs : List Int} {l : List Co} {R : Ending → World → Prop} (hi : ImgOk w W H p len cap xs) (hq : PalOk w q qn qc l) (hR : ∀ w', Ext w w' → R (.returned (.bool true)) w') :
    Calls P F.law14_QuantOwn #[.agg #[i64 W, i64 H, .slice p len cap], .slice q qn qc, i64 most] w R := by
  have hlq := hq.long
  subst hlq
  have hsz := hq.sz
  refine calls_law14_QuantOwn _ _ _ _ _ _ _ _ _ _ _ ?_
  intro k1 hk1
  refine St.loc (St.start w) (by simpa using hk1) fun w1 f1 H1 => ?_
  refine wakes_spec fun w2 hE2 => ⟨_, rfl, hE2.keep _, brB_f rfl ?_⟩
  have H2 := H1.step hE2 0
  refine own_spec (hi.img.ext H2.pal.ext) hi.sz fun p1 c1 w3 hE3 ho3 => ⟨_, _, _, _, _, rfl, hE3.keep _, ?_⟩
  have H3 := H2.new (i := 1) hE3 (by decide) ho3
  refine colours_spec (hq.sl.ext H3.pal.ext) rfl (by omega) fun p2 c2 w4 hE4 ho4 => ⟨_, _, _, rfl, hE4.keep _, fun k6 hk6 => ?_⟩
  have H4 := H3.new (i := 2) hE4 (by decide) ho4
  refine St.loc H4 (by simp; omega) fun w5 f5 H5 => ?_
  refine Ths.app H5 (by simp) (by simp [blocks]) rfl rfl (by show (l.length + 1) * 8 ≤ _; omega) (by show l.length + 1 < _; omega) fun p3 c3 w6 f6 H6 k9 hk9 => ?_
  refine St.loc H6 (by simp; omega) fun w7 f7 H7 => ?_
  obtain ⟨i7, r7⟩ := St.pix H7 (c := 1) (p := p1) (xs := xs) (len := len) (cap := c1) (List.Mem.tail _ (List.Mem.head _))
  refine Palette_spec i7 r7 hi.fit fun p4 c4 w8 hf8 => ⟨_, _, _, _, rfl, hf8.ext.keep _, ?_⟩
  have H8 := H7.new (i := 3) hf8.ext (by decide) hf8.ow
  refine Palette_spec (i7.ext hf8.ext) r7 hi.fit fun p5 c5 w9 hf9 => ⟨_, _, _, _, rfl, hf9.ext.keep _, ?_⟩
  have H9 := H8.new (i := 4) hf9.ext (by decide) hf9.ow
  have hA256 : (palR W H xs most).1.length ≤ 256 := palR_len
  generalize hA : (palR W H xs most).1 = A at *
  obtain ⟨f9, H9⟩ : ∃ f, Ths w w9 f [k9, k6, k1] (base4 p1 len c1 xs p3 c3 l p4 c4 p5 c5 A) := by
    have e : cos (l ++ [(9, 0, 0, 0)]) = cos l ++ [u16 9, u16 0, u16 0, u16 0] := by rw [cos_append, cos_one]; rfl
    unfold base4
    rw [e]
    exact ⟨_, H9⟩
  have m1 : (⟨1, p1, len, c1, 1, px xs⟩ : Tg) ∈ base4 p1 len c1 xs p3 c3 l p4 c4 p5 c5 A := by simp [base4]
  have m2 : (⟨2, p3, l.length + 1, c3, 4, cos (l ++ [(9, 0, 0, 0)])⟩ : Tg) ∈ base4 p1 len c1 xs p3 c3 l p4 c4 p5 c5 A := by simp [base4]
  have hs8 : l.length * 8 ≤ 2 ^ 47 := by omega
  have cutI : ∀ {F : Option Addr → Nat → Nat → Prop}, F p3 l.length c3 → slcc p3 c3 0 (l.length : Int) 4 F := fun {F} hF => by
    refine ⟨by omega, by omega, ?_, ?_⟩
    · have := (St.cut H9 m2).2; omega
    · rw [show (0 : Int).toNat = 0 from rfl, slcBase0, Int.toNat_natCast, Nat.sub_zero, Nat.sub_zero]; exact hF
  -- the first answer
  refine ⟨fun vs u => ∃ k p c q d f, vs = appVs W H xs l k p c q d ∧ Ths w u f [k, k9, k6, k1] (appT W H xs l 5 6 p c q d ++ base4 p1 len c1 xs p3 c3 l p4 c4 p5 c5 A), cutI ⟨?_, fun k21 hk21 => ?_⟩, fun k26 n11 n12 p11 k27 k28 p12 k29 k30 w15 hI1 => ?_⟩
  · refine St.apply H9.dr m1 m2 hi.fit hs8 (i := 5) (j := 6) (by decide) (by decide) (by decide) fun p7 c7 q7 d7 w10 f10 hE10 H10 => ⟨_, _, _, _, _, _, _, _, _, rfl, hE10.keep _, fun k20 hk20 => ?_⟩
    exact St.loc H10 (by simp; omega) fun w11 f11 H11 => ⟨k20, p7, c7, q7, d7, f11, rfl, H11⟩
  · refine St.loc H9.dr (by simp; simp at hk21; omega) fun w12 f12 H12 => ?_
    refine St.apply H12 m1 m2 hi.fit hs8 (i := 5) (j := 6) (by decide) (by decide) (by decide) fun p7 c7 q7 d7 w13 f13 hE13 H13 => ⟨_, _, _, _, _, _, _, _, _, rfl, hE13.keep _, ?_⟩
    exact St.loc H13 (by simp) fun w14 f14 H14 => ⟨k21, p7, c7, q7, d7, f14, rfl, H14⟩
  obtain ⟨kx, px', cx, qx, dx, f15, hv, H15⟩ := hI1
  unfold appVs at hv
  simp only [List.cons.injEq, Value.int.injEq, Value.slice.injEq, Value.pointer.injEq, Option.some.injEq, Addr.mk.injEq, true_and, and_true] at hv
  obtain ⟨rfl, rfl, rfl, ⟨rfl, rfl, rfl⟩, rfl, rfl, rfl⟩ := hv
  have m1' : (⟨1, p1, len, c1, 1, px xs⟩ : Tg) ∈ appT W H xs l 5 6 p11 k28 p12 k30 ++ base4 p1 len c1 xs p3 c3 l p4 c4 p5 c5 A := List.mem_append_right _ m1
  have m2' : (⟨2, p3, l.length + 1, c3, 4, cos (l ++ [(9, 0, 0, 0)])⟩ : Tg) ∈ appT W H xs l 5 6 p11 k28 p12 k30 ++ base4 p1 len c1 xs p3 c3 l p4 c4 p5 c5 A := List.mem_append_right _ m2
  -- the second answer
  refine ⟨fun vs u => ∃ k p c q d f, vs = appVs W H xs l k p c q d ∧ Ths w u f [k, k26, k9, k6, k1] (appT W H xs l 7 8 p c q d ++ (appT W H xs l 5 6 p11 k28 p12 k30 ++ base4 p1 len c1 xs p3 c3 l p4 c4 p5 c5 A)), cutI ⟨?_, fun k38 hk38 => ?_⟩, fun k43 n19 n20 p18 k44 k45 p19 k46 k47 w21 hI2 => ?_⟩
  · refine St.apply H15.dr m1' m2' hi.fit hs8 (i := 7) (j := 8) (by decide) (by decide) (by decide) fun p7 c7 q7 d7 w10 f10 hE10 H10 => ⟨_, _, _, _, _, _, _, _, _, rfl, hE10.keep _, fun k20 hk20 => ?_⟩
    exact St.loc H10 (by simp; omega) fun w11 f11 H11 => ⟨k20, p7, c7, q7, d7, f11, rfl, H11⟩
  · refine St.loc H15.dr (by simp; simp at hk38; omega) fun w12 f12 H12 => ?_
    refine St.apply H12 m1' m2' hi.fit hs8 (i := 7) (j := 8) (by decide) (by decide) (by decide) fun p7 c7 q7 d7 w13 f13 hE13 H13 => ⟨_, _, _, _, _, _, _, _, _, rfl, hE13.keep _, ?_⟩
    exact St.loc H13 (by simp) fun w14 f14 H14 => ⟨k38, p7, c7, q7, d7, f14, rfl, H14⟩
  obtain ⟨kx, px', cx, qx, dx, f21, hv, H21⟩ := hI2
  unfold appVs at hv
  simp only [List.cons.injEq, Value.int.injEq, Value.slice.injEq, Value.pointer.injEq, Option.some.injEq, Addr.mk.injEq, true_and, and_true] at hv
  obtain ⟨rfl, rfl, rfl, ⟨rfl, rfl, rfl⟩, rfl, rfl, rfl⟩ := hv
  have hE21 := H21.pal.ext
  have sA := (St.cols H21 (c := 3) (p := p4) (xs := A) (len := A.length) (cap := c4) (by simp [appT, base4])).1
  have sB := (St.cols H21 (c := 4) (p := p5) (xs := A) (len := A.length) (cap := c5) (by simp [appT, base4])).1
  refine SameColors_spec sA sB rfl rfl (by omega) fun w22 hE22 => ⟨_, rfl, hE22.keep _, ?_⟩
  refine brB_f (by simp) ?_
  have H22 := H21.step hE22 0
  obtain ⟨i22, r22⟩ := St.pix H22 (c := 1) (p := p1) (xs := xs) (len := len) (cap := c1) (by simp [appT, base4])
  have hxb := hi.sz
  refine refSame_spec i22 (hi.img.ext H22.pal.ext) (by omega) fun w23 hE23 => ⟨_, rfl, hE23.keep _, ?_⟩
  refine brB_f (by simp [same]) ?_
  have H23 := H22.step hE23 0
  have o23 := (H23.get (t := ⟨2, p3, l.length + 1, c3, 4, cos (l ++ [(9, 0, 0, 0)])⟩) (by simp [appT, base4])).ow
  have hc3 : l.length + 1 ≤ c3 := o23.2.1
  rcases o23.2.2 with hx | ⟨b3, rest3, _, _, hp3, _, hC3⟩
  · have hx : c3 = 0 := hx
    omega
  subst hp3
  have e3 : cos (l ++ [(9, 0, 0, 0)]) ++ rest3 = cos l ++ (u16 9 :: u16 0 :: u16 0 :: u16 0 :: rest3) := by rw [cos_append, cos_one, List.append_assoc]; rfl
  have hl4 : (cos l).length = l.length * 4 := cos_length l
  have cell3 : ∀ {j : Nat} {v : Value}, (u16 9 :: u16 0 :: u16 0 :: u16 0 :: rest3)[j]? = some v → w23.cell? ⟨b3, l.length * 4 + j, none⟩ = some v := fun {j v} hv => hC3.cell (by
    rw [e3, List.getElem?_append_right (by omega), hl4, Nat.add_sub_cancel_left]; exact hv)
  refine idx_i (a := ⟨b3, 0, none⟩) (by omega) (by show (l.length : Int) < ((l.length + 1 : Nat) : Int); omega) rfl ?_
  simp only [loc_add, Nat.zero_add, Int.toNat_natCast]
  refine ⟨9, 0, 0, 0, cell3 (j := 0) rfl, cell3 (j := 1) rfl, cell3 (j := 2) rfl, cell3 (j := 3) rfl, brB_f (by decide) ?_⟩
  -- the first palette is written
  have hlA : (cos A).length = A.length * 4 := cos_length A
  refine ⟨fun vs u => ∃ (n : Nat) (V : List Value) (f : Nat → Nat), vs = [i64 n] ∧ n ≤ A.length ∧ V.length = A.length * 4 ∧ Ths w u f [k43, k26, k9, k6, k1] (⟨3, p4, A.length, c4, 4, V⟩ :: (appT W H xs l 7 8 p18 k45 p19 k47 ++ (appT W H xs l 5 6 p11 k28 p12 k30 ++ last3 p1 len c1 xs (some ⟨b3, 0, none⟩) c3 l p5 c5 A))),
    fun vs _ => match vs with | [.int _ n] => (A.length - n).toNat | _ => 0, ⟨0, cos A, _, rfl, Nat.zero_le _, hlA, H23.mono (fun b hb => hb) (by simp [appT, base4, last3])⟩, fun n25 w24 hI => ?_⟩
  obtain ⟨n, V, f24, hv, hn, hV, H24⟩ := hI
  obtain rfl : n25 = n := by simpa using hv
  refine brB_i (fun hlt => ?_) fun hge => ?_
  · have hlt : n < A.length := by simp at hlt; omega
    refine St.put (us := [u16 0, u16 0, u16 0, u16 1]) H24 (by simp [appT, last3]) hV rfl hlt fun a hcan hb H => ?_
    obtain ⟨g0, g0'⟩ := hcan 0 (by omega)
    rw [add_zero0] at g0 g0'
    refine ⟨g0, g0', (hcan 1 (by omega)).1, (hcan 1 (by omega)).2, (hcan 2 (by omega)).1, (hcan 2 (by omega)).2, (hcan 3 (by omega)).1, (hcan 3 (by omega)).2, hb, ?_⟩
    rw [w64 (x := (n : Int) + 1) (by omega) (by omega)]
    refine ⟨⟨n + 1, _, _, by simp, hlt, ?_, H⟩, by show ((A.length : Int) - ((n : Int) + 1)).toNat < ((A.length : Int) - n).toNat; omega⟩
    simp only [List.length_append, List.length_take, List.length_drop, List.length_cons, List.length_nil, hV]; omega
  -- the first answer's indices
  generalize hX : appR W H xs l = X at *
  have l1 : X.2.2.1.length < 2 ^ 47 := by rw [← hX]; unfold appR; split <;> (try split) <;> simp <;> omega
  have l2 : X.2.2.2.1.length < 2 ^ 47 := by
    rw [← hX]
    unfold appR
    split
    · rename_i hg
      obtain ⟨g1, g2⟩ := good_iff.1 hg
      obtain ⟨_, _, _, _, g5⟩ := gfits_iff.1 g1
      split <;> simp [colsOf_length]
      omega
    · simp
  have hlb : (bytes X.2.2.2.1).length = X.2.2.2.1.length := bytes_length _
  have hlp : (cos X.2.2.1).length = X.2.2.1.length * 4 := cos_length _
  have tX : ∀ {i j : Nat} {p : Option Addr} {c : Nat} {q : Option Addr} {d : Nat}, appT W H xs l i j p c q d = [⟨i, p, X.2.2.1.length, c, 4, cos X.2.2.1⟩, ⟨j, q, X.2.2.2.1.length, d, 1, bytes X.2.2.2.1⟩] := fun {i j p c q d} => by rw [← hX]; rfl
  simp only [tX] at H24
  refine ⟨fun vs u => ∃ (n : Nat) (V : List Value) (f : Nat → Nat), vs = [i64 n] ∧ n ≤ X.2.2.2.1.length ∧ V.length = X.2.2.2.1.length * 1 ∧ (∀ v, v ∈ V → ∃ x, v = .int .u8 x) ∧ Ths w u f [k43, k26, k9, k6, k1] (⟨6, p12, X.2.2.2.1.length, k30, 1, V⟩ ::
      ([⟨7, p18, X.2.2.1.length, k45, 4, cos X.2.2.1⟩, ⟨8, p19, X.2.2.2.1.length, k47, 1, bytes X.2.2.2.1⟩, ⟨5, p11, X.2.2.1.length, k28, 4, cos X.2.2.1⟩] ++ last3 p1 len c1 xs (some ⟨b3, 0, none⟩) c3 l p5 c5 A)),
    fun vs _ => match vs with | [.int _ n] => (X.2.2.2.1.length - n).toNat | _ => 0, ⟨0, bytes X.2.2.2.1, _, rfl, Nat.zero_le _, by rw [hlb, Nat.mul_one], fun v hv => (by obtain ⟨x, _, rfl⟩ := List.mem_map.1 hv; exact ⟨x, rfl⟩), H24.mono (fun b hb => hb) (by simp [last3])⟩, fun n26 w25 hI => ?_⟩
  obtain ⟨n, V, f25, hv, hn, hV, hV8, H25⟩ := hI
  obtain rfl : n26 = n := by simpa using hv
  refine brB_i (fun hlt => ?_) fun hge => ?_
  · have hlt : n < X.2.2.2.1.length := by simp at hlt; omega
    have hnV : n < V.length := by omega
    obtain ⟨x, hx⟩ := hV8 V[n] (List.getElem_mem hnV)
    have sV := (H25.dr.get (List.Mem.head _)).sl
    refine Sl.get sV (by omega) (by show V.length = _; omega) (v := .int .u8 x) (by rw [Int.toNat_natCast, ← hx]; exact List.getElem?_eq_getElem hnV) fun a3 ha3 => ⟨x, ha3, ?_⟩
    refine St.put (us := [.int .u8 (IntKind.u8.wrap (x + 1))]) H25.dr (by simp [last3]) hV rfl hlt fun a hcan hb H => ?_
    obtain ⟨g0, g0'⟩ := hcan 0 (by omega)
    rw [add_zero0] at g0 g0'
    refine ⟨g0, g0', hb, ?_⟩
    rw [w64 (x := (n : Int) + 1) (by omega) (by omega)]
    refine ⟨⟨n + 1, _, _, by simp, hlt, ?_, ?_, H⟩, by show ((X.2.2.2.1.length : Int) - ((n : Int) + 1)).toNat < ((X.2.2.2.1.length : Int) - n).toNat; omega⟩
    · simp only [List.length_append, List.length_take, List.length_drop, List.length_cons, List.length_nil]; omega
    · intro v hv
      rcases List.mem_append.1 hv with hv | hv
      · rcases List.mem_append.1 hv with hv | hv
        · exact hV8 v (List.mem_of_mem_take hv)
        · exact ⟨_, List.mem_singleton.1 hv⟩
      · exact hV8 v (List.mem_of_mem_drop hv)
  -- the first answer's palette
  refine ⟨fun vs u => ∃ (n : Nat) (V : List Value) (f : Nat → Nat), vs = [i64 n] ∧ n ≤ X.2.2.1.length ∧ V.length = X.2.2.1.length * 4 ∧ Ths w u f [k43, k26, k9, k6, k1] (⟨5, p11, X.2.2.1.length, k28, 4, V⟩ ::
      ([⟨7, p18, X.2.2.1.length, k45, 4, cos X.2.2.1⟩, ⟨8, p19, X.2.2.2.1.length, k47, 1, bytes X.2.2.2.1⟩] ++ last3 p1 len c1 xs (some ⟨b3, 0, none⟩) c3 l p5 c5 A)),
    fun vs _ => match vs with | [.int _ n] => (X.2.2.1.length - n).toNat | _ => 0, ⟨0, cos X.2.2.1, _, rfl, Nat.zero_le _, hlp, H25.mono (fun b hb => hb) (by simp [last3])⟩, fun n28 w26 hI => ?_⟩
  obtain ⟨n, V, f26, hv, hn, hV, H26⟩ := hI
  obtain rfl : n28 = n := by simpa using hv
  refine brB_i (fun hlt => ?_) fun hge => ?_
  · have hlt : n < X.2.2.1.length := by simp at hlt; omega
    refine St.put (us := [u16 0, u16 0, u16 0, u16 2]) H26 (by simp [last3]) hV rfl hlt fun a hcan hb H => ?_
    obtain ⟨g0, g0'⟩ := hcan 0 (by omega)
    rw [add_zero0] at g0 g0'
    refine ⟨g0, g0', (hcan 1 (by omega)).1, (hcan 1 (by omega)).2, (hcan 2 (by omega)).1, (hcan 2 (by omega)).2, (hcan 3 (by omega)).1, (hcan 3 (by omega)).2, hb, ?_⟩
    rw [w64 (x := (n : Int) + 1) (by omega) (by omega)]
    refine ⟨⟨n + 1, _, _, by simp, hlt, ?_, H⟩, by show ((X.2.2.1.length : Int) - ((n : Int) + 1)).toNat < ((X.2.2.1.length : Int) - n).toNat; omega⟩
    simp only [List.length_append, List.length_take, List.length_drop, List.length_cons, List.length_nil, hV]; omega
  -- the document's answer, and a palette once more
  have H26 : Ths w w26 f26 [k43, k26, k9, k6, k1] ([⟨7, p18, X.2.2.1.length, k45, 4, cos X.2.2.1⟩, ⟨8, p19, X.2.2.2.1.length, k47, 1, bytes X.2.2.2.1⟩] ++ last3 p1 len c1 xs (some ⟨b3, 0, none⟩) c3 l p5 c5 A) := H26.mono (fun b hb => hb) fun t ht => List.mem_cons_of_mem _ ht
  have hE26 := H26.pal.ext
  refine rApply_spec (hi.img.ext hE26) hi.fit (hq.sl.ext hE26) rfl hs8 fun p20 c20 p21 c21 w27 hP => ⟨_, _, _, _, _, _, _, _, _, rfl, hP.ext.keep _, fun k52 hk52 => ?_⟩
  rw [hX] at hP ⊢
  obtain ⟨f27, H27⟩ := Ths.pald H26 hP (i := 9) (j := 10) (by decide) (by decide) (by decide)
  refine St.loc H27 (by simp; omega) fun w28 f28 H28 => ?_
  refine own_spec (hi.img.ext H28.pal.ext) hi.sz fun p22 c22 w29 hE29 ho29 => ⟨_, _, _, _, _, rfl, hE29.keep _, ?_⟩
  have H29 := H28.new (i := 11) hE29 (by decide) ho29
  obtain ⟨i29, r29⟩ := St.pix H29 (c := 11) (p := p22) (xs := xs) (len := len) (cap := c22) (List.Mem.head _)
  refine Palette_spec i29 r29 hi.fit fun p23 c23 w30 hf30 => ⟨_, _, _, _, rfl, hf30.ext.keep _, ?_⟩
  rw [hA] at hf30 ⊢
  have H30 := H29.new (i := 12) hf30.ext (by decide) hf30.ow
  have s18 := (St.cols H30 (c := 7) (p := p18) (xs := X.2.2.1) (len := X.2.2.1.length) (cap := k45) (by simp [last3])).1
  have s19 := (H30.get (t := ⟨8, p19, X.2.2.2.1.length, k47, 1, bytes X.2.2.2.1⟩) (by simp [last3])).sl
  have s20 := (St.cols H30 (c := 9) (p := p20) (xs := X.2.2.1) (len := X.2.2.1.length) (cap := c20) (by simp [last3])).1
  have s21 := (H30.get (t := ⟨10, p21, X.2.2.2.1.length, c21, 1, bytes X.2.2.2.1⟩) (by simp [last3])).sl
  refine SameP_spec s18 rfl s19 rfl s20 rfl s21 rfl (by omega) (by omega) fun w31 hE31 => ⟨_, rfl, hE31.keep _, ?_⟩
  refine brB_t (by simp) ?_
  have H31 := H30.step hE31 0
  have s3 := (St.cut H31 (c3 := c3) (p3 := some ⟨b3, 0, none⟩) (l := l) (by simp [last3])).1
  refine cutI ?_
  refine SameColors_spec s3 (hq.sl.ext H31.pal.ext) rfl rfl (by omega) fun w32 hE32 => ⟨_, rfl, hE32.keep _, ?_⟩
  refine brB_t (by simp) ?_
  have H32 := H31.step hE32 0
  have t5 := (St.cols H32 (c := 4) (p := p5) (xs := A) (len := A.length) (cap := c5) (by simp [last3])).1
  have t23 := (St.cols H32 (c := 12) (p := p23) (xs := A) (len := A.length) (cap := c23) (by simp [last3])).1
  refine SameColors_spec t5 t23 rfl rfl (by omega) fun w33 hE33 => ⟨_, rfl, hE33.keep _, to_bool (hR w33 (H32.pal.ext.trans hE33)) ?_⟩
  simp
end Go.Proofs.Ytijplekhbpigiaa
