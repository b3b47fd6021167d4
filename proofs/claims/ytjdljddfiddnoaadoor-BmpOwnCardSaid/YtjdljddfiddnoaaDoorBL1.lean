/- Bmp: what is sure ahead of each law; reads; writes. -/
import Derived.Test.YtjdljddfiddnoaaDoorBW1
namespace Go.Proofs.YtjdljddfiddnoaaDoor
open Go Go.Vc Go.RowKit
set_option maxRecDepth 100000
set_option linter.unusedVariables false
set_option linter.unusedSimpArgs false

abbrev wkC : Co := (771, 514, 257, 65535)
abbrev wkX : List Int := [771, 514, 257, 65535]
theorem wk1 : fillR 1 1 wkC = (1, 1, wkX, 0) := by decide +kernel
theorem wk2 : (encR false 1 1 wkX).2 = 0 ∧ (encR false 1 1 wkX).1.length = 58 ∧ (encR false 1 1 wkX).1.getD 54 0 = 1 ∧ (encR false 1 1 wkX).1.getD 56 0 = 3 := by decide +kernel
theorem wk3 : decR (encR false 1 1 wkX).1 1 = (1, 1, wkX, 0) := by decide +kernel
theorem wk4 : decR [66, 77, 80] 1 = (0, 0, [], 9) := by decide +kernel
theorem wk5 : Sm16 wkX := by
  have : wkX.all (fun n => decide (0 ≤ n ∧ n ≤ 65535)) = true := by decide
  intro n hn
  simpa using List.all_eq_true.1 this n hn
theorem mk_sl {D : Nat} {w w' : World} {N : Nat} {base : Option Addr} {vs : List Value} (h : Mk D w w') (hs : Sl N w base vs) : Sl N w' base vs := by
  intro j v hj
  obtain ⟨a, h1, h2, h3⟩ := hs j v hj
  exact ⟨a, h1, h2, by rw [h.cell]; exact h3⟩
theorem encR_fit {al : Bool} {W H : Int} {xs : List Int} (h : Sm16 xs) : Bs (encR al W H xs).1 := by
  unfold encR
  split
  · exact encB_fit h
  · intro n hn; cases hn
theorem Ths.mk {w u u' : World} {f : Nat → Nat} {L : List Nat} {l : List Tg} {k : Nat} (h : Ths w u f L l) (hm : Mk k u u') (hk : w.heap.size ≤ k) (hc : ∀ t, t ∈ l → f k ≠ t.c) : Ths w u' f L l :=
  ⟨h.pal.same hm.put.chg fun b hb hz => by have hz : b = k := hz; omega, fun t ht => ⟨(h.th t ht).1, (h.th t ht).2.same hm.put.chg fun b hb hf hw hz => by have hz : b = k := hz; subst hz; exact hc t ht hf⟩⟩
theorem wakes_spec {w : World} {R : Ending → World → Prop} (hT : Tab w) (hR : ∀ w', Ext w w' → R (.returned (.bool true)) w') : Calls P F.law11_wakes #[] w R := by
  refine calls_law11_wakes _ _ ?_
  unfold vc_law11_wakes
  have H0 := St.start w
  refine fill_st 1 _ H0 (c := wkC) (by decide) wk1 fun p1 n1 c1 w1 f1 hE1 H1 => ⟨_, _, _, _, _, _, rfl, fun k3 hk3 => ?_⟩
  refine St.locl H1 (by simp; omega) fun w2 f2 H2 => ?_
  have l1 := St.len H2 (c := 1) (xs := wkX) (List.Mem.head _)
  refine copy_st 2 H2 (St.img (c := 1) H2 (List.Mem.head _)) (by simp at l1; omega) (by decide) fun p2 c2 w3 f3 hE3 H3 => ⟨_, _, _, _, _, rfl, hE3.keep _, ?_⟩
  refine enc_st 3 _ H3 (St.img (c := 2) H3 (List.Mem.head _)) (St.room (c := 2) H3 (List.Mem.head _)) wk5 (by decide) rfl fun p3 n3 c3 w4 f4 hE4 H4 => ⟨_, _, _, _, rfl, hE4.keep _, ?_⟩
  have l3 := St.blen H4 (c := 3) (List.Mem.head _)
  have hw2 := wk2
  have hb : Bs (encR false 1 1 wkX).1 := encR_fit wk5
  rw [hw2.2.1] at l3
  refine own_st 4 H4 (St.by (c := 3) H4 (List.Mem.head _) (by omega) hb) (by decide) fun p4 c4 w5 f5 hE5 H5 => ⟨_, _, _, rfl, hE5.keep _, ?_⟩
  refine dec_st 5 _ H5 hT (St.by (c := 4) H5 (List.Mem.head _) (by omega) hb) (St.room (c := 4) H5 (List.Mem.head _)) (by decide) wk3 fun p5 n5 c5 w6 f6 hE6 H6 => ⟨_, _, _, _, _, _, rfl, hE6.keep _, fun k12 hk12 => ?_⟩
  refine St.locl H6 (by simp; omega) fun w7 f7 H7 k13 w8 hN8 => ?_
  have hE8 := hN8.ext
  have hk13 := hN8.1
  have H8 := H7.step hE8 0
  have hsw := H7.pal.ext.size
  have hav := H7.pal.av
  refine ⟨_, _, by rw [hN8.1, hN8.2]; exact cells_alloc_new w7 _, fun hm => ?_, fun w9 hM => ?_⟩
  · have := (hav k13 hm).2.1; omega
  have H9 := Ths.mk H8 hM (by omega) (fun t ht => by
    rw [fOn_ge (by omega)]
    intro e
    simp only [List.mem_cons, List.not_mem_nil, or_false] at ht
    rcases ht with rfl | rfl | rfl | rfl | rfl <;> cases e)
  have hB9 : By w9 (some ⟨k13, 0, none⟩) 3 [66, 77, 80] := by
    have hs : Sl w8.heap.size w8 (some ⟨k13, 0, none⟩) (bytes [66, 77, 80]) := hN8.cs.sl (by exact List.prefix_refl _) hN8.size
    refine ⟨(mk_sl hM hs).up, rfl, by omega, ?_⟩
    intro n hn; simp at hn; omega
  refine dec_st 6 _ H9 hT hB9 (by omega) (by decide) wk4 fun p6 n6 c6 w10 f10 hE10 H10 => ⟨_, _, _, _, _, _, rfl, hE10.keep _, fun k16 hk16 => ?_⟩
  subst l3
  refine brB_t (by rw [hw2.1]; rfl) ?_
  have g54 : (bytes (encR false 1 1 wkX).1)[(54 : Int).toNat]? = some (u8 1) := by rw [show (54 : Int).toNat = 54 from rfl, bytes_get (by omega), hw2.2.2.1]
  have g56 : (bytes (encR false 1 1 wkX).1)[(56 : Int).toNat]? = some (u8 3) := by rw [show (56 : Int).toNat = 56 from rfl, bytes_get (by omega), hw2.2.2.2]
  refine St.late H10 (c := 3) (p := p3) (by repeat (first | exact List.Mem.head _ | apply List.Mem.tail)) (by omega) g54 fun a1 ha1 => ?_
  refine St.locl H10 (by simp at hk16 ⊢; omega) fun w11 f11 H11 => ⟨_, ha1 _ _ _ _ H11 (by repeat (first | exact List.Mem.head _ | apply List.Mem.tail)), brB_t rfl ?_⟩
  refine St.late H11 (c := 3) (p := p3) (by repeat (first | exact List.Mem.head _ | apply List.Mem.tail)) (by omega) g56 fun a2 ha2 => ⟨_, ha2 _ _ _ _ H11 (by repeat (first | exact List.Mem.head _ | apply List.Mem.tail)), brB_t rfl ?_⟩
  have l5 := St.len H11 (c := 5) (p := p5) (xs := wkX) (by repeat (first | exact List.Mem.head _ | apply List.Mem.tail))
  refine refSame_spec (St.img (c := 5) (xs := wkX) H11 (by repeat (first | exact List.Mem.head _ | apply List.Mem.tail))) (St.img (c := 1) (xs := wkX) H11 (by repeat (first | exact List.Mem.head _ | apply List.Mem.tail))) (by simp at l5; omega) fun w12 hE12 => ⟨_, rfl, hE12.keep _, ?_⟩
  exact hR w12 (H11.pal.ext.trans hE12)
theorem putN_len {W H : Int} {g : Nat → Int} : ∀ {n k : Nat} {s t : RS}, putN W H g n k s = some t → t.ix.length = s.ix.length
  | 0, _, s, t, h => by cases h; rfl
  | n + 1, k, s, t, h => by
    rw [putN] at h
    split at h
    · rename_i s' hs
      rw [putN_len h]
      unfold putS at hs
      split at hs
      · cases hs; simp
      · cases hs
    · cases h
theorem rdGo_go {i j : Nat} {o : Option RS} {t : RS} (h : rdGo i o = .go j t) : o = some t := by
  cases o with
  | none => cases h
  | some s => cases h; rfl
theorem rdGo_done {i : Nat} {o : Option RS} {l : List Int} (h : rdGo i o = .done l) : False := by cases o <;> cases h
theorem rnd_len {W H d : Int} {b : List Int} {i : Nat} {s : RS} : (∀ l, rnd W H d b i s = .done l → l.length = s.ix.length) ∧ (∀ j t, rnd W H d b i s = .go j t → t.ix.length = s.ix.length) := by
  constructor
  · intro l h
    unfold rnd at h
    repeat' split at h
    all_goals first | (cases h; rfl) | (cases h; done) | exact (rdGo_done h).elim
  · intro j t h
    unfold rnd at h
    repeat' split at h
    all_goals first | (cases h; rfl) | (cases h; done) | exact putN_len (rdGo_go h)
theorem unr_len {W H d : Int} {b : List Int} : ∀ {f i : Nat} {s : RS} {l : List Int}, unr W H d b f i s = some l → l.length = s.ix.length
  | 0, _, _, _, h => by cases h
  | f + 1, i, s, l, h => by
    rw [unr] at h
    split at h
    · cases h
    · rename_i l' hr; cases h; exact rnd_len.1 _ hr
    · rename_i j t hr; rw [unr_len h, rnd_len.2 _ _ hr]
theorem byIx_len {W H d : Int} {dn : Bool} {pk : Int} {b : List Int} {pl l : List Co} (h : byIx W H d dn pk b pl = some l) : l.length = (W * H).toNat := by
  unfold byIx at h
  obtain ⟨x, h1, h2⟩ := Option.bind_eq_some_iff.1 h
  obtain ⟨_, rfl⟩ := ixImg_some h2
  rw [List.length_map]
  unfold ixOf at h1
  split at h1
  · have := unr_len h1; simpa using this
  · split at h1
    · cases h1
    · cases h1; exact ixL_length _ _ _ _ _ _
theorem byMsk_len {W H d : Int} {dn : Bool} {b : List Int} {g : Nat → Nat} {l : List Co} (h : byMsk W H d dn b g = some l) : l.length = (W * H).toNat := by
  unfold byMsk at h
  split at h
  · cases h
  · cases h; exact mskL_length _ _ _ _ _ _ _
theorem body_len {bs : List Int} {l : List Co} (h : bodyL bs = some l) : l.length = (fW bs * fH bs).toNat := by
  unfold bodyL at h
  split at h
  · exact byIx_len h
  · exact byMsk_len h
theorem decR_len {bs : List Int} {most : Int} : (decR bs most).2.2.1.length ≤ 262144 := by
  unfold decR
  repeat' split
  all_goals first | simp | skip
  rename_i hg _ _ l hl
  have := body_len hl
  rw [flat_length, this]
  unfold great at hg
  simp at hg
  omega
theorem encR_len {al : Bool} {W H : Int} {xs : List Int} : (encR al W H xs).1.length < 2 ^ 62 := by
  unfold encR
  split
  · rename_i hg
    obtain ⟨hg, _⟩ := good_iff.1 hg
    obtain ⟨g1, g2, g3, g4, g5⟩ := gfits_iff.1 hg
    have h1 := hdC_length al W H
    have h2 := bdB_length (al := al) (xs := xs) (H := H) g1 g3 H.toNat
    obtain ⟨r1, r2, r3, r4⟩ := rw_bounds (al := al) g1 g3
    have rh : rowE al W * H ≤ 16384 * 4096 := Int.mul_le_mul r2 g4 (by omega) (by omega)
    have hS : hdS al = 108 ∨ hdS al = 40 := by cases al <;> simp [hdS]
    rw [show ((H.toNat : Nat) : Int) = H by omega] at h2
    unfold encB
    simp only [List.length_append]
    omega
  · simp
theorem reads_walk {w : World} {p : Option Addr} {len cap : Nat} {bs : List Int} {most : Int} {R : Ending → World → Prop} (hT : Tab w) (hb : BytesOk w p len cap bs) (_ : (Lit.int .i64 most).wf = true) (hR : ∀ w', Ext w w' → R (.returned (.bool true)) w') :
    Calls P F.law11_BmpReads #[.slice p len cap, i64 most] w R := by
  refine calls_law11_BmpReads _ _ _ _ _ _ ?_
  unfold vc_law11_BmpReads
  refine wakes_spec hT fun w1 hE1 => ⟨_, rfl, brB_f rfl ?_⟩
  have H1 := (St.start w).step hE1 0
  have hfit := hb.by_.fit
  have hlim := hb.by_.lim
  refine own_st 1 H1 (hb.by_.ext hE1) (by decide) fun p1 c1 w2 f2 hE2 H2 => ⟨_, _, _, rfl, ?_⟩
  refine dec_st 2 _ H2 hT (St.by (c := 1) H2 (List.Mem.head _) hlim hfit) (St.room (c := 1) H2 (List.Mem.head _)) (by decide) rfl fun p2 n2 c2 w3 f3 hE3 H3 => ⟨_, _, _, _, _, _, rfl, fun k5 hk5 => ?_⟩
  refine St.locl H3 (by simp; omega) fun w4 f4 H4 => ?_
  refine rdec_st 3 _ H4 (hb.by_.ext H4.pal.ext) hb.cap (by decide) rfl fun p3 n3 c3 w5 f5 hE5 H5 => ⟨_, _, _, _, _, _, rfl, hE5.keep _, fun k8 hk8 => ?_⟩
  refine St.locl H5 (by simp at hk8 ⊢; omega) fun w6 f6 H6 => ?_
  have hl2 := St.len H6 (c := 2) (p := p2) (by repeat (first | exact List.Mem.head _ | apply List.Mem.tail))
  have hle := decR_len (bs := bs) (most := most)
  refine refSame_spec (St.img (c := 2) H6 (by repeat (first | exact List.Mem.head _ | apply List.Mem.tail))) (St.img (c := 3) H6 (by repeat (first | exact List.Mem.head _ | apply List.Mem.tail))) (by omega) fun w7 hE7 => ⟨_, rfl, hE7.keep _, to_bool (hR w7 (H6.pal.ext.trans hE7)) ?_⟩
  simp [same]
theorem writes_walk {w : World} {p : Option Addr} {len cap : Nat} {W H : Int} {xs : List Int} {al : Bool} {R : Ending → World → Prop} (hT : Tab w) (hp : ImgOk w W H p len cap xs) (hR : ∀ w', Ext w w' → R (.returned (.bool true)) w') :
    Calls P F.law11_BmpWrites #[.agg #[i64 W, i64 H, .slice p len cap], .bool al] w R := by
  refine calls_law11_BmpWrites _ _ _ _ _ _ _ _ ?_
  unfold vc_law11_BmpWrites
  intro k1 hk1
  refine St.locl (St.start w) (by simp; omega) fun w1 f1 H1 => ?_
  refine wakes_spec (hT.ext H1.pal.ext) fun w2 hE2 => ⟨_, rfl, hE2.keep _, brB_f rfl ?_⟩
  have H2 := H1.step hE2 0
  refine copy_st 1 H2 (hp.img.ext H2.pal.ext) hp.sz (by decide) fun p1 c1 w3 f3 hE3 H3 => ⟨_, _, _, _, _, rfl, hE3.keep _, ?_⟩
  refine enc_st 2 _ H3 (St.img (c := 1) H3 (List.Mem.head _)) (St.room (c := 1) H3 (List.Mem.head _)) hp.sm (by decide) rfl fun p2 n2 c2 w4 f4 hE4 H4 => ⟨_, _, _, _, rfl, hE4.keep _, ?_⟩
  refine renc_st 3 _ H4 (hp.img.ext H4.pal.ext) hp.sm (by decide) rfl fun p3 n3 c3 w5 f5 hE5 H5 => ⟨_, _, _, _, rfl, hE5.keep _, ?_⟩
  have l2 := St.blen H5 (c := 2) (p := p2) (by repeat (first | exact List.Mem.head _ | apply List.Mem.tail))
  have l3 := St.blen H5 (c := 3) (p := p3) (by repeat (first | exact List.Mem.head _ | apply List.Mem.tail))
  have hle := encR_len (al := al) (W := W) (H := H) (xs := xs)
  have h2 := H5.get (t := ⟨2, p2, n2, c2, 1, bytes (encR al W H xs).1⟩) (by repeat (first | exact List.Mem.head _ | apply List.Mem.tail))
  have h3 := H5.get (t := ⟨3, p3, n3, c3, 1, bytes (encR al W H xs).1⟩) (by repeat (first | exact List.Mem.head _ | apply List.Mem.tail))
  refine same_spec h2.sl h3.sl l2 l3 (by omega) fun w6 hE6 => ⟨_, rfl, hE6.keep _, to_bool (hR w6 (H5.pal.ext.trans hE6)) ?_⟩
  simp
end Go.Proofs.YtjdljddfiddnoaaDoor
