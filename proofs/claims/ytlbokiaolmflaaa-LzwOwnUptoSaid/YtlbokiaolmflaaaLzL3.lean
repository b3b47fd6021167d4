/- The walks of LzwFew and LzwOwn. -/
import Derived.Test.YtlbokiaolmflaaaLzL2
namespace Go.Proofs.Ytlbokiaolmflaaa
open Go Go.Vc Go.RowKit
set_option maxRecDepth 100000
set_option linter.unusedVariables false
set_option linter.unusedSimpArgs false

theorem bytes_set (xs : List Int) (i : Nat) (x : Int) : bytes (xs.set i x) = (bytes xs).set i (u8 x) := by simp [bytes]
theorem quo128 {a : Int} (h0 : 0 ≤ a) (h1 : a ≤ 2 ^ 60) : divZ .quo .i64 a 128 = a / 128 := by
  simp only [divZ]
  rw [Int.tdiv_eq_ediv_of_nonneg h0]
  exact w64 (by omega) (by omega)
theorem few_walk {W : World} {b : Option Addr} {len cap : Nat} {xs : List Int} {x n : Int} {R : Ending → World → Prop} (h : BytesOk W b len cap xs ∧ len ≤ 1048576) (w1 : (Lit.int .u8 x).wf = true) (w2 : (Lit.int .i64 n).wf = true)
    (hR : ∀ w', Ext W w' → R (.returned (.bool true)) w') : Calls P F.law06_LzwFew #[.slice b len cap, u8 x, i64 n] W R := by
  obtain ⟨f, h20⟩ := h
  have hx := wfu8 w1
  have hl := f.long
  obtain ⟨hd, hpb, hpl⟩ := packR_all f.fit
  refine calls_law06_LzwFew _ _ _ _ _ _ _ ?_
  refine wakes_spec fun u1 hE1 => ⟨_, rfl, brB_f rfl ?_⟩
  refine own_spec (f.sl.ext hE1) f.long (by omega) fun p1 k2 u2 hE2 ho => ⟨_, _, _, rfl, ?_⟩
  refine Pack_spec ho.sl f.long (by omega) f.fit fun p2 k3 k4 u3 hp => ⟨_, _, _, rfl, ?_⟩
  have hE3 := (hE1.trans hE2).trans hp.ext
  have hk3 := fg_len hp
  refine refRuns_spec hp.sl hk3 (by omega) hpb (by omega) (by omega) fun p3 k5 k6 u4 hy => ⟨_, _, _, _, rfl, ?_⟩
  rw [runR_pack f.fit (by omega)] at hy ⊢
  have hE4 := hE3.trans hy.ext
  have hk5 := fg_len hy
  refine brB_f rfl ?_
  refine same_spec hy.sl (f.sl.ext hE4) hk5 f.long (by simp only at hk5; omega) fun u5 hE5 => ⟨_, rfl, brB_f ?_ ?_⟩
  · rw [w64 (x := (len : Int) + 127) (by omega) (by omega), quo128 (by omega) (by omega), w64 (by omega) (by omega)]
    have : ¬ (k3 : Int) > (len : Int) + ((len : Int) + 127) / 128 := by omega
    simp [this]
  have hE5' := hE4.trans hE5
  refine brB_i (fun hb => hR u5 hE5') (fun hb => ?_)
  have hn : ¬ (n < 0 ∨ n > 3000) := by simpa using hb
  refine ⟨fun vs u => match vs with | [.slice p l c, .int _ k] => ∃ i : Nat, k = i ∧ (i : Int) ≤ n ∧ Fg [] W u 1 p l c (bytes (List.replicate i x)) | _ => False,
    fun vs _ => match vs with | [.slice p l c, .int _ k] => (n - k).toNat | _ => 0, ⟨0, rfl, by omega, Fg.nil hE5' 1⟩, fun p4 k7 k8 n2 u6 hI => ?_⟩
  obtain ⟨i, rfl, hi, hg⟩ := hI
  have hk7 := fg_len hg
  rw [List.length_replicate] at hk7
  refine brB_i (fun hlt => ?_) (fun hge => ?_)
  · have hlt : (i : Int) < n := by simpa using hlt
    intro k9 hk9 u7 hL7
    refine (hg.push (bs := [k9]) hL7 (by simp; omega)).app' (by simp [blocks]) rfl rfl (by omega) (by omega) fun p5 k11 u8' hg8 _ _ => ?_
    rw [w64 (by omega) (by omega)]
    refine ⟨⟨i + 1, by omega, by omega, ?_⟩, by show (n - ((i : Int) + 1)).toNat < (n - (i : Int)).toNat; omega⟩
    rw [List.replicate_succ', bytes_append]; exact hg8.mono (by simp)
  · have hge : ¬ (i : Int) < n := by simpa using hge
    have hni : n = i := by omega
    have hrb : Bs (List.replicate i x) := fun y hy => by have := List.eq_of_mem_replicate hy; subst this; omega
    obtain ⟨hd2, hqb, hql⟩ := packR_all hrb
    have hqa := packR_alike i x
    rw [List.length_replicate] at hql
    have hkr : k7 = (List.replicate i x).length := by rw [List.length_replicate]; exact hk7
    refine own_spec hg.sl hkr (by omega) fun p6 k13 u9 hE9 ho6 => ⟨_, _, _, rfl, ?_⟩
    refine Pack_spec ho6.sl hkr (by omega) hrb fun p7 k14 k15 u10 hq => ⟨_, _, _, rfl, ?_⟩
    have hk14 := fg_len hq
    refine own_spec hq.sl hk14 (by omega) fun p8 k17 u11 hE11 ho8 => ⟨_, _, _, rfl, ?_⟩
    refine Unpack_spec ho8.sl hk14 ho8.2.1 (by omega) hqb (by omega) fun p9 k18 k19 u12 hz => ⟨_, _, _, _, rfl, ?_⟩
    rw [runR_pack hrb (by rw [List.length_replicate]; omega)] at hz ⊢
    have hE12 := ((hE9.trans hq.ext).trans hE11).trans hz.ext
    refine brB_t rfl ?_
    refine same_spec hz.sl (hg.sl.ext hE12) (fg_len hz) hkr (by have := fg_len hz; simp only [List.length_replicate] at this; omega) fun u13 hE13 => ⟨_, rfl, to_bool (hR u13 ((hg.ext.trans hE12).trans hE13)) ?_⟩
    rw [w64 (x := n + 127) (by omega) (by omega), quo128 (by omega) (by omega), w64 (by omega) (by omega)]
    have : (k14 : Int) ≤ 2 * ((n + 127) / 128) := by omega
    simp [this]
/-- what is spoilt: nothing but its own cells, and new ones -/
theorem spoil_spec {S : Nat → Prop} {w : World} {base : Option Addr} {len cap : Nat} {xs : List Int} {R : Ending → World → Prop} (h : OwB S w base len cap 1 (bytes xs)) (hl : len = xs.length) (hsz : len ≤ 2 ^ 46)
    (hR : ∀ w', Chg S w w' → R (.returned (.tuple #[])) w') : Calls P F.law06_spoil #[.slice base len cap] w R := by
  refine calls_law06_spoil _ _ _ _ _ ?_
  refine ⟨fun l w' => match l with | [.int _ i] => 0 ≤ i ∧ i ≤ len ∧ Chg S w w' ∧ ∃ ys : List Int, ys.length = xs.length ∧ OwB S w' base len cap 1 (bytes ys) | _ => False,
    fun l _ => match l with | [.int _ i] => (len - i).toNat | _ => 0, ⟨by omega, by omega, Chg.refl _ _, xs, rfl, h⟩, fun i w1 hI => ?_⟩
  obtain ⟨i0, i1, hc, ys, hy, ho⟩ := hI
  refine brB_i (fun hlt => ?_) (fun hge => ?_)
  · have hlt : i < len := by simpa using hlt
    refine (ho.own.sl).get i0 (by rw [bytes_length]; omega) (bytes_get (by omega)) fun a1 hc1 => ⟨_, hc1, ?_⟩
    obtain ⟨b, rfl, hSb, hb2⟩ := ho.own.base (by omega)
    obtain ⟨hu, hf5, hw⟩ := ho.own.write (i := i.toNat) (by omega)
    refine idx_i (a := ⟨b, 0, none⟩) (by omega) (by omega) rfl ?_
    rw [loc_add, Nat.mul_one, Nat.zero_add, w64 (x := i + 1) (by omega) (by omega)]
    obtain ⟨hw1, hw2⟩ := hw (u8 (IntKind.u8.wrap (ys.getD i.toNat 0 + 1)))
    refine ⟨hu, hf5, ⟨by omega, by omega, hc.trans hw2 fun j hj hlt => by have hj : j = b := hj; rw [hj]; exact hSb, ys.set i.toNat (IntKind.u8.wrap (ys.getD i.toNat 0 + 1)), by simpa using hy, by rw [bytes_set]; exact ⟨hw1, fun j hj => Nat.lt_of_lt_of_le (ho.bd j hj) hw2.size⟩⟩, ?_⟩
    show (len - (i + 1)).toNat < (len - i).toNat
    omega
  · refine ⟨fun l w' => match l with | [.slice p l' c, .int _ i] => 0 ≤ i ∧ i ≤ 20 ∧ l' = len + i.toNat ∧ Chg S w w' ∧ ∃ (T : Nat → Prop) (zs : List Value), Gr S T w w' ∧ OwB T w' p l' c 1 zs | _ => False,
      fun l _ => match l with | [.slice p l' c, .int _ i] => (20 - i).toNat | _ => 0, ⟨by omega, by omega, by simp, hc, S, _, (Gr.refl S w).size hc.size, ho⟩, fun p1 l1 c1 i w2 hI => ?_⟩
    obtain ⟨i0, i1, rfl, hc2, T, zs, hg, ho2⟩ := hI
    refine brB_i (fun hlt k3 hk3 w3 hL3 => ?_) (fun hge => hR w2 hc2)
    have hlt : i < 20 := by simpa using hlt
    have hE3 : Ext w2 w3 := hL3.ext (by simp; omega)
    refine (ho2.ext hE3).app (by simp [blocks]; exact fun hS => by have := ho2.bd _ hS; omega) rfl rfl (by omega) (by omega) fun T' p2 c2 w4 hg4 ho4 hc4 => ?_
    rw [w64 (x := i + 1) (by omega) (by omega)]
    refine ⟨⟨by omega, by omega, by omega, (hc2.trans hE3.chg (T := fun _ => False) (fun _ h _ => h.elim)).trans hc4 fun j hj hlt => ?_, T', _, hg.trans (hg4.pre hE3.size), ho4⟩, ?_⟩
    · rcases hg.2 j hj with hj | hj
      · exact hj
      · omega
    · show (20 - (i + 1)).toNat < (20 - i).toNat
      omega
theorem fitsB8 {xs : List Int} (hb : Bs xs) : fitsB xs ((8 : Nat) : Int) = true := by
  rw [fitsB_iff]
  intro j hj
  have := hb (xs.getD j 0) (by simp [List.getD, List.getElem?_eq_getElem hj])
  show xs.getD j 0 < 2 ^ 8
  omega
theorem own_walk {W : World} {b : Option Addr} {len cap : Nat} {xs : List Int} {most : Int} {R : Ending → World → Prop} (h : BytesOk W b len cap xs ∧ len ≤ 1048576) (w1 : (Lit.int .i64 most).wf = true)
    (hR : ∀ w', Ext W w' → R (.returned (.bool true)) w') : Calls P F.law06_LzwOwn #[.slice b len cap, i64 most] W R := by
  obtain ⟨f, h20⟩ := h
  have hm := wf64 w1
  have hl := f.long
  obtain ⟨hd, hpb, hpl⟩ := packR_all f.fit
  have htl := tiffPack_len f.fit
  have hgl := gifPack_len f.fit (by omega) (by omega) (fitsB8 f.fit)
  have hrl := runR_len (bs := xs) (most := most)
  refine calls_law06_LzwOwn _ _ _ _ _ _ ?_
  refine wakes_spec fun u1 hE1 => ⟨_, rfl, brB_f rfl ?_⟩
  have hs1 := hE1.size
  refine own_spec (f.sl.ext hE1) f.long (by omega) fun p1 k2 u2 hE2 ho => ⟨_, _, _, rfl, fun k3 hk3 u3 hL3 => ?_⟩
  have hs2 := hE2.size
  have hs3 := hL3.size
  have ht3 := hL3.there k3 (by simp)
  have hE23 : Ext u2 u3 := hL3.ext (by simpa using hk3)
  refine (ho.ext hE23).app (by simp [blocks]; omega) (by omega) hs3 rfl rfl (by omega) (by omega) fun p2 k5 u4 hin hC4 => ?_
  have hE4 : Ext W u4 := ((hE1.trans hE2).trans hE23).step hC4 fun i hi => by omega
  have hs4 := hC4.size
  have hin : Ow u1.heap.size u4.heap.size u4 p2 (len + 1) k5 1 (bytes (xs ++ [77])) := by rw [bytes_append]; exact hin
  have hcap := hin.2.1
  have hpre : bytes xs <+: bytes (xs ++ [77]) := by rw [bytes_append]; exact List.prefix_append _ _
  refine slcc0 (by omega) (Unpack_spec (hin.sl.pre hpre) f.long (by omega) (by omega) f.fit hm.2 fun p4 k8 k9 u5 hx => ⟨_, _, _, _, rfl, hx.ext.keep _, ?_⟩)
  have hs5 := hx.ext.size
  refine slcc0 (by omega) (Unpack_spec ((hin.sl.pre hpre).ext hx.ext) f.long (by omega) (by omega) f.fit hm.2 fun p6 k12 k13 u6 hy => ⟨_, _, _, _, rfl, hy.ext.keep _, ?_⟩)
  have hs6 := hy.ext.size
  have hE46 := hx.ext.trans hy.ext
  refine slcc0 (by omega) (Pack_spec ((hin.sl.pre hpre).ext hE46) f.long (by omega) f.fit fun p8 k16 k17 u7 hp => ⟨_, _, _, rfl, hp.ext.keep _, ?_⟩)
  have hs7 := hp.ext.size
  have hE47 := hE46.trans hp.ext
  refine slcc0 (by omega) (TiffPack_spec ((hin.sl.pre hpre).ext hE47) f.long (by omega) f.fit fun p10 k20 k21 u8' ht => ⟨_, _, _, rfl, ht.ext.keep _, ?_⟩)
  have hs8 := ht.ext.size
  have hE48 := hE47.trans ht.ext
  refine slcc0 (by omega) (GifPack_spec (size := ((8 : Nat) : Int)) ((hin.sl.pre hpre).ext hE48) f.long (by omega) f.fit fun p12 k24 k25 u9 hg => ⟨_, _, _, _, rfl, hg.ext.keep _, ?_⟩)
  have hs9 := hg.ext.size
  have hE49 := hE48.trans hg.ext
  have hE9 := hE4.trans hE49
  have ox := ((((hx.ow.ext hy.ext).ext hp.ext).ext ht.ext).ext hg.ext).owB (by omega)
  have op := ((hp.ow.ext ht.ext).ext hg.ext).owB (by omega)
  have ot := (ht.ow.ext hg.ext).owB (by omega)
  have og := hg.ow.owB (Nat.le_refl _)
  refine spoil_spec ox (fg_len hx) (by have := fg_len hx; omega) fun u10 hC10 => ⟨rfl, hC10.keep (by simp; omega), ?_⟩
  refine spoil_spec (op.chg hC10 fun i h1 h2 => by omega) (fg_len hp) (by have := fg_len hp; omega) fun u11 hC11 => ⟨rfl, hC11.keep (by simp; omega), ?_⟩
  refine spoil_spec ((ot.chg hC10 fun i h1 h2 => by omega).chg hC11 fun i h1 h2 => by omega) (fg_len ht) (by have := fg_len ht; omega) fun u12 hC12 => ⟨rfl, hC12.keep (by simp; omega), ?_⟩
  refine spoil_spec (((og.chg hC10 fun i h1 h2 => by omega).chg hC11 fun i h1 h2 => by omega).chg hC12 fun i h1 h2 => by omega) (fg_len hg) (by have := fg_len hg; omega) fun u13 hC13 => ⟨rfl, hC13.keep (by simp; omega), ?_⟩
  have hC : Chg (fun i => u4.heap.size ≤ i ∧ ¬ (u5.heap.size ≤ i ∧ i < u6.heap.size)) u9 u13 :=
    (((hC10.mono fun i hi _ => by omega).trans hC11 fun i hi _ => by omega).trans hC12 fun i hi _ => by omega).trans hC13 fun i hi _ => by omega
  have hE13 : Ext W u13 := hE9.step hC fun i hi => by have := hE4.size; omega
  have oin := (hin.ext hE49).chg hC fun i h1 h2 h3 => by omega
  have oy := (((hy.ow.ext hp.ext).ext ht.ext).ext hg.ext).chg hC fun i h1 h2 h3 => by omega
  refine refRuns_spec (f.sl.ext hE13) f.long (by omega) f.fit hm.1 hm.2 fun p13 k26 k27 u14 hw => ⟨_, _, _, _, rfl, hw.ext.keep _, ?_⟩
  have hE14 := hE13.trans hw.ext
  have oin14 := oin.ext hw.ext
  have hlen : (xs ++ [77]).getD len 0 = 77 := by rw [hl]; simp [List.getD]
  refine oin14.sl.get (by omega) (by rw [bytes_length]; simp; omega) (v := u8 77) (by rw [Int.toNat_natCast, bytes_get (by simp; omega), hlen]) fun a1 ha1 => ⟨_, ha1, brB_t rfl ?_⟩
  refine slcc0 (by omega) (same_spec (oin14.sl.pre hpre) (f.sl.ext hE14) f.long f.long (by omega) fun u15 hE15 => ⟨_, rfl, hE15.keep _, brB_t (by simp) ?_⟩)
  refine same_spec (oy.sl.ext (hw.ext.trans hE15)) (hw.sl.ext hE15) (fg_len hy) (fg_len hw) (by have := fg_len hy; omega) fun u16 hE16 => ⟨_, rfl, hE16.keep _, to_bool (hR u16 ((hE14.trans hE15).trans hE16)) (by simp)⟩
end Go.Proofs.Ytlbokiaolmflaaa
