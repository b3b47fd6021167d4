/- The walk of BitsOwn. -/
import Derived.Test.YtlmnooodinfifaaBitsL3
import Derived.Test.YtlmnooodinfifaaBits8
import Derived.Test.YtlmnooodinfifaaBits9
namespace Go.Proofs.Ytlmnooodinfifaa
open Go Go.Vc Go.RowKit
set_option maxRecDepth 100000
set_option linter.unusedVariables false
set_option linter.unusedSimpArgs false

theorem unst_length : ∀ l : List Int, (unst l).1.length ≤ l.length := by
  intro l
  induction l using unst.induct <;> simp_all [unst] <;> first | omega | (split <;> simp <;> omega)
theorem slcc_i {base : Option Addr} {cap : Nat} {lo hi : Int} {sz : Nat} {F : Option Addr → Nat → Nat → Prop} (h0 : 0 ≤ lo) (h1 : lo ≤ hi) (h2 : hi ≤ cap) (hF : F (slcBase base lo.toNat cap sz) (hi.toNat - lo.toNat) (cap - lo.toNat)) : slcc base cap lo hi sz F := ⟨h0, h1, h2, hF⟩
/-- the part from the start on -/
theorem Sl.head {N : Nat} {w : World} {base : Option Addr} {xs ys : List Int} {cap : Nat} (h : Sl N w base (bytes (xs ++ ys))) (hc : xs.length + ys.length ≤ cap) : Sl N w (slcBase base (0 : Int).toNat cap 1) (bytes xs) :=
  h.part (by rw [bytes_length, List.length_append]; exact hc) (by rw [bytes_append]; simp)
theorem own_walk {W : World} {b : Option Addr} {len cap : Nat} {xs : List Int} {up : Bool} {b2 : Option Addr} {len2 cap2 : Nat} {acs : List Act'} {R : Ending → World → Prop} (hb : BytesOk W b len cap xs ∧ len ≤ 1048576) (h : ActsOk W b2 len2 acs ∧ len2 ≤ 2 ^ 43)
    (hR : ∀ w', Ext W w' → R (.returned (.bool true)) w') :
    Calls P F.law01_BitsOwn #[.slice b len cap, .bool up, .slice b2 len2 cap2] W R := by
  obtain ⟨h, hsz⟩ := h
  obtain ⟨hb, hbsz⟩ := hb
  have hl := h.long
  have hbl := hb.long
  refine calls_law01_BitsOwn _ _ _ _ _ _ _ _ _ ?_
  refine wakes_spec fun w1 hE1 => ⟨_, rfl, brB_f rfl ?_⟩
  refine own_spec (hb.sl.ext hE1) hbl (by omega) fun p1 c1 w2 hE2 ho2 => ⟨_, _, _, rfl, fun k3 hk3 w3 hL3 => ?_⟩
  have e2 := hE1.trans hE2
  have hs1 := hE1.size
  have hs2 := hE2.size
  have hE3 : Ext w2 w3 := hL3.ext (by simp; omega)
  have hk33 := hL3.there k3 (by simp)
  refine ((ho2.owB (Nat.le_refl _)).ext hE3).app (by simp [blocks]; omega) rfl rfl (by omega) (by omega) fun S p2 c2 w4 hg4 ho4 hc4 => ?_
  have hs3 := hE3.size
  have hs4 := hc4.size
  have hS : ∀ i, S i → w1.heap.size ≤ i ∧ i < w4.heap.size ∧ i ≠ k3 := fun i hi => by
    rcases hg4.2 i hi with hi | hi
    · omega
    · omega
  have e4 : Ext W w4 := (e2.trans hE3).step hc4 fun i hi => by omega
  have hcap := ho4.own.2.1
  have hin : ∀ w', Ext w4 w' → Sl w'.heap.size w' p2 (bytes (xs ++ [77])) := fun w' hE => by
    have := (ho4.ext hE).own.sl
    rwa [show bytes xs ++ [u8 77] = bytes (xs ++ [77]) by simp [bytes]] at this
  have hhd : ∀ w', Ext w4 w' → Sl w'.heap.size w' (slcBase p2 (0 : Int).toNat c2 1) (bytes xs) := fun w' hE => Sl.head (hin w' hE) (by simp; omega)
  have et : ((len : Int).toNat - (0 : Int).toNat) = len := by simp
  refine slcc_i (by omega) (by omega) (by omega) ?_
  rw [et]
  refine NewReader_spec (hhd w4 (Ext.refl _)) hbl (by omega) hb.fit fun rb w5 hE5 hrb hr5 => ⟨_, rfl, hE5.keep _, ?_⟩
  have hs5 := hE5.size
  refine slcc_i (by omega) (by omega) (by omega) ?_
  rw [et]
  -- a number is set
  have hset : ∀ (R' : Ending → World → Prop), (∀ p l c e (ys : List Int) w', Ext w5 w' → Ow w5.heap.size w'.heap.size w' p l c 1 (bytes ys) → l = ys.length → l ≤ 1048576 → R' (.returned (.tuple #[.slice p l c, i64 e])) w') →
      Calls P F.bits_Set #[.slice (slcBase p2 (0 : Int).toNat c2 1) len (c2 - (0 : Int).toNat), i64 0, i64 1, .bool false, .int .u32 9] w5 R' := by
    intro R' hR'
    refine Set_spec (hhd w5 hE5) hbl (by omega) (by omega) (by omega) (fun hne => hR' none 0 0 _ [] w5 (Ext.refl _) (Ow.nil _ _ _ _ _) rfl (by omega)) fun he p c w' hE ho => hR' p len c 0 _ w' hE ho (by rw [setV, setP_length]; exact hbl) hbsz
  refine hset _ fun p6 l6 c6 n6 ys6 w6 hE6 ho6 hl6 hl6' => ⟨_, _, _, _, rfl, hE6.keep _, ?_⟩
  have hs6 := hE6.size
  have hE46 := hE5.trans hE6
  refine slcc_i (by omega) (by omega) (by omega) ?_
  rw [et]
  have hul := unst_length xs
  have hst := stuffL_length xs
  refine Unstuff_spec (hhd w6 hE46) hbl (by omega) fun p7 c7 w7 hf7 => ⟨_, _, _, _, rfl, hf7.ext.keep _, ?_⟩
  have hs7 := hf7.ext.size
  have hE47 := hE46.trans hf7.ext
  refine slcc_i (by omega) (by omega) (by omega) ?_
  rw [et]
  refine Stuff_spec (hhd w7 hE47) hbl (by omega) fun p8 c8 w8 hf8 => ⟨_, _, _, rfl, hf8.ext.keep _, brB_f rfl ?_⟩
  have hs8 := hf8.ext.size
  have hE48 := hE47.trans hf8.ext
  have h77 : ∀ {w' : World} {G : Addr → Prop}, Ext w4 w' → (∀ a : Addr, w'.cell? a = some (u8 77) → G a) → idx p2 (len + 1) (len : Int) 1 G := fun {w' G} hE hG =>
    (hin w' hE).get (by omega) (by rw [bytes_length, List.length_append]; simp; omega) (v := u8 77) (by rw [bytes_append, List.getElem?_append_right (by rw [bytes_length]; omega), show (len : Int).toNat - (bytes xs).length = 0 by rw [bytes_length]; omega]; rfl) fun a ha => hG a ha
  refine h77 hE48 fun a1 ha1 => ⟨_, ha1, brB_f rfl ?_⟩
  refine slcc_i (by omega) (by omega) (by omega) ?_
  rw [et]
  refine same_spec (hhd w8 hE48) (hb.sl.ext (e4.trans hE48)) hbl hbl (by omega) fun w9 hE9 => ⟨_, rfl, hE9.keep _, brB_f (by simp) ?_⟩
  have hs9 := hE9.size
  -- what was answered is spoilt
  have hE69 := (hf7.ext.trans hf8.ext).trans hE9
  refine spoil_spec ((ho6.owB (Nat.le_refl _)).ext hE69) hl6 (by omega) fun w10 hc10 => ⟨rfl, hc10.keep (by simp; omega), ?_⟩
  have hs10 := hc10.size
  have ho7 := (hf7.ow.owB (Nat.le_refl _)).ext (hf8.ext.trans hE9)
  refine spoil_spec (ho7.chg hc10 (by omega)) rfl (by omega) fun w11 hc11 => ⟨rfl, hc11.keep (by simp; omega), ?_⟩
  have hs11 := hc11.size
  have ho8 := (hf8.ow.owB (Nat.le_refl _)).ext hE9
  refine spoil_spec ((ho8.chg hc10 (by omega)).chg hc11 (by omega)) rfl (by omega) fun w12 hc12 => ⟨rfl, hc12.keep (by simp; omega), ?_⟩
  have hs12 := hc12.size
  have hc59 : Chg (fun i => w5.heap.size ≤ i) w9 w12 := ((hc10.mono (T := fun i => w5.heap.size ≤ i) (fun i hi _ => hi.1)).trans hc11 (fun i hi _ => by omega)).trans hc12 (fun i hi _ => by omega)
  have hE412 : Ext w4 w12 := (hE48.trans hE9).step hc59 fun i hi => by omega
  refine slcc_i (by omega) (by omega) (by omega) ?_
  rw [et]
  refine same_spec (hhd w12 hE412) (hb.sl.ext (e4.trans hE412)) hbl hbl (by omega) fun w13 hE13 => ⟨_, rfl, hE13.keep _, brB_f (by simp) ?_⟩
  have hs13 := hE13.size
  have hE413 := hE412.trans hE13
  refine h77 hE413 fun a2 ha2 => ⟨_, ha2, brB_f rfl ?_⟩
  -- what was handed in is overwritten
  have hr13 : RdAt w13 (some ⟨rb, 0, none⟩) rb (fun i => w4.heap.size ≤ i ∧ i < rb) xs 0 up :=
    ((hr5.ext ((hE6.trans hE69))).chg hc59 (by have := hr5.lt; omega) (fun i hi _ => by have := hr5.lt; omega)).ext hE13
  have hrl := hr5.lt
  refine ⟨fun l w' => match l with | [.int _ i] => 0 ≤ i ∧ i ≤ len + 1 ∧ Chg S w13 w' ∧ ∃ ys : List Value, ys.length = len + 1 ∧ OwB S w' p2 (len + 1) c2 1 ys | _ => False,
    fun l _ => match l with | [.int _ i] => (len + 1 - i).toNat | _ => 0, ⟨by omega, by omega, Chg.refl _ _, _, by simp [bytes_length]; omega, ho4.ext hE413⟩, fun i w14 hI => ?_⟩
  obtain ⟨i0, i1, hc14, ys, hys, ho14⟩ := hI
  have hs14 := hc14.size
  refine brB_i (fun hlt => ?_) (fun hge => ?_)
  · have hlt : i < len + 1 := by simpa using hlt
    obtain ⟨bk, rfl, hSb, hb2⟩ := ho14.own.base (by omega)
    obtain ⟨hu, hf5, hw⟩ := ho14.own.write (i := i.toNat) (by omega)
    refine idx_i (a := ⟨bk, 0, none⟩) (by omega) (by omega) rfl ?_
    rw [loc_add, Nat.mul_one, Nat.zero_add, w64 (x := i + 1) (by omega) (by omega)]
    obtain ⟨hw1, hw2⟩ := hw (u8 3)
    refine ⟨hu, hf5, by simp; exact (hS _ hSb).2.2, ⟨by omega, by omega, hc14.trans hw2 fun j hj hlt => by have hj : j = bk := hj; rw [hj]; exact hSb, _, by simpa using hys, ⟨hw1, fun j hj => Nat.lt_of_lt_of_le (ho14.bd j hj) hw2.size⟩⟩, ?_⟩
    show (len + 1 - (i + 1)).toNat < (len + 1 - i).toNat
    omega
  have e14 : Ext W w14 := (e4.trans hE413).step hc14 fun i hi => by have := hS i hi; omega
  have hJ14 : RdJ W w14 w4.heap.size rb xs 0 up := ⟨e14, hr13.chg hc14 (fun hS' => by have := hS _ hS'; omega) (fun i hi _ hS' => by have := hS i hS'; omega), by have := e4.size; omega⟩
  refine hJ14.bytes (by omega) fun p15 c15 w15 hc15 hJ15 ho15 => ⟨_, _, _, _, rfl, hc15.keep (by simp; omega), ?_⟩
  have ebE : byE xs 0 (len : Int) = 0 := by unfold byE; rw [if_neg (by omega), if_neg (by omega)]
  have ebL : byL xs 0 (len : Int) = xs := by
    unfold byL; rw [if_pos ebE]; unfold part
    rw [show ((0 + 7 : Int) / 8).toNat = 0 by decide, List.drop_zero, Int.toNat_natCast, hbl, List.take_length]
  rw [ebE]
  refine brB_f rfl ?_
  rw [ebL] at ho15 ⊢
  refine same_spec ho15.sl (hb.sl.ext hJ15.ext) rfl hbl (by omega) fun w16 hE16 => ⟨_, rfl, hE16.keep _, brB_f (by simp) ?_⟩
  have e16 := hJ15.ext.trans hE16
  have hs15 := hc15.size
  have hs16 := hE16.size
  refine NewWriter_spec fun wb w17 hE17 hwb hw17 => ⟨_, rfl, hE17.keep _, fun k26 hk26 => ?_⟩
  have hs17 := hE17.size
  have hwl := hw17.lt
  have hW4 := e4.size
  have hWk : W.heap.size ≤ k3 := by have := e2.size; omega
  refine ⟨fun l w' => match l with | [.int _ i, .bool u, .slice p l' c, .int _ n] => 0 ≤ i ∧ i ≤ len2 ∧ u = up ∧ ∃ (bs : List Int) (m : Nat), n = m ∧ l' = bs.length ∧ (m : Int) ≤ 40 * i ∧ WOk up bs m ∧ Pair2 W w' (some ⟨wb, 0, none⟩) wb p c bs m bs up [k26, k3] | _ => False,
    fun l _ => match l with | [.int _ i, .bool u, .slice p l' c, .int _ n] => (len2 - i).toNat | _ => 0, fun w18 hL18 => ⟨by omega, by omega, rfl, [], 0, rfl, rfl, by omega, WOk.nil up, ?_⟩, fun i u p2 l2 c2 n2 w19 hI => ?_⟩
  · have h26 := hL18.there k26 (by simp)
    have h3 := hL18.there k3 (by simp)
    have hw18 := hw17.chg hL18.chg (by simp; omega) (fun _ h => h.elim)
    exact Pair2.start ((e16.trans hE17).step hL18.chg (by simp; omega)) hw18 (by omega) (by simp; omega)
  obtain ⟨i0, i1, rfl, bs, m, rfl, rfl, hm, hok, hP⟩ := hI
  have hblo := hok.lo
  have hbhi := hok.hi
  have hPd := hP.step (Ext.refl _).drew
  refine brB_i (fun hlt => ?_) (fun hge => ?_)
  · have hlt : i < len2 := by simpa using hlt
    refine h.get hP.ext.drew i0 hlt fun a c ha hfit hc0 hc1 hc2 => ⟨_, hc2, h.get hP.ext.drew i0 hlt fun a3 c3 ha3 _ _ hc3 _ => ⟨_, hc3, ?_⟩⟩
    obtain rfl : a3 = a := Option.some.inj (ha3.symm.trans ha)
    refine hPd.put hok (by omega) hfit.v.1 hfit.v.2 fun w20 hk20 hP20 => ⟨_, rfl, hk20, ?_⟩
    refine h.get hP20.ext.drew i0 hlt fun a4 c4 ha4 _ _ _ hc4 => ⟨_, hc4, h.get hP20.ext.drew i0 hlt fun a5 c5 ha5 _ _ hc5 _ => ⟨_, hc5, ?_⟩⟩
    obtain rfl : a4 = a3 := Option.some.inj (ha4.symm.trans ha)
    obtain rfl : a5 = a4 := Option.some.inj (ha5.symm.trans ha4)
    have hok' := putA_ok hok a5.2.2 a5.2.1
    have hml := putM_le m a5.2.1
    have hblo' := hok'.lo
    have hbhi' := hok'.hi
    refine (hP20.step (Ext.refl w20).drew).rput hok (by omega) hfit.v.1 hfit.v.2 fun p21 c21 w21 hk21 hP21 => ⟨_, _, _, _, _, _, rfl, hk21, fun w22 hL22 => ?_⟩
    have hP22 := hP21.locl hL22 (by simp)
    refine hP22.out (by omega) fun p23 c23 w23 hE23 ho23 => ⟨_, _, _, rfl, hE23.keep _, ?_⟩
    have hP23 := hP22.step hE23
    refine spoil_spec (ho23.owB (Nat.le_refl _)) rfl (by omega) fun w24 hc24 => ⟨rfl, hc24.keep (fun k hk hm => by have := (hP22.avs k hk).2; omega), ?_⟩
    rw [w64 (x := i + 1) (by omega) (by omega)]
    refine ⟨⟨by omega, by omega, rfl, _, _, rfl, rfl, by omega, hok', hP22.step (hE23.step hc24 fun i hi => hi.1)⟩, ?_⟩
    show (len2 - (i + 1)).toNat < (len2 - i).toNat
    omega
  · refine hPd.out (by omega) fun p25 c25 w25 hE25 ho25 => ⟨_, _, _, rfl, hE25.keep _, hE25.keeps, ?_⟩
    exact same_spec ho25.sl (hPd.rsl.ext hE25) rfl rfl (by omega) fun w26 hE26 => ⟨_, rfl, hE26.keep _, to_bool (hR w26 (hPd.ext.trans (hE25.trans hE26))) (by simp)⟩
end Go.Proofs.Ytlmnooodinfifaa
