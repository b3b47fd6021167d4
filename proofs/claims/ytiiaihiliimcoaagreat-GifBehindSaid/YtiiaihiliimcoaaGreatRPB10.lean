/- Gif: the program's Encode (under way). -/
import Derived.Test.YtiiaihiliimcoaaGreatRows
import Derived.Deep.CondSized
import Derived.Test.YtiiaihiliimcoaaGreatRPB4
import Derived.Test.YtiiaihiliimcoaaGreatRPB5
import Derived.Test.YtiiaihiliimcoaaGreatRPB9
set_option linter.unusedVariables false
set_option linter.unusedSimpArgs false
namespace Go.Proofs.YtiiaihiliimcoaaGreat
open Go Go.Vc Go.RowKit Go.Qn
set_option maxRecDepth 100000
set_option maxHeartbeats 4000000
theorem palR_len {W H most : Int} {xs : List Int} : (palR W H xs most).1.length ≤ 256 := by
 unfold palR
 split
 ·split
  ·simp
  ·show (palV _ most).length ≤ 256
   unfold palV
   split
   ·omega
   ·rw [List.length_map, (spN_ok (most.toNat - 1) (by omega)).len]; omega
 ·simp
theorem palR_most {W H most : Int} {xs : List Int} : (palR W H xs most).1.length ≤ most.toNat := by
 unfold palR
 split
 ·split
  ·simp
  ·show (palV _ most).length ≤ most.toNat
   unfold palV
   split
   ·omega
   ·rw [List.length_map, (spN_ok (most.toNat - 1) (by omega)).len]; omega
 ·simp
theorem sizeG_is {s n : Nat} (h1 : 1 ≤ s) (h8 : s ≤ 8) (hn : n ≤ 2 ^ s) (hs : s = 1 ∨ 2 ^ (s - 1) < n) : sizeG n = s := by
 have : s = 1 ∨ s = 2 ∨ s = 3 ∨ s = 4 ∨ s = 5 ∨ s = 6 ∨ s = 7 ∨ s = 8 := by omega
 unfold sizeG
 rcases this with rfl | rfl | rfl | rfl | rfl | rfl | rfl | rfl <;> simp only [Nat.reducePow, Nat.reduceSub] at hn hs <;> (repeat' split) <;> omega
theorem or128 : ∀ s, s < 9 → 1 ≤ s → IntKind.u8.wrap (IntKind.i64.wrap (IntKind.i64.wrap (bitsZ .or .i64 128 ((s : Nat) : Int)) - 1)) = ((127 + s : Nat) : Int) := by decide +kernel
theorem shl1n : ∀ n, n < 10 → shiftZ .shl .i64 1 ((n : Nat) : Int) = ((2 ^ n : Nat) : Int) := by decide +kernel
theorem appR_len {W H : Int} {xs : List Int} {pal : List Co} : (appR W H xs pal).2.2.2.1.length ≤ (W * H).toNat ∧ ((appR W H xs pal).2.2.2.2 = 0 → (appR W H xs pal).2.2.2.1.length = (W * H).toNat) := by
 unfold appR
 split
 ·split
  ·exact ⟨by simp, fun h => by cases h⟩
  ·exact ⟨by simp [colsOf_length], fun _ => by simp [colsOf_length]⟩
 ·exact ⟨by simp, fun h => by cases h⟩
theorem idxU_zero (W H : Int) (xs : List Int) : idxU W H xs 0 = (appR W H xs (palG W H xs)).2.2.2.1 := by
 unfold idxU
 refine List.ext_getElem (by simp) fun i h1 h2 => ?_
 simp [List.getD, h2]
theorem idxU_len (W H : Int) (xs : List Int) (n : Nat) : (idxU W H xs n).length = (appR W H xs (palG W H xs)).2.2.2.1.length := by simp [idxU]
theorem idxU_succ (W H : Int) (xs : List Int) {n : Nat} (hn : n < (appR W H xs (palG W H xs)).2.2.2.1.length) :
  idxU W H xs (n + 1) = if (appR W H xs (pal0G W H xs)).2.2.2.2 = 0 ∧ 32768 ≤ xs.getD (4 * n + 3) 0 then (idxU W H xs n).set n ((appR W H xs (pal0G W H xs)).2.2.2.1.getD n 0) else idxU W H xs n := by
 have e : ∀ j, j < (appR W H xs (palG W H xs)).2.2.2.1.length → ∀ m, (idxU W H xs m)[j]? = some (if j < m ∧ (appR W H xs (pal0G W H xs)).2.2.2.2 = 0 ∧ 32768 ≤ xs.getD (4 * j + 3) 0 then (appR W H xs (pal0G W H xs)).2.2.2.1.getD j 0 else (appR W H xs (palG W H xs)).2.2.2.1.getD j 0) := fun j hj m => by
  simp [idxU, hj]
 refine List.ext_getElem? fun j => ?_
 rcases Nat.lt_or_ge j (appR W H xs (palG W H xs)).2.2.2.1.length with hj | hj
 ·rw [e j hj]
  by_cases hc : (appR W H xs (pal0G W H xs)).2.2.2.2 = 0 ∧ 32768 ≤ xs.getD (4 * n + 3) 0
  ·rw [if_pos hc, List.getElem?_set, idxU_len]
   by_cases hjn : n = j
   ·subst hjn
    rw [if_pos ⟨by omega, hc⟩, if_pos rfl, if_pos hn]
   ·rw [if_neg hjn, e j hj]
    congr 1
    by_cases hlt : j < n
    ·simp only [hlt, show j < n + 1 by omega]
    ·simp only [hlt, show ¬ j < n + 1 by omega]
  ·rw [if_neg hc, e j hj]
   congr 1
   by_cases hjn : j = n
   ·subst hjn
    rw [if_neg (fun g => hc g.2), if_neg (fun g => hc g.2)]
   ·by_cases hlt : j < n
    ·simp only [hlt, show j < n + 1 by omega]
    ·simp only [hlt, show ¬ j < n + 1 by omega]
 ·have l1 := idxU_len W H xs (n + 1)
  have l2 := idxU_len W H xs n
  rw [List.getElem?_eq_none (by omega)]
  split
  ·rw [List.getElem?_eq_none (by rw [List.length_set]; omega)]
  ·rw [List.getElem?_eq_none (by omega)]
theorem idxV_byte (pal : List Co) (c : Co) : 0 ≤ idxV pal c ∧ idxV pal c ≤ 255 := by
 have hm : ∀ y : Int, IntKind.u8.wrap y = y % 256 := fun y => by rw [IntKind.wrap]; simp [IntKind.signed, IntKind.bits]
 unfold idxV
 rw [hm]; omega
theorem appR_bs (W H : Int) (xs : List Int) (pal : List Co) : Bs (appR W H xs pal).2.2.2.1 := by
 intro n hn
 unfold appR at hn
 split at hn
 ·split at hn
  ·cases hn
  ·obtain ⟨c, _, rfl⟩ := List.mem_map.1 hn
   exact idxV_byte _ _
 ·cases hn
theorem bs_getD0 {l : List Int} (h : Bs l) (i : Nat) : 0 ≤ l.getD i 0 ∧ l.getD i 0 ≤ 255 := by
 rcases Nat.lt_or_ge i l.length with g | g
 ·have e : l.getD i 0 = l[i] := by simp [List.getD, g]
  rw [e]; exact h _ (List.getElem_mem g)
 ·have e : l.getD i 0 = 0 := by simp [List.getD, g]
  rw [e]; omega
theorem idxG_bs (W H : Int) (xs : List Int) : Bs (idxG W H xs) := by
 unfold idxG
 split
 ·intro n hn
  unfold idxU at hn
  obtain ⟨i, _, rfl⟩ := List.mem_map.1 hn
  split
  ·exact bs_getD0 (appR_bs _ _ _ _) i
  ·exact bs_getD0 (appR_bs _ _ _ _) i
 ·exact appR_bs _ _ _ _
theorem idxG_len (W H : Int) (xs : List Int) : (idxG W H xs).length = (appR W H xs (palG W H xs)).2.2.2.1.length := by
 unfold idxG
 split
 ·exact idxU_len _ _ _ _
 ·rfl
theorem bytes_set (xs : List Int) (i : Nat) (x : Int) : bytes (xs.set i x) = (bytes xs).set i (u8 x) := by simp [bytes]
theorem entG_succ (pal : List Co) (n : Nat) : entG pal (n + 1) = entG pal n ++ (let c := if n < pal.length ∧ (pal.getD n zeroC).2.2.2 ≠ 0 then pal.getD n zeroC else pal.getD 0 zeroC
 [c.1 / 256 % 256, c.2.1 / 256 % 256, c.2.2.1 / 256 % 256]) := by
 unfold entG
 rw [List.range_succ, List.map_append, List.flatten_append]; simp
theorem entG_len (pal : List Co) : ∀ n, (entG pal n).length = 3 * n
 | 0 => rfl
 | n + 1 => by rw [entG_succ, List.length_append, entG_len pal n]; simp; omega
theorem subU_succ (bs : List Int) (n : Nat) : subU bs (n + 1) = subU bs n ++ ((((min 255 (bs.length - 255 * n) : Nat) : Int)) :: part bs (255 * n) (min 255 (bs.length - 255 * n))) := by
 unfold subU
 rw [List.range_succ, List.map_append, List.flatten_append]; simp
theorem subU_len (bs : List Int) : ∀ n, (subU bs n).length ≤ 256 * n
 | 0 => by simp [subU]
 | n + 1 => by
  have := subU_len bs n
  rw [subU_succ, List.length_append, List.length_cons]
  have h2 : (part bs (255 * n) (min 255 (bs.length - 255 * n))).length ≤ 255 := by unfold part; rw [List.length_take]; omega
  omega
theorem gifPack_len {bs : List Int} {size : Nat} (hb : Bs bs) (h1 : 2 ≤ size) (h2 : size < 9) : (gifPackR bs (size : Nat)).1.length ≤ 3 * bs.length + 6 := by
 unfold gifPackR
 split
 ·simp
 ·split
  ·rename_i hf
   have hq : ∀ x ∈ bs, 0 ≤ x ∧ x < ((2 ^ size : Nat) : Int) := fun x hx => by
    have := List.all_eq_true.1 hf x hx
    have h3 := of_decide_eq_true this
    rw [Int.toNat_natCast] at h3
    exact ⟨(hb x hx).1, by simpa using h3⟩
   show (packL bs (2 ^ ((size : Nat) : Int).toNat) (((size : Nat) : Int).toNat + 1) 0 false).length ≤ _
   rw [Int.toNat_natCast]
   exact packL_len (pow8 size h1 h2).2 (wide_gif h1 h2) (by omega) hq
  ·simp
theorem Encode_spec {w : World} {p : Option Addr} {len cap : Nat} {W H : Int} {xs : List Int} {R : Ending → World → Prop} (h : Img w p len xs) (hc : len ≤ cap) (hok : PxOk xs)
  (hR : ∀ q c w', Ext w w' → OwnS (fun i => w.heap.size ≤ i) w' q (encR W H xs).1.length c 1 (bytes (encR W H xs).1) → R (.returned (.tuple #[.slice q (encR W H xs).1.length c, i64 (encR W H xs).2])) w') :
  Calls P F.gif_Encode #[.agg #[i64 W, i64 H, .slice p len cap]] w R := by
 refine calls_gif_Encode _ _ _ _ _ _ _ ?_
 intro k1 hk1 w1 hL1
 have hE1 : Ext w w1 := hL1.ext (by simpa using hk1)
 have t1 := hL1.there k1 (by simp)
 refine good_spec h.len fun w2 hE2 => ⟨_, rfl, hE2.keep _, ?_⟩
 have hE12 := hE1.trans hE2
 have s1 := hE1.size
 have s2 := hE2.size
 refine brB_i (fun hb => ?_) fun hb => ?_
 ·have hb : good W H xs = false := by simpa using hb
  have hd : encR W H xs = ([], 6) := by unfold encR; rw [if_neg (by simp [hb])]
  rw [hd] at hR
  exact hR none 0 w2 hE12 (OwnS.nil _ _ _ _)
 have hb : good W H xs = true := by simpa using hb
 have hd : encR W H xs = (encG W H xs, 0) := by unfold encR; rw [if_pos hb]
 rw [hd] at hR
 simp only at hR
 obtain ⟨hg, hxl⟩ := good_iff.1 hb
 obtain ⟨q1, q2, q3, q4, q5⟩ := gfits_iff.1 hg
 obtain ⟨Wn, rfl⟩ := Int.eq_ofNat_of_zero_le (show 0 ≤ W by omega)
 obtain ⟨Hn, rfl⟩ := Int.eq_ofNat_of_zero_le (show 0 ≤ H by omega)
 have hlen := h.len
 have eWH : ((Wn : Nat) : Int) * (Hn : Nat) = ((Wn * Hn : Nat) : Int) := by rw [Int.natCast_mul]
 rw [eWH] at hxl q5
 have hx4 : xs.length = 4 * (Wn * Hn) := by omega
 generalize hWH : Wn * Hn = nn_ at *
 have hget : ∀ {u : World} {j : Nat} {i : Int} {F : Addr → Prop}, Ext w u → i = j → j < xs.length → (∀ a, u.cell? a = some (u16 (xs.getD j 0)) → F a) → idx p len i 1 F := fun {u j i F} hE hi hj hF => by
  subst hi
  exact (h.sl.ext hE).get (by omega) (by rw [px_length]; omega) (by rw [Int.toNat_natCast]; exact px_get hj) hF
 refine ⟨fun vs u => u = w2 ∧ ∃ n : Nat, n ≤ nn_ ∧ vs = [.bool (goneU xs n), i64 ((4 * n + 3 : Nat) : Int)], fun vs _ => match vs with | [_, .int _ i] => (4 * nn_ + 8 - i).toNat | _ => 0, ⟨rfl, 0, by omega, rfl⟩, fun c2 n1 w3 hI => ?_⟩
 obtain ⟨rfl, n, hn, hv⟩ := hI
 simp only [List.cons.injEq, Value.bool.injEq, Value.int.injEq, true_and, and_true] at hv
 obtain ⟨rfl, rfl⟩ := hv
 refine brB_i (fun hlt => ?_) fun hge => ?_
 ·have hlt : n < nn_ := by have := of_decide_eq_true hlt; omega
  refine ⟨fun vs u => u = w3 ∧ vs = [.bool (goneU xs (n + 1))], ?_, fun c3 w4 hI => ?_⟩
  ·rw [goneU_succ]
   refine brB_i (fun hg1 => by rw [hg1]; exact ⟨rfl, rfl⟩) fun hg1 => ?_
   refine hget hE12 rfl (by omega) fun a ha => ⟨_, ha, rfl, ?_⟩
   rw [hg1, Bool.false_or]
  ·obtain ⟨rfl, hv⟩ := hI
   obtain rfl : c3 = goneU xs (n + 1) := by simpa using hv
   rw [w64 (by omega) (by omega)]
   exact ⟨⟨rfl, n + 1, hlt, by rw [show (((4 * n + 3 : Nat) : Int)) + 4 = ((4 * (n + 1) + 3 : Nat) : Int) by omega]⟩, by show (4 * (nn_ : Int) + 8 - (((4 * n + 3 : Nat) : Int) + 4)).toNat < (4 * (nn_ : Int) + 8 - ((4 * n + 3 : Nat) : Int)).toNat; omega⟩
 have : n = nn_ := by have := of_decide_eq_false hge; omega
 subst this
 have eg : goneU xs n = goneM xs := by unfold goneM; rw [hx4]; congr 1; omega
 rw [eg]
 refine ⟨fun vs u => u = w3 ∧ vs = [i64 (if goneM xs then 255 else 256)], brB_i (fun hg1 => ⟨rfl, by rw [hg1]; rfl⟩) fun hg1 => ⟨rfl, by rw [hg1]; rfl⟩, fun n3 w5 hI => ?_⟩
 obtain ⟨rfl, hv⟩ := hI
 obtain rfl : n3 = _ := by simpa using hv
 refine Palette_spec (h.ext hE12) hc hok fun pq qc w6 hf6 => ⟨_, _, _, _, rfl, hf6.ext.keep _, ?_⟩
 have e0 : (palR (Wn : Nat) (Hn : Nat) xs (if goneM xs then 255 else 256)).1 = pal0G (Wn : Nat) (Hn : Nat) xs := rfl
 have hpl0 := palR_len (W := (Wn : Nat)) (H := (Hn : Nat)) (most := if goneM xs then 255 else 256) (xs := xs)
 rw [e0] at hf6 hpl0 ⊢
 have hE6 := hE12.trans hf6.ext
 have s6 := hf6.ext.size
 have o6 : OwnS (fun i => w5.heap.size ≤ i) w6 pq (pal0G (Wn : Nat) (Hn : Nat) xs).length qc 4 (cos (pal0G (Wn : Nat) (Hn : Nat) xs)) := hf6.ow.ownS.mono fun i hi _ => hi.1
 have epal : palG (Wn : Nat) (Hn : Nat) xs = if goneM xs then pal0G (Wn : Nat) (Hn : Nat) xs ++ [zeroC] else pal0G (Wn : Nat) (Hn : Nat) xs := rfl
 have hplen : (palG (Wn : Nat) (Hn : Nat) xs).length ≤ 257 := by
  rw [epal]
  split
  ·simp; omega
  ·omega
 have eidx : idxG (Wn : Nat) (Hn : Nat) xs = if goneM xs then idxU (Wn : Nat) (Hn : Nat) xs (appR (Wn : Nat) (Hn : Nat) xs (palG (Wn : Nat) (Hn : Nat) xs)).2.2.2.1.length else (appR (Wn : Nat) (Hn : Nat) xs (palG (Wn : Nat) (Hn : Nat) xs)).2.2.2.1 := rfl
 refine ⟨fun vs u => ∃ (pa : Option Addr) (ca : Nat) (SP : Nat → Prop), vs = [.slice pa (palG (Wn : Nat) (Hn : Nat) xs).length ca] ∧ Ext w u ∧ w6.heap.size ≤ u.heap.size ∧ OwnS SP u pa (palG (Wn : Nat) (Hn : Nat) xs).length ca 4 (cos (palG (Wn : Nat) (Hn : Nat) xs)) ∧ (∀ i, SP i → w5.heap.size ≤ i ∧ i < u.heap.size), ?_, fun p3 k7 k8 w9 hI => ?_⟩
 ·refine brB_i (fun hg1 k4 hk4 w7 hL7 => ?_) fun hg1 => ?_
  ·have hkd : ∀ {i}, i ∈ [k4, k1] → i = k4 ∨ i = k1 := fun hi => by simpa using hi
   refine OwnS.grow (fs := co zeroC) o6 hL7 (fun i hi => ?_) (fun i hi => by omega) (by simp [blocks]) rfl rfl (by omega) (by omega) fun p8 c8 w8 hO8 hc8 => ?_
   ·rcases hkd hi with rfl | rfl
    ·exact .inl hk4
    ·exact .inr (by omega)
   have s8 := hc8.size
   refine ⟨p8, c8, fun i => w5.heap.size ≤ i ∧ i < w8.heap.size, by rw [epal, hg1]; simp, hE6.step hc8 fun i hi => ?_, s8, ?_, fun i hi => hi⟩
   ·have := hE12.size
    rcases hi with hi | hi
    ·omega
    ·have := hE6.size
     rcases hkd hi with rfl | rfl <;> omega
   ·rw [epal, hg1]
    simp only [if_true, List.length_append, List.length_cons, List.length_nil]
    rw [cos_append, cos_one]
    exact OwnS.mono hO8 fun i hi hl => ⟨hi.1, hl⟩
  ·have e : palG (Wn : Nat) (Hn : Nat) xs = pal0G (Wn : Nat) (Hn : Nat) xs := by rw [epal, hg1]; rfl
   rw [e]
   exact ⟨pq, qc, fun i => w5.heap.size ≤ i ∧ i < w6.heap.size, rfl, hE6, Nat.le_refl _, o6.mono fun i hi hl => ⟨hi, hl⟩, fun i hi => hi⟩
 obtain ⟨pa, ca, SP, hv, hE9, s9, hP9, hSP⟩ := hI
 have hv := hv.symm
 simp only [List.cons.injEq, Value.slice.injEq, and_true] at hv
 obtain ⟨rfl, rfl, rfl⟩ := hv
 refine Apply_spec (h.ext hE9) hc hok hP9.sl rfl (by omega) fun p4 c4 p5 d5 w10 hA => ⟨_, _, _, _, _, _, _, _, _, rfl, hA.ext.keep _, fun k13 hk13 => ?_⟩
 generalize happ : appR (Wn : Nat) (Hn : Nat) xs (palG (Wn : Nat) (Hn : Nat) xs) = ap at *
 generalize hpal : palG (Wn : Nat) (Hn : Nat) xs = pal at *
 obtain ⟨S1, S2, a1, a2, a3, a4, a5⟩ := hA.two
 have hE10 := hE9.trans hA.ext
 have s10 := hA.ext.size
 have hP10 := OwnS.chg (T := fun _ => False) hP9 hA.ext.chg fun _ _ _ h => h
 have hlm := a5.own.1
 refine ⟨fun _ u => ∃ SI : Nat → Prop, Ext w u ∧ w10.heap.size ≤ u.heap.size ∧ k13 < u.heap.size ∧ OwnS SP u pa pal.length ca 4 (cos pal) ∧ OwnS SI u p5 ap.2.2.2.1.length d5 1 (bytes (idxG (Wn : Nat) (Hn : Nat) xs)) ∧ (∀ i, SI i → w5.heap.size ≤ i ∧ i < w10.heap.size), brB_i (fun hg1 => ?_) fun hg1 w20 hL20 => ?_, fun w21 hI => ?_⟩
 ·have hkd : ∀ {i}, i ∈ [k13, k1] → i = k13 ∨ i = k1 := fun hi => by simpa using hi
  have s6' := hE6.size
  have s12' := hE12.size
  have ep : pal = pal0G (Wn : Nat) (Hn : Nat) xs ++ [zeroC] := by rw [epal, hg1]; rfl
  have hpn : pal.length = (pal0G (Wn : Nat) (Hn : Nat) xs).length + 1 := by rw [ep]; simp
  generalize hsol : appR (Wn : Nat) (Hn : Nat) xs (pal0G (Wn : Nat) (Hn : Nat) xs) = sol at *
  have hcapP := hP10.2.1
  let St : World → Prop := fun u => Ext w u ∧ w10.heap.size ≤ u.heap.size ∧ OwnS SP u pa pal.length ca 4 (cos pal) ∧ OwnS (fun i => S2 i ∧ i < w10.heap.size) u p5 ap.2.2.2.1.length d5 1 (bytes ap.2.2.2.1)
  have hS2 : ∀ i, S2 i → w9.heap.size ≤ i := a2
  have stL : ∀ {u u' ls}, St u → Locl ls u u' → (∀ i, i ∈ ls → w10.heap.size ≤ i ∨ i = k1) → St u' := fun {u u' ls} hs hL hls => ⟨hs.1.step hL.chg fun i hi => by rcases hls i hi with e | e <;> omega, Nat.le_trans hs.2.1 hL.size, OwnS.chg hs.2.2.1 hL.chg fun i hi _ hm => by have := hSP i hi; rcases hls i hm with e | e <;> omega, OwnS.chg hs.2.2.2 hL.chg fun i hi _ hm => by have := a2 i hi.1; rcases hls i hm with e | e <;> omega⟩
  have stE : ∀ {u u'}, St u → Ext u u' → St u' := fun hs hE => ⟨hs.1.trans hE, Nat.le_trans hs.2.1 hE.size, OwnS.chg (T := fun _ => False) hs.2.2.1 hE.chg fun _ _ _ h => h, OwnS.chg (T := fun _ => False) hs.2.2.2 hE.chg fun _ _ _ h => h⟩
  have st10 : St w10 := ⟨hE10, Nat.le_refl _, hP10, a5.own.mono fun i hi hl => ⟨hi, hl⟩⟩
  have hsl0 : ∀ {u}, St u → Sl u.heap.size u pa (cos (pal0G (Wn : Nat) (Hn : Nat) xs)) := fun hs => hs.2.2.1.sl.pre (by rw [ep, cos_append]; exact List.prefix_append _ _)
  refine ⟨fun vs u => ∃ (n15 n16 : Int) (p11 : Option Addr) (k27 k28 : Nat) (q8 : Option Addr) (d8 kt : Nat) (SQ : Nat → Prop), vs = [i64 sol.2.2.2.2, .pointer (some ⟨kt, 0, none⟩), i64 n15, i64 n16, .slice p11 k27 k28, .slice q8 sol.2.2.2.1.length d8] ∧ St u ∧ k13 < u.heap.size ∧ w10.heap.size ≤ kt ∧ OwnS SQ u q8 sol.2.2.2.1.length d8 1 (bytes sol.2.2.2.1) ∧ (∀ i, SQ i → w10.heap.size ≤ i),
   ⟨by omega, by rw [w64 (by omega) (by omega)]; omega, by rw [w64 (by omega) (by omega)]; omega, ?_⟩, fun n14 k26 n15 n16 p11 k27 k28 p12 k29 k30 w17 hI => ?_⟩
  ·rw [w64 (by omega) (by omega), show (0 : Int).toNat = 0 from rfl, slcBase0, show ((pal.length : Int) - 1).toNat - 0 = (pal0G (Wn : Nat) (Hn : Nat) xs).length by omega]
   refine ⟨fun w11 hL11 => ?_, fun k21 hk21 w14 hL14 => ?_⟩
   ·have st11 := stL st10 hL11 fun i hi => by rcases hkd hi with e | e <;> omega
    have tk := hL11.there k13 (by simp)
    refine Apply_spec (h.ext st11.1) hc hok (hsl0 st11) rfl (by omega) fun p7 c7 p8 d8 w12 hA2 => ⟨_, _, _, _, _, _, _, _, _, rfl, hA2.ext.keep _, fun k20 hk20 w13 hL13 => ?_⟩
    rw [hsol] at hA2 ⊢
    obtain ⟨B1, B2, b1, b2, b3, b4, b5⟩ := hA2.two
    have st12 := stE st11 hA2.ext
    have sA := hA2.ext.size
    have hk3 : ∀ {i}, i ∈ [k20, k13, k1] → i = k20 ∨ i = k13 ∨ i = k1 := fun hi => by simpa using hi
    have s11 := st11.2.1
    refine ⟨_, _, _, _, _, _, _, _, fun i => B2 i ∧ i < w12.heap.size, rfl, stL st12 hL13 (fun i hi => by rcases hk3 hi with e | e | e <;> omega), hL13.there k13 (by simp), by omega, OwnS.chg (b5.own.mono fun i hi hl => ⟨hi, hl⟩) hL13.chg fun i hi _ hm => by have := b2 i hi.1; rcases hk3 hm with e | e | e <;> omega, fun i hi => by have := b2 i hi.1; omega⟩
   ·have hk3 : ∀ {i}, i ∈ [k21, k13, k1] → i = k21 ∨ i = k13 ∨ i = k1 := fun hi => by simpa using hi
    have st14 := stL st10 hL14 fun i hi => by rcases hk3 hi with e | e | e <;> omega
    have tk := hL14.there k13 (by simp)
    have tk2 := hL14.there k21 (by simp)
    refine Apply_spec (h.ext st14.1) hc hok (hsl0 st14) rfl (by omega) fun p7 c7 p8 d8 w15 hA2 => ⟨_, _, _, _, _, _, _, _, _, rfl, hA2.ext.keep _, fun w16 hL16 => ?_⟩
    rw [hsol] at hA2 ⊢
    obtain ⟨B1, B2, b1, b2, b3, b4, b5⟩ := hA2.two
    have st15 := stE st14 hA2.ext
    have sA := hA2.ext.size
    have s14 := st14.2.1
    refine ⟨_, _, _, _, _, _, _, _, fun i => B2 i ∧ i < w15.heap.size, rfl, stL st15 hL16 (fun i hi => by rcases hk3 hi with e | e | e <;> omega), hL16.there k13 (by simp), by omega, OwnS.chg (b5.own.mono fun i hi hl => ⟨hi, hl⟩) hL16.chg fun i hi _ hm => by have := b2 i hi.1; rcases hk3 hm with e | e | e <;> omega, fun i hi => by have := b2 i hi.1; omega⟩
  obtain ⟨m15, m16, r11, j27, j28, q8, d8, kt, SQ, hv, st17, hk17, hkt, hQ17, hSQ⟩ := hI
  have hv := hv.symm
  simp only [List.cons.injEq, Value.slice.injEq, Value.int.injEq, Value.pointer.injEq, Option.some.injEq, Addr.mk.injEq, true_and, and_true] at hv
  obtain ⟨rfl, rfl, rfl, rfl, ⟨rfl, rfl, rfl⟩, rfl, rfl, rfl⟩ := hv
  have hU0 := idxU_zero (Wn : Nat) (Hn : Nat) xs
  have hUl := idxU_len (Wn : Nat) (Hn : Nat) xs
  have hUs := fun n => @idxU_succ (Wn : Nat) (Hn : Nat) xs n
  have hAl := (appR_len (W := (Wn : Nat)) (H := (Hn : Nat)) (xs := xs) (pal := palG (Wn : Nat) (Hn : Nat) xs)).1
  have hSl := (appR_len (W := (Wn : Nat)) (H := (Hn : Nat)) (xs := xs) (pal := pal0G (Wn : Nat) (Hn : Nat) xs)).2
  rw [hpal, happ] at hU0 hAl
  rw [hpal, happ] at hUl
  simp only [hpal, happ, hsol] at hUs
  rw [hsol] at hSl
  rw [eWH, Int.toNat_natCast] at hAl hSl
  have eidx' : idxG (Wn : Nat) (Hn : Nat) xs = idxU (Wn : Nat) (Hn : Nat) xs ap.2.2.2.1.length := by rw [eidx, hg1]; rfl
  refine ⟨fun vs u => ∃ j : Nat, vs = [i64 (j : Nat)] ∧ j ≤ ap.2.2.2.1.length ∧ Chg (fun i => S2 i ∧ i < w10.heap.size) w17 u ∧ OwnS (fun i => S2 i ∧ i < w10.heap.size) u p5 ap.2.2.2.1.length d5 1 (bytes (idxU (Wn : Nat) (Hn : Nat) xs j)),
   fun vs _ => match vs with | [.int _ j] => (ap.2.2.2.1.length - j : Int).toNat | _ => 0, ⟨0, rfl, by omega, Chg.refl _ _, by rw [hU0]; exact st17.2.2.2⟩, fun n17 w18 hI => ?_⟩
  obtain ⟨j, hv, hj, hc18, hO18⟩ := hI
  obtain rfl : n17 = (j : Nat) := by simpa using hv
  have s17 := st17.2.1
  have s18 := hc18.size
  have hE18 : Ext w w18 := st17.1.step hc18 fun i hi => by have := a2 i hi.1; omega
  refine brB_i (fun hlt => ?_) fun hge => ?_
  rotate_left
  ·have : j = ap.2.2.2.1.length := by have := of_decide_eq_false hge; omega
   subst this
   exact ⟨fun i => S2 i ∧ i < w10.heap.size, hE18, by omega, by omega, OwnS.chg st17.2.2.1 hc18 fun i hi _ hx => by have := hSP i hi; have := a2 i hx.1; omega, by rw [eidx']; exact hO18, fun i hi => by have := a2 i hi.1; omega⟩
  have hlt : j < ap.2.2.2.1.length := by have := of_decide_eq_true hlt; omega
  have hUj := hUs j hlt
  refine ⟨fun _ u => Chg (fun i => S2 i ∧ i < w10.heap.size) w17 u ∧ OwnS (fun i => S2 i ∧ i < w10.heap.size) u p5 ap.2.2.2.1.length d5 1 (bytes (idxU (Wn : Nat) (Hn : Nat) xs (j + 1))), ?_, fun w19 hI => ?_⟩
  rotate_left
  ·rw [w64 (by omega) (by omega)]
   exact ⟨⟨j + 1, by rw [show ((j : Nat) : Int) + 1 = ((j + 1 : Nat) : Int) by omega], hlt, hI.1, hI.2⟩, by show ((ap.2.2.2.1.length : Int) - ((j : Int) + 1)).toNat < ((ap.2.2.2.1.length : Int) - (j : Nat)).toNat; omega⟩
  refine brB_i (fun h0 => ?_) fun h0 => ?_
  rotate_left
  ·have h0 : ¬ sol.2.2.2.2 = 0 := fun e => by rw [e] at h0; cases h0
   rw [if_neg (fun g => h0 g.1)] at hUj
   exact ⟨hc18, by rw [hUj]; exact hO18⟩
  have h0 : sol.2.2.2.2 = 0 := eq_of_beq h0
  have hsn := hSl h0
  rw [w64 (x := 4 * ((j : Nat) : Int)) (by omega) (by omega), w64 (x := 4 * ((j : Nat) : Int) + 3) (by omega) (by omega)]
  refine hget hE18 (j := 4 * j + 3) (by omega) (by omega) fun a ha => ⟨_, ha, ?_⟩
  refine brB_i (fun h3 => ?_) fun h3 => ?_
  rotate_left
  ·have h3 := of_decide_eq_false h3
   rw [if_neg (fun g => h3 g.2)] at hUj
   exact ⟨hc18, by rw [hUj]; exact hO18⟩
  have h3 := of_decide_eq_true h3
  rw [if_pos ⟨h0, h3⟩] at hUj
  have hQ18 : OwnS SQ w18.drew q8 sol.2.2.2.1.length d8 1 (bytes sol.2.2.2.1) := OwnS.chg hQ17 hc18.drew fun i hi _ hx => by have := hSQ i hi; have := hx.2; omega
  refine Sl.byte hQ18.sl rfl rfl (by omega) fun a3 ha3 => ⟨_, ha3, ?_⟩
  have hOd : OwnS (fun i => S2 i ∧ i < w10.heap.size) w18.drew p5 ap.2.2.2.1.length d5 1 (bytes (idxU (Wn : Nat) (Hn : Nat) xs j)) := hO18
  obtain ⟨bb, e1, e2, e3⟩ := OwnS.base hOd (by omega)
  subst e1
  obtain ⟨q1', q2', q3'⟩ := OwnS.write hOd hlt
  refine idx_i (by omega) (by omega) rfl ?_
  rw [loc_add, Nat.zero_add, Nat.mul_one, Int.toNat_natCast]
  have hb2 := a2 bb e2.1
  have hb3 : bb < w10.heap.size := e2.2
  have hE12s := hE12.size
  refine ⟨q1', q2', by simp; omega, hc18.drew.trans (q3' _).2 fun i hi _ => by have hi : i = bb := hi; rw [hi]; exact e2, ?_⟩
  rw [hUj, bytes_set]
  exact (q3' _).1
 ·have hkd : ∀ {i}, i ∈ [k13, k1] → i = k13 ∨ i = k1 := fun hi => by simpa using hi
  have s6' := hE6.size
  have s12' := hE12.size
  refine ⟨fun i => S2 i ∧ i < w10.heap.size, hE10.step hL20.chg fun i hi => by rcases hkd hi with rfl | rfl <;> omega, hL20.size, hL20.there k13 (by simp), OwnS.chg hP10 hL20.chg fun i hi _ hm => by have := hSP i hi; rcases hkd hm with e | e <;> omega, ?_, fun i hi => by have := a2 i hi.1; omega⟩
  rw [eidx, hg1]
  exact OwnS.chg (a5.own.mono fun i hi hl => ⟨hi, hl⟩) hL20.chg fun i hi _ hm => by have := a2 i hi.1; rcases hkd hm with e | e <;> omega
 obtain ⟨SI, hE21, s21, hk21, hP21, hI21, hSI⟩ := hI
 have hp256 : pal.length ≤ 256 := by
  have := palR_most (W := (Wn : Nat)) (H := (Hn : Nat)) (most := if goneM xs then 255 else 256) (xs := xs)
  rw [e0] at this
  rw [epal]
  split at this
  ·rename_i hg1
   rw [if_pos hg1]; simp; omega
  ·rename_i hg1
   rw [if_neg hg1]; omega
 refine ⟨fun vs u => u = w21 ∧ ∃ s : Nat, vs = [i64 (s : Nat)] ∧ 1 ≤ s ∧ s ≤ 8 ∧ (s = 1 ∨ 2 ^ (s - 1) < pal.length), fun vs _ => match vs with | [.int _ s] => (9 - s).toNat | _ => 0, ⟨rfl, 1, rfl, by omega, by omega, .inl rfl⟩, fun n20 w22 hI => ?_⟩
 obtain ⟨rfl, s, hv, hs1, hs8, hs2⟩ := hI
 obtain rfl : n20 = (s : Nat) := by simpa using hv
 rw [shl1n s (by omega)]
 refine ⟨by omega, brB_i (fun hlt => ?_) fun hge k31 w23 hn23 => ?_⟩
 ·have hlt : 2 ^ s < pal.length := by have := of_decide_eq_true hlt; omega
  have h9 : s + 1 ≤ 8 := by
   rcases Nat.lt_or_ge s 8 with g | g
   ·omega
   ·have : s = 8 := by omega
    subst this
    simp only [Nat.reducePow] at hlt; omega
  rw [w64 (by omega) (by omega)]
  exact ⟨⟨rfl, s + 1, by rw [show ((s : Nat) : Int) + 1 = ((s + 1 : Nat) : Int) by omega], by omega, h9, .inr hlt⟩, by show ((9 : Int) - ((s : Int) + 1)).toNat < ((9 : Int) - (s : Nat)).toNat; omega⟩
 have hge : pal.length ≤ 2 ^ s := by have := of_decide_eq_false hge; omega
 have hsz := sizeG_is hs1 hs8 hge hs2
 have e31 := hn23.1
 have s31 := hn23.size
 have hC31 : Cs w23 k31 (bytes sig89) := hn23.cs
 have s12' := hE12.size
 have s6' := hE6.size
 refine ⟨_, _, by rw [hn23.1, hn23.2]; exact cells_alloc_new w22 _, by simp; omega, fun w24 hmk k32 w25 hn25 => ?_⟩
 have hs24 := hmk.put.size
 have hS24 : Sl w23.heap.size w24 (some ⟨k31, 0, none⟩) (bytes sig89) := mk_sl hmk (hC31.sl (off := 0) (by exact List.prefix_refl _) hn23.size)
 have e32 := hn25.1
 have s32 := hn25.size
 have hE23 := hE21.trans hn23.ext
 have s23 := hn23.ext.size
 have hE24 : Ext w w24 := hE23.step hmk.put.chg fun i hi => by have hi : i = k31 := hi; omega
 have hE25 := hE24.trans hn25.ext
 have s25 := hn25.ext.size
 have hC32 : Cs w25 k32 [.slice none 0 0] := hn25.cs
 have hset := Chg.setCells w25 ⟨k32, 0, none⟩ [.slice (some ⟨k31, 0, none⟩) 6 6] 0
 have hC26 : Cs (setCells w25 ⟨k32, 0, none⟩ [.slice (some ⟨k31, 0, none⟩) 6 6] 0) k32 [.slice (some ⟨k31, 0, none⟩) sig89.length sig89.length] := hC32.set1 (off := 0) (v := .slice (some ⟨k31, 0, none⟩) 6 6) (by simp)
 have hS26 : Sl w25.heap.size (setCells w25 ⟨k32, 0, none⟩ [.slice (some ⟨k31, 0, none⟩) 6 6] 0) (some ⟨k31, 0, none⟩) (bytes sig89) := by
  have h1 : Sl w23.heap.size w25 (some ⟨k31, 0, none⟩) (bytes sig89) := hS24.ext hn25.ext
  refine (h1.below (hset.below (N := w23.heap.size) (fun i hi _ => by have hi : i = k32 := hi; omega) (by omega))).mono (by omega)
 let K : World → Prop := fun u => Ext w u ∧ w25.heap.size ≤ u.heap.size ∧ OwnS SP u pa pal.length ca 4 (cos pal) ∧ OwnS SI u p5 ap.2.2.2.1.length d5 1 (bytes (idxG (Wn : Nat) (Hn : Nat) xs))
 have ks : ∀ {u u' : World} {S : Nat → Prop}, K u → Chg S u u' → (∀ i, S i → w22.heap.size ≤ i ∨ i = k1 ∨ i = k13) → K u' := fun {u u' S} hk hc hS => ⟨hk.1.step hc fun i hi => by rcases hS i hi with e | e | e <;> omega, Nat.le_trans hk.2.1 hc.size, OwnS.chg hk.2.2.1 hc fun i hi _ hx => by have := hSP i hi; rcases hS i hx with e | e | e <;> omega, OwnS.chg hk.2.2.2 hc fun i hi _ hx => by have := hSI i hi; rcases hS i hx with e | e | e <;> omega⟩
 have k22 : K (setCells w25 ⟨k32, 0, none⟩ [.slice (some ⟨k31, 0, none⟩) 6 6] 0) := by
  have c0 : Chg (fun i => w22.heap.size ≤ i) w22 (setCells w25 ⟨k32, 0, none⟩ [.slice (some ⟨k31, 0, none⟩) 6 6] 0) := (((hn23.ext.chg (S := fun i => w22.heap.size ≤ i)).trans hmk.put.chg fun i hi _ => by have hi : i = k31 := hi; omega).trans (hn25.ext.chg (S := fun _ => False)) fun i hi _ => hi.elim).trans hset fun i hi _ => by have hi : i = k32 := hi; omega
  refine ⟨hE21.step c0 fun i hi => by have := hE21.size; omega, by rw [show (setCells w25 ⟨k32, 0, none⟩ [.slice (some ⟨k31, 0, none⟩) 6 6] 0).heap.size = w25.heap.size from (setCells_same _ _ _ _).size]; exact Nat.le_refl _, OwnS.chg hP21 c0 fun i hi _ hx => by have := hSP i hi; omega, OwnS.chg hI21 c0 fun i hi _ hx => by have := hSI i hi; omega⟩
 have hk13' := hk21
 refine ⟨⟨_, hC32.cell (i := 0) rfl⟩, hC32.frozen _, by simp; omega, ?_⟩
 generalize hu26 : setCells w25 ⟨k32, 0, none⟩ [.slice (some ⟨k31, 0, none⟩) 6 6] 0 = u26 at *
 have s26 := hset.size
 refine etwo_first (out := sig89) hC26 hS26 (by omega) (by omega) (by simp [sig89]) fun w26 hX26 hc26 => ⟨rfl, hc26.keep fun i hi hx => by simp at hi; rcases hx with e | e <;> omega, ?_⟩
 have K26 := ks k22 hc26 fun i hi => by rcases hi with e | e <;> exact .inl (by omega)
 have s26' := hc26.size
 refine etwo_spec hX26 (by omega) (fun b hb => by omega) (by omega) (by omega) (by simp [sig89, two2]) fun w27 hX27 hc27 => ⟨rfl, hc27.keep fun i hi hx => by simp at hi; rcases hx with e | e <;> omega, ?_⟩
 have K27 := ks K26 hc27 fun i hi => by rcases hi with e | e <;> exact .inl (by omega)
 have s27 := hc27.size
 have hp1 : 1 ≤ pal.length := by rw [← hpal]; exact palG_pos hb
 have hpok : ∀ c, c ∈ pal → CoOk c := by rw [← hpal]; exact palG_ok hok
 obtain ⟨p13, c33, x1, x2⟩ := hX27.obj
 generalize hout : sig89 ++ two2 (Wn : Nat) ++ two2 (Hn : Nat) = out27 at *
 have hol : out27.length = 10 := by rw [← hout]; simp [sig89, two2]
 refine ⟨_, _, _, x1.cell (i := 0) rfl, fun k35 hk35 w28 hL28 => ?_⟩
 rw [or128 s (by omega) hs1]
 have hkd : ∀ {i}, i ∈ [k35, k13, k1] → i = k35 ∨ i = k13 ∨ i = k1 := fun hi => by simpa using hi
 have t35 := hL28.there k35 (by simp)
 have hk27 := x1.lt
 refine EAt.app (ys := [((127 + s : Nat) : Int), 0, 0]) x1 x2 hX27.ne (fun b hb => by omega) hL28 (fun i hi => by
  rcases hkd hi with e | e | e
  ·exact .inl (by omega)
  ·exact .inr (by omega)
  ·exact .inr (by omega)) (by simp; omega) (by simp [blocks]) rfl (by rw [hol]; omega) fun p14 c37 w29 hcell hfro hc29 hs29 hX29 hc29' hs28 => ⟨hcell, hfro, by simp; omega, by omega, ?_⟩
 have K29 := ks K27 hc29' fun i hi => by
  rcases hi with e | e | e
  ·exact .inl (by omega)
  ·exact .inl (by omega)
  ·rcases hkd e with e | e | e
   ·exact .inl (by omega)
   ·exact .inr (.inr e)
   ·exact .inr (.inl e)
 have s29 := hc29.size
 generalize hu29 : setCells w29 ⟨k32, 0, none⟩ [.slice p14 (out27 ++ [((127 + s : Nat) : Int), 0, 0]).length c37] 0 = u29 at *
 generalize hout2 : out27 ++ [((127 + s : Nat) : Int), 0, 0] = out29 at *
 have hol2 : out29.length = 13 := by rw [← hout2, List.length_append, hol]; rfl
 have t35' : k35 < u29.heap.size := by omega
 refine ⟨fun vs u => ∃ i : Nat, vs = [i64 (i : Nat)] ∧ i ≤ 2 ^ s ∧ K u ∧ u29.heap.size ≤ u.heap.size ∧ EAt u (fun b => u26.heap.size ≤ b ∧ b ≠ k35) k32 (out29 ++ entG pal i), fun vs _ => match vs with | [.int _ i] => (2 ^ s - i : Int).toNat | _ => 0, ⟨0, rfl, by omega, K29, Nat.le_refl _, ?_⟩, fun n21 w30 hI => ?_⟩
 ·rw [show entG pal 0 = [] from rfl, List.append_nil]
  exact hX29.lim (fun b hb _ => ⟨hb.1, fun e => hb.2 (by simp [e])⟩) (by omega)
 obtain ⟨i, hv, hi, K30, s30, hX30⟩ := hI
 obtain rfl : n21 = (i : Nat) := by simpa using hv
 have s23' := hn23.size
 have kb1 : k1 < w22.heap.size ∧ k13 < w22.heap.size ∧ w22.heap.size ≤ k32 ∧ k32 < u26.heap.size ∧ u26.heap.size ≤ k35 := by omega
 refine brB_i (fun hlt => ?_) fun hge2 => ?_
 ·have hlt : i < 2 ^ s := by have := of_decide_eq_true hlt; omega
  have hps : 2 ^ s ≤ 256 := by
   have : s = 1 ∨ s = 2 ∨ s = 3 ∨ s = 4 ∨ s = 5 ∨ s = 6 ∨ s = 7 ∨ s = 8 := by omega
   rcases this with rfl | rfl | rfl | rfl | rfl | rfl | rfl | rfl <;> decide
  obtain ⟨pb, hpb, hSpb, hpbl, hSo⟩ := pal_so K30.2.2.1 (by omega)
  have hpb2 := hSP pb hSpb
  rw [hpb]
  refine hSo.ld (i := 0) (by omega) (by omega) fun e0 e1 e2 e3 => ⟨_, _, _, _, e0, e1, e2, e3, fun k38 hk38 => ?_⟩
  have hk4 : ∀ {j}, j ∈ [k38, k35, k13, k1] → j = k38 ∨ j = k35 ∨ j = k13 ∨ j = k1 := fun hj => by simpa using hj
  have npb : ¬ pb ∈ [k38, k35, k13, k1] := fun hm => by rcases hk4 hm with e | e | e | e <;> omega
  have hCok : ∀ j, CoOk (pal.getD j zeroC) := getD_ok' hpok
  refine ⟨fun vs u => ∃ c : Co, vs = [.int .u16 c.1, .int .u16 c.2.1, .int .u16 c.2.2.1, .int .u16 c.2.2.2] ∧ c = (if i < pal.length ∧ (pal.getD i zeroC).2.2.2 ≠ 0 then pal.getD i zeroC else pal.getD 0 zeroC) ∧ Chg (· ∈ [k38, k35, k13, k1]) w30 u ∧ k38 < u.heap.size, brB_i (fun hlp => ?_) fun hlp w33 hL33 => ?_, fun n31 n32 n33 n34 w34 hI => ?_⟩
  ·have hlp : i < pal.length := by have := of_decide_eq_true hlp; omega
   refine hSo.ld (i := (i : Nat)) (by omega) (by omega) fun _ _ _ _ w31 hL31 => ?_
   have hSo1 := hSo.chg hL31.chg npb
   rw [Int.toNat_natCast]
   refine ⟨_, hSo1.cell hlp (j := 3) rfl, brB_i (fun ha => ?_) fun ha => ?_⟩
   ·refine hSo.ld (i := (i : Nat)) (by omega) (by omega) fun _ _ _ _ => ?_
    rw [Int.toNat_natCast]
    have z0 := hSo1.cell hlp (j := 0) rfl
    rw [add_zero'] at z0
    refine ⟨_, _, _, _, z0, hSo1.cell hlp (j := 1) rfl, hSo1.cell hlp (j := 2) rfl, hSo1.cell hlp (j := 3) rfl, fun w32 hL32 => ⟨pal.getD i zeroC, rfl, ?_, hL31.chg.trans hL32.chg fun b hb _ => hb, hL32.there k38 (by simp)⟩⟩
    rw [if_pos ⟨hlp, by simpa using ha⟩]
   ·refine ⟨pal.getD 0 zeroC, rfl, ?_, hL31.chg, hL31.there k38 (by simp)⟩
    rw [if_neg (fun g => g.2 (by simpa using ha))]
  ·have hlp : ¬ i < pal.length := by have := of_decide_eq_false hlp; omega
   refine ⟨pal.getD 0 zeroC, rfl, ?_, hL33.chg, hL33.there k38 (by simp)⟩
   rw [if_neg (fun g => hlp g.1)]
  obtain ⟨c, hv, hc, hc34, hk38'⟩ := hI
  simp only [List.cons.injEq, Value.int.injEq, true_and, and_true] at hv
  obtain ⟨rfl, rfl, rfl, rfl⟩ := hv
  have hcok : CoOk c := by
   rw [hc]; split
   ·exact hCok _
   ·exact hCok _
  have s34 := hc34.size
  have K34 := ks K30 hc34 fun j hj => by
   rcases hk4 hj with e | e | e | e
   ·exact .inl (by omega)
   ·exact .inl (by omega)
   ·exact .inr (.inr e)
   ·exact .inr (.inl e)
  have hX34 : EAt w34 (fun b => (u26.heap.size ≤ b ∧ b ≠ k35) ∧ b ≠ k38) k32 (out29 ++ entG pal i) := by
   have h1 : EAt w30 (fun b => (u26.heap.size ≤ b ∧ b ≠ k35) ∧ b ≠ k38) k32 (out29 ++ entG pal i) := hX30.lim (fun b hb hl => ⟨hb, by omega⟩) (by omega)
   exact h1.chg hc34 (fun hm => by rcases hk4 hm with e | e | e | e <;> omega) fun b hb hl hm => by have := hb.1.1; have := hb.1.2; have := hb.2; rcases hk4 hm with e | e | e | e <;> omega
  obtain ⟨p15, c40, y1, y2⟩ := hX34.obj
  refine ⟨_, _, _, y1.cell (i := 0) rfl, fun k41 hk41 w35 hL35 => ?_⟩
  rw [shr8 hcok.1, shr8 hcok.2.1, shr8 hcok.2.2.1]
  have hk5 : ∀ {j}, j ∈ [k41, k38, k35, k13, k1] → j = k41 ∨ j = k38 ∨ j = k35 ∨ j = k13 ∨ j = k1 := fun hj => by simpa using hj
  refine EAt.app (ys := [c.1 / 256 % 256, c.2.1 / 256 % 256, c.2.2.1 / 256 % 256]) y1 y2 hX34.ne (fun b hb => by omega) hL35 (fun j hj => by
   rcases hk5 hj with e | e | e | e | e
   ·exact .inl (by omega)
   ·exact .inr (by omega)
   ·exact .inr (by omega)
   ·exact .inr (by omega)
   ·exact .inr (by omega)) (by simp; omega) (by simp [blocks]) rfl (by rw [List.length_append, hol2, entG_len]; omega) fun p16 c43 w36 hcell hfro hc36 hs36 hX36 hc36' hs35 => ⟨hcell, hfro, by simp; omega, ?_, ?_⟩
  ·have K36 := ks K34 hc36' fun j hj => by
    rcases hj with e | e | e
    ·exact .inl (by omega)
    ·exact .inl (by omega)
    ·rcases hk5 e with e | e | e | e | e
     ·exact .inl (by omega)
     ·exact .inl (by omega)
     ·exact .inl (by omega)
     ·exact .inr (.inr e)
     ·exact .inr (.inl e)
   have s36 := hc36'.size
   refine ⟨i + 1, by rw [w64 (by omega) (by omega)]; rfl, by omega, K36, by omega, ?_⟩
   rw [entG_succ, ← List.append_assoc]
   simp only [← hc]
   exact hX36.lim (fun b hb _ => hb.1.1) (by omega)
  ·rw [w64 (by omega) (by omega)]
   show ((2 : Int) ^ s - ((i : Int) + 1)).toNat < ((2 : Int) ^ s - (i : Nat)).toNat
   have : ((2 ^ s : Nat) : Int) = (2 : Int) ^ s := by simp
   omega
 have : i = 2 ^ s := by have := of_decide_eq_false hge2; omega
 subst this
 have hps : 2 ^ s ≤ 256 := by
  have : s = 1 ∨ s = 2 ∨ s = 3 ∨ s = 4 ∨ s = 5 ∨ s = 6 ∨ s = 7 ∨ s = 8 := by omega
  rcases this with rfl | rfl | rfl | rfl | rfl | rfl | rfl | rfl <;> decide
 generalize hout3 : out29 ++ entG pal (2 ^ s) = out30 at *
 have hol3 : out30.length = 13 + 3 * 2 ^ s := by rw [← hout3, List.length_append, hol2, entG_len]
 generalize hGe : (if goneM xs then [33, 249, 4, 1, 0, 0, ((pal.length - 1 : Nat) : Int), 0] else ([] : List Int)) = Ge at *
 have hGl : Ge.length ≤ 8 := by rw [← hGe]; split <;> simp
 have kd3 : ∀ {k j}, j ∈ [k, k35, k13, k1] → j = k ∨ j = k35 ∨ j = k13 ∨ j = k1 := fun hj => by simpa using hj
 refine ⟨fun _ u => K u ∧ u29.heap.size ≤ u.heap.size ∧ EAt u (fun b => u26.heap.size ≤ b ∧ b ≠ k35) k32 (out30 ++ Ge), brB_i (fun hg1 => ?_) fun hg1 => ?_, fun w39 hI => ?_⟩
 ·obtain ⟨p17, c45, y1, y2⟩ := hX30.obj
  refine ⟨_, _, _, y1.cell (i := 0) rfl, fun k46 hk46 w37 hL37 => ?_⟩
  rw [w64 (by omega) (by omega), wrap_u (x := (pal.length : Int) - 1) rfl (by omega) (by simp [IntKind.bits]; omega), show (pal.length : Int) - 1 = ((pal.length - 1 : Nat) : Int) by omega]
  refine EAt.app (ys := [33, 249, 4, 1, 0, 0, ((pal.length - 1 : Nat) : Int), 0]) y1 y2 hX30.ne (fun b hb => by omega) hL37 (fun j hj => by
   rcases kd3 hj with e | e | e | e
   ·exact .inl (by omega)
   ·exact .inr (by omega)
   ·exact .inr (by omega)
   ·exact .inr (by omega)) (by simp; omega) (by simp [blocks]) rfl (by omega) fun p18 c48 w38 hcell hfro hc38 hs38 hX38 hc38' hs37 => ⟨hcell, hfro, by simp; omega, ?_⟩
  have K38 := ks K30 hc38' fun j hj => by
   rcases hj with e | e | e
   ·exact .inl (by omega)
   ·exact .inl (by omega)
   ·rcases kd3 e with e | e | e | e
    ·exact .inl (by omega)
    ·exact .inl (by omega)
    ·exact .inr (.inr e)
    ·exact .inr (.inl e)
  have s38 := hc38'.size
  refine ⟨K38, by omega, ?_⟩
  rw [← hGe, hg1]
  exact hX38.lim (fun b hb _ => hb.1) (by omega)
 ·refine ⟨K30, s30, ?_⟩
  rw [← hGe, hg1]
  simpa using hX30
 obtain ⟨K39, s39, hX39⟩ := hI
 generalize hout4 : out30 ++ Ge = out39 at *
 have hol4 : out39.length ≤ 21 + 3 * 2 ^ s := by rw [← hout4, List.length_append]; omega
 obtain ⟨p19, c50, z1, z2⟩ := hX39.obj
 refine ⟨_, _, _, z1.cell (i := 0) rfl, fun k51 hk51 w40 hL40 => ?_⟩
 have t51 := hL40.there k51 (by simp)
 refine EAt.app (ys := [44, 0, 0, 0, 0]) z1 z2 hX39.ne (fun b hb => by omega) hL40 (fun j hj => by
  rcases kd3 hj with e | e | e | e
  ·exact .inl (by omega)
  ·exact .inr (by omega)
  ·exact .inr (by omega)
  ·exact .inr (by omega)) (by simp; omega) (by simp [blocks]) rfl (by omega) fun p20 c53 w41 hcell hfro hc41 hs41 hX41 hc41' hs40 => ⟨hcell, hfro, by simp; omega, ?_⟩
 have K41 := ks K39 hc41' fun j hj => by
  rcases hj with e | e | e
  ·exact .inl (by omega)
  ·exact .inl (by omega)
  ·rcases kd3 e with e | e | e | e
   ·exact .inl (by omega)
   ·exact .inl (by omega)
   ·exact .inr (.inr e)
   ·exact .inr (.inl e)
 have s41 := hc41'.size
 generalize hu41 : setCells w41 ⟨k32, 0, none⟩ [.slice p20 (out39 ++ [44, 0, 0, 0, 0]).length c53] 0 = u41 at *
 have hol5 : (out39 ++ [44, 0, 0, 0, 0]).length = out39.length + 5 := by simp
 generalize hout5 : out39 ++ [44, 0, 0, 0, 0] = out41 at *
 have hk51' : k51 < u41.heap.size := by omega
 have hX41' : EAt u41 (fun b => (u26.heap.size ≤ b ∧ b ≠ k35) ∧ b ≠ k51) k32 out41 := hX41.lim (fun b hb _ => ⟨hb.1, fun e => hb.2 (by simp [e])⟩) (by omega)
 refine etwo_spec hX41' (by omega) (fun b hb => by omega) (by omega) (by omega) (by omega) fun w42 hX42 hc42 => ⟨rfl, hc42.keep fun j hj hx => by rcases kd3 hj with e | e | e | e <;> rcases hx with g | g <;> omega, ?_⟩
 have K42 := ks K41 hc42 fun j hj => by rcases hj with e | e <;> exact .inl (by omega)
 have s42 := hc42.size
 refine etwo_spec hX42 (by omega) (fun b hb => by omega) (by omega) (by omega) (by rw [List.length_append]; simp [two2]; omega) fun w43 hX43 hc43 => ⟨rfl, hc43.keep fun j hj hx => by rcases kd3 hj with e | e | e | e <;> rcases hx with g | g <;> omega, ?_⟩
 have K43 := ks K42 hc43 fun j hj => by rcases hj with e | e <;> exact .inl (by omega)
 have s43 := hc43.size
 generalize hout6 : out41 ++ two2 (Wn : Nat) ++ two2 (Hn : Nat) = out43 at *
 have hol6 : out43.length = out41.length + 4 := by rw [← hout6]; simp [two2]
 have hil := idxG_len (Wn : Nat) (Hn : Nat) xs
 have hAl' := (appR_len (W := (Wn : Nat)) (H := (Hn : Nat)) (xs := xs) (pal := palG (Wn : Nat) (Hn : Nat) xs)).1
 rw [hpal, happ] at hil hAl'
 rw [eWH, Int.toNat_natCast] at hAl'
 have emx : max ((s : Nat) : Int) 2 = ((max s 2 : Nat) : Int) := by omega
 rw [emx]
 refine GifPack_spec K43.2.2.2.sl hil.symm (by omega) (idxG_bs _ _ _) fun p21 k54 k55 w44 hf44 => ⟨_, _, _, _, rfl, hf44.ext.keep _, ?_⟩
 have s44 := hf44.ext.size
 have K44 := ks K43 (hf44.ext.chg (S := fun _ => False)) fun j hj => hj.elim
 generalize hpk : (gifPackR (idxG (Wn : Nat) (Hn : Nat) xs) ((max s 2 : Nat) : Int)).1 = pk at *
 have hX44 : EAt w44 (fun b => ((u26.heap.size ≤ b ∧ b ≠ k35) ∧ b ≠ k51) ∧ (b < w43.heap.size ∨ w44.heap.size ≤ b)) k32 out43 := (hX43.lim (fun b hb hl => ⟨hb, .inl hl⟩) (by omega)).ext hf44.ext
 obtain ⟨SK, sk1, _, sk3⟩ := hf44.own
 have hPk : OwnS (fun i => w43.heap.size ≤ i ∧ i < w44.heap.size) w44 p21 k54 k55 1 (bytes pk) := sk3.own.mono fun i hi hl => ⟨sk1 i hi, hl⟩
 obtain ⟨p22, c57, y1, y2⟩ := hX44.obj
 refine ⟨_, _, _, y1.cell (i := 0) rfl, fun k58 hk58 w45 hL45 => ?_⟩
 have t58 := hL45.there k58 (by simp)
 have e2 : IntKind.u8.wrap ((max s 2 : Nat) : Int) = ((max s 2 : Nat) : Int) := wrap_u rfl (by omega) (by simp [IntKind.bits]; omega)
 rw [e2]
 have kd5 : ∀ {j}, j ∈ [k58, k51, k35, k13, k1] → j = k58 ∨ j = k51 ∨ j = k35 ∨ j = k13 ∨ j = k1 := fun hj => by simpa using hj
 refine EAt.app (ys := [0, ((max s 2 : Nat) : Int)]) y1 y2 hX44.ne (fun b hb => by omega) hL45 (fun j hj => by
  rcases kd5 hj with e | e | e | e | e
  ·exact .inl (by omega)
  ·exact .inr (by omega)
  ·exact .inr (by omega)
  ·exact .inr (by omega)
  ·exact .inr (by omega)) (by simp; omega) (by simp [blocks]) rfl (by omega) fun p23 c60 w46 hcell hfro hc46 hs46 hX46 hc46' hs45 => ⟨hcell, hfro, by simp; omega, ?_⟩
 have K46 := ks K44 hc46' fun j hj => by
  rcases hj with e | e | e
  ·exact .inl (by omega)
  ·exact .inl (by omega)
  ·rcases kd5 e with e | e | e | e | e
   ·exact .inl (by omega)
   ·exact .inl (by omega)
   ·exact .inl (by omega)
   ·exact .inr (.inr e)
   ·exact .inr (.inl e)
 have s46 := hc46'.size
 have hPk46 := OwnS.chg hPk hc46' fun i hi _ hx => by
  rcases hx with e | e | e
  ·omega
  ·omega
  ·rcases kd5 e with e | e | e | e | e <;> omega
 generalize hu46 : setCells w46 ⟨k32, 0, none⟩ [.slice p23 (out43 ++ [0, ((max s 2 : Nat) : Int)]).length c60] 0 = u46 at *
 generalize hout7 : out43 ++ [0, ((max s 2 : Nat) : Int)] = out46 at *
 have hpkl : pk.length ≤ 2 ^ 24 := by
  rw [← hpk]
  have h := gifPack_len (size := max s 2) (idxG_bs (Wn : Nat) (Hn : Nat) xs) (by omega) (by omega)
  omega
 have hk54 : k54 = pk.length := by have := hPk46.len; rw [bytes_length] at this; exact this
 subst hk54
 have hc55 : pk.length ≤ k55 := hPk46.2.1
 have hol7 : out46.length ≤ 1000 := by rw [← hout7, List.length_append]; simp; omega
 refine calls_slices_Chunk_byte _ _ _ _ _ _ ?_
 intro b1 v1 hn1 b2 v2 hn2
 have hb1 : b1 = u46.heap.size := hn1.1
 have hb2 : b2 = v1.heap.size := hn2.1
 have hb1s := hn1.size
 have hb2s := hn2.size
 have hE5 : Ext u46 v2 := hn1.ext.trans hn2.ext
 have hc1 : Cs v2 b1 [.slice p21 pk.length k55] := (show Cs v1 b1 [.slice p21 pk.length k55] from hn1.cs).ext hn2.ext
 have hc2' : Cs v2 b2 [i64 255] := hn2.cs
 refine ⟨_, hc2'.cell (i := 0) rfl, brB_f (by simp) ⟨_, _, _, rfl, hE5.keep _, fun k61 w48 hrf I13 Z1 stI stZ hI0 rule => ?_⟩⟩
 have hs5 := hE5.size
 have hk61 := hrf.eq
 have hs48 := hrf.size
 have hE48 := hrf.ext
 refine callF_i (by kernel_rfl) ?_
 have X48 : EAt w48 (fun b => (u26.heap.size ≤ b ∧ b ≠ k35 ∧ b ≠ k51 ∧ b ≠ k58) ∧ (b < w43.heap.size ∨ w44.heap.size ≤ b) ∧ (b < u46.heap.size ∨ w48.heap.size ≤ b)) k32 out46 := ((hX46.lim (fun b hb hl => ⟨⟨hb.1.1.1.1, hb.1.1.1.2, hb.1.1.2, fun e => hb.2 (by simp [e])⟩, hb.1.2, .inl hl⟩) (by omega)).ext hE5).ext hE48
 let J : Nat → World → Prop := fun k u => I13 [] u ∧ K u ∧ w48.heap.size ≤ u.heap.size ∧ EAt u (fun b => (u26.heap.size ≤ b ∧ b ≠ k35 ∧ b ≠ k51 ∧ b ≠ k58) ∧ (b < w43.heap.size ∨ w44.heap.size ≤ b) ∧ (b < u46.heap.size ∨ w48.heap.size ≤ b)) k32 (out46 ++ subU pk k) ∧ OwnS (fun i => w43.heap.size ≤ i ∧ i < w44.heap.size) u p21 pk.length k55 1 (bytes pk) ∧ Cs u b1 [.slice p21 pk.length k55] ∧ Cs u b2 [i64 ((255 : Nat) : Int)]
 have K48 : K w48 := ks (ks K46 (hE5.chg (S := fun _ => False)) fun j hj => hj.elim) (hE48.chg (S := fun _ => False)) fun j hj => hj.elim
 refine ChunkB_iter J (p := p21) (len := pk.length) (cap := k55) (s := 255) (m := (pk.length + 254) / 255) (by omega) (by omega) (fun k => by omega) hc55 (by omega) (fun k u ⟨j1, j2, j3, j4, j5, j6, j7⟩ => ⟨j6.cell (i := 0) rfl, j7.cell (i := 0) rfl⟩) ⟨hI0, K48, Nat.le_refl _, by rw [show subU pk 0 = [] from rfl, List.append_nil]; exact X48, OwnS.chg (T := fun _ => False) hPk46 (hE5.trans hE48).chg fun _ _ _ h => h, hc1.ext hE48, hc2'.ext hE48⟩ (fun k u hk ⟨j1, j2, j3, j4, j5, j6, j7⟩ => ?_) (fun u ⟨j1, j2, j3, j4, j5, j6, j7⟩ => ?_)
 ·refine rule _ _ _ u.drew _ (stI _ _ _ j1 ((Ext.refl u).drew.keep _)) fun y7 y8 w54 hP54 => ?_
  generalize hn : min 255 (pk.length - 255 * k) = n at *
  have c54 : Chg (fun i => i = k61) u w54 := ((Ext.refl u).drew.chg (S := fun i => i = k61)).trans hP54.chg fun i hi _ => hi
  have s54 := c54.size
  have K54 := ks j2 c54 fun j hj => .inl (by have hj : j = k61 := hj; omega)
  have X54 := j4.chg c54 (fun e => by have e : k32 = k61 := e; omega) fun b hb hl e => by have e : b = k61 := e; omega
  have P54 := OwnS.chg j5 c54 fun b hb hl e => by have e : b = k61 := e; omega
  have C1 := j6.chg c54 (fun e => by have e : b1 = k61 := e; omega)
  have C2 := j7.chg c54 (fun e => by have e : b2 = k61 := e; omega)
  have hsl := subU_len pk k
  have hlo : (out46 ++ subU pk k).length ≤ 2 ^ 26 := by rw [List.length_append]; omega
  have hsucc : out46 ++ subU pk (k + 1) = (out46 ++ subU pk k) ++ [((n : Nat) : Int)] ++ part pk (255 * k) n := by rw [subU_succ, hn]; simp
  have hnl : n ≤ 255 ∧ 255 * k + n ≤ pk.length := by omega
  obtain ⟨p25, c65, y1, y2⟩ := X54.obj
  refine ⟨_, _, _, y1.cell (i := 0) rfl, fun k66 hk66 w55 hL55 => ?_⟩
  have kd7 : ∀ {j}, j ∈ [k66, k58, k51, k35, k13, k1] → j = k66 ∨ j = k58 ∨ j = k51 ∨ j = k35 ∨ j = k13 ∨ j = k1 := fun hj => by simpa using hj
  rw [show IntKind.u8.wrap ((n : Nat) : Int) = ((n : Nat) : Int) from wrap_u rfl (by omega) (by simp [IntKind.bits]; omega)]
  refine OwnS.grow' (fs := bytes [((n : Nat) : Int)]) y2 hL55 (fun j hj => by
   rcases kd7 hj with e | e | e | e | e | e
   ·exact .inl (by omega)
   ·exact .inr (by omega)
   ·exact .inr (by omega)
   ·exact .inr (by omega)
   ·exact .inr (by omega)
   ·exact .inr (by omega)) (fun j hj => by omega) (by simp [blocks]) rfl rfl (by omega) (by omega) fun p26 c68 w56 hO56 hc56 hs56 => ?_
  have hpl : (part pk (255 * k) n).length = n := part_length (by omega)
  have P56 := OwnS.chg P54 hc56 fun i hi _ hx => by
   rcases hx with e | e
   ·omega
   ·rcases kd7 e with e | e | e | e | e | e <;> omega
  have hsrc : Sl w56.heap.size w56 p21 (bytes pk) := P56.sl
  have hS : Sl w56.heap.size w56 (slcBase p21 (255 * k) (255 * k + n) 1) (bytes (part pk (255 * k) n)) := by
   have h0 : Sl w56.heap.size w56 p21 (bytes (pk.take (255 * k + n))) := hsrc.pre (by rw [bytes, bytes, List.map_take]; exact List.take_prefix _ _)
   refine h0.part (by rw [bytes_length, List.length_take]; omega) ?_
   simp only [part, bytes, List.map_take, List.map_drop, List.drop_take]
   rw [show 255 * k + n - 255 * k = n by omega]
   exact List.prefix_refl _
  refine ⟨bytes (part pk (255 * k) n), by rw [bytes_length, hpl, Nat.mul_one], bytes_oneAll _, hS.cells, ?_⟩
  refine OwnS.app hO56 (fun b hb hs => hs.2 (by simpa [blocks] using hb)) rfl (by rw [bytes_length, hpl, Nat.mul_one]) (by omega) (by omega) fun p27 c70 w57 hO57 hc57 => ?_
  have nk : ¬ k32 ∈ [k66, k58, k51, k35, k13, k1] := fun hm => by rcases kd7 hm with e | e | e | e | e | e <;> omega
  have D57 := (y1.chg hc56 fun hx => hx.elim X54.ne nk).chg hc57 fun hx => X54.ne hx.1
  have hset := Chg.setCells w57 ⟨k32, 0, none⟩ [.slice p27 ((out46 ++ subU pk k).length + 1 + n) c70] 0
  refine ⟨⟨_, D57.cell (i := 0) rfl⟩, D57.frozen _, nk, fun w58 hP58 hI58 => ?_⟩
  have D58 := (D57.set1 (off := 0) (v := .slice p27 ((out46 ++ subU pk k).length + 1 + n) c70) (by simp)).put hP58 (by omega)
  have s56 := hc56.size
  have s57 := hc57.size
  have s57' := hset.size
  have cA : Chg (fun i => (i = k32 ∨ i = k61) ∨ ((u26.heap.size ≤ i ∧ i ≠ k35 ∧ i ≠ k51 ∧ i ≠ k58) ∧ (i < w43.heap.size ∨ w44.heap.size ≤ i) ∧ (i < u46.heap.size ∨ w48.heap.size ≤ i)) ∨ i ∈ [k66, k58, k51, k35, k13, k1]) w54 w58 := (((hc56.mono fun i hi _ => .inr hi).trans hc57 fun i hi _ => .inr (.inl hi.1)).trans hset fun i hi _ => .inl (.inl hi)).trans hP58.chg fun i hi _ => .inl (.inr hi)
  have s58 := cA.size
  have K58 := ks K54 cA fun j hj => by
   rcases hj with (e | e) | e | e
   ·exact .inl (by omega)
   ·exact .inl (by omega)
   ·exact .inl (by omega)
   ·rcases kd7 e with e | e | e | e | e | e
    ·exact .inl (by omega)
    ·exact .inl (by omega)
    ·exact .inl (by omega)
    ·exact .inl (by omega)
    ·exact .inr (.inr e)
    ·exact .inr (.inl e)
  refine .inl ⟨rfl, hI58, K58, by omega, ⟨⟨p27, c70, ?_, ?_⟩, by omega⟩, ?_, ?_, ?_⟩
  ·rw [hsucc, List.length_append, List.length_append, hpl]; exact D58
  ·rw [hsucc, List.length_append, List.length_append, hpl, bytes_append, bytes_append]
   exact OwnS.mono (OwnS.chg (OwnS.chg hO57 hset fun b hb hl e => by have e : b = k32 := e; rcases hb with hb | hb <;> omega) hP58.chg fun b hb hl e => by have e : b = k61 := e; rcases hb with hb | hb <;> omega) fun b hb hl => by
    rcases hb with hb | hb
    ·exact hb.1
    ·omega
  ·exact OwnS.chg P54 cA fun i hi _ hx => by
    rcases hx with (e | e) | e | e
    ·omega
    ·omega
    ·omega
    ·rcases kd7 e with e | e | e | e | e | e <;> omega
  ·exact C1.chg cA fun hx => by
    rcases hx with (e | e) | e | e
    ·omega
    ·omega
    ·omega
    ·rcases kd7 e with e | e | e | e | e | e <;> omega
  ·exact C2.chg cA fun hx => by
    rcases hx with (e | e) | e | e
    ·omega
    ·omega
    ·omega
    ·rcases kd7 e with e | e | e | e | e | e <;> omega
 ·refine ⟨_, rfl, .inl ⟨j1, fun w60 hP60 => ?_⟩⟩
  have c60 : Chg (fun i => i = k61) u w60 := hP60.chg
  have s60 := c60.size
  have K60 := ks j2 c60 fun j hj => .inl (by have hj : j = k61 := hj; omega)
  have X60 := j4.chg c60 (fun e => by have e : k32 = k61 := e; omega) fun b hb hl e => by have e : b = k61 := e; omega
  have hsl := subU_len pk ((pk.length + 254) / 255)
  have hEnc : encG (Wn : Nat) (Hn : Nat) xs = out46 ++ subU pk ((pk.length + 254) / 255) ++ [0, 59] := by
   rw [← hout7, ← hout6, ← hout5, ← hout4, ← hout3, ← hout2, ← hout]
   simp only [encG, headG, subG, hpal, hsz, hpk, hGe]
  have hlo : (out46 ++ subU pk ((pk.length + 254) / 255)).length ≤ 2 ^ 26 := by rw [List.length_append]; omega
  rw [hEnc] at hR
  generalize hgo : out46 ++ subU pk ((pk.length + 254) / 255) = oo at *
  obtain ⟨p28, c72, y1, y2⟩ := X60.obj
  refine ⟨_, _, _, y1.cell (i := 0) rfl, fun k73 hk73 w61 hL61 => ?_⟩
  have kd7 : ∀ {j}, j ∈ [k73, k58, k51, k35, k13, k1] → j = k73 ∨ j = k58 ∨ j = k51 ∨ j = k35 ∨ j = k13 ∨ j = k1 := fun hj => by simpa using hj
  refine OwnS.grow (fs := bytes [0, 59]) y2 hL61 (fun j hj => by
   rcases kd7 hj with e | e | e | e | e | e
   ·exact .inl (by omega)
   ·exact .inr (by omega)
   ·exact .inr (by omega)
   ·exact .inr (by omega)
   ·exact .inr (by omega)
   ·exact .inr (by omega)) (fun j hj => by omega) (by simp [blocks]) rfl rfl (by omega) (by omega) fun p29 c75 w62 hO62 hc62 w63 hP63 => ?_
  have E62 : Ext w w62 := K60.1.step hc62 fun j hj => by
   rcases hj with e | e
   ·omega
   ·rcases kd7 e with e | e | e | e | e | e <;> omega
  have s62 := hc62.size
  have E63 : Ext w w63 := E62.step hP63.chg fun j hj => by have hj : j = v2.heap.size := hj; omega
  have := hR p29 c75 w63 E63 (by
   rw [List.length_append, bytes_append]
   exact OwnS.mono (OwnS.chg hO62 hP63.chg fun b hb hl e => by have e : b = v2.heap.size := e; have := hb.1; omega) fun b hb hl => by have := hb.1.1.1; omega)
  rw [List.length_append] at this
  exact this
end Go.Proofs.YtiiaihiliimcoaaGreat
namespace Go.Proofs.YtiiaihiliimcoaaGreat
open Go Go.Vc Go.RowKit Go.Qn
set_option maxRecDepth 100000
def wkG : List Int := [257, 514, 771, 65535, 9, 9, 9, 0]
theorem wkGok : PxOk wkG := by
 intro x hx
 simp [wkG] at hx
 unfold Byt
 omega
def wkB : List Int := (encR 2 1 wkG).1
theorem wkG1 : (encR 2 1 wkG).2 = 0 := by decide +kernel
theorem wkG2 : decR wkB 2 = (2, 1, [257, 514, 771, 65535, 0, 0, 0, 0], 0) := by decide +kernel
theorem wkG3 : (decR wkB 1).2.2.2 = 11 := by decide +kernel
theorem wkG4 : (decR [71, 73, 70] 9).2.2.2 = 9 := by decide +kernel
end Go.Proofs.YtiiaihiliimcoaaGreat
namespace Go.Proofs.YtiiaihiliimcoaaGreat
open Go Go.Vc Go.RowKit Go.Qn
set_option maxRecDepth 100000
set_option maxHeartbeats 2000000
theorem wkB_bs : Bs wkB := by
 have h : (wkB.all fun n => decide (0 ≤ n ∧ n ≤ 255)) = true := by decide +kernel
 exact fun n hn => of_decide_eq_true (List.all_eq_true.1 h n hn)
theorem wkB_len : wkB.length ≤ 100 := by decide +kernel
theorem wakes_spec {w : World} {R : Ending → World → Prop} (hR : ∀ w', Ext w w' → R (.returned (.bool true)) w') : Calls P F.law15_wakes #[] w R := by
 refine calls_law15_wakes _ _ fun k1 w1 hn k2 hk2 w2 hL2 => ?_
 have hE2 : Ext w w2 := hn.ext.step hL2.chg (by have := hn.ext.size; simp; omega)
 have hi1 : Img w1 (some ⟨k1, 0, none⟩) 8 wkG := ⟨hn.cs.sl (off := 0) (by exact List.prefix_refl _) hn.size, rfl⟩
 have hi : Img w2 (some ⟨k1, 0, none⟩) 8 wkG := hi1.ext (hL2.ext (by simpa using hk2))
 have t2 := hL2.there k2 (by simp)
 refine copy_spec hi (by decide) fun p1 c1 w3 hE3 ho3 => ⟨_, _, _, _, _, rfl, hE3.keep _, ?_⟩
 refine Encode_spec (Img.of_ow ho3) ho3.2.1 wkGok fun p2 c2 w4 hE4 ho4 => ?_
 rw [wkG1]
 refine ⟨_, _, _, _, rfl, hE4.keep _, ?_⟩
 have hl := wkB_len
 have s4 := ho4.sl
 have e24 := (hE3.trans hE4)
 change Sl _ _ _ (bytes wkB) at s4
 refine bown_spec s4 rfl (by show wkB.length ≤ _; omega) fun p3 c3 w5 hE5 ho5 => ⟨_, _, _, rfl, hE5.keep _, ?_⟩
 refine gDecode_spec ho5.sl rfl ho5.2.1 wkB_bs fun p4 c4 w6 hE6 ho6 => ?_
 rw [wkG2] at ho6 ⊢
 refine ⟨_, _, _, _, _, _, rfl, hE6.keep _, fun k11 hk11 w7 hL7 => ?_⟩
 have s1 := hn.size
 have s2 := hE2.size
 have s3 := hE3.size
 have s4' := hE4.size
 have s5 := hE5.size
 have s6 := hE6.size
 have s7 := hL7.size
 have P4 : OwnS (fun i => w3.heap.size ≤ i ∧ i < w4.heap.size) w4 p2 wkB.length c2 1 (bytes wkB) := ho4.mono fun i hi hl => ⟨hi, hl⟩
 have P7 := OwnS.chg (OwnS.chg (T := fun _ => False) P4 (hE5.trans hE6).chg fun _ _ _ h => h) hL7.chg fun i hi _ hm => by simp at hm; omega
 have P6 : OwnS (fun i => w5.heap.size ≤ i ∧ i < w6.heap.size) w6 p4 8 c4 1 (px [257, 514, 771, 65535, 0, 0, 0, 0]) := ho6.mono fun i hi hl => ⟨hi, hl⟩
 have P67 := OwnS.chg P6 hL7.chg fun i hi _ hm => by simp at hm; omega
 refine bown_spec P7.sl rfl (by show wkB.length ≤ _; omega) fun p5 c5 w8 hE8 ho8 => ⟨_, _, _, rfl, hE8.keep _, ?_⟩
 refine gDecode_spec ho8.sl rfl ho8.2.1 wkB_bs fun p6 c6 w9 hE9 ho9 => ?_
 rw [wkG3]
 refine ⟨_, _, _, _, _, _, rfl, hE9.keep _, fun k16 hk16 w10 hL10 k17 w11 hn11 => ?_⟩
 have s10 := hL10.size
 have t10a := hL10.there k16 (by simp)
 have t10b := hL10.there k11 (by simp)
 have t10c := hL10.there k2 (by simp)
 have e17 := hn11.1
 refine ⟨_, _, by rw [hn11.1, hn11.2]; exact cells_alloc_new w10 _, by simp; omega, fun w12 hmk => ?_⟩
 have C17 : Cs w11 k17 (bytes [71, 73, 70]) := hn11.cs
 have hS : Sl w11.heap.size w12 (some ⟨k17, 0, none⟩) (bytes [71, 73, 70]) := mk_sl hmk (C17.sl (off := 0) (by exact List.prefix_refl _) hn11.size)
 refine gDecode_spec hS rfl (by decide) (by intro n hn; simp at hn; omega) fun p7 c7 w13 hE13 ho13 => ?_
 rw [wkG4]
 refine ⟨_, _, _, _, _, _, rfl, hE13.keep _, fun k20 hk20 => brB_t (by rfl) ?_⟩
 have s0 := hn.ext.size
 have s8 := hE8.size
 have s9 := hE9.size
 have s11 := hn11.size
 have s12 := hmk.put.size
 have s13 := hE13.size
 have c13 : Chg (fun i => w6.heap.size ≤ i ∨ i = k2) w6 w13 := ((((((hL7.chg.mono (T := fun i => w6.heap.size ≤ i ∨ i = k2) fun i hi _ => by simp at hi; omega).trans (hE8.trans hE9).chg fun i hi _ => hi).trans hL10.chg fun i hi _ => by simp at hi; omega).trans (hn11.ext.chg (S := fun _ => False)) fun i hi _ => hi.elim).trans hmk.put.chg fun i hi _ => by have hi : i = k17 := hi; omega).trans (hE13.chg (S := fun _ => False)) fun i hi _ => hi.elim)
 obtain ⟨_, hle, hx⟩ := OwnS.chg P6 c13 fun i hi _ hm => by omega
 rcases hx with hx | ⟨b4, rest, hb4, hp4, _, hC4⟩
 ·omega
 have key : ∀ w14, Locl [k20, k16, k11, k2] w13 w14 → Ext w w14 ∧ Cs w14 b4 (px [257, 514, 771, 65535, 0, 0, 0, 0] ++ rest) := fun w14 hL14 =>
  ⟨((((hE2.trans hE3).trans hE4).trans hE5).trans hE6).step (c13.trans hL14.chg fun i hi _ => by simp at hi; omega) fun i hi => by omega, hC4.locl hL14 (by simp; omega)⟩
 rw [hp4]
 refine idx_i (a := ⟨b4, 0, none⟩) (by decide) (by decide) rfl fun w14 hL14 => ?_
 obtain ⟨hE14, hA⟩ := key w14 hL14
 refine ⟨_, hA.cell (i := 2) rfl, brB_t (by decide) ?_⟩
 refine idx_i (a := ⟨b4, 0, none⟩) (by decide) (by decide) rfl ⟨_, hA.cell (i := 3) rfl, brB_t (by decide) ?_⟩
 refine idx_i (a := ⟨b4, 0, none⟩) (by decide) (by decide) rfl ⟨_, hA.cell (i := 4) rfl, ?_⟩
 refine idx_i (a := ⟨b4, 0, none⟩) (by decide) (by decide) rfl ⟨_, hA.cell (i := 7) rfl, ?_⟩
 exact hR w14 hE14
end Go.Proofs.YtiiaihiliimcoaaGreat
namespace Go.Proofs.YtiiaihiliimcoaaGreat
open Go Go.Vc Go.RowKit Go.ChangeShapes Go.WideShapes Go.Joins
set_option maxRecDepth 100000
theorem own_ : ownKnob Tryz.prog.godebug = none := by kernel_rfl
theorem laidOut : laidOutB Tryz.prog = true := by kernel_rfl
theorem cells26 : Tryz.prog.cellsOf 26 = 3 := by kernel_rfl
theorem bytes41 : Tryz.prog.bytesOf 41 = 2 := by kernel_rfl
theorem bytes5 : Tryz.prog.bytesOf 5 = 1 := by kernel_rfl
theorem reach47 : reachBytes + 4096 ≤ 2 ^ 47 := by decide
structure ImgOk (W : World) (wd ht : Int) (b : Option Addr) (len cap : Nat) (xs : List Int) : Prop where
 img : Img W b len xs
 bytes : len * 2 ≤ reachBytes
 wide : (Lit.int .i64 wd).wf = true
 high : (Lit.int .i64 ht).wf = true
 fit : PxOk xs
 room : len ≤ cap
theorem ImgOk.sz {W : World} {wd ht : Int} {b : Option Addr} {len cap : Nat} {xs : List Int} (h : ImgOk W wd ht b len cap xs) : len * 2 ≤ 2 ^ 47 := by
 have := h.bytes
 have := reach47
 omega
theorem byt_wf {n : Int} (h : (Lit.int .u16 n).wf = true) : Byt n := by
 have := wfu16 h
 exact ⟨by omega, by omega⟩
theorem open_Image {H : Type} {enc : TypeId × Value → H} {W : World} {base : Nat} {v : Value} {d : DataW H} {p : List MemPlace} (hv : Value.okWide Tryz.prog W .any base 26 v) (h : DataW.Trod enc Tryz.prog W 0 (fun _ => true) true 26 v d p)
  (hw : ∀ n ∈ d.weights Tryz.prog 26, n ≤ reachBytes) :
  ∃ (wd ht : Int) (b : Option Addr) (len cap : Nat) (xs : List Int), v = .agg #[i64 wd, i64 ht, .slice b len cap] ∧ ImgOk W wd ht b len cap xs := by
 obtain ⟨c0, c1, c2, y0, y1, y2, m, rfl, rfl, rfl, hy0, hy1, hy2⟩ := open_agg3 Tryz.underlying26 (by kernel_rfl) cells26 hv h
 obtain ⟨x, e0, rfl, wx⟩ := DataW.trod_int Tryz.underlying3 hy0
 obtain ⟨y, e1, rfl, wy⟩ := DataW.trod_int Tryz.underlying3 hy1
 simp only [List.cons.injEq, and_true] at e0 e1
 subst e0; subst e1
 obtain ⟨b, len, cap, xs, rfl, h1, h2, h3, h4, h5⟩ := cell_ints Tryz.underlying24 Tryz.underlying41 (by kernel_rfl) hy2
 have h6 := h5.weight Tryz.underlying24 fun n hn => hw n (by simp [DataW.weights, Tryz.underlying26, DataW.weightsEach, hn])
 rw [bytes41] at h6
 exact ⟨x, y, b, len, cap, xs, rfl, ⟨⟨h3, h1⟩, h6, wx, wy, fun n hn => byt_wf (h4 n hn), h2⟩⟩
structure BytesOk (W : World) (b : Option Addr) (len cap : Nat) (xs : List Int) : Prop where
 long : len = xs.length
 cap : len ≤ cap
 sl : Sl W.heap.size W b (bytes xs)
 fit : Bs xs
 bts : len ≤ reachBytes
theorem BytesOk.sz {W : World} {b : Option Addr} {len cap : Nat} {xs : List Int} (h : BytesOk W b len cap xs) : len + 4096 ≤ 2 ^ 47 := by
 have := h.bts
 have := reach47
 omega
theorem open_ints22 {H : Type} {enc : TypeId × Value → H} {W : World} {base : Nat} {v : Value} {d : DataW H} {p : List MemPlace} (hv : Value.okWide Tryz.prog W .any base 22 v) (h : DataW.Trod enc Tryz.prog W 0 (fun _ => true) true 22 v d p)
  (hw : ∀ n ∈ d.weights Tryz.prog 22, n ≤ reachBytes) :
  ∃ (b : Option Addr) (len cap : Nat) (xs : List Int), v = .slice b len cap ∧ BytesOk W b len cap xs := by
 obtain ⟨a, b, c, rfl⟩ := okWide_slice Tryz.underlying22 hv
 obtain ⟨fuel, h⟩ := h
 obtain ⟨b, len, cap, xs, e, h1, h2, h3, h4, h5⟩ := cell_ints Tryz.underlying22 Tryz.underlying5 (by kernel_rfl) h
 cases e
 have h6 := h5.weight Tryz.underlying22 hw
 rw [bytes5] at h6
 exact ⟨_, _, _, xs, rfl, ⟨h1, h2, h3, fun n hn => wfu8 (h4 n hn), by omega⟩⟩
end Go.Proofs.YtiiaihiliimcoaaGreat
namespace Go.Proofs.YtiiaihiliimcoaaGreat
open Go Go.Vc Go.RowKit Go.Qn
set_option maxRecDepth 100000
set_option maxHeartbeats 1000000
def D8 (c : Co) : Prop := ∃ r g b : Int, (0 ≤ r ∧ r ≤ 255) ∧ (0 ≤ g ∧ g ≤ 255) ∧ (0 ≤ b ∧ b ≤ 255) ∧ c = (257 * r, 257 * g, 257 * b, 65535)
theorem D8.ok {c : Co} (h : D8 c) : CoOk c := by
 obtain ⟨r, g, b, h1, h2, h3, rfl⟩ := h
 exact ⟨⟨by show 0 ≤ 257 * r; omega, by show 257 * r ≤ 65535; omega⟩, ⟨by show 0 ≤ 257 * g; omega, by show 257 * g ≤ 65535; omega⟩, ⟨by show 0 ≤ 257 * b; omega, by show 257 * b ≤ 65535; omega⟩, ⟨by show (0 : Int) ≤ 65535; omega, by show (65535 : Int) ≤ 65535; omega⟩⟩
def Z8 (c : Co) : Prop := c = zeroC ∨ D8 c
theorem setPx_ok {xs : List Int} {k : Nat} {c : Co} (h : PxOk xs) (hc : CoOk c) : PxOk (setPx xs k c) := by
 intro x hx
 simp only [setPx, List.mem_append] at hx
 rcases hx with (hx | hx) | hx
 ·exact h x (List.mem_of_mem_take hx)
 ·simp [coL] at hx
  rcases hx with rfl | rfl | rfl | rfl
  ·exact hc.1
  ·exact hc.2.1
  ·exact hc.2.2.1
  ·exact hc.2.2.2
 ·exact h x (List.mem_of_mem_drop hx)
theorem setPx_get {xs : List Int} {k : Nat} {c : Co} (h : 4 * k + 4 ≤ xs.length) (i : Nat) : (setPx xs k c).getD i 0 = if 4 * k ≤ i ∧ i < 4 * k + 4 then (coL c).getD (i - 4 * k) 0 else xs.getD i 0 := by
 have ht : (xs.take (4 * k)).length = 4 * k := by rw [List.length_take]; omega
 have hc : (coL c).length = 4 := rfl
 unfold setPx
 simp only [List.getD_eq_getElem?_getD]
 by_cases h1 : i < 4 * k
 ·rw [if_neg (by omega), List.append_assoc, List.getElem?_append_left (by omega), List.getElem?_take_of_lt h1]
 ·by_cases h2 : i < 4 * k + 4
  ·rw [if_pos (by omega), List.append_assoc, List.getElem?_append_right (by omega), List.getElem?_append_left (by omega), ht]
  ·rw [if_neg (by omega), List.getElem?_append_right (by rw [List.length_append]; omega), List.length_append, ht, hc, List.getElem?_drop, show 4 * k + 4 + (i - (4 * k + 4)) = i by omega]
theorem colAt_set {xs : List Int} {k : Nat} {c : Co} (h : 4 * k + 4 ≤ xs.length) (j : Nat) : colAt (setPx xs k c) j = if j = k then c else colAt xs j := by
 unfold colAt
 simp only [setPx_get h]
 by_cases e : j = k
 ·subst e
  rw [if_pos rfl, if_pos (by omega), if_pos (by omega), if_pos (by omega), if_pos (by omega)]
  simp [coL, show 4 * j + 1 - 4 * j = 1 by omega, show 4 * j + 2 - 4 * j = 2 by omega, show 4 * j + 3 - 4 * j = 3 by omega]
 ·rw [if_neg e, if_neg (by omega), if_neg (by omega), if_neg (by omega), if_neg (by omega)]
def Pic8 (xs : List Int) : Prop := PxOk xs ∧ ∀ k, Z8 (colAt xs k)
theorem Pic8.set {xs : List Int} {k : Nat} {c : Co} (h : Pic8 xs) (hk : 4 * k + 4 ≤ xs.length) (hc : D8 c) : Pic8 (setPx xs k c) :=
 ⟨setPx_ok h.1 hc.ok, fun j => by
  rw [colAt_set hk]
  split
  ·exact .inr hc
  ·exact h.2 j⟩
theorem Pic8.zero (n : Nat) : Pic8 (List.replicate n 0) := by
 have e : ∀ i, (List.replicate n (0 : Int)).getD i 0 = 0 := fun i => by
  rw [List.getD_eq_getElem?_getD, List.getElem?_replicate]
  split <;> rfl
 refine ⟨fun x hx => ?_, fun k => .inl ?_⟩
 ·rw [List.eq_of_mem_replicate hx]; exact ⟨by omega, by omega⟩
 ·unfold colAt
  simp only [e]; rfl
theorem colB_d8 {b : List Int} (h : Bs b) (k i : Nat) : D8 (colB b k i) := ⟨_, _, _, bget h _, bget h _, bget h _, rfl⟩
theorem palU_d8 {b : List Int} (h : Bs b) (k n : Nat) : ∀ c, c ∈ palU b k n → D8 c := by
 intro c hc
 simp only [palU, List.mem_map] at hc
 obtain ⟨i, -, rfl⟩ := hc
 exact colB_d8 h k i
theorem paint_pic {pal : List Co} {clear : Int} {W x y w : Nat} {rows idx : List Int} (hp : ∀ c, c ∈ pal → D8 c) (hi0 : ∀ j, 0 ≤ idx.getD j 0) : ∀ {n i : Nat} {px px' : List Int}, paintF pal clear W x y w rows idx n i px = some px' → (∀ j, i ≤ j → j < i + n → 4 * ((y + (rows.getD (j / w) 0).toNat) * W + x + j % w) + 4 ≤ px.length) → Pic8 px → px'.length = px.length ∧ Pic8 px'
 | 0, i, px, px', h, _, hq => by cases h; exact ⟨rfl, hq⟩
 | n + 1, i, px, px', h, hb, hq => by
  rw [paintF] at h
  split at h
  ·cases h
  rename_i hlt
  have hk := hb i (by omega) (by omega)
  have h0 := hi0 i
  have hm : pal.getD (idx.getD i 0).toNat zeroC ∈ pal := by
   have : (idx.getD i 0).toNat < pal.length := by omega
   rw [List.getD_eq_getElem?_getD, List.getElem?_eq_getElem this]
   exact List.getElem_mem _
  have step : (if idx.getD i 0 = clear then px else setPx px ((y + (rows.getD (i / w) 0).toNat) * W + x + i % w) (pal.getD (idx.getD i 0).toNat zeroC)).length = px.length ∧ Pic8 (if idx.getD i 0 = clear then px else setPx px ((y + (rows.getD (i / w) 0).toNat) * W + x + i % w) (pal.getD (idx.getD i 0).toNat zeroC)) := by
   split
   ·exact ⟨rfl, hq⟩
   ·exact ⟨setPx_len hk, hq.set hk (hp _ hm)⟩
  obtain ⟨h1, h2⟩ := paint_pic hp hi0 h (fun j hj hj2 => by rw [step.1]; exact hb j (by omega) (by omega)) step.2
  exact ⟨h1.trans step.1, h2⟩
theorem place_in {W H x y w h j : Nat} {rows : List Int} (hx : x + w ≤ W) (hy : y + h ≤ H) (hr : rows.length = h) (hm : ∀ z, z ∈ rows → 0 ≤ z ∧ z < h) (hj : j < w * h) : 4 * ((y + (rows.getD (j / w) 0).toNat) * W + x + j % w) + 4 ≤ 4 * (W * H) := by
 have hw : 0 < w := by
  rcases Nat.eq_zero_or_pos w with e | e
  ·rw [e, Nat.zero_mul] at hj; omega
  ·exact e
 have h1 : j / w < h := Nat.div_lt_of_lt_mul hj
 have h2 := Nat.mod_lt j hw
 have h3 := hm (rows.getD (j / w) 0) (by
  rw [List.getD_eq_getElem?_getD, List.getElem?_eq_getElem (by omega)]
  exact List.getElem_mem _)
 have h4 := Nat.mul_le_mul_right W (show y + (rows.getD (j / w) 0).toNat + 1 ≤ H by omega)
 rw [Nat.succ_mul, Nat.mul_comm H W] at h4
 omega
theorem picM_pic {b : List Int} {k W H : Nat} {pal : List Co} {clear : Int} {xs xs' : List Int} (hb : Bs b) (hx : xs.length = 4 * (W * H)) (hq : Pic8 xs) (hp : ∀ c, c ∈ pal → D8 c) (h : picM b k W H pal clear xs = some xs') : xs'.length = xs.length ∧ Pic8 xs' := by
 unfold picM at h
 split at h
 ·cases h
 split at h
 ·cases h
 rename_i hg
 split at h
 ·cases h
 have hp' : ∀ c, c ∈ (if 128 ≤ b.getD (k + 8) 0 then palU b (k + 9) (palN (b.getD (k + 8) 0)) else pal) → D8 c := fun c hc => by
  split at hc
  ·exact palU_d8 hb _ _ c hc
  ·exact hp c hc
 simp only at h
 generalize (if 128 ≤ b.getD (k + 8) 0 then palU b (k + 9) (palN (b.getD (k + 8) 0)) else pal) = pal' at h hp'
 generalize (if 128 ≤ b.getD (k + 8) 0 then k + 9 + 3 * palN (b.getD (k + 8) 0) else k + 9) = k' at h
 split at h
 ·cases h
 split at h
 ·cases h
 rename_i l e hl
 split at h
 ·cases h
 rename_i hn
 have r0 := twoM_range hb k
 have r2 := twoM_range hb (k + 2)
 have hlen := rowsM_len (twoM b (k + 6)).toNat (decide (64 ≤ b.getD (k + 8) 0 % 128))
 have hb2 : ∀ x, x ∈ l.flatten → 0 ≤ x ∧ x ≤ 255 := fun z hz => by
  obtain ⟨m, hm1, hm2⟩ := List.mem_flatten.1 hz
  exact (blkF_ok hb (show blkF b (b.length + 1) _ = some (l, e) from hl)).2.2.1 m hm1 z hm2
 refine paint_pic (W := W) hp' (fun j => (bget (gifR_bs hb2) j).1) h (fun j _ hj => ?_) hq
 rw [hx]
 refine place_in (h := (twoM b (k + 6)).toNat) (by omega) (by omega) hlen (fun z hz => rowsM_mem hz) ?_
 have he : ((gifR l.flatten (b.getD k' 0) (twoM b (k + 4) * twoM b (k + 6))).1.length : Int) = twoM b (k + 4) * twoM b (k + 6) := by
  rcases Decidable.em (((gifR l.flatten (b.getD k' 0) (twoM b (k + 4) * twoM b (k + 6))).1.length : Int) = twoM b (k + 4) * twoM b (k + 6)) with e | e
  ·exact e
  ·exact (hn (.inr (.inl e))).elim
 have e2 : (((twoM b (k + 4)).toNat * (twoM b (k + 6)).toNat : Nat) : Int) = twoM b (k + 4) * twoM b (k + 6) := by
  rw [Int.natCast_mul, Int.toNat_of_nonneg (by omega), Int.toNat_of_nonneg (by omega)]
 omega
theorem steps_pic {b : List Int} {W H : Nat} {pal : List Co} (hb : Bs b) (hp : ∀ c, c ∈ pal → D8 c) : ∀ {f k : Nat} {clear : Int} {xs : List Int}, stepsF b W H pal f k clear = some xs → xs.length = 4 * (W * H) ∧ Pic8 xs
 | 0, k, clear, xs, h => by cases h
 | f + 1, k, clear, xs, h => by
  rw [stepsF] at h
  split at h
  ·cases h
  split at h
  ·split at h
   ·cases h
   ·exact steps_pic hb hp h
  split at h
  ·have := picM_pic hb (by rw [List.length_replicate]) (Pic8.zero _) hp h
   rw [List.length_replicate] at this
   exact this
  ·cases h
theorem decR_cases {b : List Int} (hb : Bs b) (most : Int) : (∃ e, e ≠ 0 ∧ decR b most = (0, 0, [], e)) ∨ ∃ W H xs, decR b most = (W, H, xs, 0) ∧ good W H xs = true ∧ Pic8 xs ∧ W * H ≤ most := by
 unfold decR
 split
 ·exact .inl ⟨11, by decide, rfl⟩
 split
 ·exact .inl ⟨9, by decide, rfl⟩
 rename_i hh
 split
 ·exact .inl ⟨11, by decide, rfl⟩
 rename_i hs
 split
 ·exact .inl ⟨9, by decide, rfl⟩
 rename_i xs hx
 have hh : headOk b = true := by simpa using hh
 simp only [headOk, Bool.and_eq_true, decide_eq_true_eq] at hh
 obtain ⟨⟨⟨⟨h1, h2⟩, h3⟩, h4⟩, h5⟩ := hh
 have hp : ∀ c, c ∈ (if 128 ≤ b.getD 10 0 then palU b 13 (palN (b.getD 10 0)) else []) → D8 c := fun c hc => by
  split at hc
  ·exact palU_d8 hb _ _ c hc
  ·cases hc
 obtain ⟨g1, g2⟩ := steps_pic hb hp hx
 refine .inr ⟨_, _, _, rfl, ?_, g2, by omega⟩
 unfold good
 rw [Bool.and_eq_true, gfits_iff, decide_eq_true_eq]
 refine ⟨⟨h3, h4, by omega, by omega, by omega⟩, ?_⟩
 rw [g1, Int.natCast_mul, Int.natCast_mul, Int.toNat_of_nonneg (by omega), Int.toNat_of_nonneg (by omega)]
 rfl
theorem good_len {W H : Int} {xs : List Int} (h : good W H xs = true) : xs.length ≤ 262144 ∧ (xs.length : Int) = 4 * (W * H) ∧ gfits W H = true := by
 unfold good at h
 rw [Bool.and_eq_true, decide_eq_true_eq] at h
 have := gfits_iff.1 h.1
 exact ⟨by omega, h.2, h.1⟩
theorem decR_len {b : List Int} (hb : Bs b) (most : Int) : (decR b most).2.2.1.length ≤ 262144 := by
 rcases decR_cases hb most with ⟨e, _, he⟩ | ⟨W, H, xs, he, hg, -⟩
 ·rw [he]; exact Nat.zero_le _
 ·rw [he]; exact (good_len hg).1
end Go.Proofs.YtiiaihiliimcoaaGreat
namespace Go.Proofs.YtiiaihiliimcoaaGreat
open Go Go.Vc Go.RowKit Go.Qn
set_option maxRecDepth 100000
set_option maxHeartbeats 1000000
theorem app_get {b m : List Int} {i : Nat} (h : i < b.length) : (b ++ m).getD i 0 = b.getD i 0 := by
 rw [List.getD_eq_getElem?_getD, List.getElem?_append_left h, List.getD_eq_getElem?_getD]
theorem app_part {b m : List Int} {i n : Nat} (h : i + n ≤ b.length) : part (b ++ m) i n = part b i n := by
 unfold part
 rw [List.drop_append_of_le_length (by omega), List.take_append_of_le_length (by rw [List.length_drop]; omega)]
theorem app_two {b m : List Int} {k : Nat} (h : k + 2 ≤ b.length) : twoM (b ++ m) k = twoM b k := by
 unfold twoM
 rw [app_get (by omega), app_get (by omega)]
theorem app_palU {b m : List Int} {k n : Nat} (h : k + 3 * n ≤ b.length) : palU (b ++ m) k n = palU b k n := by
 unfold palU
 apply List.map_congr_left
 intro i hi
 have hi := List.mem_range.1 hi
 unfold colB
 rw [app_get (by omega), app_get (by omega), app_get (by omega)]
theorem blkF_app {b m : List Int} : ∀ {f g k : Nat} {r : List (List Int) × Nat}, blkF b f k = some r → f ≤ g → blkF (b ++ m) g k = some r
 | 0, g, k, r, h, _ => by cases h
 | f + 1, 0, k, r, h, hg => by omega
 | f + 1, g + 1, k, r, h, hg => by
  rw [blkF] at h ⊢
  split at h
  ·cases h
  rename_i h1
  rw [if_neg (by rw [List.length_append]; omega), app_get (by omega)]
  split at h
  ·rename_i h2
   rw [if_pos h2]; exact h
  rename_i h2
  rw [if_neg h2]
  split at h
  ·cases h
  rename_i h3
  rw [if_neg (by rw [List.length_append]; omega)]
  split at h
  ·cases h
  rename_i l e hl
  rw [blkF_app hl (by omega), app_part (by omega)]
  exact h
theorem blkM_app {b m : List Int} {k : Nat} {r : List (List Int) × Nat} (h : blkM b k = some r) : blkM (b ++ m) k = some r :=
 blkF_app h (by rw [List.length_append]; omega)
theorem extM_app {b m : List Int} {k : Nat} {clear : Int} {r : Int × Nat} (h : extM b k clear = some r) : extM (b ++ m) k clear = some r := by
 unfold extM at h ⊢
 split at h
 ·cases h
 rename_i h1
 rw [if_neg (by rw [List.length_append]; omega), app_get (by omega)]
 split at h
 ·cases h
 rename_i l e hl
 rw [blkM_app hl]
 exact h
theorem picM_app {b m : List Int} {k W H : Nat} {pal : List Co} {clear : Int} {xs xs' : List Int} (h : picM b k W H pal clear xs = some xs') : picM (b ++ m) k W H pal clear xs = some xs' := by
 unfold picM at h ⊢
 split at h
 ·cases h
 rename_i h1
 rw [if_neg (by rw [List.length_append]; omega), app_two (by omega), app_two (by omega), app_two (by omega), app_two (by omega), app_get (by omega)]
 split at h
 ·cases h
 rename_i h2
 rw [if_neg h2]
 split at h
 ·cases h
 rename_i h3
 rw [if_neg (by rw [List.length_append]; omega)]
 simp only at h ⊢
 have e1 : (if 128 ≤ b.getD (k + 8) 0 then palU (b ++ m) (k + 9) (palN (b.getD (k + 8) 0)) else pal) = (if 128 ≤ b.getD (k + 8) 0 then palU b (k + 9) (palN (b.getD (k + 8) 0)) else pal) := by
  split
  ·rw [app_palU (by omega)]
  ·rfl
 rw [e1]
 generalize (if 128 ≤ b.getD (k + 8) 0 then palU b (k + 9) (palN (b.getD (k + 8) 0)) else pal) = pal' at h ⊢
 generalize (if 128 ≤ b.getD (k + 8) 0 then k + 9 + 3 * palN (b.getD (k + 8) 0) else k + 9) = k' at h ⊢
 split at h
 ·cases h
 rename_i h4
 rw [if_neg (by rw [List.length_append]; omega), app_get (show k' < b.length by omega)]
 split at h
 ·cases h
 rename_i l e hl
 rw [blkM_app hl]
 exact h
theorem steps_app {b m : List Int} {W H : Nat} {pal : List Co} : ∀ {f g k : Nat} {clear : Int} {xs : List Int}, stepsF b W H pal f k clear = some xs → f ≤ g → stepsF (b ++ m) W H pal g k clear = some xs
 | 0, g, k, clear, xs, h, _ => by cases h
 | f + 1, 0, k, clear, xs, h, hg => by omega
 | f + 1, g + 1, k, clear, xs, h, hg => by
  rw [stepsF] at h ⊢
  split at h
  ·cases h
  rename_i h1
  rw [if_neg (by rw [List.length_append]; omega), app_get (by omega)]
  split at h
  ·rename_i h2
   rw [if_pos h2]
   split at h
   ·cases h
   rename_i c e he
   rw [extM_app he]
   exact steps_app h (by omega)
  rename_i h2
  rw [if_neg h2]
  split at h
  ·rename_i h3
   rw [if_pos h3]
   exact picM_app h
  ·cases h
theorem decR_app {b m : List Int} {most : Int} (h : (decR b most).2.2.2 = 0) (hl : (b ++ m).length ≤ 4194304) : decR (b ++ m) most = decR b most := by
 have hl0 : (b ++ m).length = b.length + m.length := List.length_append
 have n1 : ¬ 4194304 < (b ++ m).length := by omega
 have n2 : ¬ 4194304 < b.length := by omega
 unfold decR at h ⊢
 rw [if_neg n2] at h
 rw [if_neg n1, if_neg n2]
 split at h
 ·cases h
 rename_i hh
 rw [if_neg hh]
 have hh : headOk b = true := by simpa using hh
 have hh' := hh
 simp only [headOk, Bool.and_eq_true, Bool.or_eq_true, decide_eq_true_eq] at hh'
 obtain ⟨⟨⟨⟨h1, h2⟩, h3⟩, h4⟩, h5⟩ := hh'
 have hA : headOk (b ++ m) = true := by
  simp only [headOk, Bool.and_eq_true, Bool.or_eq_true, decide_eq_true_eq]
  rw [List.take_append_of_le_length (by omega), app_two (by omega), app_two (by omega), app_get (by omega)]
  exact ⟨⟨⟨⟨by omega, h2⟩, h3⟩, h4⟩, by omega⟩
 have n3 : ¬ headOk (b ++ m) = false := by rw [hA]; decide
 have e1 : (if 128 ≤ b.getD 10 0 then palU (b ++ m) 13 (palN (b.getD 10 0)) else []) = (if 128 ≤ b.getD 10 0 then palU b 13 (palN (b.getD 10 0)) else []) := by
  split
  ·rw [app_palU (by omega)]
  ·rfl
 rw [if_neg n3, app_two (by omega), app_two (by omega), app_get (by omega), e1]
 split at h
 ·cases h
 rename_i hs
 rw [if_neg hs, if_neg hs]
 split at h
 ·cases h
 rename_i xs hx
 rw [steps_app (m := m) hx (g := (b ++ m).length + 1) (by omega)]
end Go.Proofs.YtiiaihiliimcoaaGreat
namespace Go.Proofs.YtiiaihiliimcoaaGreat
open Go Go.Vc Go.RowKit Go.Qn
set_option maxRecDepth 100000
set_option maxHeartbeats 1000000
def At (b : List Int) (k : Nat) (l : List Int) : Prop := ∃ post, b.drop k = l ++ post
theorem At.left {b : List Int} {k : Nat} {l m : List Int} (h : At b k (l ++ m)) : At b k l := by
 obtain ⟨p, h⟩ := h
 exact ⟨m ++ p, by rw [h, List.append_assoc]⟩
theorem At.right {b : List Int} {k : Nat} {l m : List Int} (h : At b k (l ++ m)) : At b (k + l.length) m := by
 obtain ⟨p, h⟩ := h
 exact ⟨p, by rw [← List.drop_drop, h, List.append_assoc, List.drop_left]⟩
theorem At.tail {b : List Int} {k : Nat} {x : Int} {l : List Int} (h : At b k (x :: l)) : At b (k + 1) l := At.right (l := [x]) h
theorem At.get {b : List Int} {k i : Nat} {l : List Int} (h : At b k l) (hi : i < l.length) : b.getD (k + i) 0 = l.getD i 0 ∧ k + i < b.length := by
 obtain ⟨p, h⟩ := h
 have e : b[k + i]? = l[i]? := by rw [← List.getElem?_drop, h, List.getElem?_append_left hi]
 refine ⟨by rw [List.getD_eq_getElem?_getD, e, List.getD_eq_getElem?_getD], ?_⟩
 rw [List.getElem?_eq_getElem hi] at e
 exact (List.getElem?_eq_some_iff.1 e).1
theorem At.head {b : List Int} {k : Nat} {x : Int} {l : List Int} (h : At b k (x :: l)) : b.getD k 0 = x ∧ k < b.length := At.get (i := 0) h (Nat.succ_pos _)
theorem At.len {b : List Int} {k : Nat} {l : List Int} (h : At b k l) (h0 : 0 < l.length) : k + l.length ≤ b.length := by
 have := (h.get (i := l.length - 1) (by omega)).2
 omega
theorem At.part {b : List Int} {k : Nat} {l : List Int} (h : At b k l) : part b k l.length = l := by
 obtain ⟨p, h⟩ := h
 unfold Go.Proofs.YtiiaihiliimcoaaGreat.part
 rw [h, List.take_left]
theorem At.two {b : List Int} {k : Nat} {v : Int} (h : At b k (two2 v)) (h0 : 0 ≤ v) (h1 : v ≤ 65535) : twoM b k = v := by
 have e0 := (h.get (i := 0) (show 0 < 2 by omega)).1
 have e1 := (h.get (i := 1) (show 1 < 2 by omega)).1
 unfold twoM
 rw [show k = k + 0 from rfl, e0, show k + 0 + 1 = k + 1 from rfl, e1]
 show v % 256 + 256 * (v / 256 % 256) = v
 omega
theorem subG_nil : subG [] = [] := rfl
theorem subG_step {bs : List Int} (h : bs ≠ []) : subG bs = (((min 255 bs.length : Nat) : Int) :: bs.take 255) ++ subG (bs.drop 255) := by
 have hl : 0 < bs.length := List.length_pos_iff.2 h
 obtain ⟨n, hn⟩ : ∃ n, (bs.length + 254) / 255 = n + 1 := ⟨(bs.length + 254) / 255 - 1, by omega⟩
 have hn' : ((bs.drop 255).length + 254) / 255 = n := by rw [List.length_drop]; omega
 unfold subG
 rw [hn, hn']
 unfold subU
 rw [List.range_succ_eq_map, List.map_cons, List.flatten_cons, List.map_map]
 have e0 : part bs (255 * 0) (min 255 (bs.length - 255 * 0)) = bs.take 255 := by
  unfold part
  rw [Nat.mul_zero, List.drop_zero, Nat.sub_zero, ← List.take_take, List.take_length]
 rw [e0]
 congr 2
 apply List.map_congr_left
 intro k hk
 show _ = _
 simp only [Function.comp]
 rw [List.length_drop, show bs.length - 255 * (k + 1) = bs.length - 255 - 255 * k by omega]
 unfold part
 rw [List.drop_drop, show 255 + 255 * k = 255 * (k + 1) by omega]
theorem blk_at {b : List Int} : ∀ (n : Nat) (bs : List Int) (k : Nat), bs.length ≤ n → At b k (subG bs ++ [0]) → ∃ l e, blkM b k = some (l, e) ∧ l.flatten = bs
 | n, [], k, _, hA => by
  rw [subG_nil, List.nil_append] at hA
  have := hA.head
  rw [blkM_step, if_neg (by omega), if_pos this.1]
  exact ⟨[], _, rfl, rfl⟩
 | 0, x :: r, k, h, _ => by simp at h
 | n + 1, x :: r, k, h, hA => by
  rw [subG_step (by simp), List.append_assoc] at hA
  have hlen : ((x :: r).take 255).length = min 255 (x :: r).length := by rw [List.length_take]
  have h1 : 0 < (x :: r).length := Nat.succ_pos _
  have hL := hA.left
  obtain ⟨a1, a2⟩ := hL.head
  have hT := hL.tail
  have hR := hA.right
  rw [List.length_cons, hlen] at hR
  have a3 := hT.len (by rw [hlen]; omega)
  rw [hlen] at a3
  have a4 := hT.part
  rw [hlen] at a4
  obtain ⟨l, e, g1, g2⟩ := blk_at n ((x :: r).drop 255) _ (by rw [List.length_drop]; simp only [List.length_cons] at h ⊢; omega) hR
  rw [show k + (min 255 (x :: r).length + 1) = k + 1 + min 255 (x :: r).length by omega] at g1
  rw [blkM_step, if_neg (by omega), a1, if_neg (by omega), Int.toNat_natCast, if_neg (by omega), g1, a4]
  exact ⟨_, e, rfl, by rw [List.flatten_cons, g2, List.take_append_drop]⟩
theorem upto_get {H m : Nat} (h : m < H) : (upto H).getD m 0 = m := by
 unfold upto
 rw [List.getD_eq_getElem?_getD, List.getElem?_map, List.getElem?_range h]; rfl
theorem paint_all {pal : List Co} {clear : Int} {W H : Nat} {idx : List Int} (hW : 0 < W) (hidx : ∀ j, j < W * H → 0 ≤ idx.getD j 0 ∧ idx.getD j 0 < pal.length) : ∀ (n i : Nat) (px : List Int), i + n = W * H → px.length = 4 * (W * H) →
  ∃ px', paintF pal clear W 0 0 W (upto H) idx n i px = some px' ∧ px'.length = 4 * (W * H) ∧ ∀ j, colAt px' j = if i ≤ j ∧ j < W * H ∧ idx.getD j 0 ≠ clear then pal.getD (idx.getD j 0).toNat zeroC else colAt px j
 | 0, i, px, hi, hp => ⟨px, rfl, hp, fun j => by rw [if_neg (by omega)]⟩
 | n + 1, i, px, hi, hp => by
  have hid := hidx i (by omega)
  have hdv : i / W < H := Nat.div_lt_of_lt_mul (by omega)
  have hpl : (0 + ((upto H).getD (i / W) 0).toNat) * W + 0 + i % W = i := by
   rw [upto_get hdv, Int.toNat_natCast, Nat.zero_add, Nat.add_zero, Nat.mul_comm]
   exact Nat.div_add_mod i W
  rw [paintF, if_neg (by omega), hpl]
  by_cases hc : idx.getD i 0 = clear
  ·rw [if_pos hc]
   obtain ⟨q, h1, h2, h3⟩ := paint_all hW hidx n (i + 1) px (by omega) hp
   refine ⟨q, h1, h2, fun j => ?_⟩
   rw [h3]
   by_cases e : j = i
   ·subst e; rw [if_neg (by omega), if_neg (fun hx => hx.2.2 hc)]
   ·by_cases g : i + 1 ≤ j ∧ j < W * H ∧ idx.getD j 0 ≠ clear
    ·rw [if_pos g, if_pos ⟨by omega, g.2⟩]
    ·rw [if_neg g, if_neg (fun hx => g ⟨by omega, hx.2⟩)]
  ·rw [if_neg hc]
   have hk : 4 * i + 4 ≤ px.length := by omega
   obtain ⟨q, h1, h2, h3⟩ := paint_all hW hidx n (i + 1) (setPx px i (pal.getD (idx.getD i 0).toNat zeroC)) (by omega) (by rw [setPx_len hk]; exact hp)
   refine ⟨q, h1, h2, fun j => ?_⟩
   rw [h3, colAt_set hk]
   by_cases e : j = i
   ·subst e; rw [if_neg (by omega), if_pos rfl, if_pos ⟨by omega, by omega, hc⟩]
   ·rw [if_neg e]
    by_cases g : i + 1 ≤ j ∧ j < W * H ∧ idx.getD j 0 ≠ clear
    ·rw [if_pos g, if_pos ⟨by omega, g.2⟩]
    ·rw [if_neg g, if_neg (fun hx => g ⟨by omega, hx.2⟩)]
def entC (pal : List Co) (i : Nat) : Co :=
 let c := if i < pal.length ∧ (pal.getD i zeroC).2.2.2 ≠ 0 then pal.getD i zeroC else pal.getD 0 zeroC
 (257 * (c.1 / 256 % 256), 257 * (c.2.1 / 256 % 256), 257 * (c.2.2.1 / 256 % 256), 65535)
theorem ent_at {b : List Int} {k : Nat} {pal : List Co} : ∀ (n : Nat), At b k (entG pal n) → palU b k n = (List.range n).map (entC pal)
 | 0, _ => rfl
 | n + 1, h => by
  rw [entG_succ] at h
  have h1 := h.left
  have h2 := h.right
  rw [entG_len] at h2
  rw [palU_succ, ent_at n h1, List.range_succ, List.map_append]
  congr 1
  have a0 := (h2.get (i := 0) (show 0 < 3 by omega)).1
  have a1 := (h2.get (i := 1) (show 1 < 3 by omega)).1
  have a2 := (h2.get (i := 2) (show 2 < 3 by omega)).1
  show [colB b k n] = [entC pal n]
  unfold colB entC
  rw [show k + 3 * n = k + 3 * n + 0 from rfl, a0, show k + 3 * n + 0 + 1 = k + 3 * n + 1 from rfl, a1, show k + 3 * n + 0 + 2 = k + 3 * n + 2 from rfl, a2]
  rfl
theorem size_range (n : Nat) (h : n ≤ 256) : 1 ≤ sizeG n ∧ sizeG n ≤ 8 ∧ n ≤ 2 ^ sizeG n := by
 unfold sizeG
 repeat' split
 all_goals simp only [Nat.reducePow]
 all_goals omega
theorem palG_len {W H : Int} {xs : List Int} : (palG W H xs).length ≤ 256 := by
 unfold palG pal0G
 split
 ·have := @palR_most W H 255 xs
  rw [List.length_append]
  simp only [List.length_cons, List.length_nil]
  omega
 ·exact palR_len
theorem pal0_len {W H : Int} {xs : List Int} : (pal0G W H xs).length ≤ (palG W H xs).length := by
 unfold palG
 split
 ·rw [List.length_append]; omega
 ·exact Nat.le_refl _
theorem idxV_lt {pal : List Co} (h1 : 1 ≤ pal.length) (h2 : pal.length ≤ 256) (c : Co) : idxV pal c = (if noneV pal < 0 ∨ clearC c = false then nearV pal (eightC c) else noneV pal) ∧ 0 ≤ idxV pal c ∧ idxV pal c < pal.length := by
 have hn := nearN_range pal (eightC c) pal.length
 have hv : nearV pal (eightC c) = nearN pal (eightC c) pal.length := rfl
 have hm := noneV_range pal
 have hw : ∀ y : Int, 0 ≤ y → y ≤ 255 → IntKind.u8.wrap y = y := fun y h0 h1 => by rw [IntKind.wrap]; simp [IntKind.signed, IntKind.bits]; omega
 unfold idxV
 split
 ·rw [hw _ (by omega) (by omega)]; omega
 ·rw [hw _ (by omega) (by omega)]; omega
theorem appR_get {W H : Int} {xs : List Int} {pal : List Co} (hb : good W H xs = true) (h1 : 1 ≤ pal.length) (h2 : pal.length ≤ 256) : appR W H xs pal = (W, H, pal, (colsOf xs (W * H).toNat).map (idxV pal), 0) := by
 unfold appR
 rw [if_pos hb, if_neg (by omega)]
theorem cols_get {xs : List Int} {n j : Nat} {f : Co → Int} (hj : j < n) : ((colsOf xs n).map f).getD j 0 = f (colAt xs j) := by
 unfold colsOf
 rw [List.map_map, List.getD_eq_getElem?_getD, List.getElem?_map, List.getElem?_range hj]; rfl
theorem idxG_get {W H : Int} {xs : List Int} (hb : good W H xs = true) {j : Nat} (hj : j < (W * H).toNat) :
  (idxG W H xs).getD j 0 = (if goneM xs = true ∧ 1 ≤ (pal0G W H xs).length ∧ clearC (colAt xs j) = false then idxV (pal0G W H xs) (colAt xs j) else idxV (palG W H xs) (colAt xs j)) := by
 have p1 := palG_pos hb
 have p2 := @palG_len W H xs
 have p3 := @pal0_len W H xs
 have hA := appR_get hb p1 p2
 have hl : ((colsOf xs (W * H).toNat).map (idxV (palG W H xs))).length = (W * H).toNat := by simp [colsOf]
 unfold idxG
 by_cases hg : goneM xs = true
 ·rw [if_pos hg]
  unfold idxU
  rw [hA]
  simp only
  rw [hl, List.getD_eq_getElem?_getD, List.getElem?_map, List.getElem?_range hj]
  simp only [Option.map_some, Option.getD_some]
  rw [cols_get hj]
  by_cases h0 : 1 ≤ (pal0G W H xs).length
  ·rw [appR_get hb h0 (by omega)]
   simp only
   rw [cols_get hj]
   by_cases hc : clearC (colAt xs j) = false
   ·have hc' : 32768 ≤ xs.getD (4 * j + 3) 0 := by
     have := of_decide_eq_false hc
     have e : (colAt xs j).2.2.2 = xs.getD (4 * j + 3) 0 := rfl
     omega
    rw [if_pos ⟨hj, trivial, hc'⟩, if_pos ⟨hg, h0, hc⟩]
   ·have hc' : ¬ 32768 ≤ xs.getD (4 * j + 3) 0 := fun hx => hc (decide_eq_false (by
     have e : (colAt xs j).2.2.2 = xs.getD (4 * j + 3) 0 := rfl
     omega))
    rw [if_neg (fun hx => hc' hx.2.2), if_neg (fun hx => hc hx.2.2)]
  ·have he : (appR W H xs (pal0G W H xs)).2.2.2.2 = 2 := by
    unfold appR
    rw [if_pos hb, if_pos (.inl (by omega))]
   rw [he, if_neg (fun hx => absurd hx.2.1 (by decide)), if_neg (fun hx => h0 hx.2.1)]
 ·rw [if_neg hg, if_neg (fun hx => hg hx.1), hA]
  simp only
  rw [cols_get hj]
theorem idxG_lt {W H : Int} {xs : List Int} (hb : good W H xs = true) {j : Nat} (hj : j < (W * H).toNat) : 0 ≤ (idxG W H xs).getD j 0 ∧ (idxG W H xs).getD j 0 < (palG W H xs).length := by
 have p1 := palG_pos hb
 have p2 := @palG_len W H xs
 have p3 := @pal0_len W H xs
 rw [idxG_get hb hj]
 split
 ·rename_i h
  have := (idxV_lt h.2.1 (by omega) (colAt xs j)).2
  omega
 ·exact (idxV_lt p1 p2 (colAt xs j)).2
theorem idxG_length {W H : Int} {xs : List Int} (hb : good W H xs = true) : (idxG W H xs).length = (W * H).toNat := by
 rw [idxG_len, appR_get hb (palG_pos hb) palG_len]
 simp [colsOf]
end Go.Proofs.YtiiaihiliimcoaaGreat
namespace Go.Proofs.YtiiaihiliimcoaaGreat
open Go Go.Vc Go.RowKit Go.Qn
set_option maxRecDepth 100000
set_option maxHeartbeats 1000000
theorem two_pow8 {s : Nat} (h1 : 1 ≤ s) (h8 : s ≤ 8) : 2 ≤ 2 ^ s ∧ 2 ^ s ≤ 256 ∧ palN ((127 + s : Nat) : Int) = 2 ^ s := by
 have : ∀ s : Nat, s < 9 → 1 ≤ s → 2 ≤ 2 ^ s ∧ 2 ^ s ≤ 256 ∧ palN ((127 + s : Nat) : Int) = 2 ^ s := by decide
 exact this s (by omega) h1
theorem gif_round {W H : Int} {xs : List Int} (hb : good W H xs = true) : ∃ n : Nat, n = max (sizeG (palG W H xs).length) 2 ∧ 2 ≤ n ∧ n < 9 ∧
  (gifPackR (idxG W H xs) ((n : Nat) : Int)).1.length ≤ 3 * (W * H).toNat + 6 ∧ Bs (gifPackR (idxG W H xs) ((n : Nat) : Int)).1 ∧ gifR (gifPackR (idxG W H xs) ((n : Nat) : Int)).1 ((n : Nat) : Int) (W * H) = (idxG W H xs, 0) := by
 have hs := size_range (palG W H xs).length palG_len
 have hbs := idxG_bs W H xs
 have hil := idxG_length hb
 obtain ⟨n, hn⟩ : ∃ n : Nat, n = max (sizeG (palG W H xs).length) 2 := ⟨_, rfl⟩
 have h2 : 2 ≤ n := by omega
 have h9 : n < 9 := by omega
 have hpn : (2 : Nat) ^ sizeG (palG W H xs).length ≤ 2 ^ n := Nat.pow_le_pow_right (by omega) (by omega)
 have hfit : ∀ x, x ∈ idxG W H xs → 0 ≤ x ∧ x < ((2 ^ n : Nat) : Int) := fun x hx => by
  obtain ⟨j, hj, rfl⟩ := List.getElem_of_mem hx
  have h := idxG_lt hb (j := j) (by omega)
  rw [show (idxG W H xs).getD j 0 = (idxG W H xs)[j] by simp [List.getD, List.getElem?_eq_getElem hj]] at h
  omega
 have hf : gfitsB (idxG W H xs) ((n : Nat) : Int) = true := by
  rw [fitsB_iff, Int.toNat_natCast]
  intro i hi
  have h := hfit _ (List.getElem_mem hi)
  rw [show (idxG W H xs).getD i 0 = (idxG W H xs)[i] by simp [List.getD, List.getElem?_eq_getElem hi]]
  have e : ((2 : Int) ^ n) = ((2 ^ n : Nat) : Int) := by simp
  omega
 have hp := pow8 n h2 h9
 have hpk : gifPackR (idxG W H xs) ((n : Nat) : Int) = (packL (idxG W H xs) (2 ^ n) (n + 1) 0 false, 0) := by
  unfold gifPackR
  rw [if_neg (by omega), hf, Int.toNat_natCast]; rfl
 have hg : gfits W H = true := (good_len hb).2.2
 have hg := gfits_iff.1 hg
 have h0 : 0 ≤ W * H := Int.mul_nonneg (by omega) (by omega)
 refine ⟨n, hn, h2, h9, ?_, ?_, ?_⟩
 ·rw [hpk, ← hil]
  exact packL_len hp.2 (wide_gif h2 h9) (by omega) hfit
 ·rw [hpk]; exact packL_bs
 ·rw [hpk]
  unfold gifR lzR
  have hmx : max (W * H) 0 = W * H := by omega
  rw [if_neg (by omega), Int.toNat_natCast, hmx]
  refine Eq.trans (lz_pack hp.2 hp.1 (wide_gif h2 h9) (by omega) hfit h0) ?_
  exact fin_ok (by omega)
theorem subG_len (bs : List Int) : (subG bs).length ≤ 256 * ((bs.length + 254) / 255) := subU_len bs _
theorem encG_len {W H : Int} {xs : List Int} (hb : good W H xs = true) : 13 ≤ (encG W H xs).length ∧ (encG W H xs).length ≤ 400000 := by
 obtain ⟨n, hn, h2, h9, hl, -, -⟩ := gif_round hb
 have hs := size_range (palG W H xs).length palG_len
 have hp := two_pow8 hs.1 hs.2.1
 have hg := gfits_iff.1 (good_len hb).2.2
 have e : (encG W H xs).length = (headG W H xs).length + 2 + (subG (gifPackR (idxG W H xs) ((n : Nat) : Int)).1).length + 2 := by
  rw [hn]
  simp only [encG, List.length_append, List.length_cons, List.length_nil]
 have e2 : (headG W H xs).length = 6 + 2 + 2 + 3 + 3 * 2 ^ sizeG (palG W H xs).length + (if goneM xs then 8 else 0) + 5 + 2 + 2 := by
  simp only [headG, List.length_append, entG_len, two2, sig89, List.length_cons, List.length_nil]
  split <;> rfl
 have h3 := subG_len (gifPackR (idxG W H xs) ((n : Nat) : Int)).1
 rw [e, e2]
 split <;> omega
theorem enc_at {W H : Int} {xs : List Int} (hb : good W H xs = true) : ∃ n : Nat, n = max (sizeG (palG W H xs).length) 2 ∧ 2 ≤ n ∧ n < 9 ∧
  At (encG W H xs) 0 (sig89 ++ (two2 W ++ (two2 H ++ ([((127 + sizeG (palG W H xs).length : Nat) : Int), 0, 0] ++ (entG (palG W H xs) (2 ^ sizeG (palG W H xs).length) ++ ((if goneM xs then [33, 249, 4, 1, 0, 0, (((palG W H xs).length - 1 : Nat) : Int), 0] else []) ++ ([44] ++ ([0, 0] ++ ([0, 0] ++ (two2 W ++ (two2 H ++ ([0, ((n : Nat) : Int)] ++ (subG (gifPackR (idxG W H xs) ((n : Nat) : Int)).1 ++ [0])))))))))))))
  ∧ gifR (gifPackR (idxG W H xs) ((n : Nat) : Int)).1 ((n : Nat) : Int) (W * H) = (idxG W H xs, 0) := by
 obtain ⟨n, hn, h2, h9, hl, hbs, hr⟩ := gif_round hb
 refine ⟨n, hn, h2, h9, ⟨[59], ?_⟩, hr⟩
 rw [List.drop_zero, encG, headG, ← hn]
 simp only [List.append_assoc, List.cons_append, List.nil_append]
theorem decR_enc {W H most : Int} {xs : List Int} (hb : good W H xs = true) (hm : W * H ≤ most) : ∃ Y, decR (encG W H xs) most = (W, H, Y, 0) ∧ Y.length = 4 * (W * H).toNat ∧
  ∀ j, j < (W * H).toNat → colAt Y j = (if goneM xs = true ∧ (idxG W H xs).getD j 0 = (((palG W H xs).length - 1 : Nat) : Int) then zeroC else entC (palG W H xs) ((idxG W H xs).getD j 0).toNat) := by
 obtain ⟨n, hn, h2, h9, A, hr⟩ := enc_at hb
 have hlen := encG_len hb
 have hs := size_range (palG W H xs).length palG_len
 have hp := two_pow8 hs.1 hs.2.1
 obtain ⟨g1, g2, g3, g4, g5⟩ := gfits_iff.1 (good_len hb).2.2
 have p1 := palG_pos hb
 have hil := idxG_length hb
 have hilt := fun j => @idxG_lt W H xs hb j
 obtain ⟨Wn, rfl⟩ := Int.eq_ofNat_of_zero_le (show 0 ≤ W by omega)
 obtain ⟨Hn, rfl⟩ := Int.eq_ofNat_of_zero_le (show 0 ≤ H by omega)
 have eWH : ((Wn : Nat) : Int) * (Hn : Nat) = ((Wn * Hn : Nat) : Int) := by rw [Int.natCast_mul]
 rw [eWH] at hr hm g5 hil hilt ⊢
 rw [Int.toNat_natCast] at hil hilt ⊢
 generalize hS : (2 : Nat) ^ sizeG (palG Wn Hn xs).length = S at *
 generalize hB : encG Wn Hn xs = B at *
 have a0 := A.part
 have a1 := A.left
 have A := A.right
 have b1 := A.left
 have A := A.right
 have c1 := A.left
 have A := A.right
 have d1 := A.left
 have A := A.right
 have e1 := A.left
 have A := A.right
 have l6 : sig89.length = 6 := rfl
 have lt : ∀ v, (two2 v).length = 2 := fun v => rfl
 simp only [l6, lt, entG_len, Nat.zero_add, List.length_cons, List.length_nil] at b1 c1 d1 e1 A
 have hW := b1.two (by omega) (by omega)
 have hH := c1.two (by omega) (by omega)
 have h10 := d1.head.1
 have hE := e1.len (by rw [entG_len]; omega)
 rw [entG_len] at hE
 have hpal := ent_at _ e1
 have ht6 : B.take 6 = sig89 := by
  have := a1.part
  rwa [l6, part, List.drop_zero] at this
 have hhead : headOk B = true := by
  simp only [headOk, Bool.and_eq_true, Bool.or_eq_true, decide_eq_true_eq]
  rw [hW, hH, h10, hp.2.2]
  exact ⟨⟨⟨⟨hlen.1, .inr ht6⟩, g1⟩, g2⟩, .inr (by omega)⟩
 have n0 : ¬ 4194304 < B.length := by omega
 have n1 : ¬ headOk B = false := by rw [hhead]; decide
 have n2 : ¬ (((Wn : Nat) : Int) > 4096 ∨ ((Hn : Nat) : Int) > 4096 ∨ ((Wn : Nat) : Int) * (Hn : Nat) > most ∨ ((Wn : Nat) : Int) * (Hn : Nat) > 65536) := by
  rw [eWH]; omega
 have n3 : (128 : Int) ≤ ((127 + sizeG (palG Wn Hn xs).length : Nat) : Int) := by omega
 have pic : ∀ (k : Nat) (clear : Int), At B k ([44] ++ ([0, 0] ++ ([0, 0] ++ (two2 (Wn : Nat) ++ (two2 (Hn : Nat) ++ ([0, ((n : Nat) : Int)] ++ (subG (gifPackR (idxG Wn Hn xs) ((n : Nat) : Int)).1 ++ [0]))))))) →
   B.getD k 0 = 44 ∧ k < B.length ∧ ∃ Y, picM B (k + 1) Wn Hn ((List.range S).map (entC (palG Wn Hn xs))) clear (List.replicate (4 * (Wn * Hn)) 0) = some Y ∧ Y.length = 4 * (Wn * Hn) ∧
    ∀ j, j < Wn * Hn → colAt Y j = if (idxG Wn Hn xs).getD j 0 ≠ clear then entC (palG Wn Hn xs) ((idxG Wn Hn xs).getD j 0).toNat else zeroC := by
  intro k clear A
  have q0 := A.left.head
  refine ⟨q0.1, q0.2, ?_⟩
  have A := A.right
  have x1 := A.left
  have A := A.right
  have y1 := A.left
  have A := A.right
  have w1 := A.left
  have A := A.right
  have v1 := A.left
  have A := A.right
  have f1 := A.left
  have A := A.right
  simp only [lt, List.length_cons, List.length_nil, Nat.zero_add] at x1 y1 w1 v1 f1 A
  have hx := At.two (v := 0) x1 (by omega) (by omega)
  have hy := At.two (v := 0) y1 (by omega) (by omega)
  have hw := w1.two (by omega) (by omega)
  have hv := v1.two (by omega) (by omega)
  have hf := f1.head
  have hz := f1.tail.head
  obtain ⟨l, e, hl, hfl⟩ := blk_at _ _ _ (Nat.le_refl _) A
  unfold picM
  rw [if_neg (by omega), show k + 1 + 4 = k + 1 + 2 + 2 by omega, hx, hw, hy, show k + 1 + 6 = k + 1 + 2 + 2 + 2 by omega, hv, show k + 1 + 8 = k + 1 + 2 + 2 + 2 + 2 by omega, hf.1, if_neg (by omega), if_neg (by omega)]
  simp only
  rw [if_neg (show ¬ (128 : Int) ≤ 0 by omega), if_neg (show ¬ (128 : Int) ≤ 0 by omega), if_neg (by omega), show k + 1 + 9 + 1 = k + 1 + 2 + 2 + 2 + 2 + 2 by omega, hl]
  simp only
  rw [show k + 1 + 9 = k + 1 + 2 + 2 + 2 + 2 + 1 by omega, hz.1, hfl, eWH, hr]
  simp only
  rw [if_neg (fun hx => by
   rcases hx with hx | hx | hx
   ·exact hx rfl
   ·exact hx (by omega)
   ·have := congrArg List.length hx
    simp at this
    omega)]
  simp only [Int.toNat_natCast, Int.toNat_zero]
  have hrow : rowsM Hn (decide ((64 : Int) ≤ 0 % 128)) = upto Hn := rfl
  rw [hrow, hil]
  have hWp : 0 < Wn := by omega
  obtain ⟨Y, h1, h2, h3⟩ := paint_all (pal := (List.range S).map (entC (palG Wn Hn xs))) (clear := clear) (idx := idxG Wn Hn xs) hWp (fun j hj => by
   have := hilt j hj
   rw [List.length_map, List.length_range]
   omega) (Wn * Hn) 0 (List.replicate (4 * (Wn * Hn)) 0) (by omega) (List.length_replicate)
  refine ⟨Y, h1, h2, fun j hj => ?_⟩
  have hij := hilt j hj
  rw [h3]
  by_cases hc : (idxG Wn Hn xs).getD j 0 ≠ clear
  ·rw [if_pos ⟨by omega, hj, hc⟩, if_pos hc, List.getD_eq_getElem?_getD, List.getElem?_map, List.getElem?_range (by omega)]; rfl
  ·rw [if_neg (fun hx => hc hx.2.2), if_neg hc]
   unfold colAt
   have e : ∀ i, (List.replicate (4 * (Wn * Hn)) (0 : Int)).getD i 0 = 0 := fun i => by
    rw [List.getD_eq_getElem?_getD, List.getElem?_replicate]
    split <;> rfl
   simp only [e]; rfl
 have fin : ∀ (clear : Int) (Y : List Int), stepsF B Wn Hn ((List.range S).map (entC (palG Wn Hn xs))) (B.length + 1) (13 + 3 * S) (-1) = some Y → decR B most = (((Wn : Nat) : Int), ((Hn : Nat) : Int), Y, 0) := by
  intro clear Y h
  unfold decR
  rw [if_neg n0, if_neg n1, hW, hH, if_neg n2, h10, if_pos n3, if_pos n3, hp.2.2, hpal, Int.toNat_natCast, Int.toNat_natCast, h]
 by_cases hg : goneM xs = true
 ·rw [if_pos hg] at A
  obtain ⟨z0, z1⟩ := A.left.head
  have T := A.left.tail
  obtain ⟨z2, z3⟩ := T.head
  have T := T.tail
  obtain ⟨z4, z5⟩ := T.head
  have T := T.tail
  have T4 : At B (6 + 2 + 2 + 3 + 3 * S + 1 + 1 + 1) [1, 0, 0, (((palG Wn Hn xs).length - 1 : Nat) : Int)] := At.left (m := [0]) T
  have z6 := T4.part
  have T0 : At B (6 + 2 + 2 + 3 + 3 * S + 1 + 1 + 1 + 4) [0] := At.right (l := [1, 0, 0, (((palG Wn Hn xs).length - 1 : Nat) : Int)]) T
  obtain ⟨z7, z8⟩ := T0.head
  have A := A.right
  simp only [List.length_cons, List.length_nil, Nat.zero_add] at A z6
  obtain ⟨q1, q2, Y, q3, q4, q5⟩ := pic _ (((palG Wn Hn xs).length - 1 : Nat) : Int) A
  have hext : extM B (13 + 3 * S + 1) (-1) = some ((((palG Wn Hn xs).length - 1 : Nat) : Int), 13 + 3 * S + 8) := by
   unfold extM
   rw [if_neg (by omega)]
   have hbk : blkM B (13 + 3 * S + 1 + 1) = some ([[1, 0, 0, (((palG Wn Hn xs).length - 1 : Nat) : Int)]], 13 + 3 * S + 8) := by
    rw [show 13 + 3 * S + 1 + 1 = 6 + 2 + 2 + 3 + 3 * S + 1 + 1 by omega, blkM_step, if_neg (by omega), z4, if_neg (by decide), show ((4 : Int)).toNat = 4 from rfl, if_neg (by omega), blkM_step, if_neg (by omega), z7, if_pos rfl, z6]
   rw [hbk, show 13 + 3 * S + 1 = 6 + 2 + 2 + 3 + 3 * S + 1 by omega, z2]
   rfl
  refine ⟨Y, fin 0 Y ?_, q4, fun j hj => ?_⟩
  ·rw [stepsF, if_neg (by omega), show 13 + 3 * S = 6 + 2 + 2 + 3 + 3 * S by omega, z0, if_pos rfl, show 6 + 2 + 2 + 3 + 3 * S = 13 + 3 * S by omega, hext]
   obtain ⟨m, hm⟩ : ∃ m, B.length = m + 1 := ⟨B.length - 1, by omega⟩
   rw [hm]
   simp only
   rw [stepsF, show 13 + 3 * S + 8 = 6 + 2 + 2 + 3 + 3 * S + 8 by omega, if_neg (by omega), q1, if_neg (by decide), if_pos rfl]
   exact q3
  ·rw [q5 j hj]
   by_cases hc : (idxG Wn Hn xs).getD j 0 = (((palG Wn Hn xs).length - 1 : Nat) : Int)
   ·rw [if_neg (fun h => h hc), if_pos ⟨hg, hc⟩]
   ·rw [if_pos hc, if_neg (fun h => hc h.2)]
 ·rw [if_neg hg, List.nil_append] at A
  have A := At.right (l := []) A
  simp only [List.length_nil, Nat.add_zero] at A
  obtain ⟨q1, q2, Y, q3, q4, q5⟩ := pic _ (-1) A
  refine ⟨Y, fin 0 Y ?_, q4, fun j hj => ?_⟩
  ·rw [stepsF, if_neg (by omega), show 13 + 3 * S = 6 + 2 + 2 + 3 + 3 * S by omega, q1, if_neg (by decide), if_pos rfl]
   exact q3
  ·have := hilt j hj
   rw [q5 j hj, if_pos (by omega), if_neg (fun h => hg h.1)]
end Go.Proofs.YtiiaihiliimcoaaGreat
namespace Go.Proofs.YtiiaihiliimcoaaGreat
open Go Go.Vc Go.RowKit Go.Qn
set_option maxRecDepth 100000
set_option maxHeartbeats 8000000
section
variable {w u u' : World} {f : Nat → Nat} {L : List Nat} {l T : List Tg}
theorem St.loc {bs : List Nat} {X : World → Prop} (h : Ths w u f L l) (hb : ∀ b, b ∈ bs → b ∈ L ∨ u.heap.size ≤ b) (hX : ∀ u' f', Ths w u' f' bs l → X u') : ∀ u', Locl bs u u' → X u' := fun u' hL =>
 hX u' _ ((h.locl hL hb).mono (fun b hb => List.mem_append_left _ hb) fun t ht => ht)
theorem St.pix (h : Ths w u f L l) {c len cap : Nat} {p : Option Addr} {xs : List Int} (ht : (⟨c, p, len, cap, 1, px xs⟩ : Tg) ∈ l) : Img u p len xs ∧ len ≤ cap :=
 ⟨⟨(h.get ht).sl, by have := (h.get ht).len; rwa [px_length] at this⟩, (h.get ht).room⟩
theorem St.start (w : World) : Ths w w (fun _ => 0) [] [] := ⟨⟨Ext.refl w, fun _ h => by cases h⟩, fun _ h => by cases h⟩
theorem St.copy {b : Option Addr} {len cap : Nat} {W H : Int} {xs : List Int} {R : Ending → World → Prop} (h : Ths w u f L T) (hi : ImgOk w W H b len cap xs)
  (hR : ∀ p c u' f', Ext u u' → Ths w u' f' L (⟨2, p, len, c, 1, px xs⟩ :: T) → R (.returned (.agg #[i64 W, i64 H, .slice p len c])) u') : Calls P F.ref09_Copy #[.agg #[i64 W, i64 H, .slice b len cap]] u R :=
 copy_spec (hi.img.ext h.pal.ext) hi.sz fun p c u' hE ho => hR p c u' _ hE (h.new (i := 2) hE (by decide) ho)
theorem OwnS.new {base : Option Addr} {len cap sz : Nat} {vs : List Value} (h : OwnS (fun i => u.heap.size ≤ i) u' base len cap sz vs) : Ow u.heap.size u'.heap.size u' base len cap sz vs := h.own fun i hi hl => ⟨hi, hl⟩
theorem St.dec {i : Nat} {p : Option Addr} {len cap : Nat} {xs : List Int} {most : Int} {R : Ending → World → Prop} (h : Ths w u f L T) (hs : Sl u.heap.size u p (bytes xs)) (hl : len = xs.length) (hc : len ≤ cap) (hf : Bs xs) (hi : i ≠ 0)
  (hR : ∀ p c u' f', Ext u u' → Ths w u' f' L (⟨i, p, (decR xs most).2.2.1.length, c, 1, px (decR xs most).2.2.1⟩ :: T) → R (.returned (.tuple #[.agg #[i64 (decR xs most).1, i64 (decR xs most).2.1, .slice p (decR xs most).2.2.1.length c], i64 (decR xs most).2.2.2])) u') :
  Calls P F.gif_Decode #[.slice p len cap, i64 most] u R :=
 gDecode_spec hs hl hc hf fun p c u' hE ho => hR p c u' _ hE (h.new (i := i) hE hi (OwnS.new ho))
theorem St.enc {i c0 : Nat} {p : Option Addr} {len cap : Nat} {W H : Int} {xs : List Int} {R : Ending → World → Prop} (h : Ths w u f L T) (ht : (⟨c0, p, len, cap, 1, px xs⟩ : Tg) ∈ T) (hf : PxOk xs) (hi : i ≠ 0)
  (hR : ∀ q c u' f', Ext u u' → Ths w u' f' L (⟨i, q, (encR W H xs).1.length, c, 1, bytes (encR W H xs).1⟩ :: T) → R (.returned (.tuple #[.slice q (encR W H xs).1.length c, i64 (encR W H xs).2])) u') :
  Calls P F.gif_Encode #[.agg #[i64 W, i64 H, .slice p len cap]] u R :=
 Encode_spec (St.pix h ht).1 (St.pix h ht).2 hf fun p c u' hE ho => hR p c u' _ hE (h.new (i := i) hE hi (OwnS.new ho))
end
end Go.Proofs.YtiiaihiliimcoaaGreat
namespace Go.Proofs.YtiiaihiliimcoaaGreat
open Go Go.Vc
set_option maxRecDepth 100000
def vc_law15_GifBehind (x1 x2 : Int) (sa1 : Option Addr) (sl1 sc1 : Nat) (x3 : Int) (sa2 : Option Addr) (sl2 sc2 : Nat) (w : World) (R : Ending → World → Prop) : Prop :=
 ∀ k1 : Nat,
 w.heap.size ≤ k1 →
 ∀ w1 : World,
 Locl [k1] w w1 →
 Calls P F.law15_wakes #[] w1 fun e1 w2 =>
 ∃ c1 : Bool,
 (e1 = .returned (.bool c1)) ∧
 Keep [k1] w1 w2 ∧
 brB (!c1)
 (R (.returned (.bool false)) w2)
 (Calls P F.ref09_Copy #[.agg #[.int .i64 x1, .int .i64 x2, .slice sa1 sl1 sc1]] w2 fun e2 w3 =>
 ∃ (n1 n2 : Int) (p1 : Option Addr) (k2 k3 : Nat),
 (e2 = .returned (.agg #[.int .i64 n1, .int .i64 n2, .slice p1 k2 k3])) ∧
 Keep [k1] w2 w3 ∧
 Calls P F.gif_Encode #[.agg #[.int .i64 n1, .int .i64 n2, .slice p1 k2 k3]] w3 fun e3 w4 =>
 ∃ (p2 : Option Addr) (k4 k5 : Nat) (n3 : Int),
 (e3 = .returned (.tuple #[.slice p2 k4 k5, .int .i64 n3])) ∧
 Keep [k1] w3 w4 ∧
 brB (n3 != 0 || decide ((k4 : Int) < 2))
 (R (.returned (.bool (n3 == 6))) w4)
 (brB (decide ((k4 : Int) > IntKind.i64.wrap (4194304 - (sl2 : Int))))
 (R (.returned (.bool true)) w4)
 (∃ I1 : List Value → World → Prop,
 ((Calls P F.law15_own #[.slice p2 k4 k5] (w4.drew) fun e4 w5 =>
 ∃ (p3 : Option Addr) (k6 k7 : Nat),
 (e4 = .returned (.slice p3 k6 k7)) ∧
 (Keep ([k1]) (w4.drew) w5) ∧
 (Keeps (w4.drew) w5) ∧
 (Calls P F.gif_Decode #[.slice p3 k6 k7, .int .i64 (IntKind.i64.wrap (x1 * x2))] w5 fun e5 w6 =>
 ∃ (n4 n5 : Int) (p4 : Option Addr) (k8 k9 : Nat) (n6 : Int),
 (e5 = .returned (.tuple #[.agg #[.int .i64 n4, .int .i64 n5, .slice p4 k8 k9], .int .i64 n6])) ∧
 Keep [k1] w5 w6 ∧
 ∀ k10 : Nat,
 w6.heap.size ≤ k10 →
 ∀ w7 : World,
 Locl [k10, k1] w6 w7 →
 I1 [.int .i64 n6, .pointer (some { block := k10, off := 0 }), .int .i64 n4, .int .i64 n5, .slice p4 k8 k9] w7) ∧
 ∀ k11 : Nat,
 w5.heap.size ≤ k11 →
 ∀ w8 : World,
 Locl [k11, k1] w5 w8 →
 Calls P F.gif_Decode #[.slice p3 k6 k7, .int .i64 (IntKind.i64.wrap (x1 * x2))] w8 fun e6 w9 =>
 ∃ (n7 n8 : Int) (p5 : Option Addr) (k12 k13 : Nat) (n9 : Int),
 (e6 = .returned (.tuple #[.agg #[.int .i64 n7, .int .i64 n8, .slice p5 k12 k13], .int .i64 n9])) ∧
 Keep [k11, k1] w8 w9 ∧
 ∀ w10 : World,
 Locl [k11, k1] w9 w10 →
 I1 [.int .i64 n9, .pointer (some { block := k11, off := 0 }), .int .i64 n7, .int .i64 n8, .slice p5 k12 k13] w10) ∧
 ∀ k14 : Nat,
 (w4.drew.heap.size ≤ k14) →
 ∀ w11 : World,
 (Locl ([k14, k1]) (w4.drew) w11) →
 Calls P F.law15_own #[.slice p2 k4 k5] w11 fun e7 w12 =>
 ∃ (p6 : Option Addr) (k15 k16 : Nat),
 (e7 = .returned (.slice p6 k15 k16)) ∧
 Keep [k14, k1] w11 w12 ∧
 (Keeps w11 w12) ∧
 Calls P F.gif_Decode #[.slice p6 k15 k16, .int .i64 (IntKind.i64.wrap (x1 * x2))] w12 fun e8 w13 =>
 ∃ (n10 n11 : Int) (p7 : Option Addr) (k17 k18 : Nat) (n12 : Int),
 (e8 = .returned (.tuple #[.agg #[.int .i64 n10, .int .i64 n11, .slice p7 k17 k18], .int .i64 n12])) ∧
 Keep [k14, k1] w12 w13 ∧
 ∀ w14 : World,
 Locl [k14, k1] w13 w14 →
 I1 [.int .i64 n12, .pointer (some { block := k14, off := 0 }), .int .i64 n10, .int .i64 n11, .slice p7 k17 k18] w14) ∧
 ∀ (n13 : Int) (k19 : Nat) (n14 n15 : Int) (p8 : Option Addr) (k20 k21 : Nat) (w15 : World),
 (I1 [.int .i64 n13, .pointer (some { block := k19, off := 0 }), .int .i64 n14, .int .i64 n15, .slice p8 k20 k21] w15) →
 ∃ I2 : List Value → World → Prop,
 ((Calls P F.law15_own #[.slice p2 k4 k5] (w15.drew) fun e9 w16 =>
 ∃ (p9 : Option Addr) (k22 k23 : Nat),
 (e9 = .returned (.slice p9 k22 k23)) ∧
 (Keep ([k19, k1]) (w15.drew) w16) ∧
 (∃ l1 : List Value,
 (l1.length = sl2 * 1) ∧
 (oneAll l1 = true) ∧
 (CellsAre w16 sa2 l1) ∧
 appVC (w16) ([(9, k19, [.int .i64 n14, .int .i64 n15, .slice p8 k20 k21]), (3, k1, [.int .i64 x1, .int .i64 x2, .slice sa1 sl1 sc1])]) (p9) (k22) (k23) (sl2) (1) (1) (5) ([.int .u8 0]) (l1) fun p10 k24 k25 w17 =>
 (Calls P F.gif_Decode #[.slice p10 k24 k25, .int .i64 (IntKind.i64.wrap (x1 * x2))] w17 fun e10 w18 =>
 ∃ (n16 n17 : Int) (p11 : Option Addr) (k26 k27 : Nat) (n18 : Int),
 (e10 = .returned (.tuple #[.agg #[.int .i64 n16, .int .i64 n17, .slice p11 k26 k27], .int .i64 n18])) ∧
 Keep [k19, k1] w17 w18 ∧
 ∀ k28 : Nat,
 w18.heap.size ≤ k28 →
 ∀ w19 : World,
 Locl [k28, k19, k1] w18 w19 →
 I2 [.int .i64 n18, .pointer (some { block := k28, off := 0 }), .int .i64 n16, .int .i64 n17, .slice p11 k26 k27] w19) ∧
 ∀ k29 : Nat,
 w17.heap.size ≤ k29 →
 ∀ w20 : World,
 Locl [k29, k19, k1] w17 w20 →
 Calls P F.gif_Decode #[.slice p10 k24 k25, .int .i64 (IntKind.i64.wrap (x1 * x2))] w20 fun e11 w21 =>
 ∃ (n19 n20 : Int) (p12 : Option Addr) (k30 k31 : Nat) (n21 : Int),
 (e11 = .returned (.tuple #[.agg #[.int .i64 n19, .int .i64 n20, .slice p12 k30 k31], .int .i64 n21])) ∧
 Keep [k29, k19, k1] w20 w21 ∧
 ∀ w22 : World,
 Locl [k29, k19, k1] w21 w22 →
 I2 [.int .i64 n21, .pointer (some { block := k29, off := 0 }), .int .i64 n19, .int .i64 n20, .slice p12 k30 k31] w22) ∧
 ∀ k32 : Nat,
 w16.heap.size ≤ k32 →
 ∀ w23 : World,
 Locl [k32, k19, k1] w16 w23 →
 ∃ l2 : List Value,
 (l2.length = sl2 * 1) ∧
 (oneAll l2 = true) ∧
 (CellsAre w23 sa2 l2) ∧
 appVC (w23) ([(11, k32, [.int .i64 0, .int .i64 0, .slice none 0 0]), (9, k19, [.int .i64 n14, .int .i64 n15, .slice p8 k20 k21]), (3, k1, [.int .i64 x1, .int .i64 x2, .slice sa1 sl1 sc1])]) (p9) (k22) (k23) (sl2) (1) (1) (5) ([.int .u8 0]) (l2) fun p13 k33 k34 w24 =>
 Calls P F.gif_Decode #[.slice p13 k33 k34, .int .i64 (IntKind.i64.wrap (x1 * x2))] w24 fun e12 w25 =>
 ∃ (n22 n23 : Int) (p14 : Option Addr) (k35 k36 : Nat) (n24 : Int),
 (e12 = .returned (.tuple #[.agg #[.int .i64 n22, .int .i64 n23, .slice p14 k35 k36], .int .i64 n24])) ∧
 Keep [k32, k19, k1] w24 w25 ∧
 ∀ w26 : World,
 Locl [k32, k19, k1] w25 w26 →
 I2 [.int .i64 n24, .pointer (some { block := k32, off := 0 }), .int .i64 n22, .int .i64 n23, .slice p14 k35 k36] w26) ∧
 ∀ k37 : Nat,
 (w15.drew.heap.size ≤ k37) →
 ∀ w27 : World,
 (Locl ([k37, k19, k1]) (w15.drew) w27) →
 Calls P F.law15_own #[.slice p2 k4 k5] w27 fun e13 w28 =>
 ∃ (p15 : Option Addr) (k38 k39 : Nat),
 (e13 = .returned (.slice p15 k38 k39)) ∧
 Keep [k37, k19, k1] w27 w28 ∧
 ∃ l3 : List Value,
 (l3.length = sl2 * 1) ∧
 (oneAll l3 = true) ∧
 (CellsAre w28 sa2 l3) ∧
 appVC (w28) ([(11, k37, [.int .i64 0, .int .i64 0, .slice none 0 0]), (9, k19, [.int .i64 n14, .int .i64 n15, .slice p8 k20 k21]), (3, k1, [.int .i64 x1, .int .i64 x2, .slice sa1 sl1 sc1])]) (p15) (k38) (k39) (sl2) (1) (1) (5) ([.int .u8 0]) (l3) fun p16 k40 k41 w29 =>
 Calls P F.gif_Decode #[.slice p16 k40 k41, .int .i64 (IntKind.i64.wrap (x1 * x2))] w29 fun e14 w30 =>
 ∃ (n25 n26 : Int) (p17 : Option Addr) (k42 k43 : Nat) (n27 : Int),
 (e14 = .returned (.tuple #[.agg #[.int .i64 n25, .int .i64 n26, .slice p17 k42 k43], .int .i64 n27])) ∧
 Keep [k37, k19, k1] w29 w30 ∧
 ∀ w31 : World,
 Locl [k37, k19, k1] w30 w31 →
 I2 [.int .i64 n27, .pointer (some { block := k37, off := 0 }), .int .i64 n25, .int .i64 n26, .slice p17 k42 k43] w31) ∧
 ∀ (n28 : Int) (k44 : Nat) (n29 n30 : Int) (p18 : Option Addr) (k45 k46 : Nat) (w32 : World),
 (I2 [.int .i64 n28, .pointer (some { block := k44, off := 0 }), .int .i64 n29, .int .i64 n30, .slice p18 k45 k46] w32) →
 (IntKind.u64.wrap (k4 : Int) ≠ 0) ∧
 slcc (p2) (k5) (0) (IntKind.i64.wrap (divZ .rem .u64 (IntKind.u64.wrap x3) (IntKind.u64.wrap (k4 : Int)))) (1) fun p19 k47 k48 =>
 ∃ I3 : List Value → World → Prop,
 ((Calls P F.law15_own #[.slice p19 k47 k48] (w32.drew) fun e15 w33 =>
 ∃ (p20 : Option Addr) (k49 k50 : Nat),
 (e15 = .returned (.slice p20 k49 k50)) ∧
 (Keep ([k44, k19, k1]) (w32.drew) w33) ∧
 (Keeps (w32.drew) w33) ∧
 (Calls P F.gif_Decode #[.slice p20 k49 k50, .int .i64 (IntKind.i64.wrap (x1 * x2))] w33 fun e16 w34 =>
 ∃ (n31 n32 : Int) (p21 : Option Addr) (k51 k52 : Nat) (n33 : Int),
 (e16 = .returned (.tuple #[.agg #[.int .i64 n31, .int .i64 n32, .slice p21 k51 k52], .int .i64 n33])) ∧
 Keep [k44, k19, k1] w33 w34 ∧
 ∀ k53 : Nat,
 w34.heap.size ≤ k53 →
 ∀ w35 : World,
 Locl [k53, k44, k19, k1] w34 w35 →
 I3 [.int .i64 n33] w35) ∧
 ∀ k54 : Nat,
 w33.heap.size ≤ k54 →
 ∀ w36 : World,
 Locl [k54, k44, k19, k1] w33 w36 →
 Calls P F.gif_Decode #[.slice p20 k49 k50, .int .i64 (IntKind.i64.wrap (x1 * x2))] w36 fun e17 w37 =>
 ∃ (n34 n35 : Int) (p22 : Option Addr) (k55 k56 : Nat) (n36 : Int),
 (e17 = .returned (.tuple #[.agg #[.int .i64 n34, .int .i64 n35, .slice p22 k55 k56], .int .i64 n36])) ∧
 Keep [k54, k44, k19, k1] w36 w37 ∧
 ∀ w38 : World,
 Locl [k54, k44, k19, k1] w37 w38 →
 I3 [.int .i64 n36] w38) ∧
 ∀ k57 : Nat,
 (w32.drew.heap.size ≤ k57) →
 ∀ w39 : World,
 (Locl ([k57, k44, k19, k1]) (w32.drew) w39) →
 Calls P F.law15_own #[.slice p19 k47 k48] w39 fun e18 w40 =>
 ∃ (p23 : Option Addr) (k58 k59 : Nat),
 (e18 = .returned (.slice p23 k58 k59)) ∧
 Keep [k57, k44, k19, k1] w39 w40 ∧
 (Keeps w39 w40) ∧
 Calls P F.gif_Decode #[.slice p23 k58 k59, .int .i64 (IntKind.i64.wrap (x1 * x2))] w40 fun e19 w41 =>
 ∃ (n37 n38 : Int) (p24 : Option Addr) (k60 k61 : Nat) (n39 : Int),
 (e19 = .returned (.tuple #[.agg #[.int .i64 n37, .int .i64 n38, .slice p24 k60 k61], .int .i64 n39])) ∧
 Keep [k57, k44, k19, k1] w40 w41 ∧
 ∀ w42 : World,
 Locl [k57, k44, k19, k1] w41 w42 →
 I3 [.int .i64 n39] w42) ∧
 ∀ (n40 : Int) (w43 : World),
 (I3 [.int .i64 n40] w43) →
 Calls P F.ref15_Decode #[.slice p19 k47 k48, .int .i64 (IntKind.i64.wrap (x1 * x2))] w43 fun e20 w44 =>
 ∃ (n41 n42 : Int) (p25 : Option Addr) (k62 k63 : Nat) (n43 : Int),
 (e20 = .returned (.tuple #[.agg #[.int .i64 n41, .int .i64 n42, .slice p25 k62 k63], .int .i64 n43])) ∧
 Keep [k44, k19, k1] w43 w44 ∧
 ∀ k64 : Nat,
 w44.heap.size ≤ k64 →
 brB (n13 == 0 && n28 == 0)
 (∀ w45 : World,
 Locl [k64, k44, k19, k1] w44 w45 →
 Calls P F.ref09_Same #[.agg #[.int .i64 n14, .int .i64 n15, .slice p8 k20 k21], .agg #[.int .i64 n29, .int .i64 n30, .slice p18 k45 k46]] w45 fun e21 w46 =>
 ∃ c2 : Bool,
 (e21 = .returned (.bool c2)) ∧
 Keep [k64, k44, k19, k1] w45 w46 ∧
 R (.returned (.bool (c2 && n40 == n43))) w46)
 (∀ w47 : World,
 Locl [k64, k44, k19, k1] w44 w47 →
 R (.returned (.bool false)) w47))))
theorem calls_law15_GifBehind (x1 x2 : Int) (sa1 : Option Addr) (sl1 sc1 : Nat) (x3 : Int) (sa2 : Option Addr) (sl2 sc2 : Nat) (w : World) (R : Ending → World → Prop) (h : vc_law15_GifBehind x1 x2 sa1 sl1 sc1 x3 sa2 sl2 sc2 w R) : Calls P F.law15_GifBehind #[.agg #[.int .i64 x1, .int .i64 x2, .slice sa1 sl1 sc1], .int .i64 x3, .slice sa2 sl2 sc2] w R :=
  calls_of_vc (ac := ac_law15_GifBehind) mixed Tryz.func4 (by kernel_rfl) (cast (by unfold vc_law15_GifBehind FnVc; kernel_rfl) h)
end Go.Proofs.YtiiaihiliimcoaaGreat
namespace Go.Proofs.YtiiaihiliimcoaaGreat
open Go Go.Vc Go.RowKit Go.Qn
set_option maxRecDepth 100000
set_option maxHeartbeats 8000000
section
variable {w u u' : World} {f : Nat → Nat} {L : List Nat} {l T : List Tg}
theorem St.ownB {i : Nat} {b : Option Addr} {len cap : Nat} {xs : List Int} {R : Ending → World → Prop} (h : Ths w u f L T) (hs : Sl u.heap.size u b (bytes xs)) (hl : len = xs.length) (hsz : len ≤ 2 ^ 46) (hi : i ≠ 0)
  (hR : ∀ p c u' f', Ext u u' → Ths w u' f' L (⟨i, p, len, c, 1, bytes xs⟩ :: T) → R (.returned (.slice p len c)) u') : Calls P F.law15_own #[.slice b len cap] u R :=
 bown_spec hs hl (by omega) fun p c u' hE ho => hR p c u' _ hE (h.new (i := i) hE hi ho)
theorem St.decE {i : Nat} {p : Option Addr} {len cap : Nat} {xs : List Int} {most : Int} {D : Int × Int × List Int × Int} {R : Ending → World → Prop} (h : Ths w u f L T) (hD : decR xs most = D) (hs : Sl u.heap.size u p (bytes xs)) (hl : len = xs.length) (hc : len ≤ cap) (hf : Bs xs) (hi : i ≠ 0)
  (hR : ∀ p c u' f', Ext u u' → Ths w u' f' L (⟨i, p, D.2.2.1.length, c, 1, px D.2.2.1⟩ :: T) → R (.returned (.tuple #[.agg #[i64 D.1, i64 D.2.1, .slice p D.2.2.1.length c], i64 D.2.2.2])) u') :
  Calls P F.gif_Decode #[.slice p len cap, i64 most] u R := by
 subst hD
 exact St.dec h hs hl hc hf hi hR
theorem St.sl (h : Ths w u f L T) {c len cap sz : Nat} {p : Option Addr} {vs : List Value} (ht : (⟨c, p, len, cap, sz, vs⟩ : Tg) ∈ T) : Sl u.heap.size u p vs := (h.get ht).sl
theorem St.rm (h : Ths w u f L T) {c len cap sz : Nat} {p : Option Addr} {vs : List Value} (ht : (⟨c, p, len, cap, sz, vs⟩ : Tg) ∈ T) : len ≤ cap := (h.get ht).room
end
theorem u64_id {x : Int} (h0 : 0 ≤ x) (h1 : x ≤ 2 ^ 60) : IntKind.u64.wrap x = x := by
 rw [IntKind.wrap]; simp [IntKind.signed, IntKind.bits]; omega
theorem wr64_nn (x : Int) : 0 ≤ IntKind.u64.wrap x := by
 rw [IntKind.wrap]; simp [IntKind.signed, IntKind.bits]; omega
theorem cut_at {x : Int} {n : Nat} (h0 : 0 < n) (h1 : n ≤ 400000) : ∃ m : Nat, m < n ∧ IntKind.i64.wrap (divZ .rem .u64 (IntKind.u64.wrap x) (IntKind.u64.wrap (n : Int))) = (m : Int) := by
 rw [u64_id (x := (n : Int)) (by omega) (by omega)]
 show ∃ m : Nat, m < n ∧ IntKind.i64.wrap ((IntKind.u64.wrap x).tmod n) = m
 have ha := wr64_nn x
 rw [Int.tmod_eq_emod_of_nonneg ha]
 have r0 := Int.emod_nonneg (IntKind.u64.wrap x) (b := (n : Int)) (by omega)
 have r1 := Int.emod_lt_of_pos (IntKind.u64.wrap x) (b := (n : Int)) (by omega)
 refine ⟨(IntKind.u64.wrap x % n).toNat, by omega, ?_⟩
 rw [w64 (by omega) (by omega)]; omega
theorem bs_take {l : List Int} (h : Bs l) (n : Nat) : Bs (l.take n) := fun x hx => h x (List.mem_of_mem_take hx)
theorem bs_app {l m : List Int} (h : Bs l) (g : Bs m) : Bs (l ++ m) := fun x hx => (List.mem_append.1 hx).elim (h x) (g x)
theorem entG_bs (pal : List Co) (n : Nat) : Bs (entG pal n) := by
 intro x hx
 unfold entG at hx
 obtain ⟨l, hl, hx⟩ := List.mem_flatten.1 hx
 obtain ⟨i, -, rfl⟩ := List.mem_map.1 hl
 simp only [List.mem_cons, List.not_mem_nil, or_false] at hx
 rcases hx with rfl | rfl | rfl <;> omega
theorem two_bs (v : Int) : Bs (two2 v) := by
 intro x hx
 simp only [two2, List.mem_cons, List.not_mem_nil, or_false] at hx
 rcases hx with rfl | rfl <;> omega
theorem subU_bs {bs : List Int} (h : Bs bs) (n : Nat) : Bs (subU bs n) := by
 intro x hx
 unfold subU at hx
 obtain ⟨l, hl, hx⟩ := List.mem_flatten.1 hx
 obtain ⟨i, -, rfl⟩ := List.mem_map.1 hl
 rcases List.mem_cons.1 hx with rfl | hx
 ·omega
 ·exact part_bs h _ _ x hx
theorem encG_bs {W H : Int} {xs : List Int} (hb : good W H xs = true) : Bs (encG W H xs) := by
 obtain ⟨n, hn, h2, h9, hl, hbs, hr⟩ := gif_round hb
 have hs := size_range (palG W H xs).length palG_len
 have hpl := @palG_len W H xs
 have lit : ∀ l : List Int, l.all (fun n => decide (0 ≤ n ∧ n ≤ 255)) = true → Bs l := fun l h => bs_of h
 unfold encG headG
 rw [← hn]
 refine bs_app (bs_app (bs_app (bs_app (bs_app (bs_app (bs_app (bs_app (bs_app (bs_app (bs_app (lit _ (by decide)) (two_bs W)) (two_bs H)) ?_) (entG_bs _ _)) ?_) (lit _ (by decide))) (two_bs W)) (two_bs H)) ?_) (subU_bs hbs _)) (lit _ (by decide))
 ·intro x hx
  simp only [List.mem_cons, List.not_mem_nil, or_false] at hx
  rcases hx with rfl | rfl | rfl <;> omega
 ·split
  ·intro x hx
   simp only [List.mem_cons, List.not_mem_nil, or_false] at hx
   rcases hx with rfl | rfl | rfl | rfl | rfl | rfl | rfl | rfl <;> omega
  ·exact bs_nil
 ·intro x hx
  simp only [List.mem_cons, List.not_mem_nil, or_false] at hx
  rcases hx with rfl | rfl <;> omega
theorem behind_walk {W : World} {wd ht : Int} {b : Option Addr} {len cap : Nat} {ys : List Int} {at_ : Int} {b' : Option Addr} {len' cap' : Nat} {ms : List Int} {R : Ending → World → Prop} (g : ImgOk W wd ht b len cap ys) (wa : (Lit.int .i64 at_).wf = true) (fm : BytesOk W b' len' cap' ms)
  (hR : ∀ w', Ext W w' → R (.returned (.bool true)) w') : Calls P F.law15_GifBehind #[.agg #[i64 wd, i64 ht, .slice b len cap], i64 at_, .slice b' len' cap'] W R := by
 have hz' := g.sz
 have hml := fm.long
 have hmz := fm.sz
 refine calls_law15_GifBehind _ _ _ _ _ _ _ _ _ _ _ ?_
 intro k1 hk1
 refine St.loc (St.start W) (by simpa using hk1) fun w1 f1 H1 => ?_
 refine wakes_spec fun w2 hE2 => ⟨_, rfl, hE2.keep _, brB_f rfl ?_⟩
 have H2 := H1.step hE2 0
 refine St.copy H2 g fun p1 c1 w3 f3 hE3 H3 => ⟨_, _, _, _, _, rfl, hE3.keep _, ?_⟩
 refine St.enc H3 (c0 := 2) (by simp) g.fit (i := 1) (by decide) fun p2 c2 w4 f4 hE4 H4 => ⟨_, _, _, _, rfl, hE4.keep _, ?_⟩
 by_cases hb : good wd ht ys = true
 rotate_left
 ·have e : encR wd ht ys = ([], 6) := by unfold encR; rw [if_neg hb]
  rw [e]
  exact brB_t rfl (to_bool (hR w4 H4.pal.ext) rfl)
 have e : encR wd ht ys = (encG wd ht ys, 0) := by unfold encR; rw [if_pos hb]
 rw [e] at H4 ⊢
 simp only at H4 ⊢
 have hlen := encG_len hb
 have hBs := encG_bs hb
 have hgf := gfits_iff.1 (good_len hb).2.2
 have hM : IntKind.i64.wrap (wd * ht) = wd * ht := wrapmul hgf.1 hgf.2.1 hgf.2.2.1 hgf.2.2.2.1
 rw [hM]
 obtain ⟨Y, hD, -, -⟩ := decR_enc (most := wd * ht) hb (Int.le_refl _)
 have happ := fun h => decR_app (m := ms) (most := wd * ht) (b := encG wd ht ys) (by rw [hD]) h
 have hD0 : (decR (encG wd ht ys) (wd * ht)).2.2.2 = 0 := by rw [hD]
 have hDl := decR_len hBs (wd * ht)
 clear hD Y
 generalize encG wd ht ys = B at *
 generalize wd * ht = M at *
 refine brB_f (by simp; omega) ?_
 rw [w64 (x := 4194304 - (len' : Int)) (by omega) (by omega)]
 refine brB_i (fun hbig => to_bool (hR w4 H4.pal.ext) rfl) fun hfit => ?_
 have hfit : B.length + len' ≤ 4194304 := by have := of_decide_eq_false hfit; omega
 have happ := happ (by rw [List.length_append]; omega)
 have hAbs : Bs (B ++ ms) := bs_app hBs fm.fit
 have hal : B.length + len' = (B ++ ms).length := by rw [List.length_append]; omega
 generalize hDe : decR B M = D at *
 have H : Ths W w4.drew f4 [k1] [⟨1, p2, B.length, c2, 1, bytes B⟩] := (H4.mono (fun b hb => hb) (by simp)).dr
 have sd : w4.drew.heap.size = w4.heap.size := rfl
 refine ⟨fun vs u => ∃ k q d f, vs = [i64 D.2.2.2, .pointer (some ⟨k, 0, none⟩), i64 D.1, i64 D.2.1, .slice q D.2.2.1.length d] ∧ Ths W u f [k, k1] [⟨3, q, D.2.2.1.length, d, 1, px D.2.2.1⟩, ⟨1, p2, B.length, c2, 1, bytes B⟩], ?_, ?_⟩
 ·rw [← hDe]
  repeat' first
   | (refine St.loc (by assumption) (by simp <;> omega) fun u f H => ?_)
   | (refine St.ownB H (St.sl H (c := 1) (p := p2) (len := B.length) (cap := c2) (sz := 1) (vs := bytes B) (by simp)) rfl (by omega) (i := 2) (by decide) fun p c u f hE H => ⟨_, _, _, rfl, hE.keep _, ?_⟩)
   | (refine And.intro (Ext.keeps (by assumption)) ?_)
   | (refine And.intro ?_ ?_)
   | (refine St.dec H (St.sl H (List.Mem.head _)) rfl (St.rm H (List.Mem.head _)) hBs (i := 3) (by decide) fun p c u f hE H => ⟨_, _, _, _, _, _, rfl, hE.keep _, ?_⟩)
   | (exact ⟨_, _, _, _, rfl, Ths.mono (by assumption) (by simp) (by simp)⟩)
   | (intro k hk)
 intro n13 k19 n14 n15 p8 k20 k21 w15 hI
 obtain ⟨k, q, d, f15, hv, H15⟩ := hI
 simp only [List.cons.injEq, Value.slice.injEq, Value.pointer.injEq, Option.some.injEq, Addr.mk.injEq, Value.int.injEq, true_and, and_true] at hv
 obtain ⟨rfl, rfl, rfl, rfl, rfl, rfl, rfl⟩ := hv
 have H := H15.dr
 have sd : w15.drew.heap.size = w15.heap.size := rfl
 refine ⟨fun vs u => ∃ k q d f, vs = [i64 D.2.2.2, .pointer (some ⟨k, 0, none⟩), i64 D.1, i64 D.2.1, .slice q D.2.2.1.length d] ∧ Ths W u f [k, k19, k1] [⟨4, q, D.2.2.1.length, d, 1, px D.2.2.1⟩, ⟨3, p8, D.2.2.1.length, k21, 1, px D.2.2.1⟩, ⟨1, p2, B.length, c2, 1, bytes B⟩], ?_, ?_⟩
 ·repeat' first
   | (refine St.loc (by assumption) (by simp <;> omega) fun u f H => ?_)
   | (refine St.ownB H (St.sl H (c := 1) (p := p2) (len := B.length) (cap := c2) (sz := 1) (vs := bytes B) (by simp)) rfl (by omega) (i := 2) (by decide) fun p c u f hE H => ⟨_, _, _, rfl, hE.keep _, ?_⟩)
   | (refine ⟨bytes ms, by rw [bytes_length]; omega, bytes_oneAll _, (fm.sl.ext H.pal.ext).cells, Ths.app H (by simp) (by simp [blocks]) rfl (by rw [bytes_length]; show ms.length = len' * 1; omega) (by show (B.length + len') * 1 ≤ _; omega) (by show B.length + len' < _; omega) fun p c u f H => ?_⟩)
   | (refine And.intro ?_ ?_)
   | (refine St.decE H (xs := B ++ ms) happ (by rw [bytes_append]; exact St.sl H (List.Mem.head _)) hal (St.rm H (List.Mem.head _)) hAbs (i := 4) (by decide) fun p c u f hE H => ⟨_, _, _, _, _, _, rfl, hE.keep _, ?_⟩)
   | (exact ⟨_, _, _, _, rfl, Ths.mono (by assumption) (by simp) (by simp)⟩)
   | (intro k hk)
 intro n28 k44 n29 n30 p18 k45 k46 w32 hI
 obtain ⟨k, q, d, f32, hv, H32⟩ := hI
 simp only [List.cons.injEq, Value.slice.injEq, Value.pointer.injEq, Option.some.injEq, Addr.mk.injEq, Value.int.injEq, true_and, and_true] at hv
 obtain ⟨rfl, rfl, rfl, rfl, rfl, rfl, rfl⟩ := hv
 obtain ⟨m, hm, em⟩ := cut_at (x := at_) (n := B.length) (by omega) (by omega)
 refine ⟨by rw [u64_id (by omega) (by omega)]; omega, ?_⟩
 rw [em]
 have hroom : B.length ≤ c2 := St.rm H32 (c := 1) (p := p2) (sz := 1) (vs := bytes B) (by simp)
 refine ⟨by omega, by omega, by omega, ?_⟩
 rw [show (0 : Int).toNat = 0 from rfl, slcBase0, Int.toNat_natCast, Nat.sub_zero, Nat.sub_zero]
 have hCs := bs_take hBs m
 have hCl : m = (B.take m).length := by rw [List.length_take]; omega
 have hpre : bytes (B.take m) <+: bytes B := by unfold bytes; rw [List.map_take]; exact List.take_prefix _ _
 have H := H32.dr
 have sd : w32.drew.heap.size = w32.heap.size := rfl
 refine ⟨fun vs u => ∃ f, vs = [i64 (decR (B.take m) M).2.2.2] ∧ Ths W u f [k44, k19, k1] [⟨4, p18, D.2.2.1.length, k46, 1, px D.2.2.1⟩, ⟨3, p8, D.2.2.1.length, k21, 1, px D.2.2.1⟩, ⟨1, p2, B.length, c2, 1, bytes B⟩], ?_, ?_⟩
 ·repeat' first
   | (refine St.loc (by assumption) (by simp <;> omega) fun u f H => ?_)
   | (refine St.ownB H (xs := B.take m) ((St.sl H (c := 1) (p := p2) (len := B.length) (cap := c2) (sz := 1) (vs := bytes B) (by simp)).pre hpre) hCl (by omega) (i := 2) (by decide) fun p c u f hE H => ⟨_, _, _, rfl, hE.keep _, ?_⟩)
   | (refine And.intro (Ext.keeps (by assumption)) ?_)
   | (refine And.intro ?_ ?_)
   | (refine St.dec H (St.sl H (List.Mem.head _)) hCl (St.rm H (List.Mem.head _)) hCs (i := 5) (by decide) fun p c u f hE H => ⟨_, _, _, _, _, _, rfl, hE.keep _, ?_⟩)
   | (exact ⟨_, rfl, Ths.mono (by assumption) (by simp) (by simp)⟩)
   | (intro k hk)
 intro n40 w43 hI
 obtain ⟨f43, hv, H43⟩ := hI
 obtain rfl : n40 = (decR (B.take m) M).2.2.2 := by simpa using hv
 refine rDecode_spec ((St.sl H43 (c := 1) (p := p2) (len := B.length) (cap := c2) (sz := 1) (vs := bytes B) (by simp)).pre hpre) hCl (by omega) hCs fun p7 c7 w44 hE44 ho44 => ⟨_, _, _, _, _, _, rfl, hE44.keep _, fun k64 hk64 => ?_⟩
 have H44 := H43.step hE44 0
 refine brB_t (by rw [hD0]; rfl) ?_
 refine St.loc H44 (by simp <;> omega) fun w45 f45 H45 => ?_
 obtain ⟨i45, -⟩ := St.pix H45 (c := 3) (p := p8) (xs := D.2.2.1) (len := D.2.2.1.length) (cap := k21) (by simp)
 obtain ⟨j45, -⟩ := St.pix H45 (c := 4) (p := p18) (xs := D.2.2.1) (len := D.2.2.1.length) (cap := k46) (by simp)
 refine refSame_spec i45 j45 (by omega) fun w46 hE46 => ⟨_, rfl, hE46.keep _, to_bool (hR w46 (H45.pal.ext.trans hE46)) (by simp [same])⟩
end Go.Proofs.YtiiaihiliimcoaaGreat
