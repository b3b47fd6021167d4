/- The walk of BitsReads. -/
import Derived.Test.YtlmnooodinfifaaBitsL2
import Derived.Test.YtlmnooodinfifaaBits4
namespace Go.Proofs.Ytlmnooodinfifaa
open Go Go.Vc Go.RowKit
set_option maxRecDepth 100000
set_option linter.unusedVariables false
set_option linter.unusedSimpArgs false

/-- a reader at work, its bytes in blocks from N on -/
structure RdJ (W w : World) (N rb : Nat) (xs : List Int) (k : Int) (up : Bool) : Prop where
  ext : Ext W w
  rd : RdAt w (some ⟨rb, 0, none⟩) rb (fun i => N ≤ i ∧ i < rb) xs k up
  lo : W.heap.size ≤ N ∧ N ≤ rb ∧ rb < w.heap.size
variable {W w w' : World} {N rb : Nat} {xs : List Int} {k k' : Int} {up : Bool}
theorem RdJ.step (h : RdJ W w N rb xs k up) (hE : Ext w w') : RdJ W w' N rb xs k up := ⟨h.ext.trans hE, h.rd.ext hE, by have := h.lo; have := hE.size; omega⟩
theorem RdJ.locl {ls : List Nat} (h : RdJ W w N rb xs k up) (hL : Locl ls w w') (hl : ∀ b, b ∈ ls → rb < b) : RdJ W w' N rb xs k up := by
  have hlo := h.lo
  have hs := hL.size
  exact ⟨h.ext.step hL.chg fun i hi => by have := hl i hi; omega, h.rd.chg hL.chg (fun hm => by have := hl _ hm; omega) (fun b hb _ hm => by have := hl _ hm; omega), by omega⟩
theorem RdJ.turn (h : RdJ W w N rb xs k up) (hc : Chg (· = rb) w w') (hr : RdAt w' (some ⟨rb, 0, none⟩) rb (fun i => N ≤ i ∧ i < rb) xs k' up) : RdJ W w' N rb xs k' up := by
  have hlo := h.lo
  have hs := hc.size
  exact ⟨h.ext.step hc fun i hi => by have hi : i = rb := hi; omega, hr, by omega⟩
/-- what a call of Take answers, and where it leaves the reader -/
def tkE (xs : List Int) (k n : Int) : Int := if n < 0 ∨ n > 32 then 2 else if n > 8 * xs.length - k then 5 else 0
def tkV (xs : List Int) (up : Bool) (k n : Int) : Int := if tkE xs k n = 0 then takeV xs up k.toNat n.toNat else 0
def tkK (xs : List Int) (k n : Int) : Int := if tkE xs k n = 0 then k + n else k
theorem RdJ.take {R : Ending → World → Prop} {n : Int} (h : RdJ W w N rb xs k up)
    (hR : ∀ w', Chg (· = rb) w w' → RdJ W w' N rb xs (tkK xs k n) up → R (.returned (.tuple #[.int .u32 (tkV xs up k n), i64 (tkE xs k n)])) w') : Calls P F.bits_Reader_Take #[.pointer (some ⟨rb, 0, none⟩), i64 n] w R := by
  refine Take_spec h.rd (fun hn => ?_) (fun n0 n1 hn => ?_) fun n0 n1 hn w7 hc7 hr7 => ?_
  · have e : tkE xs k n = 2 := by unfold tkE; rw [if_pos hn]
    have := hR w (Chg.refl _ _) (by unfold tkK; rw [e]; exact h)
    unfold tkV at this; rwa [e] at this
  · have e : tkE xs k n = 5 := by unfold tkE; rw [if_neg (by omega), if_pos hn]
    have := hR w.drew (Chg.refl _ _).drew (by unfold tkK; rw [e]; exact h.step (Ext.refl _).drew)
    unfold tkV at this; rwa [e] at this
  · have e : tkE xs k n = 0 := by unfold tkE; rw [if_neg (by omega), if_neg (by omega)]
    have := hR w7 hc7 (by unfold tkK; rw [e]; exact h.turn hc7 hr7)
    unfold tkV at this; rwa [e] at this
theorem refTake_all {M : Nat} {base : Option Addr} {len cap : Nat} {n : Int} {R : Ending → World → Prop} (h : Sl M w base (bytes xs)) (hl : len = xs.length) (hf : Bs xs) (hsz : len ≤ 2 ^ 47) (h0 : 0 ≤ k) (hk : k ≤ 8 * xs.length)
    (hR : ∀ w', Ext w w' → R (.returned (.tuple #[.agg #[.slice base len cap, .bool up, i64 (tkK xs k n)], .int .u32 (tkV xs up k n), i64 (tkE xs k n)])) w') : Calls P F.ref01_Take #[.agg #[.slice base len cap, .bool up, i64 k], i64 n] w R := by
  refine refTake_spec h hl hf hsz h0 (by omega) (fun hn w' hE => ?_) (fun n0 n1 hn w' hE => ?_) fun n0 n1 hn w' hE => ?_
  · have e : tkE xs k n = 2 := by unfold tkE; rw [if_pos hn]
    have := hR w' hE
    unfold tkV tkK at this; rwa [e] at this
  · have e : tkE xs k n = 5 := by unfold tkE; rw [if_neg (by omega), if_pos hn]
    have := hR w' hE
    unfold tkV tkK at this; rwa [e] at this
  · have e : tkE xs k n = 0 := by unfold tkE; rw [if_neg (by omega), if_neg (by omega)]
    have := hR w' hE
    unfold tkV tkK at this; rwa [e] at this
/-- what a call of Bytes answers -/
def byE (xs : List Int) (k n : Int) : Int := if n < 0 then 2 else if n > xs.length - (k + 7) / 8 then 5 else 0
def byL (xs : List Int) (k n : Int) : List Int := if byE xs k n = 0 then part xs ((k + 7) / 8).toNat n.toNat else []
def byK (xs : List Int) (k n : Int) : Int := if byE xs k n = 0 then 8 * ((k + 7) / 8 + n) else k
theorem RdJ.bytes {R : Ending → World → Prop} {n : Int} (h : RdJ W w N rb xs k up) (hn : n ≤ 9223372036854775807)
    (hR : ∀ p c w', Chg (· = rb) w w' → RdJ W w' N rb xs (byK xs k n) up → Ow w.heap.size w'.heap.size w' p (byL xs k n).length c 1 (bytes (byL xs k n)) → R (.returned (.tuple #[.slice p (byL xs k n).length c, i64 (byE xs k n)])) w') :
    Calls P F.bits_Reader_Bytes #[.pointer (some ⟨rb, 0, none⟩), i64 n] w R := by
  have hlo := h.rd.lo
  refine Bytes_spec h.rd (fun hn => ?_) (fun n0 hn => ?_) (fun n0 hn p c w7 hc7 hr7 ho7 => ?_) hn
  · have e : byE xs k n = 2 := by unfold byE; rw [if_pos hn]
    have := hR none 0 w (Chg.refl _ _) (by unfold byK; rw [e]; exact h) (by unfold byL; rw [e]; exact Ow.nil _ _ _ _ _)
    unfold byL at this; rwa [e] at this
  · have e : byE xs k n = 5 := by unfold byE; rw [if_neg (by omega), if_pos hn]
    have := hR none 0 w.drew (Chg.refl _ _).drew (by unfold byK; rw [e]; exact h.step (Ext.refl _).drew) (by unfold byL; rw [e]; exact Ow.nil _ _ _ _ _)
    unfold byL at this; rwa [e] at this
  · have e : byE xs k n = 0 := by unfold byE; rw [if_neg (by omega), if_neg (by omega)]
    have hpl : (part xs ((k + 7) / 8).toNat n.toNat).length = n.toNat := part_length (by omega)
    have e2 : byL xs k n = part xs ((k + 7) / 8).toNat n.toNat := by unfold byL; rw [if_pos e]
    have := hR p c w7 hc7 (by unfold byK; rw [if_pos e]; exact h.turn hc7 hr7) (by rw [e2, hpl]; exact ho7)
    rw [e2, hpl, e] at this; exact this
theorem refBytes_all {M : Nat} {base : Option Addr} {len cap : Nat} {n : Int} {R : Ending → World → Prop} (h : Sl M w base (bytes xs)) (hl : len = xs.length) (hc : len ≤ cap) (hsz : len ≤ 2 ^ 47) (h0 : 0 ≤ k) (hk : k ≤ 8 * xs.length) (hn : n ≤ 9223372036854775807)
    (hR : ∀ p c w', Ext w w' → OwnS (fun i => w.heap.size ≤ i) w' p (byL xs k n).length c 1 (bytes (byL xs k n)) → R (.returned (.tuple #[.agg #[.slice base len cap, .bool up, i64 (byK xs k n)], .slice p (byL xs k n).length c, i64 (byE xs k n)])) w') :
    Calls P F.ref01_Bytes #[.agg #[.slice base len cap, .bool up, i64 k], i64 n] w R := by
  refine refBytes_spec h hl hc hsz h0 (by omega) hn (fun hn w' hE => ?_) (fun n0 hn w' hE => ?_) fun n0 hn p c w' hE ho => ?_
  · have e : byE xs k n = 2 := by unfold byE; rw [if_pos hn]
    have := hR none 0 w' hE (by unfold byL; rw [e]; exact OwnS.nil _ _ _ _)
    unfold byL byK at this; rwa [e] at this
  · have e : byE xs k n = 5 := by unfold byE; rw [if_neg (by omega), if_pos hn]
    have := hR none 0 w' hE (by unfold byL; rw [e]; exact OwnS.nil _ _ _ _)
    unfold byL byK at this; rwa [e] at this
  · have e : byE xs k n = 0 := by unfold byE; rw [if_neg (by omega), if_neg (by omega)]
    have hpl : (part xs ((k + 7) / 8).toNat n.toNat).length = n.toNat := part_length (by omega)
    have e2 : byL xs k n = part xs ((k + 7) / 8).toNat n.toNat := by unfold byL; rw [if_pos e]
    have e3 : byK xs k n = 8 * ((k + 7) / 8 + n) := by unfold byK; rw [if_pos e]
    have := hR p c w' hE (by rw [e2, hpl]; exact ho)
    rw [e2, hpl, e, e3] at this; exact this
theorem reads_walk {W : World} {b : Option Addr} {len cap : Nat} {xs : List Int} {up : Bool} {b2 : Option Addr} {len2 cap2 : Nat} {acs : List Act'} {R : Ending → World → Prop} (hb : BytesOk W b len cap xs ∧ len < 2 ^ 47) (h : ActsOk W b2 len2 acs ∧ len2 ≤ 2 ^ 43)
    (hR : ∀ w', Ext W w' → R (.returned (.bool true)) w') :
    Calls P F.law01_BitsReads #[.slice b len cap, .bool up, .slice b2 len2 cap2] W R := by
  obtain ⟨h, hsz⟩ := h
  obtain ⟨hb, hbsz⟩ := hb
  have hl := h.long
  have hbl := hb.long
  refine calls_law01_BitsReads _ _ _ _ _ _ _ _ _ ?_
  refine wakes_spec fun w1 hE1 => ⟨_, rfl, brB_f rfl ?_⟩
  refine own_spec (hb.sl.ext hE1) hbl (by omega) fun p2 c2 w2 hE2 ho2 => ⟨_, _, _, rfl, ?_⟩
  refine NewReader_spec ho2.sl hbl (by omega) hb.fit fun rb w3 hE3 hrb hr3 => ⟨_, rfl, fun k3 hk3 => brB_f rfl ?_⟩
  have e2 := hE1.trans hE2
  have hrbl := hr3.lt
  have hJ3 : RdJ W w3 w2.heap.size rb xs 0 up := ⟨e2.trans hE3, hr3, by have := e2.size; omega⟩
  refine ⟨fun l w' => match l with | [.int _ i, .slice p l' c, .bool u, .int _ k] => 0 ≤ i ∧ i ≤ len2 ∧ p = b ∧ l' = len ∧ c = cap ∧ u = up ∧ k3 < w'.heap.size ∧ RdJ W w' w2.heap.size rb xs k up | _ => False,
    fun l _ => match l with | [.int _ i, .slice p l' c, .bool u, .int _ k] => (len2 - i).toNat | _ => 0, fun w5 hL5 => ⟨by omega, by omega, rfl, rfl, rfl, rfl, hL5.there k3 (by simp), hJ3.locl hL5 (by simp; omega)⟩, fun i p3 l3 c3 u k w6 hI => ?_⟩
  obtain ⟨i0, i1, rfl, rfl, rfl, rfl, hk36, hJ⟩ := hI
  refine brB_i (fun hlt => ?_) (fun hge => hR w6 hJ.ext)
  have hlt : i < len2 := by simpa using hlt
  have hk0 := hJ.rd.lo
  have hk1 := hJ.rd.hi
  refine h.get hJ.ext i0 hlt fun a c ha hfit hc0 hc1 hc2 => ⟨_, hc0, fun l w' => match l with | [.slice p l' c, .bool v, .int _ k'] => p = p3 ∧ l' = l3 ∧ c = c3 ∧ v = u ∧ w6.heap.size ≤ w'.heap.size ∧ RdJ W w' w2.heap.size rb xs k' u | _ => False, ?_, fun p15 l15 c15 u15 k15 w28 hI => ?_⟩
  · refine brB_i (fun hk => ?_) (fun hk => brB_i (fun hk => ?_) (fun hk => brB_i (fun hk => ?_) (fun hk => ⟨rfl, rfl, rfl, rfl, Nat.le_refl _, hJ⟩)))
    · refine h.get hJ.ext i0 hlt fun a2 c2 ha2 _ _ hc2 _ => ⟨_, hc2, ?_⟩
      obtain rfl : a2 = a := Option.some.inj (ha2.symm.trans ha)
      refine hJ.take fun w7 hc7 hJ7 => ⟨_, _, rfl, hc7.keep (by simp; omega), ?_⟩
      generalize hk' : tkK xs k a2.2.1 = k' at hJ7
      have hlo7 := hJ7.lo
      have hs67 := hc7.size
      have hJd := hJ7.step (Ext.refl w7).drew
      refine ⟨fun l w' => match l with | [.int _ n14, .int _ n15, .pointer (some x), .slice p6 k13 k14, .bool c5, .int _ n16] => n14 = tkV xs u k a2.2.1 ∧ n15 = tkE xs k a2.2.1 ∧ rb < x.block ∧ p6 = p3 ∧ k13 = l3 ∧ k14 = c3 ∧ c5 = u ∧ n16 = k' ∧ w7.heap.size ≤ w'.heap.size ∧ RdJ W w' w2.heap.size rb xs k' u | _ => False, ?_, fun n14 n15 k12 p6 k13 k14 c5 n16 w13 hI => ?_⟩
      · refine h.get hJd.ext i0 hlt fun a3 c4 ha3 _ _ hc3 _ => ⟨_, hc3, ?_⟩
        obtain rfl : a3 = a2 := Option.some.inj (ha3.symm.trans ha)
        refine ⟨refTake_all (hb.sl.ext hJd.ext) hbl hb.fit (by omega) hk0 hk1 fun w8 hE8 => ⟨_, _, _, _, _, _, _, rfl, hE8.keep _, fun k8 hk8 w9 hL9 => ?_⟩, fun k9 hk9 w10 hL10 => ?_⟩
        · have : w7.heap.size ≤ w8.heap.size := hE8.size
          exact ⟨rfl, rfl, by show rb < k8; omega, rfl, rfl, rfl, rfl, hk', Nat.le_trans this hL9.size, (hJd.step hE8).locl hL9 (by simp; omega)⟩
        · have hk9 : w7.heap.size ≤ k9 := hk9
          have hJ10 := hJd.locl hL10 (by simp; omega)
          exact refTake_all (hb.sl.ext hJ10.ext) hbl hb.fit (by omega) hk0 hk1 fun w11 hE11 => ⟨_, _, _, _, _, _, _, rfl, hE11.keep _, fun w12 hL12 => ⟨rfl, rfl, by show rb < k9; omega, rfl, rfl, rfl, rfl, hk', Nat.le_trans (show w7.heap.size ≤ w10.heap.size from hL10.size) (Nat.le_trans hE11.size hL12.size), (hJ10.step hE11).locl hL12 (by simp; omega)⟩⟩
      · obtain ⟨rfl, rfl, hk12, rfl, rfl, rfl, rfl, rfl, hs13, hJ13⟩ := hI
        have hk12 : rb < k12 := hk12
        exact brB_f (by simp) fun w15 hL15 => ⟨rfl, rfl, rfl, rfl, Nat.le_trans hs67 (Nat.le_trans hs13 hL15.size), hJ13.locl hL15 (by simp; omega)⟩
    · refine Align_spec hJ.rd fun w16 hc16 hr16 => ⟨rfl, hc16.keep (by simp; omega), ?_⟩
      have hJ16 := hJ.turn hc16 hr16
      exact refAlign_spec hk0 (by omega) fun w17 hE17 => ⟨_, _, _, _, _, rfl, hE17.keep _, fun w18 hL18 => ⟨rfl, rfl, rfl, rfl, Nat.le_trans hc16.size (Nat.le_trans hE17.size hL18.size), (hJ16.step hE17).locl hL18 (by simp; omega)⟩⟩
    · refine h.get hJ.ext i0 hlt fun a2 c2 ha2 _ _ hc2 _ => ⟨_, hc2, ?_⟩
      obtain rfl : a2 = a := Option.some.inj (ha2.symm.trans ha)
      refine hJ.bytes hfit.n.2 fun p8 c8 w19 hc19 hJ19 ho19 => ⟨_, _, _, _, rfl, hc19.keep (by simp; omega), ?_⟩
      generalize hk' : byK xs k a2.2.1 = k' at hJ19
      have hlo19 := hJ19.lo
      have hs19 := hc19.size
      have hJd := hJ19.step (Ext.refl w19).drew
      refine ⟨fun l w' => match l with | [.slice p13 l13 c13, .int _ n25, .pointer (some x), .slice p6 k13 k14, .bool c5, .int _ n16] => l13 = (byL xs k a2.2.1).length ∧ n25 = byE xs k a2.2.1 ∧ w19.heap.size ≤ x.block ∧ p6 = p3 ∧ k13 = l3 ∧ k14 = c3 ∧ c5 = u ∧ n16 = k' ∧ Chg (· = k3) w19 w' ∧ RdJ W w' w2.heap.size rb xs k' u ∧ OwnS (fun i => w19.heap.size ≤ i ∧ i ≠ x.block) w' p13 l13 c13 1 (bytes (byL xs k a2.2.1)) | _ => False, ?_, fun p13 l13 c13 n25 k31 p6 k13 k14 c5 n16 w25 hI w26 hL26 => ?_⟩
      · refine h.get hJd.ext i0 hlt fun a3 c4 ha3 _ _ hc3 _ => ⟨_, hc3, ?_⟩
        obtain rfl : a3 = a2 := Option.some.inj (ha3.symm.trans ha)
        refine ⟨refBytes_all (hb.sl.ext hJd.ext) hbl hb.cap (by omega) hk0 hk1 hfit.n.2 fun p9 c9 w20 hE20 hs20 => ⟨_, _, _, _, _, _, _, _, _, rfl, hE20.keep _, fun k8 hk8 w9 hL9 => ?_⟩, fun k9 hk9 w10 hL10 => ?_⟩
        · have hs : w19.heap.size ≤ w20.heap.size := hE20.size
          have hE20' : Ext w19 w20 := (Ext.refl w19).drew.trans hE20
          refine ⟨rfl, rfl, by show w19.heap.size ≤ k8; omega, rfl, rfl, rfl, rfl, hk', hE20'.chg.trans hL9.chg (fun i hi hlt => by simp at hi; show i = k3; omega), (hJd.step hE20).locl hL9 (by simp; omega), ?_⟩
          have hs20' := hs20.mono (T := fun i => w19.heap.size ≤ i ∧ i < w20.heap.size) fun i hi hlt => ⟨hi, hlt⟩
          refine (OwnS.chg hs20' hL9.chg fun i hi hlt hm => ?_).mono fun i hi hlt => ?_
          · simp at hm; omega
          · show w19.heap.size ≤ i ∧ i ≠ k8
            omega
        · have hk9 : w19.heap.size ≤ k9 := hk9
          have ht := hL10.there k9 (by simp)
          have hs10 : w19.heap.size ≤ w10.heap.size := hL10.size
          have hJ10 := hJd.locl hL10 (by simp; omega)
          refine refBytes_all (hb.sl.ext hJ10.ext) hbl hb.cap (by omega) hk0 hk1 hfit.n.2 fun p9 c9 w11 hE11 hs11 => ⟨_, _, _, _, _, _, _, _, _, rfl, hE11.keep _, fun w12 hL12 => ⟨rfl, rfl, hk9, rfl, rfl, rfl, rfl, hk', ?_, (hJ10.step hE11).locl hL12 (by simp; omega), ?_⟩⟩
          · have hc10 : Chg (· = k3) w19 w10 := ((Ext.refl w19).drew.chg (S := (· = k3))).trans hL10.chg (fun i hi hlt => by simp at hi; show i = k3; omega)
            exact (hc10.trans hE11.chg (T := fun _ => False) fun _ h _ => h.elim).trans hL12.chg (fun i hi hlt => by simp at hi; show i = k3; omega)
          · refine (hs11.chg hL12.chg fun i hi hlt hm => ?_).mono fun i hi hlt => ?_
            · simp at hm; omega
            · show w19.heap.size ≤ i ∧ i ≠ k9
              omega
      · obtain ⟨rfl, rfl, hk31, rfl, rfl, rfl, rfl, rfl, hc25, hJ25, ho25⟩ := hI
        have hk31 : w19.heap.size ≤ k31 := hk31
        have hs25 := hc25.size
        have ho26 := ho25.chg hL26.chg fun i hi hlt hm => by
          have hi : w19.heap.size ≤ i ∧ i ≠ k31 := hi
          simp at hm; omega
        have hc26 : Chg (· = k3) w19 w26 := hc25.trans hL26.chg (fun i hi hlt => by simp at hi; show i = k3; omega)
        have ho8 := ho19.chg hc26 fun i hi hlt e => by have e : i = k3 := e; omega
        have hbl : (byL xs k a2.2.1).length ≤ xs.length := by
          unfold byL part; split <;> simp; omega
        refine same_spec ho8.sl ho26.sl rfl rfl (by omega) fun w27 hE27 => ⟨_, rfl, hE27.keep _, brB_f (by simp) ⟨rfl, rfl, rfl, rfl, Nat.le_trans (Nat.le_trans hs19 hc26.size) hE27.size, (hJ25.locl hL26 (by simp; omega)).step hE27⟩⟩
  · obtain ⟨rfl, rfl, rfl, rfl, hs28, hJ28⟩ := hI
    have hJd := hJ28.step (Ext.refl w28).drew
    have k0 := hJd.rd.lo
    have k1 := hJd.rd.hi
    refine Left_spec hJd.rd ⟨_, rfl, (Ext.refl _).drew.keep _, (Ext.refl _).drew.keeps, ?_⟩
    refine refLeft_spec (by omega) k0 (by omega) fun w30 hE30 => ⟨_, rfl, hE30.keep _, brB_f (by simp; omega) ?_⟩
    have hJ30 := (hJd.step (Ext.refl _).drew).step hE30
    refine Place_spec hJ30.rd ⟨_, rfl, (Ext.refl _).keep _, (Ext.refl _).keeps, brB_f (by simp) ?_⟩
    rw [w64 (x := i + 1) (by omega) (by omega)]
    have hs30 : w28.heap.size ≤ w30.heap.size := hE30.size
    refine ⟨⟨by omega, by omega, rfl, rfl, rfl, rfl, by omega, hJ30⟩, ?_⟩
    show (len2 - (i + 1)).toNat < (len2 - i).toNat
    omega
end Go.Proofs.Ytlmnooodinfifaa
