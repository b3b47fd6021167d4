/- Inflate: a symbol is read by the document's table. -/
import Derived.Test.YthfnohbpdoklgaaIX4
namespace Go.Proofs.Ythfnohbpdoklgaa
open Go Go.Vc Go.RowKit
set_option maxRecDepth 100000
set_option linter.unusedVariables false
set_option linter.unusedSimpArgs false
set_option maxHeartbeats 4000000

theorem shlN {v m : Nat} (hm : m ≤ 32) (hv : v * 2 ^ m ≤ 2 ^ 40) : shiftZ .shl .i64 ((v : Nat) : Int) ((m : Nat) : Int) = ((v * 2 ^ m : Nat) : Int) := by
  rw [shiftZ_shl (by omega) (by show (m : Int) ≤ 64; omega), Int.toNat_natCast]
  have e : ((v : Nat) : Int) * 2 ^ m = ((v * 2 ^ m : Nat) : Int) := by push_cast; rfl
  rw [e]
  generalize v * 2 ^ m = x at *
  rw [w64 (by omega) (by omega)]
theorem u64n {a b : Nat} (h : b ≤ a) (ha : a ≤ 2 ^ 40) : IntKind.u64.wrap (IntKind.i64.wrap (((a : Nat) : Int) - (b : Nat))) = ((a - b : Nat) : Int) := by
  rw [w64 (by omega) (by omega), wu64 (by omega) (by omega)]; omega
theorem tblS_full {l : List Nat} {o : Ofs} {i : Nat} (h1 : 1 ≤ i) (h2 : i ≤ 16) : tblS l 16 l.length o i = .slice (o i).1 (symsL l i).length (o i).2 := by
  unfold tblS
  by_cases e : i < 16
  · rw [if_pos ⟨h1, e⟩]
  · obtain rfl : i = 16 := by omega
    rw [if_neg (by omega), if_pos ⟨rfl, by omega⟩]; rfl
def moreP (l : List Nat) (v n k : Nat) : Prop := (symsL l k).length > 0 ∧ v * 2 ^ (k - n) + 1 ≤ fsL l k + (symsL l k).length ∧ fsL l k + 1 ≤ v * 2 ^ (k - n) + 2 ^ (k - n)
theorem fs_small {l : List Nat} (h : Lens l) {n : Nat} (hn : n ≤ 17) : fsL l n ≤ 2 ^ 31 := by
  cases n with
  | zero => simp [fsL]
  | succ n =>
    have := nx_small h (n := n) (by omega)
    rw [fsL]; omega
theorem more_spec {w : World} {vs : List Value} {D : Nat → Prop} {l : List Nat} {v n : Nat} {R : Ending → World → Prop} (hT : TblAt w vs D l) (hn : n ≤ 16) (hn2 : n ≤ deepL l) (hv : v < 2 ^ n) (hnx : nxL l n ≤ v)
    (hR : ∀ w', Ext w w' → R (.returned (.bool (decide (n < deepL l ∧ v * 2 ^ (deepL l - n) < nxL l (deepL l))))) w') : Calls P F.ref03_more #[.agg vs.toArray, i64 (v : Nat), i64 (n : Nat)] w R := by
  refine calls_ref03_more _ _ _ _ _ ?_
  obtain ⟨o, hvs, hO⟩ := hT.obj
  intro k1 w1 hn1
  have hC1 : Cs w1 k1 (rowF 37 (tblG l 16 l.length o)) := by have := hn1.cs; rwa [hvs] at this
  have hk1 : k1 = w.heap.size := hn1.1
  refine ⟨fun vs u => ∃ k : Nat, vs = [i64 (k : Nat)] ∧ n + 1 ≤ k ∧ k ≤ 17 ∧ (∀ j, n < j → j < k → ¬ moreP l v n j) ∧ Ext w u ∧ Cs u k1 (rowF 37 (tblG l 16 l.length o)),
    fun vs _ => match vs with | [.int _ n] => (17 - n).toNat | _ => 0, ⟨n + 1, by rw [w64 (by omega) (by omega)]; simp, by omega, by omega, fun j j1 j2 => by omega, hn1.ext, hC1⟩, fun n1 w2 hI => ?_⟩
  obtain ⟨k, hv1, hk0, hk17, hno, hE2, hC2⟩ := hI
  obtain rfl : n1 = (k : Nat) := by simpa using hv1
  have hiff := more_iff (l := l) (n := n) (v := v) hn2 hnx
  refine brB_i (fun hle => ?_) fun hgt => ?_
  rotate_left
  · have hgt : 16 < k := by have := of_decide_eq_false hgt; omega
    have : ¬ (n < deepL l ∧ v * 2 ^ (deepL l - n) < nxL l (deepL l)) := fun h => by
      obtain ⟨j, j1, j2, j3⟩ := hiff.2 h
      exact hno j j1 (by omega) j3
    have := hR w2 hE2
    rwa [decide_eq_false ‹¬ _›] at this
  have hle : k ≤ 16 := by have := of_decide_eq_true hle; omega
  have hkn : k - n ≤ 16 := by omega
  have hvb : v * 2 ^ (k - n) < 2 ^ 16 := by
    have h1 : v * 2 ^ (k - n) < 2 ^ n * 2 ^ (k - n) := Nat.mul_lt_mul_of_pos_right hv (Nat.pow_pos (by omega))
    rw [← Nat.pow_add] at h1
    exact Nat.lt_of_lt_of_le h1 (Nat.pow_le_pow_right (by omega) (by omega))
  have hpb : 2 ^ (k - n) ≤ 2 ^ 16 := Nat.pow_le_pow_right (by omega) hkn
  have e1 : shiftZ .shl .i64 ((v : Nat) : Int) (IntKind.u64.wrap (IntKind.i64.wrap (((k : Nat) : Int) - (n : Nat)))) = ((v * 2 ^ (k - n) : Nat) : Int) := by
    rw [u64n (by omega) (by omega), shlN (by omega) (by omega)]
  have e2 : shiftZ .shl .i64 1 (IntKind.u64.wrap (IntKind.i64.wrap (((k : Nat) : Int) - (n : Nat)))) = ((2 ^ (k - n) : Nat) : Int) := by
    have := shlN (v := 1) (m := k - n) (by omega) (by omega)
    rw [u64n (by omega) (by omega)]
    simpa using this
  rw [e1, e2, u64n (by omega) (by omega)]
  have hfs := fs_small hT.lens (n := k) (by omega)
  have hsl := symsU_len l k l.length
  have hfew := hT.lens.few
  have hsl : (symsL l k).length ≤ 4096 := by unfold symsL; omega
  have hmp : moreP l v n k ↔ ((symsL l k).length > 0 ∧ v * 2 ^ (k - n) + 1 ≤ fsL l k + (symsL l k).length ∧ fsL l k + 1 ≤ v * 2 ^ (k - n) + 2 ^ (k - n)) := Iff.rfl
  generalize hA : v * 2 ^ (k - n) = A at *
  generalize hB : 2 ^ (k - n) = B at *
  simp only [loc_add, Int.toNat_natCast, Nat.mul_one, Nat.zero_add]
  have cS := hC2.drew.cell (i := 18 + k) (by rw [rowF_get (by omega), tbl_b (by omega), tblS_full (by omega) hle])
  have cF := hC2.drew.cell (i := k) (by rw [rowF_get (by omega), tbl_a (by omega), fsF (by omega) hle])
  refine ⟨fun vs u => ¬ moreP l v n k ∧ Ext w u ∧ Cs u k1 (rowF 37 (tblG l 16 l.length o)), ⟨by omega, by omega, by omega, by omega, _, _, _, cS, ?_⟩, fun w3 hI => ?_⟩
  · refine brB_i (fun h1 => ?_) fun h1 => ⟨fun h => by have := of_decide_eq_false h1; have := (hmp.1 h).1; omega, hE2.drew, hC2.drew⟩
    have h1 : (symsL l k).length > 0 := by have := of_decide_eq_true h1; omega
    refine ⟨by omega, by omega, _, cF, by omega, by omega, _, _, _, cS, ?_⟩
    have e3 : IntKind.i64.wrap (IntKind.i64.wrap (((fsL l k : Nat) : Int) + ((symsL l k).length : Nat)) - 1) = ((fsL l k + (symsL l k).length - 1 : Nat) : Int) := by
      rw [w64 (x := ((fsL l k : Nat) : Int) + _) (by omega) (by omega), w64 (by omega) (by omega)]; omega
    rw [e3]
    refine brB_i (fun h2 => ?_) fun h2 => ⟨fun h => by have := of_decide_eq_false h2; have := (hmp.1 h).2.1; omega, hE2.drew, hC2.drew⟩
    have h2 : A + 1 ≤ fsL l k + (symsL l k).length := by have := of_decide_eq_true h2; omega
    have hB1 : 1 ≤ B := by rw [← hB]; exact Nat.pow_pos (by omega)
    have e4 : IntKind.i64.wrap (IntKind.i64.wrap (((A : Nat) : Int) + (B : Nat)) - 1) = ((A + B - 1 : Nat) : Int) := by
      rw [w64 (x := ((A : Nat) : Int) + _) (by omega) (by omega), w64 (by omega) (by omega)]; omega
    refine ⟨by omega, by omega, _, cF, ?_⟩
    rw [e4]
    refine brB_i (fun h3 => ?_) fun h3 => ⟨fun h => by have := of_decide_eq_false h3; have := (hmp.1 h).2.2; omega, hE2.drew, hC2.drew⟩
    have h3 : fsL l k + 1 ≤ A + B := by have := of_decide_eq_true h3; omega
    have hyes := hiff.1 ⟨k, by omega, hle, hmp.2 ⟨h1, h2, h3⟩⟩
    have := hR w2.drew hE2.drew
    rwa [decide_eq_true hyes] at this
  · obtain ⟨h1, hE3, hC3⟩ := hI
    rw [wrap_succ (by omega)]
    refine ⟨⟨k + 1, rfl, by omega, by omega, fun j j1 j2 => ?_, hE3, hC3⟩, by show ((17 : Int) - ((k + 1 : Nat) : Int)).toNat < ((17 : Int) - ((k : Nat) : Int)).toNat; omega⟩
    rcases Nat.lt_or_ge j k with g | g
    · exact hno j j1 g
    · obtain rfl : j = k := by omega
      exact h1
abbrev rdr (base : Option Addr) (len cap : Nat) (k : Int) : Value := .agg #[.slice base len cap, .bool false, i64 k]
theorem refNext_spec {N : Nat} {w : World} {vs : List Value} {D : Nat → Prop} {l : List Nat} {bs : List Int} {base : Option Addr} {len cap k : Nat} {R : Ending → World → Prop} (hT : TblAt w vs D l) (hs : Sl N w base (bytes bs)) (hl : len = bs.length) (hf : Bs bs) (hsz : len ≤ 2 ^ 47) (hk : k ≤ 8 * len)
    (hok : ∀ s k' w', nextM bs l k = .ok (s, k') → Ext w w' → R (.returned (.tuple #[rdr base len cap (k' : Nat), i64 (s : Nat), i64 0])) w')
    (herr : ∀ e r w', nextM bs l k = .error e → Ext w w' → R (.returned (.tuple #[rdr base len cap r, i64 0, i64 e])) w') : Calls P F.ref03_Next #[.agg vs.toArray, rdr base len cap (k : Nat)] w R := by
  refine calls_ref03_Next _ _ _ _ _ _ _ _ ?_
  obtain ⟨o, hvs, hO⟩ := hT.obj
  have hd16 : deepL l ≤ 16 := deepU_le l 16
  intro k1 w1 hn1 k2 hk2 k3 hk3 w2 hL2
  have hC1 : Cs w1 k1 (rowF 37 (tblG l 16 l.length o)) := by have := hn1.cs; rwa [hvs] at this
  have hk1 : k1 = w.heap.size := hn1.1
  have hs1 := hn1.size
  have hE2 : Ext w w2 := hn1.ext.step hL2.chg (by simp; omega)
  have hC2 := hC1.locl hL2 (by simp; omega)
  have hs2 := hL2.size
  have t2 := hL2.there k2 (by simp)
  have t3 := hL2.there k3 (by simp)
  refine ⟨_, hC2.cell (i := 36) (by rw [rowF_get (by omega), tbl_c, deepJ_full]), ?_⟩
  refine brB_i (fun h0 w3 hL3 => ?_) fun h0 => ?_
  · have h0 : deepL l = 0 := by
      have : ¬ deepU l 16 ≠ 0 := by simpa using h0
      show deepU l 16 = 0
      omega
    have hM : nextM bs l k = .error 32 := by unfold nextM; rw [h0]; rfl
    exact herr 32 _ w3 hM (hE2.step hL3.chg (by simp; omega))
  have h0 : deepL l ≠ 0 := by
    have : deepU l 16 ≠ 0 := by simpa using h0
    exact this
  refine ⟨fun vs u => ∃ n v K p2 k6 k7 c3 n4, vs = [i64 (v : Nat), i64 (n + 1 : Nat), .slice base len cap, .bool false, i64 (K : Nat), .slice p2 k6 k7, .bool c3, i64 n4] ∧ n < deepL l ∧ v < 2 ^ n ∧ nxL l n ≤ v ∧
      nextM bs l k = nextGo bs l (deepL l) (nxL l (deepL l)) (deepL l - n) n v (nxL l n) K ∧ K ≤ 8 * len ∧ Ext w u ∧ Cs u k1 (rowF 37 (tblG l 16 l.length o)) ∧ k2 < u.heap.size ∧ k3 < u.heap.size,
    fun vs _ => match vs with | [_, .int _ n, _, _, _, _, _, _] => (17 - n).toNat | _ => 0, ⟨0, 0, k, none, 0, 0, false, 0, rfl, by omega, by omega, Nat.zero_le _, rfl, hk, hE2, hC2, t2, t3⟩, fun n1 n2 p1 k4 k5 c2 n3 p2 k6 k7 c3 n4 w4 hI => ?_⟩
  obtain ⟨n, v, K, p2', k6', k7', c3', n4', hv, hn, hv2, hnv, hM, hK, hE4, hC4, t2, t3⟩ := hI
  simp only [List.cons.injEq, Value.int.injEq, Value.slice.injEq, Value.bool.injEq, true_and, and_true] at hv
  obtain ⟨rfl, rfl, ⟨rfl, rfl, rfl⟩, rfl, rfl, ⟨rfl, rfl, rfl⟩, rfl, rfl⟩ := hv
  refine brB_t (decide_eq_true (by omega)) ?_
  obtain ⟨f, hfu⟩ : ∃ f, deepL l - n = f + 1 := ⟨deepL l - n - 1, by omega⟩
  rw [hfu, nextGo] at hM
  have hpow : 2 ^ n ≤ 2 ^ 16 := Nat.pow_le_pow_right (by omega) (by omega)
  have hs4 := hE4.size
  refine refTake_spec (hs.ext hE4) hl hf hsz (by omega) (by omega) (fun h => by omega) (fun _ _ hgt w5 hE5 => ?_) fun _ _ hle w5 hE5 => ?_
  · have : tkM bs K 1 = .error 5 := if_neg (by omega)
    rw [this] at hM
    refine ⟨_, _, _, _, _, _, _, rfl, hE5.keep _, fun k10 hk10 => brB_t rfl fun w6 hL6 => herr 5 _ w6 hM ((hE4.trans hE5).step hL6.chg (by have := hE5.size; simp; omega))⟩
  obtain ⟨e1, e2, e3⟩ := tk1 (bs := bs) (k := K) (by omega)
  rw [e1] at hM
  simp only at hM
  have hs5 := hE5.size
  refine ⟨_, _, _, _, _, _, _, rfl, hE5.keep _, fun k10 hk10 => brB_f rfl ?_⟩
  rw [show ((K : Nat) : Int).toNat = K from Int.toNat_natCast K, show (1 : Int).toNat = 1 from rfl, ← e3]
  generalize (takeV bs false K 1).toNat = b at *
  have ev : IntKind.i64.wrap (IntKind.i64.wrap (2 * ((v : Nat) : Int)) + IntKind.i64.wrap ((b : Nat) : Int)) = ((2 * v + b : Nat) : Int) := by
    rw [w64 (x := 2 * ((v : Nat) : Int)) (by omega) (by omega), w64 (x := ((b : Nat) : Int)) (by omega) (by omega), w64 (by omega) (by omega)]; omega
  have eK : ((K : Nat) : Int) + 1 = ((K + 1 : Nat) : Int) := by omega
  rw [ev, eK]
  have hE45 := hE4.trans hE5
  have hC5 := hC4.ext hE5
  -- what holds of each world from here on
  have hfs : fsL l (n + 1) = 2 * nxL l n := rfl
  have hnx := nx_small hT.lens (n := n + 1) (by omega)
  rw [nx_fs] at hnx
  have eS : tblS l 16 l.length o (n + 1) = .slice (o (n + 1)).1 (symsL l (n + 1)).length (o (n + 1)).2 := tblS_full (by omega) (by omega)
  have cF : ∀ {u}, Cs u k1 (rowF 37 (tblG l 16 l.length o)) → u.cell? ⟨k1, n + 1, none⟩ = some (i64 (fsL l (n + 1) : Nat)) := fun hC => hC.cell (by rw [rowF_get (by omega), tbl_a (by omega), fsF (by omega) (by omega)])
  have cS : ∀ {u}, Cs u k1 (rowF 37 (tblG l 16 l.length o)) → u.cell? ⟨k1, 18 + (n + 1), none⟩ = some (.slice (o (n + 1)).1 (symsL l (n + 1)).length (o (n + 1)).2) := fun hC => hC.cell (by rw [rowF_get (by omega), tbl_b (by omega), eS])
  simp only [loc_add, Int.toNat_natCast, Nat.mul_one, Nat.zero_add]
  refine ⟨fun _ u => ¬ (2 * nxL l n ≤ 2 * v + b ∧ 2 * v + b < 2 * nxL l n + (symsL l (n + 1)).length) ∧ Ext w u ∧ Cs u k1 (rowF 37 (tblG l 16 l.length o)) ∧ k2 < u.heap.size ∧ k3 < u.heap.size ∧ k10 < u.heap.size, ⟨by omega, by omega, fun w7 hL7 => ?_⟩, fun p9 k21 k22 c5 n21 w15 hI => ?_⟩
  · have hE7 : Ext w w7 := hE45.step hL7.chg (by simp; omega)
    have hC7 := hC5.locl hL7 (by simp; omega)
    have hs7 := hL7.size
    have q2 := hL7.there k2 (by simp)
    have q3 := hL7.there k3 (by simp)
    have q10 := hL7.there k10 (by simp)
    refine ⟨_, cF hC7, brB_i (fun h1 => ?_) fun h1 => ⟨fun h => by have := of_decide_eq_false h1; omega, hE7, hC7, q2, q3, q10⟩⟩
    have h1 : fsL l (n + 1) ≤ 2 * v + b := by have := of_decide_eq_true h1; omega
    refine ⟨by omega, by omega, _, cF hC7, by omega, by omega, _, _, _, cS hC7, ?_⟩
    rw [w64 (x := ((fsL l (n + 1) : Nat) : Int) + _) (by omega) (by omega)]
    refine brB_i (fun h2 => ?_) fun h2 => ⟨fun h => by have := of_decide_eq_false h2; omega, hE7, hC7, q2, q3, q10⟩
    have h2 : 2 * v + b < fsL l (n + 1) + (symsL l (n + 1)).length := by have := of_decide_eq_true h2; omega
    have hin : 2 * nxL l n ≤ 2 * v + b ∧ 2 * v + b < 2 * nxL l n + (symsL l (n + 1)).length := ⟨by omega, by omega⟩
    rw [if_pos hin] at hM
    have hlt : 2 * v + b - 2 * nxL l n < (symsL l (n + 1)).length := by omega
    obtain ⟨hlen, hcap, hx⟩ := hO (n + 1) (by omega) (by omega)
    rcases hx with hx | ⟨b0, rest, _, ebase, _, hCb⟩
    · omega
    have cellX : ∀ u, Ext w u → u.cell? ⟨b0, 2 * v + b - 2 * nxL l n, none⟩ = some (i64 ((symsL l (n + 1)).getD (2 * v + b - 2 * nxL l n) 0 : Nat)) := fun u hE =>
      (hCb.ext hE).cell (by rw [List.getElem?_append_left (by rw [ni_length]; exact hlt), ni_get hlt])
    have ix : ∀ {F : Addr → Prop}, F ⟨b0, 2 * v + b - 2 * nxL l n, none⟩ → idx (o (n + 1)).1 (symsL l (n + 1)).length (IntKind.i64.wrap (((2 * v + b : Nat) : Int) - ((fsL l (n + 1) : Nat) : Int))) 1 F := fun {F} hF => by
      rw [w64 (by omega) (by omega)]
      refine idx_i (by omega) (by omega) ebase ?_
      rw [loc_add, Nat.zero_add, Nat.mul_one, show (((2 * v + b : Nat) : Int) - ((fsL l (n + 1) : Nat) : Int)).toNat = 2 * v + b - 2 * nxL l n by omega]
      exact hF
    have ex : ∀ u, Locl [k10, k3, k2] w7.drew u → Ext w u := fun u hL => hE7.drew.step hL.chg (by simp; omega)
    have cl : ∀ u, Locl [k10, k3, k2] w7.drew u → Cs u k1 (rowF 37 (tblG l 16 l.length o)) := fun u hL => hC7.drew.locl hL (by simp; omega)
    have fin : ∀ u, Ext w u → _ := fun u hE => hok _ _ u hM hE
    exact ⟨by omega, by omega, by omega, by omega,
      ⟨_, _, _, cS hC7.drew, ⟨_, cF hC7.drew, ix ⟨⟨_, cellX _ hE7.drew, fun w8 hL8 => fin w8 (ex w8 hL8)⟩, fun w9 hL9 => ⟨_, cellX w9 (ex w9 hL9), fin w9 (ex w9 hL9)⟩⟩⟩, fun w10 hL => ⟨_, cF (cl w10 hL), ix ⟨_, cellX w10 (ex w10 hL), fin w10 (ex w10 hL)⟩⟩⟩,
      ⟨_, cF hC7.drew, ⟨_, _, _, cS hC7.drew, ix ⟨⟨_, cellX _ hE7.drew, fun w8 hL8 => fin w8 (ex w8 hL8)⟩, fun w9 hL9 => ⟨_, cellX w9 (ex w9 hL9), fin w9 (ex w9 hL9)⟩⟩⟩, fun w13 hL => ⟨_, _, _, cS (cl w13 hL), ix ⟨_, cellX w13 (ex w13 hL), fin w13 (ex w13 hL)⟩⟩⟩,
      fun w14 hL => ⟨_, _, _, cS (cl w14 hL), _, cF (cl w14 hL), ix ⟨_, cellX w14 (ex w14 hL), fin w14 (ex w14 hL)⟩⟩⟩
  · obtain ⟨hout, hE15, hC15, q2, q3, q10⟩ := hI
    rw [if_neg hout] at hM
    have hge : nxL l (n + 1) ≤ 2 * v + b := by rw [nxL]; omega
    refine ⟨_, rowF_length _ _, Cs.cellsAt hC15, ?_⟩
    have hT15 : TblAt w15 (rowF 37 (tblG l 16 l.length o)) D l := by
      have := hT.chg (Z := fun _ => False) hE15.chg fun _ _ _ h => h
      rwa [hvs] at this
    refine more_spec hT15 (n := n + 1) (by omega) (by omega) (by rw [Nat.pow_succ]; omega) hge fun w16 hE16 => ⟨_, rfl, hE16.keep _, ?_⟩
    have hE16' := hE15.trans hE16
    have hC16 := hC15.ext hE16
    have hs16 := hE16.size
    refine brB_i (fun h1 w17 hL17 => ?_) fun h1 => ?_
    · have h1 : ¬ (n + 1 < deepL l ∧ (2 * v + b) * 2 ^ (deepL l - (n + 1)) < nxL l (deepL l)) := fun g => by rw [decide_eq_true g] at h1; cases h1
      rw [if_neg h1] at hM
      exact herr 32 _ w17 hM (hE16'.step hL17.chg (by simp; omega))
    · have h1 : n + 1 < deepL l ∧ (2 * v + b) * 2 ^ (deepL l - (n + 1)) < nxL l (deepL l) := by simpa using h1
      rw [if_pos h1] at hM
      rw [wrap_succ (by omega)]
      refine ⟨⟨n + 1, 2 * v + b, K + 1, _, _, _, _, _, rfl, h1.1, by rw [Nat.pow_succ]; omega, hge, ?_, by omega, hE16', hC16, by omega, by omega⟩, by show ((17 : Int) - ((n + 1 + 1 : Nat) : Int)).toNat < ((17 : Int) - ((n + 1 : Nat) : Int)).toNat; omega⟩
      rw [hM, show deepL l - (n + 1) = f by omega]; rfl
end Go.Proofs.Ythfnohbpdoklgaa
