/- LZW: runs, as the document reads them. -/
import Derived.Test.YtlbokiaolmflaaaLZ6
namespace Go.Proofs.Ytlbokiaolmflaaa
open Go Go.Vc Go.RowKit
set_option maxRecDepth 100000
set_option linter.unusedVariables false
set_option linter.unusedSimpArgs false

def manyR (b : Int) : Nat := if b > 128 then (257 - b).toNat else (b + 1).toNat
def wantR (b : Int) : Nat := if b > 128 then 1 else (b + 1).toNat
def givR (b : Int) (r : List Int) : List Int := if b > 128 then List.replicate (257 - b).toNat (r.headD 0) else r.take (b + 1).toNat
theorem rl_cons' {most : Int} {F : Nat} {b : Int} {r out : List Int} (h0 : 0 ≤ b) (h1 : b ≤ 255) (hb : b ≠ 128) : rl most (F + 1) (b :: r) out = if r.length < wantR b then ([], 5) else if most < (out.length : Int) + manyR b then ([], 3) else rl most F (r.drop (wantR b)) (out ++ givR b r) := by
  rw [rl_cons]
  unfold wantR manyR givR
  by_cases hlt : b < 128
  · have hn : ¬ b > 128 := by omega
    simp only [if_pos hlt, if_neg hn]
    have e1 : ((r.length : Int) < b + 1) = (r.length < (b + 1).toNat) := by apply propext; omega
    have e2 : (((b + 1).toNat : Nat) : Int) = b + 1 := by omega
    rw [e2]
    simp only [e1]
  · have hg : b > 128 := by omega
    simp only [if_neg hlt, if_neg hb, if_pos hg]
    have e2 : (((257 - b).toNat : Nat) : Int) = 257 - b := by omega
    rw [e2]
    cases r with
    | nil => simp
    | cons x r' => simp
theorem givR_length {b : Int} {r : List Int} (h : ¬ r.length < wantR b) : (givR b r).length = manyR b := by
  unfold givR manyR wantR at *
  split
  · simp
  · rename_i hb
    rw [if_neg hb] at h
    rw [List.length_take]; omega
theorem drop_cons_of {bs : List Int} {n : Nat} (h : n < bs.length) : bs.drop n = bs.getD n 0 :: bs.drop (n + 1) := by
  rw [List.drop_eq_getElem_cons h]; simp [List.getD, List.getElem?_eq_getElem h]
theorem refRuns_spec {N : Nat} {most : Int} {w : World} {base : Option Addr} {len cap : Nat} {bs : List Int} {R : Ending → World → Prop} (h : Sl N w base (bytes bs)) (hl : len = bs.length) (hsz : len ≤ 2 ^ 24) (hf : Bs bs) (m0 : -9223372036854775808 ≤ most) (m1 : most ≤ 9223372036854775807)
    (hR : ∀ p l c w', Fg [] w w' 1 p l c (bytes (runR bs most).1) → R (.returned (.tuple #[.slice p l c, i64 (runR bs most).2])) w') :
    Calls P F.ref06_Unpack #[.slice base len cap, i64 most] w R := by
  refine calls_ref06_Unpack _ _ _ _ _ _ ?_
  unfold vc_ref06_Unpack
  refine ⟨fun vs u => [i64 (max most 0)] = vs ∧ w = u, brB_i (fun hb => ?_) (fun hb => ?_), ?_⟩
  · have hb : most < 0 := by simpa using hb
    rw [show max most 0 = 0 by omega]; exact ⟨rfl, rfl⟩
  · have hb : ¬ most < 0 := by simpa using hb
    rw [show max most 0 = most by omega]; exact ⟨rfl, rfl⟩
  intro n1 w1 hI1
  obtain ⟨e, rfl⟩ := hI1
  simp only [List.cons.injEq, Value.int.injEq, true_and, and_true] at e
  subst e
  have hm0 : 0 ≤ max most 0 := by omega
  have hm1 : max most 0 ≤ 9223372036854775807 := by omega
  generalize hres : runR bs most = res at hR
  unfold runR at hres
  generalize max most 0 = most at *
  refine ⟨fun vs u => match vs with | [.slice p1 k1 k2, .int _ n2] => ∃ (n : Nat) (out : List Int) (F : Nat), n2 = n ∧ n ≤ bs.length ∧ bs.length ≤ F + n ∧ rl most F (bs.drop n) out = res ∧ Fg [] w u 1 p1 k1 k2 (bytes out) ∧ out.length ≤ 128 * n | _ => False,
    fun vs _ => match vs with | [.slice p1 k1 k2, .int _ n2] => (bs.length - n2).toNat | _ => 0, ⟨0, [], bs.length, rfl, by omega, by omega, by simpa using hres, Fg.nil (Ext.refl w) 1, by simp⟩, ?_⟩
  intro p1 k1 k2 n2 w2 hI
  obtain ⟨n, out, F, rfl, hn, hF, hrl, hfg, hbd⟩ := hI
  have hk1 : k1 = out.length := by have := hfg.len; rwa [bytes_length] at this
  refine brB_i (fun hb => ?_) (fun hb => ?_)
  rotate_left
  · have hb : ¬ (n : Int) < len := by simpa using hb
    rw [List.drop_of_length_le (by omega), rl_nil] at hrl
    subst hrl
    exact hR _ _ _ _ hfg
  have hb : (n : Int) < len := by simpa using hb
  have hnl : n < bs.length := by omega
  rw [drop_cons_of hnl] at hrl
  have hbr : 0 ≤ bs.getD n 0 ∧ bs.getD n 0 ≤ 255 := by
    obtain ⟨v, h1, h2⟩ := getD_fit hf n
    omega
  obtain ⟨G, rfl⟩ : ∃ G, F = G + 1 := ⟨F - 1, by omega⟩
  generalize hbv : bs.getD n 0 = b at *
  refine ⟨fun vs u => match vs with | [.slice p1 k1 k2, .int _ n2] => ∃ (n' : Nat) (out : List Int) (F : Nat), n2 = n' ∧ n < n' ∧ n' ≤ bs.length ∧ bs.length ≤ F + n' ∧ rl most F (bs.drop n') out = res ∧ Fg [] w u 1 p1 k1 k2 (bytes out) ∧ out.length ≤ 128 * n' | _ => False, ?_, fun p6 k13 k14 n9 w10 hI3 => ?_⟩
  rotate_left
  · obtain ⟨n', out, F, rfl, h1, h2, h3, h4, h5, h6⟩ := hI3
    exact ⟨⟨n', out, F, rfl, h2, h3, h4, h5, h6⟩, by show ((bs.length : Int) - n').toNat < ((bs.length : Int) - n).toNat; omega⟩
  refine (h.ext hfg.ext).get (by omega) (by rw [bytes_length]; omega) (v := u8 b) (by rw [Int.toNat_natCast, bytes_get hnl, hbv]) fun a ha => ⟨b, ha, ?_⟩
  rw [w64 (x := b) (by omega) (by omega), w64 (x := (n : Int) + 1) (by omega) (by omega), w64 (x := b + 1) (by omega) (by omega), w64 (x := (257 : Int) - b) (by omega) (by omega), w64 (x := most - (k1 : Int)) (by omega) (by omega), w64 (x := (len : Int) - (n + 1)) (by omega) (by omega)]
  refine brB_i (fun hb1 => ?_) (fun hb1 => ?_)
  · have hb1 : b = 128 := by simpa using hb1
    rw [rl_cons, if_neg (by omega), if_pos hb1] at hrl
    exact ⟨n + 1, out, G, by omega, by omega, by omega, by omega, hrl, hfg, by omega⟩
  have hb1 : b ≠ 128 := by simpa using hb1
  rw [rl_cons' hbr.1 hbr.2 hb1] at hrl
  have hmw : 1 ≤ manyR b ∧ manyR b ≤ 128 ∧ 1 ≤ wantR b ∧ wantR b ≤ 128 ∧ (b > 128 → wantR b = 1 ∧ (manyR b : Int) = 257 - b) ∧ (¬ b > 128 → (wantR b : Int) = b + 1 ∧ (manyR b : Int) = b + 1) := by
    unfold manyR wantR
    split <;> omega
  obtain ⟨hm1', hm2, hw1, hw2, hg, hng⟩ := hmw
  refine ⟨fun vs u => [i64 (manyR b), i64 (wantR b)] = vs ∧ w2 = u, brB_i (fun hb2 => ?_) (fun hb2 => ?_), ?_⟩
  · have hb2 : b > 128 := by simpa using hb2
    obtain ⟨e1, e2⟩ := hg hb2
    rw [e1, e2]; exact ⟨rfl, rfl⟩
  · have hb2 : ¬ b > 128 := by simpa using hb2
    obtain ⟨e1, e2⟩ := hng hb2
    rw [e1, e2]; exact ⟨rfl, rfl⟩
  intro n4 n5 w3 hI4
  obtain ⟨e, rfl⟩ := hI4
  simp only [List.cons.injEq, Value.int.injEq, true_and, and_true] at e
  obtain ⟨rfl, rfl⟩ := e
  have hdl : (bs.drop (n + 1)).length = bs.length - (n + 1) := List.length_drop
  refine brB_i (fun hb3 => ?_) (fun hb3 => ?_)
  · have hb3 : (wantR b : Int) > (len : Int) - (n + 1) := by simpa using hb3
    rw [if_pos (by omega)] at hrl
    subst hrl
    exact hR none 0 0 _ (Fg.nil hfg.ext 1)
  have hb3 : ¬ (wantR b : Int) > (len : Int) - (n + 1) := by simpa using hb3
  have hwl : ¬ (bs.drop (n + 1)).length < wantR b := by omega
  rw [if_neg hwl] at hrl
  refine brB_i (fun hb4 => ?_) (fun hb4 => ?_)
  · have hb4 : (manyR b : Int) > most - k1 := by simpa using hb4
    rw [if_pos (by omega)] at hrl
    subst hrl
    exact hR none 0 0 _ (Fg.nil hfg.ext 1)
  have hb4 : ¬ (manyR b : Int) > most - k1 := by simpa using hb4
  rw [if_neg (by omega), List.drop_drop] at hrl
  have hgl := givR_length hwl
  have hlen24 : bs.length ≤ 2 ^ 24 := by omega
  refine ⟨fun vs u => match vs with | [.slice p2 k3 k4, .int _ n6] => 0 ≤ n6 ∧ n6 ≤ manyR b ∧ Fg [] w u 1 p2 k3 k4 (bytes (out ++ (givR b (bs.drop (n + 1))).take n6.toNat)) | _ => False,
    fun vs _ => match vs with | [.slice p2 k3 k4, .int _ n6] => (manyR b - n6).toNat | _ => 0, ⟨by omega, by omega, by simpa using hfg⟩, fun p2 k3 k4 n6 w4 hI5 => ?_⟩
  obtain ⟨n60, n61, hfg4⟩ := hI5
  have hk3 : k3 = out.length + n6.toNat := by
    have := hfg4.len
    rw [bytes_length, List.length_append, List.length_take, hgl] at this; omega
  refine brB_i (fun hb5 => ?_) (fun hb5 => ?_)
  · have hb5 : n6 < manyR b := by simpa using hb5
    obtain ⟨m, rfl⟩ := Int.eq_ofNat_of_zero_le n60
    rw [Int.toNat_natCast] at hfg4 hk3
    have hmg : m < (givR b (bs.drop (n + 1))).length := by omega
    have hfin : ∀ (p5 : Option Addr) (k11 k12 : Nat) (w9 : World), Fg [] w w9 1 p5 k11 k12 (bytes (out ++ (givR b (bs.drop (n + 1))).take m) ++ [u8 ((givR b (bs.drop (n + 1))).getD m 0)]) → Fg [] w w9 1 p5 k11 k12 (bytes (out ++ (givR b (bs.drop (n + 1))).take (m + 1))) := fun p5 k11 k12 w9 hh => by
      have e : bytes (out ++ (givR b (bs.drop (n + 1))).take (m + 1)) = bytes (out ++ (givR b (bs.drop (n + 1))).take m) ++ [u8 ((givR b (bs.drop (n + 1))).getD m 0)] := by
        rw [List.take_succ_eq_append_getElem hmg, ← List.append_assoc, bytes_append _ [_]]
        simp [bytes, List.getD, List.getElem?_eq_getElem hmg]
      rw [e]; exact hh
    refine ⟨fun vs u => match vs with | [.slice p5 k11 k12] => Fg [] w u 1 p5 k11 k12 (bytes (out ++ (givR b (bs.drop (n + 1))).take (m + 1))) | _ => False, ?_, fun p5 k11 k12 w9 hI6 => ?_⟩
    · have happ : ∀ (x : Int) (id : Nat), x = (givR b (bs.drop (n + 1))).getD m 0 → ∀ k5, w4.heap.size ≤ k5 → ∀ w5, Locl [k5] w4 w5 →
        appVC w5 [(id, k5, [u8 x])] p2 k3 k4 1 1 1 5 [u8 0] [u8 x] fun p3 k6 k7 w6 => Fg [] w w6 1 p3 k6 k7 (bytes (out ++ (givR b (bs.drop (n + 1))).take (m + 1))) := fun x id hx k5 hk5 w5 hL5 => by
          refine (hfg4.push (bs := [k5]) hL5 (by simp; omega)).app' (by simp [blocks]) rfl rfl (by omega) (by omega) fun p3 k7 w6 hfg6 _ _ => ?_
          rw [hx] at hfg6
          exact hfin _ _ _ _ (hfg6.mono (by simp))
      refine brB_i (fun hb6 => ?_) (fun hb6 => ?_)
      · have hb6 : b > 128 := by simpa using hb6
        obtain ⟨e1, e2⟩ := hg hb6
        have hn1 : n + 1 < bs.length := by omega
        refine (h.ext hfg4.ext).get (by omega) (by rw [bytes_length]; omega) (v := u8 (bs.getD (n + 1) 0)) (by rw [show ((n : Int) + 1).toNat = n + 1 by omega, bytes_get hn1]) fun a2 ha2 => ⟨_, ha2, happ _ _ ?_⟩
        unfold givR
        rw [if_pos hb6]
        have : m < (257 - b).toNat := by omega
        simp only [List.getD, List.getElem?_replicate, this, if_true, Option.getD_some]
        rw [drop_cons_of hn1]; rfl
      · have hb6 : ¬ b > 128 := by simpa using hb6
        obtain ⟨e1, e2⟩ := hng hb6
        have hn1 : n + 1 + m < bs.length := by omega
        rw [w64 (x := (n : Int) + 1 + m) (by omega) (by omega)]
        refine (h.ext hfg4.ext).get (by omega) (by rw [bytes_length]; omega) (v := u8 (bs.getD (n + 1 + m) 0)) (by rw [show ((n : Int) + 1 + m).toNat = n + 1 + m by omega, bytes_get hn1]) fun a2 ha2 => ⟨_, ha2, happ _ _ ?_⟩
        unfold givR
        rw [if_neg hb6]
        have : m < (b + 1).toNat := by omega
        simp [List.getD, List.getElem?_take, this]
    · rw [w64 (by omega) (by omega)]
      refine ⟨⟨by omega, by omega, ?_⟩, by show ((manyR b : Int) - (m + 1)).toNat < ((manyR b : Int) - m).toNat; omega⟩
      rw [show ((m : Int) + 1).toNat = m + 1 by omega]
      exact hI6
  · have hb5 : ¬ n6 < manyR b := by simpa using hb5
    have : n6.toNat = manyR b := by omega
    rw [this, List.take_of_length_le (by omega)] at hfg4
    rw [w64 (x := (n : Int) + 1 + wantR b) (by omega) (by omega)]
    refine ⟨n + 1 + wantR b, _, G, by omega, by omega, by omega, by omega, hrl, hfg4, ?_⟩
    rw [List.length_append, hgl]; omega
end Go.Proofs.Ytlbokiaolmflaaa
