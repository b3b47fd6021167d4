/- LZW: bytes packed as runs: the whole. -/
import Derived.Test.YtlbokiaolmflaaaLZ9
namespace Go.Proofs.Ytlbokiaolmflaaa
open Go Go.Vc Go.RowKit
set_option maxRecDepth 100000
set_option linter.unusedVariables false
set_option linter.unusedSimpArgs false

def small (n : Nat) (loose : List Int) : Bool := decide (n < 3) && !(decide (n = 2) && decide (loose.length = 0))
def stepR (x : Int) (n : Nat) (s : List Int × List Int) : List Int × List Int :=
  if small n s.2 then (s.1, s.2 ++ List.replicate n x) else (s.1 ++ flushL s.2.length s.2 ++ [257 - (n : Int), x], [])
def pkF (bs : List Int) : Nat → Nat → List Int × List Int → List Int
  | 0, _, s => s.1 ++ flushL s.2.length s.2
  | F + 1, i, s => if i < bs.length then pkF bs F (i + runAt bs i) (stepR (bs.getD i 0) (runAt bs i) s) else s.1 ++ flushL s.2.length s.2
def packR (bs : List Int) : List Int := pkF bs bs.length 0 ([], [])
theorem flushL_length : ∀ (F : Nat) (l : List Int), (flushL F l).length ≤ 2 * l.length
  | 0, l => by simp [flushL]
  | F + 1, l => by
    rw [flushL]
    split
    · simp
    · have := flushL_length F (l.drop (min l.length 128))
      simp only [List.length_cons, List.length_append, List.length_take, List.length_drop] at this ⊢
      omega
theorem runAt_le {bs : List Int} {i : Nat} (h : i < bs.length) : 1 ≤ runAt bs i ∧ runAt bs i ≤ 128 ∧ i + runAt bs i ≤ bs.length := by
  have := cnt_le (bs.getD i 0) 127 (bs.drop (i + 1))
  rw [List.length_drop] at this
  unfold runAt; omega
set_option maxHeartbeats 4000000 in
theorem Pack_spec {N : Nat} {w : World} {base : Option Addr} {len cap : Nat} {bs : List Int} {R : Ending → World → Prop} (h : Sl N w base (bytes bs)) (hl : len = bs.length) (hsz : len ≤ 2 ^ 24) (hf : Bs bs)
    (hR : ∀ p l c w', Fg [] w w' 1 p l c (bytes (packR bs)) → R (.returned (.slice p l c)) w') :
    Calls P F.lzw_Pack #[.slice base len cap] w R := by
  refine calls_lzw_Pack _ _ _ _ _ ?_
  unfold vc_lzw_Pack
  generalize hres : packR bs = res at hR
  unfold packR at hres
  intro k1 w1 hn1 k2 w2 hn2 k3 hk3 w3 hL3
  have hk1 := hn1.1
  have hk2 := hn2.1
  have hs1 := hn1.size
  have hs2 := hn2.size
  have he1 := hn1.ext.size
  have he2 := hn2.ext.size
  have hs3 := hL3.size
  have ht3 := hL3.there k3 (by simp)
  have hE2 : Ext w w2 := hn1.ext.trans hn2.ext
  have hE3 : Ext w w3 := hE2.step hL3.chg (by simp; omega)
  refine calls_lzw_runs_byte _ _ _ _ _ ?_
  intro kb w4 hn4
  have hkb := hn4.1
  have hkb4 := hn4.size
  have he4 := hn4.ext.size
  refine ⟨_, _, _, rfl, hn4.ext.keep _, fun k4 w5 hrf I1 Z1 stI stZ hI0 rule => ?_⟩
  have hk4 := hrf.eq
  have hs5 := hrf.size
  have hE5 := hrf.ext
  refine callF_i (by kernel_rfl) ?_
  have hEw : Ext w w5 := (hE3.trans hn4.ext).trans hE5
  obtain ⟨D, hD⟩ : ∃ D, D = w4.heap.size := ⟨_, rfl⟩
  rw [← hD] at stI stZ rule ⊢
  let J : Nat → World → Prop := fun i u => ∃ (f : Nat → Nat) (out loose : List Int) (F : Nat) (po : Option Addr) (lo co : Nat) (pl : Option Addr) (ll cl : Nat),
    PM w u f [k3, k4, D, kb] k1 k2 (.slice po lo co) (.slice pl ll cl) out loose po lo co pl ll cl ∧ Cs u kb [.slice base len cap] ∧ I1 [] u ∧ i ≤ bs.length ∧ bs.length ≤ F + i ∧ pkF bs F i (out, loose) = res ∧ out.length + 2 * loose.length ≤ 2 * i
  have hkeepI : ∀ {x y : World}, Keep [k3, k4, D, kb] x y → Keep [k4, D, k3] x y := fun hk i hi hlt => hk i (by simp at hi ⊢; rcases hi with rfl | rfl | rfl <;> simp) hlt
  refine runs_iter J hl hsz (fun i u ⟨f, out, loose, F, po, lo, co, pl, ll, cl, pm, hc, _⟩ => ⟨hc.cell (i := 0) rfl, (h.ext pm.pal.ext).up⟩) ?_ (fun i u ⟨f, out, loose, F, po, lo, co, pl, ll, cl, pm, hc, hi, h1⟩ => ⟨f, out, loose, F, po, lo, co, pl, ll, cl, pm.dr, hc.drew, stI _ _ _ hi ((Ext.refl u).drew.keep _), h1⟩) (fun i u hi hJ => ?_) (fun u hJ => ?_)
  · refine ⟨fun _ => 0, [], [], bs.length, none, 0, 0, none, 0, 0, ⟨⟨hEw, fun b hb => ?_⟩, OwnS.nil _ _ _ _, OwO.nil _ _ _ _, ?_, ?_, by omega, ?_⟩, ?_, hI0, by omega, by omega, hres, by simp⟩
    · simp only [List.mem_cons, List.not_mem_nil, or_false] at hb
      refine ⟨?_, ?_, rfl⟩ <;> rcases hb with rfl | rfl | rfl | rfl | rfl | rfl <;> omega
    · exact ((((hn1.cs.ext hn2.ext).locl hL3 (by simp; omega)).ext hn4.ext).ext hE5)
    · exact (((hn2.cs.locl hL3 (by simp; omega)).ext hn4.ext).ext hE5)
    · simp only [List.mem_cons, List.not_mem_nil, or_false]; omega
    · exact hn4.cs.ext hE5
  · obtain ⟨f, out, loose, F, po, lo, co, pl, ll, cl, pm, hc, hI1, hib, hF, hpk, hbd⟩ := hJ
    obtain ⟨hr1, hr2, hr3⟩ := runAt_le hi
    obtain ⟨G, rfl⟩ : ∃ G, F = G + 1 := ⟨F - 1, by omega⟩
    rw [pkF, if_pos hi] at hpk
    generalize hx : bs.getD i 0 = x at *
    generalize hn : runAt bs i = n at *
    have hlb := pm.lb
    have hla := pm.la
    have hkb' := pm.ltL (i := kb) (by simp)
    have hk4' := pm.ltL (i := k4) (by simp)
    have hD' := pm.ltL (i := D) (by simp)
    have hk3' := pm.ltL (i := k3) (by simp)
    have hkbn : kb ≠ k1 ∧ kb ≠ k2 ∧ kb ≠ k3 ∧ kb ≠ k4 ∧ kb ≠ D := by omega
    refine rule _ _ u _ hI1 fun y5 y6 w11 hP11 => ?_
    have hs11 := hP11.size
    have pm11 := (pm.locl (hP11.locl hk4'.1) (by simp)).mono (L' := [k3, k4, D, kb]) (by simp)
    have c11 := hc.put hP11 (by omega)
    generalize (fOn f u.heap.size 0) = f11 at pm11
    -- what a round must come to
    refine ⟨fun vs u' => vs = [] ∧ ∃ (f : Nat → Nat) (po : Option Addr) (lo co : Nat) (pl : Option Addr) (ll cl : Nat), PM w u' f [k3, k4, D, kb] k1 k2 (.slice po lo co) (.slice pl ll cl) (stepR x n (out, loose)).1 (stepR x n (out, loose)).2 po lo co pl ll cl ∧ Cs u' kb [.slice base len cap], ?_, ?_⟩
    rotate_left
    · intro w22 hI3 w23 hP23 hI1'
      obtain ⟨-, f, po, lo, co, pl, ll, cl, pm22, c22⟩ := hI3
      have hk4'' := pm22.ltL (i := k4) (by simp)
      refine .inl ⟨rfl, _, _, _, G, po, lo, co, pl, ll, cl, (pm22.locl (hP23.locl hk4''.1) (by simp)).mono (by simp), c22.put hP23 (by omega), hI1', by omega, by omega, hpk, ?_⟩
      unfold stepR
      split
      · simp only [List.length_append, List.length_replicate]; omega
      · rename_i hsm
        have hfl := flushL_length loose.length loose
        simp only [List.length_append, List.length_cons, List.length_nil]
        omega
    have hloop : small n loose = true → ∀ (id : Nat) (vv : Value), ∃ (I5 : List Value → World → Prop) (m1 : List Value → World → Nat), I5 [i64 0] w11 ∧ ∀ n3 w12, I5 [i64 n3] w12 →
        brB (decide (n3 < (n : Int))) (∃ p2 k7 k8, w12.cell? ⟨k2, 0, none⟩ = some (.slice p2 k7 k8) ∧ ∀ k9, w12.heap.size ≤ k9 → ∀ w13, Locl [k9, k3] w12 w13 →
          appVC w13 [(id, k9, [u8 x]), (5, k3, [vv])] p2 k7 k8 1 1 1 5 [u8 0] [u8 x] fun p3 k10 k11 w14 =>
          (∃ v1, w14.cell? ⟨k2, 0, none⟩ = some v1) ∧ w14.frozen? ⟨k2, 0, none⟩ = false ∧ (¬ k2 ∈ [k9, k3]) ∧
          I5 [i64 (IntKind.i64.wrap (n3 + 1))] (setCells w14 ⟨k2, 0, none⟩ [.slice p3 k10 k11] 0) ∧ m1 [i64 (IntKind.i64.wrap (n3 + 1))] (setCells w14 ⟨k2, 0, none⟩ [.slice p3 k10 k11] 0) < m1 [i64 n3] w12)
        (([] : List Value) = [] ∧ ∃ (f : Nat → Nat) (po : Option Addr) (lo co : Nat) (pl : Option Addr) (ll cl : Nat), PM w w12 f [k3, k4, D, kb] k1 k2 (.slice po lo co) (.slice pl ll cl) (stepR x n (out, loose)).1 (stepR x n (out, loose)).2 po lo co pl ll cl ∧ Cs w12 kb [.slice base len cap]) := by
      intro hsm id vv
      refine ⟨fun vs u' => match vs with | [.int _ k] => ∃ (m : Nat) (f : Nat → Nat) (pl : Option Addr) (ll cl : Nat), k = m ∧ m ≤ n ∧ PM w u' f [k3, k4, D, kb] k1 k2 (.slice po lo co) (.slice pl ll cl) out (loose ++ List.replicate m x) po lo co pl ll cl ∧ Cs u' kb [.slice base len cap] | _ => False,
        fun vs _ => match vs with | [.int _ k] => (n - k).toNat | _ => 0, ⟨0, f11, pl, ll, cl, rfl, by omega, by simpa using pm11, c11⟩, fun n3 w12 hI5 => ?_⟩
      obtain ⟨m, f12, pl, ll, cl, rfl, hm, pm12, c12⟩ := hI5
      have hlb12 := pm12.lb
      rw [List.length_append, List.length_replicate] at hlb12
      refine brB_i (fun hb => ?_) (fun hb => ?_)
      · have hb : (m : Int) < n := by simpa using hb
        refine ⟨_, _, _, pm12.cb.cell (i := 0) rfl, fun k9 hk9 w13 hL13 => ?_⟩
        have hab := pm12.abl
        have hkb12 := pm12.ltL (i := kb) (by simp)
        have hk312 := pm12.ltL (i := k3) (by simp)
        have pm13 := pm12.locl hL13 (fun j hj => by simp at hj ⊢; rcases hj with rfl | rfl; exact .inr hk9; exact .inl (.inl rfl))
        have c13 := c12.locl hL13 (by simp; omega)
        refine pm13.app2 (xs := [x]) (by simp [blocks]) rfl (by simp only [List.length_append, List.length_replicate, List.length_singleton]; omega) fun p3 k11 w14 f14 pm14 hk14 hs14 => ?_
        have c14 := c13.keep hk14 (by simp)
        have pm15 := pm14.stb (.slice p3 (ll + 1) k11)
        have c15 := c14.keep pm15.2 (by simp)
        rw [w64 (by omega) (by omega)]
        refine ⟨⟨_, pm14.cb.cell (i := 0) rfl⟩, pm14.cb.frozen 0, by simp; omega, ⟨m + 1, f14, p3, ll + 1, k11, by omega, by omega, ?_, c15⟩, by show ((n : Int) - (m + 1)).toNat < ((n : Int) - m).toNat; omega⟩
        have e : loose ++ List.replicate m x ++ [x] = loose ++ List.replicate (m + 1) x := by rw [List.replicate_succ', List.append_assoc]
        rw [← e]
        exact pm15.1.mono (by simp)
      · have hb : ¬ (m : Int) < n := by simpa using hb
        have : m = n := by omega
        subst this
        refine ⟨rfl, f12, po, lo, co, pl, ll, cl, ?_, c12⟩
        unfold stepR
        rw [if_pos hsm]
        exact pm12
    refine ⟨fun vs u' => vs = [] ∧ w11 = u' ∧ small n loose = false, ?_, ?_⟩
    · refine brB_i (fun hb => ?_) (fun hb => ?_)
      · have hb : n < 3 := by simp at hb; omega
        refine brB_i (fun hb2 => ?_) (fun hb2 => ?_)
        · have hb2 : n = 2 := by simp at hb2; omega
          refine ⟨_, _, _, pm11.cb.cell (i := 0) rfl, brB_i (fun hb3 => ?_) (fun hb3 => ?_)⟩
          · refine hloop ?_ _ _
            have : ll ≠ 0 := by simpa using hb3
            have h0 : ¬ loose.length = 0 := by omega
            simp [small, hb, hb2, h0]
          · have : ll = 0 := by simpa using hb3
            have h0 : loose.length = 0 := by omega
            exact ⟨rfl, rfl, by simp [small, hb, hb2, h0]⟩
        · have hb2 : n ≠ 2 := by intro e; rw [e] at hb2; simp at hb2
          refine hloop ?_ _ _
          simp [small, hb, hb2]
      · have hb : ¬ n < 3 := by simp at hb; omega
        exact ⟨rfl, rfl, by simp [small, hb]⟩
    · intro w18 hI4
      obtain ⟨-, rfl, hsm⟩ := hI4
      refine flush_spec pm11 (by omega) fun f19 w19 po9 lo9 co9 pl9 cl9 pm19 hk19 hs19 => ⟨rfl, hkeepI hk19, _, _, _, pm19.ca.cell (i := 0) rfl, fun k19 hk19' w20 hL20 => ?_⟩
      have c19 := c11.keep hk19 (by simp)
      have hab := pm19.abl
      have hkb19 := pm19.ltL (i := kb) (by simp)
      have pm20 := pm19.locl hL20 (fun j hj => by simp at hj ⊢; rcases hj with rfl | rfl; exact .inr hk19'; exact .inl (.inl rfl))
      have c20 := c19.locl hL20 (by simp; omega)
      have hfl := flushL_length loose.length loose
      have hv : IntKind.u8.wrap (IntKind.i64.wrap (257 - (n : Int))) = 257 - (n : Int) := by
        have : 2 ≤ n := by
          rcases Nat.lt_or_ge n 2 with h' | h'
          · exfalso
            have : n = 1 := by omega
            rw [this] at hsm; simp [small] at hsm
          · exact h'
        rw [w64 (by omega) (by omega), wu8 (by omega) (by omega)]
      rw [hv]
      refine pm20.app1 (xs := [257 - (n : Int), x]) (by simp [blocks]) rfl (by simp only [List.length_append, List.length_cons, List.length_nil]; omega) fun p7 k21 w21 f21 pm21 hk21 hs21 => ?_
      have c21 := c20.keep hk21 (by simp)
      have pm22 := pm21.sta (.slice p7 (lo9 + 2) k21)
      have c22 := c21.keep pm22.2 (by simp)
      refine ⟨⟨_, pm21.ca.cell (i := 0) rfl⟩, pm21.ca.frozen 0, by simp; omega, rfl, f21, p7, lo9 + 2, k21, pl9, 0, cl9, ?_, c22⟩
      have e : stepR x n (out, loose) = (out ++ flushL loose.length loose ++ [257 - (n : Int), x], []) := by
        unfold stepR; rw [hsm]; rfl
      rw [e]
      exact pm22.1.mono (by simp)
  · obtain ⟨f, out, loose, F, po, lo, co, pl, ll, cl, pm, hc, hI1, hib, hF, hpk, hbd⟩ := hJ
    have hpk' : out ++ flushL loose.length loose = res := by
      rw [← hpk]; cases F with
      | zero => rfl
      | succ F => rw [pkF, if_neg (by omega)]
    refine ⟨_, rfl, .inl ⟨hI1, fun w25 hP25 => ?_⟩⟩
    have hk4' := pm.ltL (i := k4) (by simp)
    have pm25 := (pm.locl (hP25.locl hk4'.1) (by simp)).mono (L' := [k3, k4, D, kb]) (by simp)
    refine flush_spec pm25 (by omega) fun f26 w26 po6 lo6 co6 pl6 cl6 pm26 hk26 hs26 => ⟨rfl, fun i hi hlt => hk26 i (by simp at hi ⊢; rcases hi with rfl | rfl <;> simp) hlt, _, _, _, pm26.ca.cell (i := 0) rfl, fun w27 hP27 => ?_⟩
    have hD' := pm26.ltL (i := D) (by simp)
    have pm27 := pm26.locl (hP27.locl hD'.1) (by simp)
    rw [hpk'] at pm27
    exact hR _ _ _ _ (pm27.o.fg pm27.pal.ext)
end Go.Proofs.Ytlbokiaolmflaaa
