/- LZW: the program's reader, walked. -/
import Derived.Test.YtlbokiaolmflaaaLZ2
namespace Go.Proofs.Ytlbokiaolmflaaa
open Go Go.Vc Go.RowKit
set_option maxRecDepth 100000
set_option linter.unusedVariables false
set_option linter.unusedSimpArgs false

theorem fill_set (o d : List Int) (m : Nat) (l : Int) : (o ++ List.replicate (m + 1) 0 ++ d).set (o.length + m) l = o ++ List.replicate m 0 ++ l :: d := by
  rw [List.append_assoc, List.set_append_right _ _ (by omega), show o.length + m - o.length = m by omega, List.replicate_succ', List.append_assoc, List.append_assoc, List.set_append_right _ _ (by simp)]
  simp
theorem lz_pos {bs : List Int} {F : Nat} {s : LS} (h : 8 * bs.length < s.pos + F) (h' : s.pos ≤ 8 * bs.length) : ∃ G, F = G + 1 := ⟨F - 1, by omega⟩
theorem left_lt {n a b : Nat} (h : a + b ≤ 8 * n) (hb : 1 ≤ b) : (8 * (n : Int) - ((a + b : Nat) : Int)).toNat < (8 * (n : Int) - (a : Int)).toNat := by omega
set_option maxHeartbeats 4000000 in
theorem unpack_spec {N cl w0 early : Nat} {most : Int} {up : Bool} {w : World} {base : Option Addr} {len cap : Nat} {bs : List Int} {R : Ending → World → Prop}
    (h : Sl N w base (bytes bs)) (hl : len = bs.length) (hsz : len ≤ 2 ^ 24) (hf : Bs bs) (hcl : cl ≤ 256) (hc4 : 4 ≤ cl) (hw1 : 1 ≤ w0) (hw2 : w0 ≤ 12) (he : early ≤ 1) (m0 : 0 ≤ most) (m1 : most ≤ 9223372036854775807)
    (hR : ∀ p l c w', Fg [] w w' 1 p l c (bytes (lz bs up cl w0 early most (8 * bs.length + 1) (initS w0)).1) → R (.returned (.tuple #[.slice p l c, i64 (lz bs up cl w0 early most (8 * bs.length + 1) (initS w0)).2])) w') :
    Calls P F.lzw_kind_unpack #[.agg #[i64 cl, i64 w0, .bool up, i64 early], .slice base len cap, i64 most] w R := by
  refine calls_lzw_kind_unpack _ _ _ _ _ _ _ _ _ _ ?_
  generalize hres : lz bs up cl w0 early most (8 * bs.length + 1) (initS w0) = res at hR
  intro k1 hk1 w1 hL1
  have hE1 : Ext w w1 := hL1.ext (by simpa using hk1)
  have hs1 := hE1.size
  have hk1' := hL1.there k1 (by simp)
  refine NewReader_spec (h.ext hE1) hl (by omega) hf fun rb w2 hE2 hrb hrd => ⟨_, rfl, hE2.keep _, ?_⟩
  have hs2 := hE2.size
  have hrb2 : rb < w2.heap.size := by obtain ⟨_, _, hc, _⟩ := hrd.obj; exact hc.lt
  have hE2d : Ext w w2.drew := (hE1.trans hE2).drew
  refine entries_spec hcl fun p w3 hE3 ho => ⟨_, _, _, rfl, hE3.keep _, hE3.keeps, ?_⟩
  have hs3 : w2.heap.size ≤ w3.heap.size := hE3.size
  refine ⟨UI w k1 rb (fun i => w1.heap.size ≤ i ∧ i < rb) bs up cl w0 early most res, fun _ u => rdLeft bs rb u, ?_, ?_⟩
  · refine ⟨fOn (fun _ => 0) w2.heap.size 1, initS w0, 8 * bs.length + 1, ?_, by simp only [initS]; omega, hres, rfl, rfl, ⟨⟨hE2d.trans hE3, fun b hb => ?_⟩, ?_, fun b hb => ⟨by rw [fOn_lt (by omega)], by omega⟩, fun b hb => ?_, Th.new ho (hE1.trans hE2), Th.nil _ _ _ _ _ _⟩⟩
    · exact ⟨hcl, hc4, hw1, hw2, by simp [initS]; omega, rfl, by simp [initS], by simp [initS], fun _ => rfl, by simp [initS, Bs], by simp [initS]⟩
    · simp only [List.mem_cons, List.not_mem_nil, or_false] at hb
      rcases hb with rfl | rfl
      · exact ⟨by omega, by omega, by rw [fOn_lt hrb2]⟩
      · exact ⟨by omega, by omega, by rw [fOn_lt (by omega)]⟩
    · exact hrd.ext ((Ext.refl w2).drew.trans hE3)
    · simp only [List.mem_cons, List.not_mem_nil, or_false] at hb
      subst hb
      exact ⟨fun hh => by omega, by omega⟩
  intro p3 k4 k5 n1 n2 p4 k6 k7 w4 hI
  obtain ⟨f, s, F, hi, hF, hlz, rfl, rfl, um⟩ := hI
  generalize hS : (fun i => w1.heap.size ≤ i ∧ i < rb) = S at *
  have hhi := um.rd.hi
  obtain ⟨G, rfl⟩ := lz_pos hF (by omega)
  rw [lz_step] at hlz
  have hwd := hi.wd12
  have hwd1 := hi.wd1
  have hlong := hi.long
  have hfull := hi.full
  have hk4 := um.k4e
  have hk6 := um.k6e
  rw [tabL_length hi.la] at hk4
  refine ⟨fun vs u => UI w k1 rb S bs up cl w0 early most res vs u ∧ rdLeft bs rb u < rdLeft bs rb w4, ?_, fun p10 k19 k20 n19 n20 p11 k21 k22 w13 hI2 => hI2⟩
  refine Take_spec um.rd (fun hh => by omega) (fun _ _ hgt => ?_) (fun _ _ hle w5 hC5 hrd5 => ?_)
  · rw [if_pos (by omega)] at hlz
    subst hlz
    exact ⟨_, _, rfl, (Ext.refl w4).drew.keep _, brB_t rfl (hR none 0 0 _ (Fg.nil um.pal.ext.drew 1))⟩
  rw [if_neg (by omega)] at hlz
  have hvr := takeV_range bs up s.pos s.wd
  simp only [Int.toNat_natCast]
  obtain ⟨v, hv⟩ := Int.eq_ofNat_of_zero_le hvr.1
  have hv4 : v < 4096 := by
    have := pow_small s.wd (by omega)
    have h2 : ((2 : Int) ^ s.wd) = ((2 ^ s.wd : Nat) : Int) := by simp
    omega
  rw [hv] at hlz ⊢
  simp only [Int.toNat_natCast] at hlz
  have um5 := um.take hC5 hrd5 (pos' := s.pos + s.wd) (by omega)
  have hmea : rdLeft bs rb w4 = (8 * bs.length - s.pos : Int).toNat := um.rd.left
  have hnk1 := um.nk k1 (by simp)
  have hle' : s.pos + s.wd ≤ 8 * bs.length := by omega
  refine ⟨_, _, rfl, hC5.keep (by simpa using hnk1.2), brB_f rfl ?_⟩
  rw [w64 (x := (v : Int)) (by omega) (by omega), w64 (x := (cl : Int) + 2) (by omega) (by omega), w64 (x := (cl : Int) + 1) (by omega) (by omega)]
  have hahr : ahI s.ah = -1 ∧ s.ah = none ∨ ∃ a : Nat, ahI s.ah = a ∧ s.ah = some a := by
    cases hc : s.ah with
    | none => exact .inl ⟨rfl, rfl⟩
    | some a => exact .inr ⟨a, rfl, rfl⟩
  refine ⟨fun vs u => [.slice p3 k4 k5, i64 s.wd, i64 (ahI s.ah)] = vs ∧ w5 = u ∧ v ≠ cl ∧ v ≠ cl + 1 ∧ ¬ badC cl s v, ?_, ?_⟩
  · refine brB_i (fun hb => ?_) (fun hb => ?_)
    · have hb : v = cl := by have : (v : Int) = cl := by simpa using hb
                             omega
      rw [if_pos hb] at hlz
      have hr := um5.tab.room
      refine ⟨by omega, by omega, by omega, ?_⟩
      have hT := um5.tab.cut (n := cl + 2) (by omega)
      rw [cellsF_take ent_length, tabL_cut] at hT
      have e1 : ((cl : Int) + 2).toNat - (0 : Int).toNat = cl + 2 := by omega
      have e2 : k5 - (0 : Int).toNat = k5 := by simp
      rw [e1, e2, show (0 : Int).toNat = 0 from rfl]
      have umd := um5.dr
      refine ⟨⟨f, ⟨s.pos + s.wd, w0, none, [], [], s.out⟩, G, hi.clear hw1 hw2, by simp only; omega, hlz, rfl, rfl, ⟨umd.pal, umd.rd, umd.sf, umd.nk, hT, umd.out⟩⟩, ?_⟩
      rw [hmea, umd.rd.left]; exact left_lt hle' hwd1
    have hb : v ≠ cl := by have : ¬ (v : Int) = cl := by simpa using hb
                           omega
    rw [if_neg hb] at hlz
    refine brB_i (fun hb2 => ?_) (fun hb2 => ?_)
    · have hb2 : v = cl + 1 := by have : (v : Int) = cl + 1 := by simpa using hb2
                                  omega
      rw [if_pos hb2] at hlz
      subst hlz
      exact hR _ _ _ _ (um5.out.fg um5.pal.ext)
    have hb2 : v ≠ cl + 1 := by have : ¬ (v : Int) = cl + 1 := by simpa using hb2
                                omega
    rw [if_neg hb2] at hlz
    have hbad : badC cl s v → R (.returned (.tuple #[.slice none 0 0, i64 32])) w5 := fun hb3 => by
      rw [if_pos hb3] at hlz
      subst hlz
      exact hR none 0 0 _ (Fg.nil um5.pal.ext 1)
    refine brB_i (fun hb3 => ?_) (fun hb3 => ?_)
    · refine brB_t hb3 (hbad ?_)
      simp only [Bool.and_eq_true, decide_eq_true_eq] at hb3
      rcases hahr with ⟨e1, e2⟩ | ⟨a, e1, e2⟩
      · simp only [badC, e2]; omega
      · omega
    have hb3' : ¬ (ahI s.ah < 0 ∧ (v : Int) > cl) := by simpa using hb3
    refine brB_i (fun hb4 => ?_) (fun hb4 => ?_)
    · refine brB_t hb4 (hbad ?_)
      have hb4 : (v : Int) > k4 := by simpa using hb4
      rcases hahr with ⟨e1, e2⟩ | ⟨a, e1, e2⟩
      · omega
      · simp only [badC, e2]; omega
    have hb4' : ¬ (v : Int) > k4 := by simpa using hb4
    refine brB_i (fun hb5 => ?_) (fun hb5 => ?_)
    · have hb5 : (v : Int) = k4 ∧ (k4 : Int) = 4096 := by simpa using hb5
      refine hbad ?_
      rcases hahr with ⟨e1, e2⟩ | ⟨a, e1, e2⟩
      · omega
      · simp only [badC, e2]; omega
    · have hb5 : ¬ ((v : Int) = k4 ∧ (k4 : Int) = 4096) := by simpa using hb5
      refine ⟨rfl, rfl, hb, hb2, fun hbd => ?_⟩
      rcases hahr with ⟨e1, e2⟩ | ⟨a, e1, e2⟩
      · simp only [badC, e2] at hbd; omega
      · simp only [badC, e2] at hbd; omega
  intro p6 k10 k11 n5 n6 w6 hI3
  obtain ⟨e, rfl, hvc, hvc1, hnb⟩ := hI3
  simp only [List.cons.injEq, Value.slice.injEq, Value.int.injEq, true_and, and_true] at e
  obtain ⟨⟨rfl, rfl, rfl⟩, rfl, rfl⟩ := e
  have nx := hi.nxt (early := early) hvc hvc1 hnb
  rw [if_neg hvc, if_neg hvc1, if_neg hnb] at hlz
  have hmost := nx.most
  have hone := nx.one
  have hlong' : s.out.length ≤ 2 ^ 40 := by omega
  -- the table's growth
  refine ⟨fun vs u => match vs with | [.slice p8 k15 k16, .int _ n12] => ∃ f, n12 = (nextS cl early s v).wd ∧ UM w u f [k1] rb S bs (s.pos + s.wd) up (tabL cl (nextS cl early s v).A (nextS cl early s v).T) s.out p8 k15 k16 p4 k6 k7 | _ => False, ?_, ?_⟩
  · rcases hahr with ⟨e1, e2⟩ | ⟨a, e1, e2⟩
    · rw [e1]
      refine brB_f (by simp) ⟨f, ?_, ?_⟩
      · simp only [nextS, e2]
      · simp only [nextS, e2]; exact um5
    · rw [e1]
      have hva := hi.ahv a e2
      have hva4 : a < 4096 := by unfold vcode at hva; omega
      refine brB_i (fun hb => ?_) (fun hb => ?_)
      · have hlt : cl + 2 + s.T.length < 4096 := by
          simp only [Bool.and_eq_true, decide_eq_true_eq] at hb; omega
        have hnx : nextS cl early s v = ⟨s.pos + s.wd, wid early (cl + 2 + s.T.length) s.wd, some v, s.A ++ [a], s.T ++ [strOf cl s.T a ++ [(givenS cl s a v).headD 0]], s.out ++ givenS cl s a v⟩ := by
          simp only [nextS, e2, if_pos hlt]
        obtain ⟨a', l', hat, -⟩ := hi.at_ hva
        have hnbv : v ≤ cl + 2 + s.T.length := by simp only [badC, e2] at hnb; omega
        have hgo := fun (u : World) (um : UM w u f [k1] rb S bs (s.pos + s.wd) up (tabL cl s.A s.T) s.out p3 k4 k5 p4 k6 k7) (F : Addr → Prop) => um.tab.sl.elem (F := F) (i := (a : Int)) (len := k4) ent_length (by omega) (by omega) (by rw [tabL_length hi.la]; omega) (by rw [Int.toNat_natCast]; exact hat)
        refine hgo w5 um5 _ fun c1 hc1 => ⟨_, hc1 2 _ rfl, fun vs u => [u8 ((givenS cl s a v).headD 0)] = vs ∧ w5 = u, ?_, ?_⟩
        · refine brB_i (fun hb2 => ?_) (fun hb2 => ?_)
          · have hb2 : (v : Int) < k4 := by simpa using hb2
            have hvv : vcode cl s.T.length v := by unfold vcode; omega
            obtain ⟨a2, l2, hat2, -⟩ := hi.at_ hvv
            refine um5.tab.sl.elem (i := (v : Int)) (len := k4) ent_length (by omega) (by omega) (by rw [tabL_length hi.la]; omega) (by rw [Int.toNat_natCast]; exact hat2) fun c2 hc2 => ⟨_, hc2 2 _ rfl, ?_, rfl⟩
            simp only [givenS, if_neg (show v ≠ cl + 2 + s.T.length by omega)]
          · have hb2 : ¬ (v : Int) < k4 := by simpa using hb2
            refine ⟨?_, rfl⟩
            simp only [givenS, if_pos (show v = cl + 2 + s.T.length by omega)]
            have := (hi.str hva).2.1
            cases hc : strOf cl s.T a with
            | nil => rw [hc] at this; simp at this
            | cons x l => rfl
        intro n9 w7 hI5
        obtain ⟨e5, rfl⟩ := hI5
        simp only [List.cons.injEq, Value.int.injEq, true_and, and_true] at e5
        subst e5
        refine hgo _ um5.dr _ fun c3 hc3 => ⟨_, hc3 2 _ rfl, hgo _ um5.dr _ fun c4 hc4 => ⟨_, hc4 3 _ rfl, fun k12 hk12 w8 hL8 => ?_⟩⟩
        have um8 := um5.dr.locl hL8 (fun b hb => by
          simp only [List.mem_cons, List.not_mem_nil, or_false] at hb
          rcases hb with rfl | rfl
          · exact .inr hk12
          · exact .inl (by simp))
        have hstr := hi.str hva
        rw [w64 (x := ((strOf cl s.T a).length : Int) + 1) (by omega) (by omega)]
        refine um8.app1 (e := ((a : Int), (givenS cl s a v).headD 0, (strOf cl s.T a).headD 0, ((strOf cl s.T a).length : Int) + 1)) (by simp [blocks]) (by rw [tabL_length hi.la]; omega) fun p7 k14 w9 f9 um9 => ⟨by omega, ?_⟩
        have hent : enOf a (strOf cl s.T a ++ [(givenS cl s a v).headD 0]) = ((a : Int), (givenS cl s a v).headD 0, (strOf cl s.T a).headD 0, ((strOf cl s.T a).length : Int) + 1) := by
          have h1 : (strOf cl s.T a ++ [(givenS cl s a v).headD 0]).getLastD 0 = (givenS cl s a v).headD 0 := by simp
          have h2 : (strOf cl s.T a ++ [(givenS cl s a v).headD 0]).headD 0 = (strOf cl s.T a).headD 0 := by
            have := hstr.2.1
            cases hc : strOf cl s.T a with
            | nil => rw [hc] at this; simp at this
            | cons x l => rfl
          unfold enOf
          rw [h1, h2]; simp
        rw [← hent, ← tabL_add hi.la] at um9
        rw [shl1 s.wd (by omega)]
        have hp := pow_small s.wd (by omega)
        rw [w64 (x := ((2 ^ s.wd : Nat) : Int) - early) (by omega) (by omega), hnx]
        refine brB_i (fun hb3 => ?_) (fun hb3 => ?_)
        · have hb3 : ((k4 + 1 : Nat) : Int) = ((2 ^ s.wd : Nat) : Int) - early ∧ (s.wd : Int) < 12 := by
            simp only [Bool.and_eq_true, decide_eq_true_eq, beq_iff_eq] at hb3; exact hb3
          refine ⟨f9, ?_, (um9.mono (by simp)).dr⟩
          rw [w64 (by omega) (by omega)]
          unfold wid
          rw [if_pos (by omega)]; rfl
        · have hb3 : ¬ (((k4 + 1 : Nat) : Int) = ((2 ^ s.wd : Nat) : Int) - early ∧ (s.wd : Int) < 12) := by
            intro hh
            simp only [hh.1, hh.2, beq_self_eq_true, decide_true, Bool.and_self] at hb3
            cases hb3
          refine ⟨f9, ?_, (um9.mono (by simp)).dr⟩
          unfold wid
          rw [if_neg (by omega)]
      · have hlt : ¬ cl + 2 + s.T.length < 4096 := fun h' => by
          have h1 : decide ((a : Int) ≥ 0) = true := by simp
          have h2 : decide ((k4 : Int) < 4096) = true := by simp; omega
          rw [h1, h2] at hb; cases hb
        refine ⟨f, ?_, ?_⟩
        · simp only [nextS, e2, if_neg hlt]
        · simp only [nextS, e2, if_neg hlt]; exact um5
  have hinv := nx.inv
  have hcode := nx.code
  have hstr := nx.str
  have hsout := nx.out
  have hspos := nx.pos
  have hsah := nx.ah
  have htf := nx.fit
  clear nx
  generalize nextS cl early s v = s' at *
  generalize tOf cl s v = t at *
  intro p8 k15 k16 n12 w10 hI4
  obtain ⟨f4, rfl, um10⟩ := hI4
  have hvl : v < cl + 2 + s'.T.length := by unfold vcode at hcode; omega
  have hk15 := um10.k4e
  rw [tabL_length hinv.la] at hk15
  have hlen : ((strOf cl s'.T v).length : Int) = t.length := by rw [hstr]
  obtain ⟨a', l', hat, -⟩ := hinv.at_ hcode
  rw [hlen] at hat
  have hgo := fun (F : Addr → Prop) => um10.tab.sl.elem (F := F) (i := (v : Int)) (len := k15) ent_length (by omega) (by omega) (by rw [tabL_length hinv.la]; omega) (by rw [Int.toNat_natCast]; exact hat)
  refine hgo _ fun c1 hc1 => ⟨_, hc1 3 _ rfl, ?_⟩
  rw [w64 (x := most - (k6 : Int)) (by omega) (by omega)]
  refine brB_i (fun hb => ?_) (fun hb => ?_)
  · have hb : (t.length : Int) > most - k6 := by simpa using hb
    rw [if_pos (by omega)] at hlz
    subst hlz
    exact hR none 0 0 _ (Fg.nil um10.pal.ext 1)
  have hb : ¬ (t.length : Int) > most - k6 := by simpa using hb
  rw [if_neg (by omega)] at hlz
  refine hgo _ fun c2 hc2 => ⟨(t.length : Int), hc2 3 _ rfl, by omega, by omega, by omega, ?_⟩
  have hrep : rep ((t.length : Int)).toNat ((fun x : Value => x.cells.toList) (u8 0)) = bytes (List.replicate t.length 0) := by
    rw [Int.toNat_natCast]
    show rep t.length [u8 0] = _
    induction t.length with
    | zero => rfl
    | succ n ih => rw [rep, ih, List.replicate_succ]; rfl
  rw [hrep, Int.toNat_natCast]
  refine um10.app2 (by simp [blocks]) (by simp) (by simp; omega) fun p9 k18 w11 f11 um11 => ?_
  clear hgo hrep
  have hk6' := um10.k6e
  refine ⟨fun vs u => match vs with | [.int _ i, .int _ c] => ∃ (f : Nat → Nat) (done : List Int) (m : Nat), UM w u f [k1] rb S bs (s.pos + s.wd) up (tabL cl s'.A s'.T) (s.out ++ List.replicate m 0 ++ done) p8 k15 k16 p9 (k6 + t.length) k18 ∧ m + done.length = t.length ∧ i = (s.out.length + m : Nat) - (1 : Int) ∧ ((c = -1 ∧ done = t) ∨ ∃ c' : Nat, c = c' ∧ vcode cl s'.T.length c' ∧ strOf cl s'.T c' ++ done = t) | _ => False,
    fun vs _ => match vs with | [.int _ i, .int _ c] => (c + 1).toNat | _ => 0, ?_, fun n15 n16 w12 hI6 => ?_⟩
  · rw [w64 (x := ((k6 + t.length : Nat) : Int) - 1) (by omega) (by omega)]
    exact ⟨f11, [], t.length, by simpa using um11, by simp, by omega, .inr ⟨v, rfl, hcode, by simpa using hstr⟩⟩
  obtain ⟨f12, done, m, um12, hm, rfl, hc⟩ := hI6
  rcases hc with ⟨rfl, rfl⟩ | ⟨c, rfl, hcc, hce⟩
  · refine brB_f (by simp) ?_
    have hm0 : m = 0 := by omega
    subst hm0
    simp only [List.replicate_zero, List.append_nil] at um12
    rw [← hsout] at um12
    refine ⟨⟨f12, s', G, hinv, by rw [hspos]; omega, hlz, rfl, by rw [hsah]; rfl, by rw [hspos]; exact um12⟩, ?_⟩
    rw [hmea, um12.rd.left]; exact left_lt hle' hwd1
  · refine brB_t (by simp) ?_
    obtain ⟨a2, l2, hat2, hcase⟩ := hinv.at_ hcc
    have hcl2 : c < cl + 2 + s'.T.length := by unfold vcode at hcc; omega
    have hgo2 := fun (u : World) (out : List Int) (k6 : Nat) (um : UM w u f12 [k1] rb S bs (s.pos + s.wd) up (tabL cl s'.A s'.T) out p8 k15 k16 p9 k6 k18) (F : Addr → Prop) => um.tab.sl.elem (F := F) (i := (c : Int)) (len := k15) ent_length (by omega) (by omega) (by rw [tabL_length hinv.la]; omega) (by rw [Int.toNat_natCast]; exact hat2)
    have hstrl := (hinv.str hcc).2.1
    have hml : m = (strOf cl s'.T c).length := by
      have := congrArg List.length hce
      rw [List.length_append] at this; omega
    obtain ⟨m', rfl⟩ : ∃ m', m = m' + 1 := ⟨m - 1, by omega⟩
    refine hgo2 _ _ _ um12 _ fun c3 hc3 => ⟨_, hc3 1 _ rfl, ?_⟩
    obtain ⟨b, hb9, hcell, hfz, hbk, um13⟩ := um12.set2 (k := s.out.length + m') (by simp; omega) l2
    have ei : ((s.out.length + (m' + 1) : Nat) : Int) - 1 = (s.out.length + m' : Nat) := by omega
    rw [ei]
    refine idx_i (by omega) (by omega) hb9 ?_
    rw [Int.toNat_natCast, Nat.mul_one, loc_add, Nat.zero_add]
    refine ⟨hcell, hfz, hbk, hgo2 _ _ _ um13.dr _ fun c4 hc4 => ⟨_, hc4 0 _ rfl, ?_⟩⟩
    rw [fill_set] at um13
    rw [w64 (by omega) (by omega)]
    rcases hcase with ⟨rfl, hs2⟩ | ⟨a', rfl, hva', hlt', hs2⟩
    · refine ⟨⟨f12, l2 :: done, m', um13.dr, by simp; omega, by omega, .inl ⟨rfl, by rw [← hce, hs2]; rfl⟩⟩, by show ((-1 : Int) + 1).toNat < ((c : Int) + 1).toNat; omega⟩
    · refine ⟨⟨f12, l2 :: done, m', um13.dr, by simp; omega, by omega, .inr ⟨a', rfl, hva', by rw [← hce, hs2, List.append_assoc]; rfl⟩⟩, by show ((a' : Int) + 1).toNat < ((c : Int) + 1).toNat; omega⟩
end Go.Proofs.Ytlbokiaolmflaaa
