/- LZW: the document's reader, walked. -/
import Derived.Test.YtlbokiaolmflaaaLZ4
namespace Go.Proofs.Ytlbokiaolmflaaa
open Go Go.Vc Go.RowKit
set_option maxRecDepth 100000
set_option linter.unusedVariables false
set_option linter.unusedSimpArgs false

theorem lC_oneAll (xs : List Int) : oneAll (bytes xs) = true := bytes_oneAll xs
abbrev DT (A : List Nat) (T : List (List Int)) (out : List Int) (p3 : Option Addr) (k7 k8 : Nat) (p4 : Option Addr) (k9 k10 : Nat) (p5 : Option Addr) (k11 k12 : Nat) (p1 : Option Addr) (k3 k4 : Nat) : List Tg :=
  [⟨1, p3, k7, k8, 1, aC A⟩, ⟨2, p4, k9, k10, 1, lC T⟩, ⟨3, p5, k11, k12, 1, sC T⟩, ⟨4, p1, k3, k4, 1, bytes out⟩]
def DI (w : World) (L : List Nat) (base : Option Addr) (len cap : Nat) (bs : List Int) (up : Bool) (cl w0 early : Nat) (most : Int) (res : List Int × Int) (vs : List Value) (u : World) : Prop := match vs with
  | [.int _ n2, .slice p1 k3 k4, .int _ n3, .slice p2 k5 k6, .bool c1, .int _ n4, .int _ n5, .slice p3 k7 k8, .slice p4 k9 k10, .slice p5 k11 k12] =>
    p2 = base ∧ k5 = len ∧ k6 = cap ∧ c1 = up ∧ n5 = cl ∧ ∃ (f : Nat → Nat) (s : LS) (G : Nat), Inv cl s ∧ 8 * bs.length < s.pos + G ∧ s.pos ≤ 8 * bs.length ∧ lz bs up cl w0 early most G s = res ∧ n2 = s.wd ∧ n3 = ahI s.ah ∧ n4 = s.pos ∧
      Ths w u f L (DT s.A s.T s.out p3 k7 k8 p4 k9 k10 p5 k11 k12 p1 k3 k4)
  | _ => False
set_option maxHeartbeats 8000000 in
theorem refUnpack_spec {N cl w0 early : Nat} {most : Int} {up : Bool} {w : World} {base : Option Addr} {len cap : Nat} {bs : List Int} {R : Ending → World → Prop}
    (h : Sl N w base (bytes bs)) (hl : len = bs.length) (hsz : len ≤ 2 ^ 24) (hf : Bs bs) (hcl : cl ≤ 256) (hc4 : 4 ≤ cl) (hw1 : 1 ≤ w0) (hw2 : w0 ≤ 12) (he : early ≤ 1) (m0 : -9223372036854775808 ≤ most) (m1 : most ≤ 9223372036854775807)
    (hR : ∀ p l c w', Fg [] w w' 1 p l c (bytes (lz bs up cl w0 early (max most 0) (8 * bs.length + 1) (initS w0)).1) → R (.returned (.tuple #[.slice p l c, i64 (lz bs up cl w0 early (max most 0) (8 * bs.length + 1) (initS w0)).2])) w') :
    Calls P F.ref06_unpack #[.slice base len cap, i64 cl, i64 w0, .bool up, i64 early, i64 most] w R := by
  refine calls_ref06_unpack _ _ _ _ _ _ _ _ _ _ ?_
  refine ⟨fun vs u => [i64 (max most 0)] = vs ∧ w = u, brB_i (fun hb => ?_) (fun hb => ?_), ?_⟩
  · have hb : most < 0 := by simpa using hb
    rw [show max most 0 = 0 by omega]; exact ⟨rfl, rfl⟩
  · have hb : ¬ most < 0 := by simpa using hb
    rw [show max most 0 = most by omega]; exact ⟨rfl, rfl⟩
  intro n1 w1 hI1
  obtain ⟨e, rfl⟩ := hI1
  simp only [List.cons.injEq, Value.int.injEq, true_and, and_true] at e
  subst e
  have hm0 : 0 ≤ max most 0 := by omega
  have hm1 : max most 0 ≤ 9223372036854775807 := by omega
  generalize max most 0 = most at *
  generalize hres : lz bs up cl w0 early most (8 * bs.length + 1) (initS w0) = res at hR
  intro k1 hk1 k2 hk2
  refine ⟨DI w [k2, k1] base len cap bs up cl w0 early most res, fun vs _ => match vs with
    | [.int _ n2, .slice p1 k3 k4, .int _ n3, .slice p2 k5 k6, .bool c1, .int _ n4, .int _ n5, .slice p3 k7 k8, .slice p4 k9 k10, .slice p5 k11 k12] => (8 * bs.length - n4).toNat | _ => 0, fun w2 hL2 => ?_, ?_⟩
  · have hE : Ext w w2 := hL2.ext (by simp; omega)
    refine ⟨rfl, rfl, rfl, rfl, rfl, fun _ => 0, initS w0, 8 * bs.length + 1, ?_, by simp only [initS]; omega, by simp only [initS]; omega, hres, rfl, rfl, rfl, ⟨hE, fun b hb => ?_⟩, fun t ht => ?_⟩
    · exact ⟨hcl, hc4, hw1, hw2, by simp [initS]; omega, rfl, by simp [initS], by simp [initS], fun _ => rfl, by simp [initS, Bs], by simp [initS]⟩
    · refine ⟨?_, hL2.there b hb, rfl⟩
      simp only [List.mem_cons, List.not_mem_nil, or_false] at hb
      rcases hb with rfl | rfl <;> assumption
    · simp only [List.mem_cons, List.not_mem_nil, or_false] at ht
      rcases ht with rfl | rfl | rfl | rfl <;> exact ⟨by simp, OwnS.nil _ _ _ _⟩
  intro n2 p1 k3 k4 n3 p2 k5 k6 c1 n4 n5 p3 k7 k8 p4 k9 k10 p5 k11 k12 w3 hI
  obtain ⟨rfl, rfl, rfl, rfl, rfl, f, s, G', hi, hG, hpos, hlz, rfl, rfl, rfl, tm⟩ := hI
  obtain ⟨G, rfl⟩ := lz_pos hG hpos
  rw [lz_step] at hlz
  have hwd := hi.wd12
  have hwd1 := hi.wd1
  have hlong := hi.long
  have hfull := hi.full
  have hk7 : k7 = s.T.length := by have := (tm.get (t := ⟨1, p3, k7, k8, 1, aC s.A⟩) (by simp)).len; rw [aC_length, hi.la] at this; exact this
  have hk9 : k9 = s.T.length := by have := (tm.get (t := ⟨2, p4, k9, k10, 1, lC s.T⟩) (by simp)).len; rw [lC_length] at this; exact this
  have hk11 : k11 = s.T.length := by have := (tm.get (t := ⟨3, p5, k11, k12, 1, sC s.T⟩) (by simp)).len; rw [sC_length] at this; exact this
  have hk3 : k3 = s.out.length := by have := (tm.get (t := ⟨4, p1, k3, k4, 1, bytes s.out⟩) (by simp)).len; rw [bytes_length] at this; exact this
  refine ⟨fun vs u => DI w [k2, k1] p2 k5 k6 bs c1 cl w0 early most res vs u ∧ (match vs with
    | [.int _ n2, .slice p1 k3 k4, .int _ n3, .slice p2 k5 k6, .bool c1, .int _ n4, .int _ n5, .slice p3 k7 k8, .slice p4 k9 k10, .slice p5 k11 k12] => (8 * bs.length - n4).toNat | _ => 0) < (8 * (bs.length : Int) - s.pos).toNat, ?_, fun _ _ _ _ _ _ _ _ _ _ _ _ _ _ _ _ _ _ _ _ _ hI3 => hI3⟩
  refine refTake_spec (h.ext tm.pal.ext) hl hf (by omega) (by omega) (by omega) (fun hh => by omega) (fun _ _ hgt w4 hE4 => ?_) (fun _ _ hle w4 hE4 => ?_)
  · rw [if_pos (by omega)] at hlz
    subst hlz
    refine ⟨_, _, _, _, _, _, _, rfl, hE4.keep _, fun k15 hk15 => brB_t rfl fun w5 hL5 => hR none 0 0 _ (Fg.nil ((tm.step hE4 0).locl hL5 (fun b hb => ?_)).pal.ext 1)⟩
    simp only [List.mem_cons, List.not_mem_nil, or_false] at hb ⊢
    rcases hb with rfl | rfl | rfl
    · exact .inr hk15
    · exact .inl (.inl rfl)
    · exact .inl (.inr rfl)
  rw [if_neg (by omega)] at hlz
  have hvr := takeV_range bs c1 s.pos s.wd
  simp only [Int.toNat_natCast]
  obtain ⟨v, hv⟩ := Int.eq_ofNat_of_zero_le hvr.1
  have hv4 : v < 4096 := by
    have := pow_small s.wd (by omega)
    have h2 : ((2 : Int) ^ s.wd) = ((2 ^ s.wd : Nat) : Int) := by simp
    omega
  rw [hv] at hlz ⊢
  simp only [Int.toNat_natCast] at hlz
  refine ⟨_, _, _, _, _, _, _, rfl, hE4.keep _, fun k15 hk15 => brB_f rfl ?_⟩
  have hle' : s.pos + s.wd ≤ 8 * bs.length := by omega
  have hgoL : ∀ {w5 : World}, Locl [k15, k2, k1] w4 w5 → ∃ g, Ths w w5 g [k15, k2, k1] (DT s.A s.T s.out p3 k7 k8 p4 k9 k10 p5 k11 k12 p1 k3 k4) := fun {w5} hL5 => by
    refine ⟨_, ((tm.step hE4 0).locl hL5 (fun b hb => ?_)).mono (by simp) (fun t ht => ht)⟩
    simp only [List.mem_cons, List.not_mem_nil, or_false] at hb ⊢
    rcases hb with rfl | rfl | rfl
    · exact .inr hk15
    · exact .inl (.inl rfl)
    · exact .inl (.inr rfl)
  rw [w64 (x := (v : Int)) (by omega) (by omega), w64 (x := (cl : Int) + 2) (by omega) (by omega), w64 (x := (cl : Int) + 1) (by omega) (by omega), w64 (x := (cl : Int) + 2 + (k7 : Int)) (by omega) (by omega)]
  have hahr : ahI s.ah = -1 ∧ s.ah = none ∨ ∃ a : Nat, ahI s.ah = a ∧ s.ah = some a := by
    cases hc : s.ah with
    | none => exact .inl ⟨rfl, rfl⟩
    | some a => exact .inr ⟨a, rfl, rfl⟩
  refine brB_i (fun hb => ?_) (fun hb => ?_)
  · have hb : v = cl := by have : (v : Int) = cl := by simpa using hb
                           omega
    rw [if_pos hb] at hlz
    intro w6 hL6
    obtain ⟨g, tm6⟩ := hgoL hL6
    refine ⟨⟨rfl, rfl, rfl, rfl, rfl, g, ⟨s.pos + s.wd, w0, none, [], [], s.out⟩, G, hi.clear hw1 hw2, by simp only; omega, hle', hlz, rfl, rfl, by simp, tm6.pal.mono (by simp), fun t ht => ?_⟩, by show (8 * (bs.length : Int) - ((s.pos : Int) + s.wd)).toNat < _; omega⟩
    simp only [List.mem_cons, List.not_mem_nil, or_false] at ht
    rcases ht with rfl | rfl | rfl | rfl
    · exact ⟨by simp, OwnS.nil _ _ _ _⟩
    · exact ⟨by simp, OwnS.nil _ _ _ _⟩
    · exact ⟨by simp, OwnS.nil _ _ _ _⟩
    · exact tm6.th _ (by simp)
  have hb : v ≠ cl := by have : ¬ (v : Int) = cl := by simpa using hb
                         omega
  rw [if_neg hb] at hlz
  refine brB_i (fun hb2 => ?_) (fun hb2 => ?_)
  · have hb2 : v = cl + 1 := by have : (v : Int) = cl + 1 := by simpa using hb2
                                omega
    rw [if_pos hb2] at hlz
    subst hlz
    intro w7 hL7
    obtain ⟨g, tm7⟩ := hgoL hL7
    exact hR _ _ _ _ ((tm7.get (t := ⟨4, p1, k3, k4, 1, bytes s.out⟩) (by simp)).fg tm7.pal.ext)
  have hb2 : v ≠ cl + 1 := by have : ¬ (v : Int) = cl + 1 := by simpa using hb2
                              omega
  rw [if_neg hb2] at hlz
  have hbad : badC cl s v → ∀ w5, Locl [k15, k2, k1] w4 w5 → R (.returned (.tuple #[.slice none 0 0, i64 32])) w5 := fun hb3 w5 hL5 => by
    rw [if_pos hb3] at hlz
    subst hlz
    obtain ⟨g, tm5⟩ := hgoL hL5
    exact hR none 0 0 _ (Fg.nil tm5.pal.ext 1)
  refine ⟨fun vs u => vs = [] ∧ ¬ badC cl s v ∧ ∃ g, Ths w u g [k15, k2, k1] (DT s.A s.T s.out p3 k7 k8 p4 k9 k10 p5 k11 k12 p1 k3 k4), ?_, ?_⟩
  · refine brB_i (fun hb3 => ?_) (fun hb3 => ?_)
    · have hb3 : ahI s.ah < 0 ∧ (v : Int) > cl := by simpa using hb3
      refine hbad ?_
      rcases hahr with ⟨e1, e2⟩ | ⟨a, e1, e2⟩
      · simp only [badC, e2]; omega
      · omega
    have hb3' : ¬ (ahI s.ah < 0 ∧ (v : Int) > cl) := by simpa using hb3
    refine brB_i (fun hb4 => ?_) (fun hb4 => ?_)
    · have hb4 : ahI s.ah ≥ 0 := by simpa using hb4
      rcases hahr with ⟨e1, e2⟩ | ⟨a, e1, e2⟩
      · omega
      refine brB_i (fun hb5 => ?_) (fun hb5 => ?_)
      · have hb5 : (v : Int) > cl + 2 + k7 := by simpa using hb5
        refine hbad ?_
        simp only [badC, e2]; omega
      have hb5 : ¬ (v : Int) > cl + 2 + k7 := by simpa using hb5
      refine brB_i (fun hb6 => ?_) (fun hb6 => ?_)
      · have hb6 : (v : Int) = cl + 2 + k7 := by simpa using hb6
        refine brB_i (fun hb7 => ?_) (fun hb7 => ?_)
        · have hb7 : (cl : Int) + 2 + k7 ≥ 4096 := by simpa using hb7
          refine hbad ?_
          simp only [badC, e2]; omega
        · have hb7 : ¬ (cl : Int) + 2 + k7 ≥ 4096 := by simpa using hb7
          exact fun w5 hL5 => ⟨rfl, fun hbd => by simp only [badC, e2] at hbd; omega, hgoL hL5⟩
      · have hb6 : ¬ (v : Int) = cl + 2 + k7 := by simpa using hb6
        exact fun w5 hL5 => ⟨rfl, fun hbd => by simp only [badC, e2] at hbd; omega, hgoL hL5⟩
    · have hb4 : ¬ ahI s.ah ≥ 0 := by simpa using hb4
      rcases hahr with ⟨e1, e2⟩ | ⟨a, e1, e2⟩
      · exact fun w5 hL5 => ⟨rfl, fun hbd => by simp only [badC, e2] at hbd; omega, hgoL hL5⟩
      · omega
  intro w14 hI4
  obtain ⟨-, hnb, g14, tm14⟩ := hI4
  have nx := hi.nxt (early := early) hb hb2 hnb
  rw [if_neg hnb] at hlz
  have hfr : ∃ fr : Nat, vcode cl s.T.length fr ∧ (v = cl + 2 + s.T.length → s.ah = some fr ∧ tOf cl s v = strOf cl s.T fr ++ [(strOf cl s.T fr).headD 0]) ∧ (v ≠ cl + 2 + s.T.length → fr = v ∧ tOf cl s v = strOf cl s.T fr) ∧ (tOf cl s v).headD 0 = (strOf cl s.T fr).headD 0 := by
    rcases hahr with ⟨e1, e2⟩ | ⟨a, e1, e2⟩
    · have hT := hi.none_ e2
      have hvl : v < cl := by simp only [badC, e2] at hnb; omega
      have e3 : tOf cl s v = strOf cl s.T v := by rw [strOf_lt _ hvl]; simp only [tOf, e2]
      exact ⟨v, .inl hvl, fun hh => by omega, fun _ => ⟨rfl, e3⟩, by rw [e3]⟩
    · have hva := hi.ahv a e2
      simp only [badC, e2] at hnb
      by_cases hvn : v = cl + 2 + s.T.length
      · have e3 : tOf cl s v = strOf cl s.T a ++ [(strOf cl s.T a).headD 0] := by simp only [tOf, e2, givenS, if_pos hvn]
        refine ⟨a, hva, fun _ => ⟨e2, e3⟩, fun hh => absurd hvn hh, ?_⟩
        rw [e3]
        have := (hi.str hva).2.1
        cases hc : strOf cl s.T a with
        | nil => rw [hc] at this; simp at this
        | cons x l => rfl
      · have e3 : tOf cl s v = strOf cl s.T v := by simp only [tOf, e2, givenS, if_neg hvn]
        exact ⟨v, by unfold vcode; omega, fun hh => absurd hh hvn, fun _ => ⟨rfl, e3⟩, by rw [e3]⟩
  obtain ⟨fr, hfc, hfn, hfo, hhd⟩ := hfr
  have hstr := hi.str hfc
  have hnewb : (decide (ahI s.ah ≥ 0) && ((v : Int) == (cl : Int) + 2 + (k7 : Int))) = decide (v = cl + 2 + s.T.length) := by
    by_cases hvn : v = cl + 2 + s.T.length
    · obtain ⟨e1, -⟩ := hfn hvn
      rw [e1]
      have : ((v : Int) == (cl : Int) + 2 + (k7 : Int)) = true := by rw [beq_iff_eq]; omega
      rw [this]; simp [ahI, hvn]
    · have : ((v : Int) == (cl : Int) + 2 + (k7 : Int)) = false := by rw [beq_eq_false_iff_ne]; omega
      rw [this]; simp [hvn]
  rw [hnewb]
  have hmost := nx.most
  refine ⟨fun vs u => [i64 fr] = vs ∧ w14 = u, brB_i (fun hb3 => ?_) (fun hb3 => ?_), ?_⟩
  · obtain ⟨e1, -⟩ := hfn (by simpa using hb3)
    rw [e1]; exact ⟨rfl, rfl⟩
  · obtain ⟨e1, -⟩ := hfo (by simpa using hb3)
    rw [e1]; exact ⟨rfl, rfl⟩
  intro n9 w15 hI5
  obtain ⟨e, rfl⟩ := hI5
  simp only [List.cons.injEq, Value.int.injEq, true_and, and_true] at e
  subst e
  have hk4096 : s.T.length ≤ 4096 := by omega
  refine refSize_spec hi (tm14.get (t := ⟨3, p5, k11, k12, 1, sC s.T⟩) (by simp)).sl hk11 hfc fun w16 hE16 => ⟨_, rfl, hE16.keep _, fun vs u => [i64 (tOf cl s v).length] = vs ∧ w16 = u, brB_i (fun hb3 => ?_) (fun hb3 => ?_), ?_⟩
  · obtain ⟨-, e1⟩ := hfn (by simpa using hb3)
    rw [w64 (by omega) (by omega), e1]; exact ⟨by simp, rfl⟩
  · obtain ⟨-, e1⟩ := hfo (by simpa using hb3)
    rw [e1]; exact ⟨rfl, rfl⟩
  intro n11 w17 hI6
  obtain ⟨e, rfl⟩ := hI6
  simp only [List.cons.injEq, Value.int.injEq, true_and, and_true] at e
  subst e
  have tm16 := tm14.step hE16 0
  rw [w64 (x := most - (k3 : Int)) (by omega) (by omega)]
  refine brB_i (fun hb3 => ?_) (fun hb3 => ?_)
  · have hb3 : ((tOf cl s v).length : Int) > most - k3 := by simpa using hb3
    rw [if_pos (by omega)] at hlz
    subst hlz
    exact hR none 0 0 _ (Fg.nil tm16.pal.ext 1)
  have hb3 : ¬ ((tOf cl s v).length : Int) > most - k3 := by simpa using hb3
  rw [if_neg (by omega)] at hlz
  refine refText_spec hi (tm16.get (t := ⟨1, p3, k7, k8, 1, aC s.A⟩) (by simp)).sl (tm16.get (t := ⟨2, p4, k9, k10, 1, lC s.T⟩) (by simp)).sl (tm16.get (t := ⟨3, p5, k11, k12, 1, sC s.T⟩) (by simp)).sl hk7 hk9 hk11 hfc fun p7 w18 hE18 ho18 => ⟨_, _, _, rfl, hE18.keep _, bytes (strOf cl s.T fr), by rw [bytes_length]; omega, bytes_oneAll _, ho18.sl.cells, ?_⟩
  have hlong' : s.out.length ≤ 2 ^ 40 := by omega
  obtain ⟨x0, hx0, hx0'⟩ : ∃ x, (bytes (strOf cl s.T fr))[0]? = some (u8 x) ∧ x = (strOf cl s.T fr).headD 0 := by
    have := hstr.2.1
    cases hc : strOf cl s.T fr with
    | nil => rw [hc] at this; simp at this
    | cons x l => exact ⟨x, rfl, rfl⟩
  have htl : 1 ≤ (strOf cl s.T fr).length ∧ (strOf cl s.T fr).length ≤ 4096 := hstr.2
  have tm18 := tm16.new hE18 (i := 5) (by omega) ho18
  have ha0 : ∃ a0, p7 = some a0 := by
    obtain ⟨a0, h1, _⟩ := ho18.sl 0 _ hx0
    exact ⟨a0, h1⟩
  obtain ⟨a0, rfl⟩ := ha0
  generalize hls : (strOf cl s.T fr).length = ls at *
  have hcellAt : ∀ {u : World} {g : Nat → Nat} {L : List Nat} {l : List Tg}, Ths w u g L l → (⟨5, some a0, ls, ls, 1, bytes (strOf cl s.T fr)⟩ : Tg) ∈ l → u.cell? (a0.add ((0 : Int).toNat * 1)) = some (u8 x0) := fun {u g L l} tm hm => by
    obtain ⟨a1, h1, _, h3⟩ := (tm.get hm).sl 0 _ hx0
    cases h1
    exact h3
  refine (tm18.mono (l' := [⟨4, p1, k3, k4, 1, bytes s.out⟩, ⟨1, p3, k7, k8, 1, aC s.A⟩, ⟨2, p4, k9, k10, 1, lC s.T⟩, ⟨3, p5, k11, k12, 1, sC s.T⟩, ⟨5, some a0, ls, ls, 1, bytes (strOf cl s.T fr)⟩]) (fun b hb => hb) (by simp)).app (by simp) (by simp [blocks]) rfl (by rw [bytes_length]; simp only; omega) (by simp only; omega) (by simp only; omega) fun p8 k19 w19 g19 tm19 => ?_
  simp only at tm19
  rw [← bytes_append] at tm19
  refine ⟨fun vs u => match vs with | [.slice p10 k23 k24] => ∃ g, Ths w u g [k15, k2, k1] [⟨4, p10, k23, k24, 1, bytes (s.out ++ tOf cl s v)⟩, ⟨1, p3, k7, k8, 1, aC s.A⟩, ⟨2, p4, k9, k10, 1, lC s.T⟩, ⟨3, p5, k11, k12, 1, sC s.T⟩, ⟨5, some a0, ls, ls, 1, bytes (strOf cl s.T fr)⟩] | _ => False, brB_i (fun hb4 => ?_) (fun hb4 => ?_), ?_⟩
  · obtain ⟨-, e1⟩ := hfn (by simpa using hb4)
    refine idx_i (by omega) (by omega) rfl ⟨_, hcellAt tm19 (by simp), fun k20 hk20 w20 hL20 => ?_⟩
    refine ((tm19.locl hL20 (fun b hb => ?_)).mono (L' := [k20, k15, k2, k1]) (by simp) (fun t ht => ht)).app (by simp) (by simp [blocks]) rfl rfl (by simp only; omega) (by simp only; omega) fun p9 k22 w21 g21 tm21 => ⟨g21, ?_⟩
    · simp only [List.mem_cons, List.not_mem_nil, or_false] at hb ⊢
      rcases hb with rfl | hb
      · exact .inr hk20
      · exact .inl hb
    · have e2 : bytes (s.out ++ strOf cl s.T fr) ++ [u8 x0] = bytes (s.out ++ tOf cl s v) := by
        rw [e1, ← hx0', ← List.append_assoc, bytes_append _ [x0]]; rfl
      simp only at tm21
      rw [e2] at tm21
      exact tm21.mono (by simp) (fun t ht => ht)
  · obtain ⟨-, e1⟩ := hfo (by simpa using hb4)
    refine ⟨g19, ?_⟩
    rw [e1]; exact tm19
  intro p10 k23 k24 w22 hI7
  obtain ⟨g22, tm22⟩ := hI7
  have hsout := nx.out
  have hspos := nx.pos
  have hsah := nx.ah
  have hinv := nx.inv
  have hmeas : (8 * (bs.length : Int) - ((s.pos : Int) + s.wd)).toNat < (8 * (bs.length : Int) - s.pos).toNat := by omega
  refine brB_i (fun hb4 => ?_) (fun hb4 => ?_)
  · have hlt : ahI s.ah ≥ 0 ∧ (cl : Int) + 2 + k7 < 4096 := by simpa only [Bool.and_eq_true, decide_eq_true_eq] using hb4
    rcases hahr with ⟨e1, e2⟩ | ⟨a, e1, e2⟩
    · omega
    have hlt' : cl + 2 + s.T.length < 4096 := by omega
    have hva := hi.ahv a e2
    have hstra := hi.str hva
    have hnx : nextS cl early s v = ⟨s.pos + s.wd, wid early (cl + 2 + s.T.length) s.wd, some v, s.A ++ [a], s.T ++ [strOf cl s.T a ++ [(tOf cl s v).headD 0]], s.out ++ tOf cl s v⟩ := by
      simp only [nextS, tOf, e2, if_pos hlt']
    rw [e1]
    have hadd : ∀ {k : Nat} {bs' : List Nat} {u : World}, u.heap.size ≤ k → ∀ b, b ∈ k :: bs' → b ∈ bs' ∨ u.heap.size ≤ b := fun {k bs' u} hk b hb => by
      rcases List.mem_cons.1 hb with rfl | hb
      · exact .inr hk
      · exact .inl hb
    refine fun k25 hk25 w23 hL23 => ((tm22.locl hL23 (hadd hk25)).mono (L' := [k25, k15, k2, k1]) (l' := [⟨1, p3, k7, k8, 1, aC s.A⟩, ⟨4, p10, k23, k24, 1, bytes (s.out ++ tOf cl s v)⟩, ⟨2, p4, k9, k10, 1, lC s.T⟩, ⟨3, p5, k11, k12, 1, sC s.T⟩, ⟨5, some a0, ls, ls, 1, bytes (strOf cl s.T fr)⟩]) (by simp) (by simp)).app (by simp) (by simp [blocks]) rfl rfl (by simp only; omega) (by simp only; omega) fun p11 k27 w24 g24 tm24 => ?_
    refine idx_i (by omega) (by omega) rfl fun w25 hL25 => ?_
    have tm25 := tm24.locl hL25 (fun b hb => .inl hb)
    refine ⟨x0, hcellAt tm25 (by simp), fun k28 hk28 w26 hL26 => ?_⟩
    refine ((tm25.locl hL26 (fun b hb => ?_)).mono (L' := [k28, k25, k15, k2, k1]) (l' := [⟨2, p4, k9, k10, 1, lC s.T⟩, ⟨1, p11, k7 + 1, k27, 1, aC s.A ++ [i64 a]⟩, ⟨4, p10, k23, k24, 1, bytes (s.out ++ tOf cl s v)⟩, ⟨3, p5, k11, k12, 1, sC s.T⟩, ⟨5, some a0, ls, ls, 1, bytes (strOf cl s.T fr)⟩]) (by simp) (by simp)).app (by simp) (by simp [blocks]) rfl rfl (by simp only; omega) (by simp only; omega) fun p12 k30 w27 g27 tm27 => ?_
    · rcases List.mem_cons.1 hb with rfl | hb
      · exact .inr hk28
      · exact .inl (List.mem_append_left _ hb)
    intro w28 hL28
    have tm28 := tm27.locl hL28 (fun b hb => .inl hb)
    refine refSize_spec hi (tm28.get (t := ⟨3, p5, k11, k12, 1, sC s.T⟩) (by simp)).sl hk11 hva fun w29 hE29 => ⟨_, rfl, hE29.keep _, hE29.keeps, fun k31 hk31 w30 hL30 => ?_⟩
    rw [w64 (x := ((strOf cl s.T a).length : Int) + 1) (by omega) (by omega)]
    refine (((tm28.step hE29 0).locl hL30 (fun b hb => ?_)).mono (L' := [k31, k28, k25, k15, k2, k1]) (l' := [⟨3, p5, k11, k12, 1, sC s.T⟩, ⟨2, p12, k9 + 1, k30, 1, lC s.T ++ [u8 x0]⟩, ⟨1, p11, k7 + 1, k27, 1, aC s.A ++ [i64 a]⟩, ⟨4, p10, k23, k24, 1, bytes (s.out ++ tOf cl s v)⟩]) (by simp) (by simp)).app (by simp) (by simp [blocks]) rfl rfl (by simp only; omega) (by simp only; omega) fun p13 k33 w31 g31 tm31 => ?_
    · rcases List.mem_cons.1 hb with rfl | hb
      · exact .inr hk31
      · exact .inl (List.mem_append_left _ hb)
    have hwu : IntKind.u64.wrap (s.wd : Int) = s.wd := wu64 (by omega) (by omega)
    rw [hwu, shl1 s.wd (by omega)]
    have hp := pow_small s.wd (by omega)
    rw [w64 (x := ((2 ^ s.wd : Nat) : Int) - early) (by omega) (by omega), w64 (x := (cl : Int) + 2 + (k7 : Int) + 1) (by omega) (by omega), w64 (x := (s.wd : Int) + 1) (by omega) (by omega)]
    have eA : aC s.A ++ [i64 a] = aC (nextS cl early s v).A := by rw [hnx]; simp [aC]
    have eL : lC s.T ++ [u8 x0] = lC (nextS cl early s v).T := by
      rw [hnx]; simp only [lC, bytes, List.map_append, List.map_cons, List.map_nil]
      rw [show (strOf cl s.T a ++ [(tOf cl s v).headD 0]).getLastD 0 = (tOf cl s v).headD 0 by simp, hhd, hx0']
    have eS : sC s.T ++ [i64 ((strOf cl s.T a).length + 1)] = sC (nextS cl early s v).T := by rw [hnx]; simp [sC]
    simp only at tm31
    rw [eA, eL, eS] at tm31
    have hfin : ∀ w32, Locl [k31, k28, k25, k15, k2, k1] w31 w32 → ∃ g, Ths w w32 g [k2, k1] (DT (nextS cl early s v).A (nextS cl early s v).T (nextS cl early s v).out p11 (k7 + 1) k27 p12 (k9 + 1) k30 p13 (k11 + 1) k33 p10 k23 k24) := fun w32 hL32 =>
      ⟨_, (tm31.locl hL32 (fun b hb => .inl hb)).mono (by simp) (by rw [hsout]; simp)⟩
    refine ⟨by omega, brB_i (fun hb5 => ?_) (fun hb5 => ?_)⟩
    · have hb5 : (cl : Int) + 2 + k7 + 1 = ((2 ^ s.wd : Nat) : Int) - early ∧ (s.wd : Int) < 12 := by
        simp only [Bool.and_eq_true, decide_eq_true_eq, beq_iff_eq] at hb5; exact hb5
      intro w32 hL32
      obtain ⟨g, tm32⟩ := hfin w32 hL32
      have hw : (nextS cl early s v).wd = s.wd + 1 := by
        rw [hnx]; unfold wid; rw [if_pos (by omega)]
      exact ⟨⟨rfl, rfl, rfl, rfl, rfl, g, nextS cl early s v, G, hinv, by rw [hspos]; omega, by rw [hspos]; omega, hlz, by rw [hw]; rfl, by rw [hsah]; rfl, by rw [hspos]; simp, tm32⟩, hmeas⟩
    · have hb5 : ¬ ((cl : Int) + 2 + k7 + 1 = ((2 ^ s.wd : Nat) : Int) - early ∧ (s.wd : Int) < 12) := by
        intro hh
        simp only [hh.1, hh.2, beq_self_eq_true, decide_true, Bool.and_self] at hb5
        cases hb5
      intro w32 hL32
      obtain ⟨g, tm32⟩ := hfin w32 hL32
      have hw : (nextS cl early s v).wd = s.wd := by
        rw [hnx]; unfold wid; rw [if_neg (by omega)]
      exact ⟨⟨rfl, rfl, rfl, rfl, rfl, g, nextS cl early s v, G, hinv, by rw [hspos]; omega, by rw [hspos]; omega, hlz, by rw [hw], by rw [hsah]; rfl, by rw [hspos]; simp, tm32⟩, hmeas⟩
  · have hns : (nextS cl early s v).wd = s.wd ∧ (nextS cl early s v).A = s.A ∧ (nextS cl early s v).T = s.T := by
      rcases hahr with ⟨e1, e2⟩ | ⟨a, e1, e2⟩
      · simp only [nextS, e2]; simp
      · rw [e1] at hb4
        have hlt : ¬ cl + 2 + s.T.length < 4096 := fun h' => by
          have h1 : decide ((a : Int) ≥ 0) = true := by simp
          have h2 : decide ((cl : Int) + 2 + (k7 : Int) < 4096) = true := by simp; omega
          rw [h1, h2] at hb4; cases hb4
        simp only [nextS, e2, if_neg hlt]; simp
    refine ⟨⟨rfl, rfl, rfl, rfl, rfl, g22, nextS cl early s v, G, hinv, by rw [hspos]; omega, by rw [hspos]; omega, hlz, by rw [hns.1], by rw [hsah]; rfl, by rw [hspos]; simp, ?_⟩, hmeas⟩
    rw [hns.2.1, hns.2.2, hsout]
    exact tm22.mono (by simp) (by simp)
end Go.Proofs.Ytlbokiaolmflaaa
