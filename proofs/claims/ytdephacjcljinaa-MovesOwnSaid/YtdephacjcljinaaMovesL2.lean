/- Moves: several operators in turn, walked. -/
import Derived.Test.YtdephacjcljinaaMP2
namespace Go.Proofs.Ytdephacjcljinaa
open Go Go.Vc Go.RowKit
set_option maxRecDepth 100000
set_option linter.unusedVariables false
set_option linter.unusedSimpArgs false

/-- arguments of several operators -/
def ArgsAre (u : World) : List Value → List (List Int) → Prop
  | [], [] => True
  | .slice p k _ :: vs, a :: bs => Ints u p k a ∧ ArgsAre u vs bs
  | _, _ => False
theorem ArgsAre.ext {u u' : World} (hE : Ext u u') : ∀ {vs : List Value} {bs : List (List Int)}, ArgsAre u vs bs → ArgsAre u' vs bs
  | [], [], _ => trivial
  | .slice p k _ :: vs, a :: bs, h => ⟨h.1.ext hE, ArgsAre.ext hE h.2⟩
theorem ArgsAre.len {u : World} : ∀ {vs : List Value} {bs : List (List Int)}, ArgsAre u vs bs → vs.length = bs.length
  | [], [], _ => rfl
  | .slice p k _ :: vs, a :: bs, h => by simp [ArgsAre.len h.2]
theorem ArgsAre.get {u : World} : ∀ {vs : List Value} {bs : List (List Int)}, ArgsAre u vs bs → ∀ {i : Nat}, i < bs.length → ∃ p k c, vs[i]? = some (.slice p k c) ∧ Ints u p k (bs.getD i [])
  | [], [], _, _, hi => absurd hi (Nat.not_lt_zero _)
  | [], _ :: _, h, _, _ => h.elim
  | .slice p k c :: vs, a :: bs, h, 0, _ => ⟨p, k, c, rfl, h.1⟩
  | .slice p k c :: vs, a :: bs, h, i + 1, hi => by
    have := ArgsAre.get h.2 (i := i) (by simpa using hi)
    simpa using this
structure Opl (u : World) (pa pb : Option Addr) (l : List (ByteArray × List Int)) : Prop where
  nm : Sl u.heap.size u pa (strs (l.map (·.1)))
  ar : ∃ vs, Sl u.heap.size u pb vs ∧ ArgsAre u vs (l.map (·.2))
theorem Opl.ext {u u' : World} {pa pb : Option Addr} {l : List (ByteArray × List Int)} (h : Opl u pa pb l) (hE : Ext u u') : Opl u' pa pb l := by
  obtain ⟨vs, h1, h2⟩ := h.ar
  exact ⟨(h.nm.ext hE).up, vs, (h1.ext hE).up, h2.ext hE⟩
theorem ints_in {w u : World} {f : Nat → Nat} {L : List Nat} {l : List Tg} (i : Nat) {p : Option Addr} {len cap : Nat} {xs : List Int} {R : Ending → World → Prop} (h : Ths w u f L l) (hi : Ints w p len xs) (h0 : i ≠ 0)
    (hK : ∀ p' c' u' f', Ext u u' → Ths w u' f' L (⟨i, p', len, c', 1, i64s xs⟩ :: l) → R (.returned (.slice p' len c')) u') : Calls P F.law21_ints #[.slice p len cap] u R :=
  ints_spec (hi.ext h.pal.ext) fun p' c' u' hf => hK p' c' u' _ hf.ext (h.new hf.ext h0 hf.ow)
set_option maxHeartbeats 4000000 in
theorem in_spec {w : World} {pa pb p : Option Addr} {la ca lb cb lp cp : Nat} {ops : List (ByteArray × List Int)} {xs : List Int} {W H : Int} {R : Ending → World → Prop} (ho : Opl w pa pb ops) (hla : la = ops.length) (hlb : lb = ops.length) (hn : ops.length ≤ 2 ^ 44)
    (hp : Img w p lp xs) (hsz : lp * 2 ≤ 2 ^ 47) (hxs : SmL xs)
    (hR : ∀ p' l' c' w', Fg [] w w' 1 p' l' c' (px (foldM ops W H xs).1.2.2) → R (.returned (.tuple #[.agg #[i64 (foldM ops W H xs).1.1, i64 (foldM ops W H xs).1.2.1, .slice p' l' c'], .bool (foldM ops W H xs).2])) w') :
    Calls P F.law21_in #[.agg #[i64 W, i64 H, .slice p lp cp], .slice pa la ca, .slice pb lb cb] w R := by
  subst hla
  refine calls_law21_in _ _ _ _ _ _ _ _ _ _ _ _ _ ?_
  have H0 := St.start w
  intro k1 hk1 k2 hk2
  refine St.locl H0 (by first | (simp; done) | (simp; omega) | (intro b hb; simp at *; omega)) fun w1 f1 H1 => ?_
  refine own_st 4 H1 (hp.ext H1.pal.ext) hsz (by decide) fun p2 c2 w2 f2 hE2 H2 => ⟨_, _, _, _, _, rfl, hE2.keep _, fun k5 hk5 => ?_⟩
  refine ⟨fun vs u => match vs with | [.int _ n, _, _, _, .int _ a, .int _ b, .slice p k c] => ∃ (i : Nat) (ys : List Int) (f : Nat → Nat), n = i ∧ i ≤ ops.length ∧ foldM (ops.drop i) a b ys = foldM ops W H xs ∧ SmL ys ∧ Ths w u f [k5, k2, k1] [⟨4, p, k, c, 1, px ys⟩] | _ => False, fun vs _ => match vs with | .int _ n :: _ => ((ops.length : Int) - n).toNat | _ => 0, ?_, ?_⟩
  · refine St.locl H2 (by first | (simp; done) | (simp; omega) | (intro b hb; simp at *; omega)) fun w3 f3 H3 => ?_
    exact ⟨0, xs, _, rfl, by omega, by simp, hxs, H3⟩
  intro n3 n4 n5 p2 k6 k7 n6 n7 p3 k8 k9 w4 hI
  obtain ⟨i, ys, f4, rfl, hi, hfold, hys, H4⟩ := hI
  refine brB_i (fun hlt => ?_) (fun hge => ?_)
  · have hlt : i < ops.length := by simpa using hlt
    have H4' := H4.dr
    obtain ⟨vs, hvs, har⟩ := ho.ar
    obtain ⟨pi, ki, ci, hvi, hin⟩ := har.get (i := i) (by simpa using hlt)
    have hsti := strs_get (l := ops.map (·.1)) (i := i) (by simpa using hlt)
    have hdrop : ops.drop i = ((ops.map (·.1)).getD i ByteArray.empty, (ops.map (·.2)).getD i []) :: ops.drop (i + 1) := by
      simp only [List.getD, List.getElem?_map, List.getElem?_eq_getElem hlt, Option.map_some, Option.getD_some]
      exact List.drop_eq_getElem_cons hlt
    generalize (ops.map (·.1)).getD i ByteArray.empty = s at hsti hdrop
    generalize (ops.map (·.2)).getD i [] = a at hin hdrop
    refine ⟨fun vs u => match vs with | [.int _ n, .pointer (some ⟨k, _, _⟩), .int _ a', .int _ b', .slice p l c] => n = (appR s a n6 n7 ys).2.2.2 ∧ a' = (appR s a n6 n7 ys).1 ∧ b' = (appR s a n6 n7 ys).2.1 ∧ ∃ f, Ths w u f [k, k5, k2, k1] [⟨4, p, l, c, 1, px (appR s a n6 n7 ys).2.2.1⟩] | _ => False, ?_, ?_⟩
    · refine (ho.nm.ext H4'.pal.ext).get (Int.natCast_nonneg i) (by simp [strs]) (by rw [Int.toNat_natCast]; exact hsti) fun a1 ha1 => ⟨_, ha1, ?_⟩
      refine (hvs.ext H4'.pal.ext).get (Int.natCast_nonneg i) (by rw [har.len]; simp [hlb]) (by rw [Int.toNat_natCast]; exact hvi) fun a2 ha2 => ⟨_, _, _, ha2, ?_⟩
      repeat' first
        | (refine St.locl (by assumption) (by first | (simp; done) | (simp; omega) | (intro b hb; simp at *; omega)) fun u f H => ?_)
        | (refine ints_in 2 (by assumption) hin (by decide) fun q c u f hE H => ⟨_, _, _, rfl, hE.keep _, hE.keeps, ?_⟩)
        | (refine apply_st 4 _ (by assumption) (St.ints (c := 2) (by assumption) (by repeat (first | exact List.Mem.head _ | apply List.Mem.tail)) hin.small) (St.room (c := 2) (by assumption) (by repeat (first | exact List.Mem.head _ | apply List.Mem.tail))) (St.img (c := 4) (by assumption) (by repeat (first | exact List.Mem.head _ | apply List.Mem.tail))) (St.room (c := 4) (by assumption) (by repeat (first | exact List.Mem.head _ | apply List.Mem.tail))) hys (by decide) rfl fun p l c u f hE H => ⟨_, _, _, _, _, _, rfl, hE.keep _, ?_⟩)
        | (refine ⟨rfl, rfl, rfl, _, Ths.mono (by assumption) (by simp) (by simp)⟩)
        | (intro k hk)
        | (refine And.intro ?_ ?_)
    · intro n17 k25 n18 n19 p10 k26 k27 w15 hI2
      obtain ⟨rfl, rfl, rfl, f15, H15⟩ := hI2
      rw [hdrop, foldM] at hfold
      refine brB_i (fun hne => ?_) (fun heq => ?_)
      · have hne : ¬ (appR s a n6 n7 ys).2.2.2 = 0 := by simpa using hne
        rw [if_neg hne] at hfold
        refine St.locl H15 (by first | (simp; done) | (simp; omega) | (intro b hb; simp at *; omega)) fun u f H => ?_
        have := hR p10 k26 k27 u
        rw [← hfold] at this
        exact this ((H.get (t := ⟨4, p10, k26, k27, 1, _⟩) (List.Mem.head _)).fg H.pal.ext)
      · have heq : (appR s a n6 n7 ys).2.2.2 = 0 := by simpa using heq
        rw [if_pos heq] at hfold
        refine St.locl H15 (by first | (simp; done) | (simp; omega) | (intro b hb; simp at *; omega)) fun u f H => ?_
        rw [w64 (x := (i : Int) + 1) (by omega) (by omega)]
        refine ⟨⟨i + 1, _, _, by omega, by omega, hfold, appR_sm hys, H.mono (by simp) (by simp)⟩, by show ((ops.length : Int) - ((i : Int) + 1)).toNat < ((ops.length : Int) - i).toNat; omega⟩
  · have hge : i = ops.length := by have : ¬ (i < ops.length) := by simpa using hge
                                    omega
    subst hge
    rw [List.drop_length, foldM] at hfold
    refine St.locl H4 (by first | (simp; done) | (simp; omega) | (intro b hb; simp at *; omega)) fun u f H => ?_
    have := hR p3 k8 k9 u
    rw [← hfold] at this
    exact this ((H.get (t := ⟨4, p3, k8, k9, 1, _⟩) (List.Mem.head _)).fg H.pal.ext)
section
variable {w u : World} {f : Nat → Nat} {L : List Nat} {l : List Tg}
theorem in_st (i : Nat) (ops : List (ByteArray × List Int)) (r : (Int × Int × List Int) × Bool) {pa pb p : Option Addr} {la ca lb cb lp cp : Nat} {xs : List Int} {W H : Int} {R : Ending → World → Prop} (h : Ths w u f L l) (ho : Opl u pa pb ops) (hla : la = ops.length) (hlb : lb = ops.length) (hn : ops.length ≤ 2 ^ 44)
    (hp : Img u p lp xs) (hsz : lp * 2 ≤ 2 ^ 47) (hxs : SmL xs) (h0 : i ≠ 0) (hr : foldM ops W H xs = r)
    (hK : ∀ p' l' c' u' f', Ext u u' → Ths w u' f' L (⟨i, p', l', c', 1, px r.1.2.2⟩ :: l) → R (.returned (.tuple #[.agg #[i64 r.1.1, i64 r.1.2.1, .slice p' l' c'], .bool r.2])) u') :
    Calls P F.law21_in #[.agg #[i64 W, i64 H, .slice p lp cp], .slice pa la ca, .slice pb lb cb] u R := by
  subst hr
  exact in_spec ho hla hlb hn hp hsz hxs fun p' l' c' u' hf => hK p' l' c' u' _ hf.ext (h.new hf.ext h0 hf.ow)
theorem same_st {a b : Option Addr} {c la ca lb cb : Nat} {W H V G : Int} {xs ys : List Int} {R : Ending → World → Prop} (h : Ths w u f L l) (ha : (⟨c, a, la, ca, 1, px xs⟩ : Tg) ∈ l) (hb : Img u b lb ys) (h62 : xs.length < 2 ^ 62)
    (hK : ∀ u' f', Ext u u' → Ths w u' f' L l → R (.returned (.bool (same W H V G xs ys))) u') : Calls P F.ref09_Same #[.agg #[i64 W, i64 H, .slice a la ca], .agg #[i64 V, i64 G, .slice b lb cb]] u R :=
  refSame_spec (St.img h ha) hb (by have := St.len h ha; omega) fun u' hE => hK u' _ hE (h.step hE 0)
theorem St.sl (h : Ths w u f L l) {c len cap : Nat} {p : Option Addr} {vs : List Value} (ht : (⟨c, p, len, cap, 1, vs⟩ : Tg) ∈ l) : Sl u.heap.size u p vs := (h.get ht).sl
theorem Opl.one (h : Ths w u f L l) {x1 x2 n1 n2 m1 m2 k1 l1 : Nat} {pa pb p1 : Option Addr} {s1 : ByteArray} {a1 : List Int} (hn : (⟨x1, pa, n1, m1, 1, strs [s1]⟩ : Tg) ∈ l) (ha : (⟨x2, pb, n2, m2, 1, [.slice p1 k1 l1]⟩ : Tg) ∈ l)
    (i1 : Ints u p1 k1 a1) : Opl u pa pb [(s1, a1)] := ⟨St.sl h hn, _, St.sl h ha, ⟨i1, trivial⟩⟩
theorem Opl.two (h : Ths w u f L l) {x1 x2 n1 n2 m1 m2 k1 l1 k2 l2 : Nat} {pa pb p1 p2 : Option Addr} {s1 s2 : ByteArray} {a1 a2 : List Int} (hn : (⟨x1, pa, n1, m1, 1, strs [s1, s2]⟩ : Tg) ∈ l) (ha : (⟨x2, pb, n2, m2, 1, [.slice p1 k1 l1, .slice p2 k2 l2]⟩ : Tg) ∈ l)
    (i1 : Ints u p1 k1 a1) (i2 : Ints u p2 k2 a2) : Opl u pa pb [(s1, a1), (s2, a2)] := ⟨St.sl h hn, _, St.sl h ha, ⟨i1, i2, trivial⟩⟩
theorem Opl.four (h : Ths w u f L l) {x1 x2 n1 n2 m1 m2 k1 l1 k2 l2 k3 l3 k4 l4 : Nat} {pa pb p1 p2 p3 p4 : Option Addr} {s1 s2 s3 s4 : ByteArray} {a1 a2 a3 a4 : List Int} (hn : (⟨x1, pa, n1, m1, 1, strs [s1, s2, s3, s4]⟩ : Tg) ∈ l) (ha : (⟨x2, pb, n2, m2, 1, [.slice p1 k1 l1, .slice p2 k2 l2, .slice p3 k3 l3, .slice p4 k4 l4]⟩ : Tg) ∈ l)
    (i1 : Ints u p1 k1 a1) (i2 : Ints u p2 k2 a2) (i3 : Ints u p3 k3 a3) (i4 : Ints u p4 k4 a4) : Opl u pa pb [(s1, a1), (s2, a2), (s3, a3), (s4, a4)] := ⟨St.sl h hn, _, St.sl h ha, ⟨i1, i2, i3, i4, trivial⟩⟩
end
end Go.Proofs.Ytdephacjcljinaa
