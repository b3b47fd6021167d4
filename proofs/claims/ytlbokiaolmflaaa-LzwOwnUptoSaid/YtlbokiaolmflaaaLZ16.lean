/- LZW: what is packed is read back. -/
import Derived.Test.YtlbokiaolmflaaaLZ15
namespace Go.Proofs.Ytlbokiaolmflaaa
open Go Go.Vc Go.RowKit
set_option maxRecDepth 100000
set_option linter.unusedVariables false
set_option linter.unusedSimpArgs false

def Tab (cl : Nat) (E : List (Nat × Int)) (T : List (List Int)) : Prop := E.length = T.length ∧ ∀ j, j < T.length → ∃ a x, E[j]? = some (a, x) ∧ T[j]? = some (strOf cl T a ++ [x]) ∧ vcode cl j a
theorem Tab.add {cl : Nat} {E : List (Nat × Int)} {T : List (List Int)} (h : Tab cl E T) {c : Nat} (hc : vcode cl T.length c) (x : Int) : Tab cl (E ++ [(c, x)]) (T ++ [strOf cl T c ++ [x]]) := by
  obtain ⟨h1, h2⟩ := h
  refine ⟨by simp [h1], fun j hj => ?_⟩
  rw [List.length_append, List.length_singleton] at hj
  by_cases hlt : j < T.length
  · obtain ⟨a, y, e1, e2, e3⟩ := h2 j hlt
    refine ⟨a, y, by rw [List.getElem?_append_left (by omega)]; exact e1, ?_, e3⟩
    rw [List.getElem?_append_left hlt, strOf_app _ (e3.mono (by omega))]; exact e2
  · have : j = T.length := by omega
    subst this
    refine ⟨c, x, by rw [← h1]; simp, ?_, hc⟩
    rw [strOf_app _ hc]; simp
/-- the packer and the reader are alike -/
def Sy (cl : Nat) (E : List (Nat × Int)) (ato : Option Nat) (pend : List Int) (s : LS) : Prop :=
  (E = [] ∧ s.ah = none ∧ s.T = [] ∧ ((ato = none ∧ pend = []) ∨ ∃ c, c < cl ∧ ato = some c ∧ pend = [(c : Int)])) ∨
  (∃ (a c : Nat) (x : Int), s.ah = some a ∧ vcode cl s.T.length a ∧ ato = some c ∧ Tab cl E (s.T ++ [strOf cl s.T a ++ [x]]) ∧ vcode cl (s.T.length + 1) c ∧ strOf cl (s.T ++ [strOf cl s.T a ++ [x]]) c = pend ∧ pend.headD 0 = x ∧ pend ≠ [])
def fin (most : Int) (l : List Int) : List Int × Int := if most < (l.length : Nat) then ([], 3) else (l, 0)
theorem headD_append {l m : List Int} (h : l ≠ []) : (l ++ m).headD 0 = l.headD 0 := by cases l with | nil => exact (h rfl).elim | cons x r => rfl
/-- a byte more that makes a string in the table -/
theorem Sy.more {cl : Nat} {E : List (Nat × Int)} {a c : Nat} {x : Int} {pend : List Int} {s : LS} (h : Sy cl E (some a) pend s) (hf : fnd a x E (cl + 2) = some c) : Sy cl E (some c) (pend ++ [x]) s := by
  rcases h with ⟨rfl, _⟩ | ⟨b, c0, y, h1, h2, h3, h4, h5, h6, h7, h8⟩
  · cases hf
  · cases h3
    obtain ⟨f1, f2, f3⟩ := fnd_some hf
    have hEl := h4.1
    rw [List.length_append, List.length_singleton] at hEl
    obtain ⟨a', x', e1, e2, e3⟩ := h4.2 (c - (cl + 2)) (by rw [List.length_append, List.length_singleton]; omega)
    rw [f3] at e1
    cases e1
    refine .inr ⟨b, c, y, h1, h2, rfl, h4, .inr (by omega), ?_, by rw [headD_append h8]; exact h7, by simp⟩
    rw [strOf_ge _ f1, show c - cl - 2 = c - (cl + 2) by omega]
    simp only [List.getD, e2, Option.getD_some, h6]
/-- the reader reads the code that is at hand -/
theorem Sy.emit {cl early : Nat} {E : List (Nat × Int)} {c : Nat} {pend : List Int} {s : LS} (hi : Inv cl s) (h : Sy cl E (some c) pend s) (h90 : cl + 2 + E.length ≤ 4090) :
    c ≠ cl ∧ c ≠ cl + 1 ∧ ¬ badC cl s c ∧ tOf cl s c = pend ∧ (nextS cl early s c).wd = wdA cl early E s.wd ∧
    ∀ x : Int, 0 ≤ x → x < cl → Sy cl (E ++ [(c, x)]) (some x.toNat) [x] (nextS cl early s c) := by
  rcases h with ⟨rfl, h1, h2, ⟨h3, _⟩ | ⟨c', h3, h4, h5⟩⟩ | ⟨b, c0, y, h1, h2, h3, h4, h5, h6, h7, h8⟩
  · cases h3
  · cases h4
    refine ⟨by omega, by omega, by simp only [badC, h1]; omega, by simp only [tOf, h1, h5], ?_, fun x x0 x1 => .inr ⟨c, x.toNat, x, ?_, ?_, rfl, ?_, .inl (by omega), ?_, rfl, by simp⟩⟩
    · simp only [nextS, h1, wdA]; simp
    · simp only [nextS, h1]
    · exact .inl h3
    · simp only [nextS, h1, h2]
      exact (Tab.add (E := []) (T := []) ⟨rfl, fun j hj => by simp at hj⟩ (.inl h3) x)
    · rw [strOf_lt _ (by omega)]
      congr 1; omega
  · cases h3
    have hEl := h4.1
    rw [List.length_append, List.length_singleton] at hEl
    have hsb := hi.str h2
    have hnb : strOf cl s.T b ≠ [] := fun e => by rw [e] at hsb; simp at hsb
    have hbad : ¬ badC cl s c := by
      simp only [badC, h1]
      unfold vcode at h5; omega
    have hgiv : givenS cl s b c = pend := by
      unfold givenS
      by_cases hc : c = cl + 2 + s.T.length
      · rw [if_pos hc]
        rw [strOf_ge _ (by omega), show c - cl - 2 = s.T.length by omega, getD_append_last] at h6
        have : (strOf cl s.T b).headD 0 = y := by rw [← h7, ← h6, headD_append hnb]
        rw [this]; exact h6
      · rw [if_neg hc, ← h6, strOf_app _ (by unfold vcode at *; omega)]
    have hn : cl + 2 + s.T.length < 4096 := by omega
    have hns : nextS cl early s c = ⟨s.pos + s.wd, wid early (cl + 2 + s.T.length) s.wd, some c, s.A ++ [b], s.T ++ [strOf cl s.T b ++ [y]], s.out ++ pend⟩ := by
      simp only [nextS, h1, if_pos hn, hgiv, h7]
    refine ⟨by unfold vcode at h5; omega, by unfold vcode at h5; omega, hbad, by simp only [tOf, h1, hgiv], ?_, fun x x0 x1 => .inr ⟨c, x.toNat, x, by rw [hns], by rw [hns]; simpa using h5, rfl, ?_, .inl (by omega), ?_, rfl, by simp⟩⟩
    · rw [hns]
      simp only [wdA, wdN, wid, hEl]
      rw [if_neg (show ¬ s.T.length + 1 = 0 by omega)]
      rfl
    · rw [hns]
      simp only
      exact h4.add (by simpa using h5) x
    · rw [strOf_lt _ (by omega)]
      congr 1; omega
theorem lz_take {bs : List Int} {up : Bool} {cl w0 early : Nat} {most : Int} {F v : Nat} {s : LS} (h1 : s.pos + s.wd ≤ 8 * bs.length) (h2 : takeV bs up s.pos s.wd = v) : lz bs up cl w0 early most (F + 1) s =
    if v = cl then lz bs up cl w0 early most F ⟨s.pos + s.wd, w0, none, [], [], s.out⟩
    else if v = cl + 1 then (s.out, 0)
    else if badC cl s v then ([], 32)
    else if most < (s.out.length + (tOf cl s v).length : Nat) then ([], 3) else lz bs up cl w0 early most F (nextS cl early s v) := by
  rw [lz_step, if_neg (by omega), h2, Int.toNat_natCast]
theorem fin_long {most : Int} {l m : List Int} (h : most < (l.length : Nat)) : fin most (l ++ m) = ([], 3) := by
  unfold fin
  rw [if_pos]
  rw [List.length_append]; omega
theorem dec_pk {up : Bool} {W : List Int} {cl w0 early : Nat} {most : Int} (hw1 : 1 ≤ w0) (hw2 : w0 ≤ 12) : ∀ (l : List Int) (E : List (Nat × Int)) (ato : Option Nat) (pend : List Int) (s : LS) (F : Nat),
    Inv cl s → Sy cl E ato pend s → Reads up W s.pos (pk cl w0 early l E s.wd ato) → (pk cl w0 early l E s.wd ato).length ≤ F → (∀ x ∈ l, 0 ≤ x ∧ x < cl) → cl + 2 + E.length ≤ 4090 → (s.out.length : Int) ≤ most →
    lz W up cl w0 early most F s = fin most (s.out ++ (pend ++ l))
  | [], E, none, pend, s, F, hi, hs, hr, hF, hl, h90, hm => by
    have hp : pend = [] := by
      rcases hs with ⟨_, _, _, ⟨_, h⟩ | ⟨c, _, h, _⟩⟩ | ⟨b, c0, y, _, _, h, _⟩
      · exact h
      · cases h
      · cases h
    subst hp
    rw [pk] at hr hF
    obtain ⟨G, rfl⟩ : ∃ G, F = G + 1 := ⟨F - 1, by simp at hF; omega⟩
    rw [lz_take hr.1 hr.2.1, if_neg (by omega), if_pos rfl]
    unfold fin
    rw [if_neg (by simp; omega)]; simp
  | [], E, some c, pend, s, F, hi, hs, hr, hF, hl, h90, hm => by
    rw [pk] at hr hF
    obtain ⟨e1, e2, e3, e4, e5, e6⟩ := hs.emit (early := early) hi h90
    have nx := hi.nxt (early := early) e1 e2 e3
    obtain ⟨G, rfl⟩ : ∃ G, F = G + 1 + 1 := ⟨F - 2, by simp at hF; omega⟩
    rw [lz_take hr.1 hr.2.1, if_neg e1, if_neg e2, if_neg e3, e4]
    split
    · rename_i hlt
      rw [List.append_nil]
      unfold fin
      rw [if_pos (by rw [List.length_append]; omega)]
    · rename_i hge
      obtain ⟨-, -, hr2⟩ := hr
      have ho := nx.out
      rw [e4] at ho
      rw [← nx.pos, ← e5] at hr2
      rw [lz_take hr2.1 hr2.2.1, if_neg (by omega), if_pos rfl, ho, List.append_nil]
      unfold fin
      rw [if_neg (by rw [List.length_append]; omega)]
  | x :: r, E, none, pend, s, F, hi, hs, hr, hF, hl, h90, hm => by
    have hx := hl x (by simp)
    have hp : E = [] ∧ s.ah = none ∧ s.T = [] ∧ pend = [] := by
      rcases hs with ⟨h1, h2, h3, ⟨_, h⟩ | ⟨c, _, h, _⟩⟩ | ⟨b, c0, y, _, _, h, _⟩
      · exact ⟨h1, h2, h3, h⟩
      · cases h
      · cases h
    obtain ⟨rfl, h2, h3, rfl⟩ := hp
    rw [pk] at hr hF
    have hex : (x.toNat : Int) = x := by omega
    have ih := dec_pk (most := most) hw1 hw2 r [] (some x.toNat) [x] s F hi (.inl ⟨rfl, h2, h3, .inr ⟨x.toNat, by omega, rfl, by rw [hex]⟩⟩) hr hF (fun y hy => hl y (by simp [hy])) h90 hm
    rw [ih]; rfl
  | x :: r, E, some a, pend, s, F, hi, hs, hr, hF, hl, h90, hm => by
    have hx := hl x (by simp)
    have hlr : ∀ y ∈ r, 0 ≤ y ∧ y < cl := fun y hy => hl y (by simp [hy])
    rw [pk] at hr hF
    cases hfd : fnd a x E (cl + 2) with
    | some c =>
      rw [hfd] at hr hF
      have ih := dec_pk (most := most) hw1 hw2 r E (some c) (pend ++ [x]) s F hi (hs.more hfd) hr hF hlr h90 hm
      rw [ih, List.append_assoc]; rfl
    | none =>
      rw [hfd] at hr hF
      simp only at hr hF
      obtain ⟨e1, e2, e3, e4, e5, e6⟩ := hs.emit (early := early) hi h90
      have nx := hi.nxt (early := early) e1 e2 e3
      have ho := nx.out
      rw [e4] at ho
      have hsy := e6 x hx.1 hx.2
      have hlong : ∀ m : List Int, most < ((s.out.length + pend.length : Nat) : Int) → fin most (s.out ++ (pend ++ m)) = ([], 3) := fun m hh => by
        rw [← List.append_assoc]; exact fin_long (by rw [List.length_append]; exact hh)
      have hex : (x.toNat : Int) = x := by omega
      split at hr
      · rename_i h4
        rw [if_pos h4] at hF
        obtain ⟨G, rfl⟩ : ∃ G, F = G + 1 + 1 := ⟨F - 2, by simp at hF; omega⟩
        rw [lz_take hr.1 hr.2.1, if_neg e1, if_neg e2, if_neg e3, e4]
        split
        · rename_i hlt; exact (hlong _ hlt).symm
        · rename_i hge
          obtain ⟨-, -, hr2⟩ := hr
          rw [← nx.pos, ← e5] at hr2
          rw [lz_take hr2.1 hr2.2.1, if_pos rfl]
          have ih := dec_pk (most := most) hw1 hw2 r [] (some x.toNat) [x] ⟨(nextS cl early s a).pos + (nextS cl early s a).wd, w0, none, [], [], (nextS cl early s a).out⟩ G (nx.inv.clear hw1 hw2) (.inl ⟨rfl, rfl, rfl, .inr ⟨x.toNat, by omega, rfl, by rw [hex]⟩⟩) hr2.2.2 (by simp at hF; simp only; omega) hlr (by simp; omega) (by simp only [ho, List.length_append]; omega)
          rw [ih]
          simp only [ho, List.append_assoc]; rfl
      · rename_i h4
        rw [if_neg h4] at hF
        obtain ⟨G, rfl⟩ : ∃ G, F = G + 1 := ⟨F - 1, by simp at hF; omega⟩
        rw [lz_take hr.1 hr.2.1, if_neg e1, if_neg e2, if_neg e3, e4]
        split
        · rename_i hlt; exact (hlong _ hlt).symm
        · rename_i hge
          obtain ⟨-, -, hr2⟩ := hr
          have ih := dec_pk (most := most) hw1 hw2 r (E ++ [(a, x)]) (some x.toNat) [x] (nextS cl early s a) G nx.inv hsy (by rw [nx.pos, e5]; exact hr2) (by rw [e5]; simp at hF; omega) hlr (by simp; omega) (by rw [ho, List.length_append]; omega)
          rw [ih]
          simp only [ho, List.append_assoc]; rfl
/-- bytes that are packed are read back -/
theorem lz_pack {up : Bool} {bs : List Int} {cl w0 early : Nat} {most : Int} (hcl : cl ≤ 256) (hc4 : 4 ≤ cl) (hw0 : Wide cl early 1 w0) (he : early ≤ 1) (hb : ∀ x ∈ bs, 0 ≤ x ∧ x < cl) (hm : 0 ≤ most) :
    lz (packL bs cl w0 early up) up cl w0 early most (8 * (packL bs cl w0 early up).length + 1) (initS w0) = fin most bs := by
  have hfit := pk_fit hw0 he bs [] w0 none ⟨hw0.one, hw0.most, by have := hw0.fit; simp only [List.length_nil]; omega⟩ (by simp; omega) (fun _ => rfl) hb (fun a ha => by cases ha)
  have hfit' : FitC ((cl, w0) :: pk cl w0 early bs [] w0 none) := fun e hm => by
    rcases List.mem_cons.1 hm with rfl | hm
    · exact ⟨by have := hw0.fit; simp only; omega, hw0.one, hw0.most⟩
    · exact hfit e hm
  have hr := reads_putAll (up := up) _ ([], 0) (WOk.nil up) hfit'
  have hok := (putAll_ok (up := up) ((cl, w0) :: pk cl w0 early bs [] w0 none) ([], 0) (WOk.nil up)).1
  have hlen : (pk cl w0 early bs [] w0 none).length + 1 ≤ 8 * (packL bs cl w0 early up).length := by
    have hge : ∀ (l : List (Nat × Nat)) (s : List Int × Nat), FitC l → s.2 + l.length ≤ (putAll up l s).2 := by
      intro l
      induction l with
      | nil => intro s _; simp [putAll]
      | cons e r ih =>
        intro s hf
        have := ih (putV up s.1 s.2 e.1 e.2 e.2, s.2 + e.2) (fun x hx => hf x (by simp [hx]))
        have he := hf e (by simp)
        rw [putAll, List.length_cons]; simp only at this; omega
    have h1 := hge _ ([], 0) hfit'
    have h2 := hok.lo
    rw [List.length_cons] at h1
    unfold packL
    simp only at h1
    omega
  change Reads up (packL bs cl w0 early up) 0 ((cl, w0) :: pk cl w0 early bs [] w0 none) at hr
  obtain ⟨r1, r2, r3⟩ := hr
  generalize packL bs cl w0 early up = W at *
  have h1 := hw0.one
  have h2 := hw0.most
  have hi0 : Inv cl (initS w0) := ⟨hcl, hc4, h1, h2, by simp [initS]; omega, rfl, by simp [initS], by simp [initS], fun _ => rfl, by simp [initS, Bs], by simp [initS]⟩
  rw [lz_take (s := initS w0) (v := cl) r1 r2, if_pos rfl]
  have := dec_pk (up := up) (W := W) (early := early) (most := most) h1 h2 bs [] none [] ⟨(initS w0).pos + (initS w0).wd, w0, none, [], [], (initS w0).out⟩ (8 * W.length) (hi0.clear h1 h2) (.inl ⟨rfl, rfl, rfl, .inl ⟨rfl, rfl⟩⟩) r3 (by simp only; omega) hb (by simp; omega) (by simp [initS]; omega)
  rw [this]; simp [initS]
theorem packL_bs {bs : List Int} {cl w0 early : Nat} {up : Bool} : Bs (packL bs cl w0 early up) := (putAll_ok (up := up) ((cl, w0) :: pk cl w0 early bs [] w0 none) ([], 0) (WOk.nil up)).1.fit
theorem packL_len {bs : List Int} {cl w0 early : Nat} {up : Bool} (hcl : cl ≤ 256) (hw0 : Wide cl early 1 w0) (he : early ≤ 1) (hb : ∀ x ∈ bs, 0 ≤ x ∧ x < cl) : (packL bs cl w0 early up).length ≤ 3 * bs.length + 6 := by
  have hfit := pk_fit hw0 he bs [] w0 none ⟨hw0.one, hw0.most, by have := hw0.fit; simp only [List.length_nil]; omega⟩ (by simp; omega) (fun _ => rfl) hb (fun a ha => by cases ha)
  have hfit' : FitC ((cl, w0) :: pk cl w0 early bs [] w0 none) := fun e hm => by
    rcases List.mem_cons.1 hm with rfl | hm
    · exact ⟨by have := hw0.fit; simp only; omega, hw0.one, hw0.most⟩
    · exact hfit e hm
  have hok := (putAll_ok (up := up) ((cl, w0) :: pk cl w0 early bs [] w0 none) ([], 0) (WOk.nil up)).1
  have h1 := putAll_len (up := up) _ ([], 0) hfit'
  have h2 := hok.hi
  have h3 := pk_length (cl := cl) (w0 := w0) (early := early) bs [] w0 none
  rw [List.length_cons] at h1
  unfold packL
  simp only at h1
  omega
end Go.Proofs.Ytlbokiaolmflaaa
