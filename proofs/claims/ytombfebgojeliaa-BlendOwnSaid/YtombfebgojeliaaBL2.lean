/- Blend: the document's names, arguments, sizes. -/
import Derived.Test.YtombfebgojeliaaBL1
namespace Go.Proofs.Ytombfebgojeliaa
open Go Go.Vc Go.RowKit
set_option maxRecDepth 100000
set_option linter.unusedVariables false
set_option linter.unusedSimpArgs false

theorem strs_length (l : List ByteArray) : (strs l).length = l.length := by simp [strs]
theorem strs_get {l : List ByteArray} {i : Nat} (h : i < l.length) : (strs l)[i]? = some (.string (l.getD i ByteArray.empty)) := by simp [strs, List.getD, h]
theorem bNames_spec {w : World} {R : Ending → World → Prop} (hR : ∀ p w', Ext w w' → Sl w'.heap.size w' p (strs names12) → R (.returned (.slice p 12 12)) w') : Calls P F.blend_Names #[] w R := by
  refine calls_blend_Names _ _ ?_
  intro k w1 hn
  exact hR _ w1 hn.ext (hn.cs.sl (List.prefix_refl _) hn.size)
theorem rNames_spec {w : World} {R : Ending → World → Prop} (hR : ∀ p w', Ext w w' → Sl w'.heap.size w' p (strs names12) → R (.returned (.slice p 12 12)) w') : Calls P F.ref23_Names #[] w R := by
  refine calls_ref23_Names _ _ ?_
  intro k w1 hn
  exact hR _ w1 hn.ext (hn.cs.sl (List.prefix_refl _) hn.size)
theorem mem_getD {l : List ByteArray} {x : ByteArray} : x ∈ l ↔ ∃ i, i < l.length ∧ l.getD i ByteArray.empty = x := by
  constructor
  · intro h
    obtain ⟨i, hi, rfl⟩ := List.getElem_of_mem h
    exact ⟨i, hi, by simp [List.getD, List.getElem?_eq_getElem hi]⟩
  · rintro ⟨i, hi, rfl⟩
    simp [List.getD, List.getElem?_eq_getElem hi]
theorem In_spec {N : Nat} {w : World} {op : ByteArray} {p : Option Addr} {len cap : Nat} {l : List ByteArray} {R : Ending → World → Prop} (h : Sl N w p (strs l)) (hl : len = l.length) (hsm : len ≤ 2 ^ 44)
    (h1 : op ∈ l → ∀ w', Ext w w' → R (.returned (.bool true)) w') (h2 : op ∉ l → ∀ w', Ext w w' → R (.returned (.bool false)) w') : Calls P F.ref20_In #[.string op, .slice p len cap] w R := by
  refine calls_ref20_In _ _ _ _ _ _ ?_
  refine ⟨fun vs u => match vs with | [.int _ k] => ∃ i : Nat, k = i ∧ i ≤ l.length ∧ Ext w u ∧ ∀ j, j < i → l.getD j ByteArray.empty ≠ op | _ => False, fun vs _ => match vs with | [.int _ k] => (l.length - k).toNat | _ => 0, ⟨0, rfl, by omega, Ext.refl w, by simp⟩, fun k w1 hI => ?_⟩
  obtain ⟨i, rfl, hi, hE, hall⟩ := hI
  refine brB_i (fun hlt => ?_) (fun hge => ?_)
  · have hlt : (i : Int) < len := by simpa using hlt
    refine (h.ext hE).get (by omega) (by rw [strs_length]; omega) (v := .string (l.getD i ByteArray.empty)) (by rw [Int.toNat_natCast, strs_get (by omega)]) fun a ha => ⟨_, ha, ?_⟩
    refine brB_i (fun hb => ?_) (fun hb => ?_)
    · have hb : l.getD i ByteArray.empty = op := by simpa using hb
      exact h1 (mem_getD.2 ⟨i, by omega, hb⟩) w1 hE
    · have hb : ¬ l.getD i ByteArray.empty = op := by simpa using hb
      rw [w64 (by omega) (by omega)]
      refine ⟨⟨i + 1, by omega, by omega, hE, fun j hj => ?_⟩, by show ((l.length : Int) - (i + 1)).toNat < ((l.length : Int) - i).toNat; omega⟩
      by_cases hji : j < i
      · exact hall j hji
      · have : j = i := by omega
        subst this; exact hb
  · have hge : ¬ (i : Int) < len := by simpa using hge
    have : op ∉ l := fun hm => by
      obtain ⟨j, hj, e⟩ := mem_getD.1 hm
      exact hall j (by omega) e
    exact h2 this w1 hE
def fitP (args bl : List Int) : Prop := 2 * args.length = bl.length ∧ ∀ i, i < args.length → bl.getD (2 * i) 0 ≤ args.getD i 0 ∧ args.getD i 0 ≤ bl.getD (2 * i + 1) 0
theorem Fit_spec {w : World} {p q : Option Addr} {len cap ln cp : Nat} {args bl : List Int} {R : Ending → World → Prop} (h : Ints w p len args) (k : Ints w q ln bl)
    (h1 : fitP args bl → ∀ w', Ext w w' → R (.returned (.bool true)) w') (h2 : ¬ fitP args bl → ∀ w', Ext w w' → R (.returned (.bool false)) w') : Calls P F.ref20_Fit #[.slice p len cap, .slice q ln cp] w R := by
  refine calls_ref20_Fit _ _ _ _ _ _ _ _ ?_
  have hl := h.lth
  have kl := k.lth
  have hs := h.small
  have ks := k.small
  rw [vc_ref20_Fit, w64 (x := 2 * (len : Int)) (by omega) (by omega)]
  refine brB_i (fun hb => ?_) (fun hb => ?_)
  · have hb : ¬ 2 * (len : Int) = ln := by simpa using hb
    exact h2 (fun hh => by have := hh.1; omega) w (Ext.refl w)
  have hb : 2 * (len : Int) = ln := by simpa using hb
  refine ⟨fun vs u => match vs with | [.int _ k] => ∃ i : Nat, k = i ∧ i ≤ args.length ∧ Ext w u ∧ ∀ j, j < i → bl.getD (2 * j) 0 ≤ args.getD j 0 ∧ args.getD j 0 ≤ bl.getD (2 * j + 1) 0 | _ => False,
    fun vs _ => match vs with | [.int _ k] => (args.length - k).toNat | _ => 0, ⟨0, rfl, by omega, Ext.refl w, by simp⟩, fun n w1 hI => ?_⟩
  obtain ⟨i, rfl, hi, hE, hall⟩ := hI
  refine brB_i (fun hlt => ?_) (fun hge => ?_)
  · have hlt : (i : Int) < len := by simpa using hlt
    have hE' := hE.drew
    rw [w64 (x := 2 * (i : Int)) (by omega) (by omega), w64 (x := 2 * (i : Int) + 1) (by omega) (by omega)]
    refine (h.ext hE').at_ (by omega) hlt fun a1 ha1 => ⟨_, ha1, (k.ext hE').at_ (by omega) (by omega) fun a2 ha2 => ⟨_, ha2, ?_⟩⟩
    rw [Int.toNat_natCast, show (2 * (i : Int)).toNat = 2 * i by omega]
    refine brB_i (fun hb2 => ?_) (fun hb2 => ?_)
    · have hb2 : args.getD i 0 < bl.getD (2 * i) 0 := by simpa using hb2
      exact h2 (fun hh => by have := hh.2 i (by omega); omega) _ hE'
    have hb2 : ¬ args.getD i 0 < bl.getD (2 * i) 0 := by simpa using hb2
    refine (h.ext hE').at_ (by omega) hlt fun a3 ha3 => ⟨_, ha3, (k.ext hE').at_ (by omega) (by omega) fun a4 ha4 => ⟨_, ha4, ?_⟩⟩
    rw [Int.toNat_natCast, show (2 * (i : Int) + 1).toNat = 2 * i + 1 by omega]
    refine brB_i (fun hb3 => ?_) (fun hb3 => ?_)
    · have hb3 : args.getD i 0 > bl.getD (2 * i + 1) 0 := by simpa using hb3
      exact h2 (fun hh => by have := hh.2 i (by omega); omega) _ hE'
    have hb3 : ¬ args.getD i 0 > bl.getD (2 * i + 1) 0 := by simpa using hb3
    rw [w64 (by omega) (by omega)]
    refine ⟨⟨i + 1, by omega, by omega, hE', fun j hj => ?_⟩, by show ((args.length : Int) - (i + 1)).toNat < ((args.length : Int) - i).toNat; omega⟩
    by_cases hji : j < i
    · exact hall j hji
    · have : j = i := by omega
      subst this; omega
  · have hge : ¬ (i : Int) < len := by simpa using hge
    exact h1 ⟨by omega, fun j hj => hall j (by omega)⟩ _ hE
def bndsOf (op : ByteArray) : List Int := if op = sOver then [-4096, 4096, -4096, 4096] else if op = sMix then [0, 256] else []
theorem spec_names (op : ByteArray) : op ∈ names12 ↔ specOf op ≠ none := by
  unfold specOf fidOf names12
  by_cases h1 : op = sOver
  · simp [h1]
  by_cases h2 : op = sMix
  · simp [h2]
  by_cases h3 : op = sBeside
  · simp [h3]
  by_cases h4 : op = sBelow
  · simp [h4]
  rw [if_neg h1, if_neg h2, if_neg (by simp [h3, h4])]
  by_cases h5 : op = sPlus
  · simp [h5]
  by_cases h6 : op = sMinus
  · simp [h6]
  by_cases h7 : op = sTimes
  · simp [h7]
  by_cases h8 : op = sScreen
  · simp [h8]
  by_cases h9 : op = sDiffer
  · simp [h9]
  by_cases h10 : op = sLighter
  · simp [h10]
  by_cases h11 : op = sDarker
  · simp [h11]
  by_cases h12 : op = sMask
  · simp [h12]
  simp [h1, h2, h3, h4, h5, h6, h7, h8, h9, h10, h11, h12]
theorem getD_two {a b : Int} : ([a, b] : List Int).getD 0 0 = a ∧ ([a, b] : List Int).getD 1 0 = b := ⟨rfl, rfl⟩
theorem chk_fit {op : ByteArray} {args : List Int} (h : op ∈ names12) : chkR op args = 0 ∧ fitP args (bndsOf op) ∨ chkR op args = 190 ∧ ¬ fitP args (bndsOf op) := by
  have key : ∀ (lo hi : Int) (n : Nat) (bl : List Int), specOf op = some (lo, hi, n) → bl.length = 2 * n → (∀ i, i < n → bl.getD (2 * i) 0 = lo ∧ bl.getD (2 * i + 1) 0 = hi) →
      chkR op args = 0 ∧ fitP args bl ∨ chkR op args = 190 ∧ ¬ fitP args bl := fun lo hi n bl hs hbl hb => by
    unfold chkR
    rw [hs]
    simp only
    by_cases hn : args.length = n
    · rw [if_neg (by omega)]
      by_cases ha : (args.all fun a => decide (lo ≤ a ∧ a ≤ hi)) = true
      · rw [if_pos ha]
        rw [all_iff] at ha
        exact .inl ⟨rfl, by omega, fun i hi' => by have := hb i (by omega); have := ha i hi'; omega⟩
      · rw [if_neg ha]
        refine .inr ⟨rfl, fun hf => ha (all_iff.2 fun i hi' => ?_)⟩
        have := hf.2 i hi'
        have := hb i (by omega)
        omega
    · rw [if_pos (by omega)]
      exact .inr ⟨rfl, fun hf => by have := hf.1; omega⟩
  unfold bndsOf
  by_cases h1 : op = sOver
  · rw [if_pos h1]
    refine key (-4096) 4096 2 _ (by unfold specOf; rw [if_pos h1]) rfl fun i hi => ?_
    rcases (by omega : i = 0 ∨ i = 1) with rfl | rfl <;> exact ⟨rfl, rfl⟩
  rw [if_neg h1]
  by_cases h2 : op = sMix
  · rw [if_pos h2]
    refine key 0 256 1 _ (by unfold specOf; rw [if_neg h1, if_pos h2]) rfl fun i hi => ?_
    have : i = 0 := by omega
    subst this; exact ⟨rfl, rfl⟩
  rw [if_neg h2]
  have hne := (spec_names op).1 h
  refine key 0 0 0 [] ?_ rfl fun i hi => by omega
  unfold specOf at hne ⊢
  rw [if_neg h1, if_neg h2] at hne ⊢
  by_cases h3 : op = sBeside ∨ op = sBelow
  · rw [if_pos h3]
  · rw [if_neg h3] at hne ⊢
    cases hf : fidOf op with
    | none => rw [hf] at hne; exact (hne rfl).elim
    | some n => rfl
theorem refCheck_spec {w : World} {op : ByteArray} {p : Option Addr} {len cap : Nat} {args : List Int} {R : Ending → World → Prop} (h : Ints w p len args)
    (hR : ∀ w', Ext w w' → R (.returned (i64 (chkR op args))) w') : Calls P F.ref23_Check #[.string op, .slice p len cap] w R := by
  refine calls_ref23_Check _ _ _ _ _ _ ?_
  refine rNames_spec fun q w1 hE1 hn => ⟨_, _, _, rfl, ?_⟩
  refine In_spec hn rfl (by omega) (fun hb w2 hE2 => ⟨_, rfl, brB_f rfl ?_⟩) (fun hb w2 hE2 => ⟨_, rfl, brB_t rfl ?_⟩)
  rotate_left
  · have : specOf op = none := by
      cases hs : specOf op with
      | none => rfl
      | some x => exact (hb ((spec_names op).2 (by rw [hs]; simp))).elim
    have h8 : chkR op args = 8 := by unfold chkR; rw [this]
    rw [h8] at hR
    exact hR _ (hE1.trans hE2)
  have hE := hE1.trans hE2
  refine ⟨fun vs u => match vs with | [.slice q l c] => Ext w u ∧ Ints u q l (bndsOf op) | _ => False, brB_i (fun hb1 => ?_) (fun hb1 => ?_), ?_⟩
  · have hb1 : op = sOver := by simpa using hb1
    intro k3 w3 hn3
    refine ⟨hE.trans hn3.ext, ?_⟩
    unfold bndsOf
    rw [if_pos hb1]
    exact ⟨hn3.cs.sl (List.prefix_refl _) hn3.size, rfl, by omega⟩
  · have hb1 : op ≠ sOver := by simpa using hb1
    refine brB_i (fun hb2 => ?_) (fun hb2 => ?_)
    · have hb2 : op = sMix := by simpa using hb2
      intro k3 w3 hn3
      refine ⟨hE.trans hn3.ext, ?_⟩
      unfold bndsOf
      rw [if_neg hb1, if_pos hb2]
      exact ⟨hn3.cs.sl (List.prefix_refl _) hn3.size, rfl, by omega⟩
    · have hb2 : op ≠ sMix := by simpa using hb2
      refine ⟨hE, ?_⟩
      unfold bndsOf
      rw [if_neg hb1, if_neg hb2]
      exact ⟨Sl.nil _ _ _, rfl, by omega⟩
  intro q l c w5 hI
  obtain ⟨hE5, hb5⟩ := hI
  rcases chk_fit (args := args) hb with ⟨e, hf⟩ | ⟨e, hf⟩
  · rw [e] at hR
    exact Fit_spec (h.ext hE5) hb5 (fun _ w6 hE6 => ⟨_, rfl, brB_f rfl (hR _ (hE5.trans hE6))⟩) (fun hn => (hn hf).elim)
  · rw [e] at hR
    exact Fit_spec (h.ext hE5) hb5 (fun hp => (hf hp).elim) (fun _ w6 hE6 => ⟨_, rfl, brB_t rfl (hR _ (hE5.trans hE6))⟩)
/-! ## the outcome's size -/
theorem bfits_spec {x y : Int} {w : World} {R : Ending → World → Prop} (hR : R (.returned (.bool (gfits x y))) w) : Calls P F.blend_fits #[i64 x, i64 y] w R := by
  refine calls_blend_fits _ _ _ _ ?_
  rw [vc_blend_fits, fitsB]; exact hR
def whOf (op : ByteArray) (pw ph qw qh : Int) : Int × Int × Bool :=
  if op = sOver then (pw, ph, true) else if op = sBeside then (pw + qw, ph, decide (ph = qh)) else if op = sBelow then (pw, ph + qh, decide (pw = qw)) else (pw, ph, decide (pw = qw ∧ ph = qh))
def sizeR (op : ByteArray) (args : List Int) (pw ph qw qh : Int) : Int × Int × Int :=
  if chkR op args ≠ 0 then (0, 0, chkR op args) else if gfits pw ph = false ∨ gfits qw qh = false then (0, 0, 4) else
  if (whOf op pw ph qw qh).2.2 = false then (0, 0, 190) else if gfits (whOf op pw ph qw qh).1 (whOf op pw ph qw qh).2.1 = false then (0, 0, 11) else ((whOf op pw ph qw qh).1, (whOf op pw ph qw qh).2.1, 0)
abbrev tri (t : Int × Int × Int) : Value := .tuple #[i64 t.1, i64 t.2.1, i64 t.2.2]
theorem Size_spec {w : World} {op : ByteArray} {p : Option Addr} {len cap : Nat} {args : List Int} {pw ph qw qh : Int} {R : Ending → World → Prop} (h : Ints w p len args)
    (hR : ∀ w', Ext w w' → R (.returned (tri (sizeR op args pw ph qw qh))) w') : Calls P F.blend_Size #[.string op, .slice p len cap, i64 pw, i64 ph, i64 qw, i64 qh] w R := by
  refine calls_blend_Size _ _ _ _ _ _ _ _ _ _ ?_
  refine Check_spec h fun w1 hE1 => ⟨_, rfl, brB_i (fun hb => ?_) (fun hb => ?_)⟩
  · have hb : chkR op args ≠ 0 := by simpa using hb
    have := hR w1 hE1
    unfold sizeR at this
    rwa [if_pos hb] at this
  have hb : chkR op args = 0 := by simpa using hb
  unfold sizeR at hR
  rw [if_neg (by omega)] at hR
  refine bfits_spec ⟨_, rfl, brB_i (fun hb1 => ?_) (fun hb1 => ?_)⟩
  · have hb1 : gfits pw ph = false := by simpa using hb1
    rw [if_pos (.inl hb1)] at hR
    exact hR w1 hE1
  have hb1 : gfits pw ph = true := by simpa using hb1
  refine bfits_spec ⟨_, rfl, brB_i (fun hb2 => ?_) (fun hb2 => ?_)⟩
  · have hb2 : gfits qw qh = false := by simpa using hb2
    rw [if_pos (.inr hb2)] at hR
    exact hR w1 hE1
  have hb2 : gfits qw qh = true := by simpa using hb2
  rw [if_neg (by simp [hb1, hb2])] at hR
  obtain ⟨g1, g2, g3, g4, g5⟩ := gfits_iff.1 hb1
  obtain ⟨k1, k2, k3, k4, k5⟩ := gfits_iff.1 hb2
  rw [w64 (x := pw + qw) (by omega) (by omega), w64 (x := ph + qh) (by omega) (by omega)]
  refine ⟨fun vs u => [i64 (whOf op pw ph qw qh).1, i64 (whOf op pw ph qw qh).2.1, .bool (whOf op pw ph qw qh).2.2] = vs ∧ w1 = u, ?_, ?_⟩
  · unfold whOf
    refine brB_i (fun hb3 => ?_) (fun hb3 => ?_)
    · have hb3 : op = sOver := by simpa using hb3
      rw [if_pos hb3]; exact ⟨rfl, rfl⟩
    have hb3 : op ≠ sOver := by simpa using hb3
    rw [if_neg hb3]
    refine brB_i (fun hb4 => ?_) (fun hb4 => ?_)
    · have hb4 : op = sBeside := by simpa using hb4
      rw [if_pos hb4]; exact ⟨rfl, rfl⟩
    have hb4 : op ≠ sBeside := by simpa using hb4
    rw [if_neg hb4]
    refine brB_i (fun hb5 => ?_) (fun hb5 => ?_)
    · have hb5 : op = sBelow := by simpa using hb5
      rw [if_pos hb5]; exact ⟨rfl, rfl⟩
    have hb5 : op ≠ sBelow := by simpa using hb5
    rw [if_neg hb5]
    refine ⟨?_, rfl⟩
    congr 4
    simp only [Bool.decide_and]; rfl
  intro n2 n3 c3 w4 hI
  obtain ⟨e, rfl⟩ := hI
  simp only [List.cons.injEq, Value.int.injEq, Value.bool.injEq, true_and, and_true] at e
  obtain ⟨rfl, rfl, rfl⟩ := e
  generalize whOf op pw ph qw qh = wh at *
  refine brB_i (fun hb3 => ?_) (fun hb3 => ?_)
  · have hb3 : wh.2.2 = false := by simpa using hb3
    rw [if_pos hb3] at hR
    exact hR w1 hE1
  have hb3 : wh.2.2 = true := by simpa using hb3
  rw [if_neg (by simp [hb3])] at hR
  refine bfits_spec ⟨_, rfl, brB_i (fun hb4 => ?_) (fun hb4 => ?_)⟩
  · have hb4 : gfits wh.1 wh.2.1 = false := by simpa using hb4
    rw [if_pos hb4] at hR
    exact hR w1 hE1
  have hb4 : gfits wh.1 wh.2.1 = true := by simpa using hb4
  rw [if_neg (by simp [hb4])] at hR
  exact hR w1 hE1
theorem refSize_spec {w : World} {op : ByteArray} {p : Option Addr} {len cap : Nat} {args : List Int} {pw ph qw qh : Int} {R : Ending → World → Prop} (h : Ints w p len args)
    (hR : ∀ w', Ext w w' → R (.returned (tri (sizeR op args pw ph qw qh))) w') : Calls P F.ref23_Size #[.string op, .slice p len cap, i64 pw, i64 ph, i64 qw, i64 qh] w R := by
  refine calls_ref23_Size _ _ _ _ _ _ _ _ _ _ ?_
  refine refCheck_spec h fun w1 hE1 => ⟨_, rfl, brB_i (fun hb => ?_) (fun hb => ?_)⟩
  · have hb : chkR op args ≠ 0 := by simpa using hb
    have := hR w1 hE1
    unfold sizeR at this
    rwa [if_pos hb] at this
  have hb : chkR op args = 0 := by simpa using hb
  unfold sizeR at hR
  rw [if_neg (by omega)] at hR
  refine Fits_spec ⟨_, rfl, brB_i (fun hb1 => ?_) (fun hb1 => ?_)⟩
  · have hb1 : gfits pw ph = false := by simpa using hb1
    rw [if_pos (.inl hb1)] at hR
    exact hR w1 hE1
  have hb1 : gfits pw ph = true := by simpa using hb1
  refine Fits_spec ⟨_, rfl, brB_i (fun hb2 => ?_) (fun hb2 => ?_)⟩
  · have hb2 : gfits qw qh = false := by simpa using hb2
    rw [if_pos (.inr hb2)] at hR
    exact hR w1 hE1
  have hb2 : gfits qw qh = true := by simpa using hb2
  rw [if_neg (by simp [hb1, hb2])] at hR
  obtain ⟨g1, g2, g3, g4, g5⟩ := gfits_iff.1 hb1
  obtain ⟨k1, k2, k3, k4, k5⟩ := gfits_iff.1 hb2
  rw [w64 (x := pw + qw) (by omega) (by omega), w64 (x := ph + qh) (by omega) (by omega)]
  have hbad : (whOf op pw ph qw qh).2.2 = false → R (.returned (.tuple #[i64 0, i64 0, i64 190])) w1 := fun hb3 => by
    rw [if_pos hb3] at hR
    exact hR w1 hE1
  refine ⟨fun vs u => [i64 (whOf op pw ph qw qh).1, i64 (whOf op pw ph qw qh).2.1] = vs ∧ w1 = u ∧ (whOf op pw ph qw qh).2.2 = true, ?_, ?_⟩
  · unfold whOf at hbad ⊢
    refine brB_i (fun hb3 => ?_) (fun hb3 => ?_)
    · have hb3 : op = sOver := by simpa using hb3
      rw [if_pos hb3]; exact ⟨rfl, rfl, rfl⟩
    have hb3 : op ≠ sOver := by simpa using hb3
    rw [if_neg hb3] at hbad ⊢
    refine brB_i (fun hb4 => ?_) (fun hb4 => ?_)
    · have hb4 : op = sBeside := by simpa using hb4
      rw [if_pos hb4] at hbad ⊢
      exact brB_i (fun hb5 => hbad (by simpa using hb5)) (fun hb5 => ⟨rfl, rfl, by simpa using hb5⟩)
    have hb4 : op ≠ sBeside := by simpa using hb4
    rw [if_neg hb4] at hbad ⊢
    refine brB_i (fun hb5 => ?_) (fun hb5 => ?_)
    · have hb5 : op = sBelow := by simpa using hb5
      rw [if_pos hb5] at hbad ⊢
      exact brB_i (fun hb6 => hbad (by simpa using hb6)) (fun hb6 => ⟨rfl, rfl, by simpa using hb6⟩)
    have hb5 : op ≠ sBelow := by simpa using hb5
    rw [if_neg hb5] at hbad ⊢
    refine brB_i (fun hb6 => hbad ?_) (fun hb6 => ⟨rfl, rfl, ?_⟩)
    · have : ¬ (pw = qw ∧ ph = qh) := fun hh => by rw [hh.1, hh.2] at hb6; simp at hb6
      simpa using this
    · have hb6 : pw = qw ∧ ph = qh := by simpa using hb6
      simp [hb6]
  intro n2 n3 w4 hI
  obtain ⟨e, rfl, hb3⟩ := hI
  simp only [List.cons.injEq, Value.int.injEq, true_and, and_true] at e
  obtain ⟨rfl, rfl⟩ := e
  generalize whOf op pw ph qw qh = wh at *
  rw [if_neg (by simp [hb3])] at hR
  refine Fits_spec ⟨_, rfl, brB_i (fun hb4 => ?_) (fun hb4 => ?_)⟩
  · have hb4 : gfits wh.1 wh.2.1 = false := by simpa using hb4
    rw [if_pos hb4] at hR
    exact hR w1 hE1
  have hb4 : gfits wh.1 wh.2.1 = true := by simpa using hb4
  rw [if_neg (by simp [hb4])] at hR
  exact hR w1 hE1
theorem ints_spec {w : World} {p : Option Addr} {len cap : Nat} {l : List Int} {R : Ending → World → Prop} (h : Ints w p len l)
    (hR : ∀ q c w', Fg [] w w' 1 q len c (i64s l) → R (.returned (.slice q len c)) w') : Calls P F.law23_ints #[.slice p len cap] w R := by
  refine calls_law23_ints _ _ _ _ _ ?_
  intro k1 w1 hn
  have hsm := h.small
  refine ⟨i64s l, by rw [i64s_length]; have := h.lth; omega, by simp [oneAll, i64s, Value.oneCell'], (h.sl.ext hn.ext).cells, ?_⟩
  have hs := hn.ext.size
  refine (Ow.nil w.heap.size w1.heap.size w1 (some ⟨k1, 0, none⟩) 1).app (by simp [blocks]) hs (Nat.le_refl _) rfl (by rw [i64s_length]; have := h.lth; omega) (by omega) (by omega) fun q c w2 ho hC => ?_
  rw [Nat.zero_add] at ho ⊢
  have hE : Ext w w2 := hn.ext.step hC fun i hi => hi.1
  exact hR q c w2 (Fg.ofOw (bs := []) (w := w) (by simpa using ho) (Ext.refl w) hE (by simp))
theorem Ints.of_fg {av : List Nat} {w w' : World} {q : Option Addr} {len c : Nat} {l : List Int} (h : Fg av w w' 1 q len c (i64s l)) (hs : len ≤ 2 ^ 44) : Ints w' q len l := ⟨h.sl, by have := h.len; rwa [i64s_length] at this, hs⟩
end Go.Proofs.Ytombfebgojeliaa
