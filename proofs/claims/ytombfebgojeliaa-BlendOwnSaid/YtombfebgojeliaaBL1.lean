/- Blend: the operators' names, their arguments, the outcome's size. -/
import Derived.Test.YtombfebgojeliaaBR8
namespace Go.Proofs.Ytombfebgojeliaa
open Go Go.Vc Go.RowKit
set_option maxRecDepth 100000
set_option linter.unusedVariables false
set_option linter.unusedSimpArgs false

abbrev sOver : ByteArray := { data := #[111, 118, 101, 114] }
abbrev sPlus : ByteArray := { data := #[112, 108, 117, 115] }
abbrev sMinus : ByteArray := { data := #[109, 105, 110, 117, 115] }
abbrev sTimes : ByteArray := { data := #[116, 105, 109, 101, 115] }
abbrev sScreen : ByteArray := { data := #[115, 99, 114, 101, 101, 110] }
abbrev sDiffer : ByteArray := { data := #[100, 105, 102, 102, 101, 114] }
abbrev sLighter : ByteArray := { data := #[108, 105, 103, 104, 116, 101, 114] }
abbrev sDarker : ByteArray := { data := #[100, 97, 114, 107, 101, 114] }
abbrev sMix : ByteArray := { data := #[109, 105, 120] }
abbrev sMask : ByteArray := { data := #[109, 97, 115, 107] }
abbrev sBeside : ByteArray := { data := #[98, 101, 115, 105, 100, 101] }
abbrev sBelow : ByteArray := { data := #[98, 101, 108, 111, 119] }
def names12 : List ByteArray := [sOver, sPlus, sMinus, sTimes, sScreen, sDiffer, sLighter, sDarker, sMix, sMask, sBeside, sBelow]
def strs (l : List ByteArray) : List Value := l.map Value.string
def fidOf (op : ByteArray) : Option Nat :=
  if op = sPlus then some F.blend_pair_plus else if op = sMinus then some F.blend_pair_minus else if op = sTimes then some F.blend_pair_times else if op = sScreen then some F.blend_pair_screen
  else if op = sDiffer then some F.blend_pair_differ else if op = sLighter then some F.blend_pair_lighter else if op = sDarker then some F.blend_pair_darker else if op = sMask then some F.blend_pair_first else none
abbrev fnV (n : Nat) : Value := .func (.func n) #[] #[]
def kvS : List (Value × Value) := [(.string sPlus, fnV F.blend_pair_plus), (.string sMinus, fnV F.blend_pair_minus), (.string sTimes, fnV F.blend_pair_times), (.string sScreen, fnV F.blend_pair_screen),
  (.string sDiffer, fnV F.blend_pair_differ), (.string sLighter, fnV F.blend_pair_lighter), (.string sDarker, fnV F.blend_pair_darker), (.string sMask, fnV F.blend_pair_first)]
def fnOr (o : Option Nat) : Value × Bool := match o with
  | some n => (fnV n, true)
  | none => (.nilFunc, false)
theorem mgot_S (op : ByteArray) : mgot kvS (.string op) .nilFunc = fnOr (fidOf op) := by
  have e : ∀ (s : ByteArray) (v : Value) (r : List (Value × Value)), mfind (.string op) ((.string s, v) :: r) = if op = s then some v else mfind (.string op) r := fun s v r => by
    show (match decide (op = s) with | true => some v | false => mfind (.string op) r) = _
    by_cases h : op = s <;> simp [h]
  unfold mgot kvS fidOf
  rw [e, e, e, e, e, e, e, e]
  repeat' split
  all_goals first | rfl | (simp_all; done) | (simp_all [mfind, fnOr])
theorem mput_S {w : World} {b : Nat} {kvs : List (Value × Value)} {k v : Value} {l : List (Value × Value)} (h : Mp .str w b (mput k v l)) (e : mput k v l = kvs) : Mp .str w b kvs := e ▸ h
theorem sums_spec {w : World} {R : Ending → World → Prop} (hR : ∀ k w', Ext w w' → w.heap.size ≤ k → Mp .str w' k kvS → R (.returned (.map (some k))) w') : Calls P F.blend_sums #[] w R := by
  refine calls_blend_sums _ _ ?_
  intro k w1 hn
  have hk := hn.1
  have hE1 := hn.ext
  have st : ∀ {u u' : World}, Ext w u → Put k u u' → Ext w u' := fun hE hP => hE.step hP.chg fun i hi => by omega
  refine ⟨_, hn.mp .str, fun w2 hP2 hm2 => ⟨_, hm2, fun w3 hP3 hm3 => ⟨_, hm3, fun w4 hP4 hm4 => ⟨_, hm4, fun w5 hP5 hm5 => ⟨_, hm5, fun w6 hP6 hm6 => ⟨_, hm6, fun w7 hP7 hm7 => ⟨_, hm7, fun w8 hP8 hm8 => ⟨_, hm8, fun w9 hP9 hm9 => ?_⟩⟩⟩⟩⟩⟩⟩⟩
  refine hR k w9 (st (st (st (st (st (st (st (st hE1 hP2) hP3) hP4) hP5) hP6) hP7) hP8) hP9) (by omega) (mput_S hm9 (by kernel_rfl))
def i64s (l : List Int) : List Value := l.map i64
theorem i64s_length (l : List Int) : (i64s l).length = l.length := by simp [i64s]
theorem i64s_get {l : List Int} {i : Nat} (h : i < l.length) : (i64s l)[i]? = some (i64 (l.getD i 0)) := by simp [i64s, List.getD, h]
/-- an operator's arguments: from, to, how many -/
def specOf (op : ByteArray) : Option (Int × Int × Nat) :=
  if op = sOver then some (-4096, 4096, 2) else if op = sMix then some (0, 256, 1) else if op = sBeside ∨ op = sBelow then some (0, 0, 0) else match fidOf op with | some _ => some (0, 0, 0) | none => none
def chkR (op : ByteArray) (args : List Int) : Int := match specOf op with
  | none => 8
  | some (lo, hi, n) => if args.length ≠ n then 190 else if args.all fun a => decide (lo ≤ a ∧ a ≤ hi) then 0 else 190
theorem all_iff {lo hi : Int} {args : List Int} : (args.all fun a => decide (lo ≤ a ∧ a ≤ hi)) = true ↔ ∀ i, i < args.length → lo ≤ args.getD i 0 ∧ args.getD i 0 ≤ hi := by
  rw [List.all_eq_true]
  constructor
  · intro h i hi'
    have := h (args.getD i 0) (by simp [List.getD, List.getElem?_eq_getElem hi'])
    simpa using this
  · intro h x hx
    obtain ⟨i, hi', rfl⟩ := List.getElem_of_mem hx
    have := h i hi'
    simpa [List.getD, List.getElem?_eq_getElem hi'] using this
structure Ints (w : World) (p : Option Addr) (len : Nat) (l : List Int) : Prop where
  sl : Sl w.heap.size w p (i64s l)
  lth : len = l.length
  small : len ≤ 2 ^ 44
theorem Ints.ext {w w' : World} {p : Option Addr} {len : Nat} {l : List Int} (h : Ints w p len l) (hE : Ext w w') : Ints w' p len l := ⟨(h.sl.ext hE).up, h.lth, h.small⟩
theorem Ints.at_ {w : World} {p : Option Addr} {len : Nat} {l : List Int} (h : Ints w p len l) {i : Int} (h0 : 0 ≤ i) (h1 : i < len) {F : Addr → Prop} (hF : ∀ a : Addr, w.cell? a = some (i64 (l.getD i.toNat 0)) → F a) : idx p len i 1 F :=
  h.sl.get h0 (by rw [i64s_length]; exact h.lth.symm) (i64s_get (by have := h.lth; omega)) hF
theorem Check_spec {w : World} {op : ByteArray} {p : Option Addr} {len cap : Nat} {args : List Int} {R : Ending → World → Prop} (h : Ints w p len args)
    (hR : ∀ w', Ext w w' → R (.returned (i64 (chkR op args))) w') : Calls P F.blend_Check #[.string op, .slice p len cap] w R := by
  refine calls_blend_Check _ _ _ _ _ _ ?_
  have hl := h.lth
  have hsm := h.small
  refine ⟨fun vs u => match vs with | [.int _ lo, .int _ hi, .int _ n] => ∃ m : Nat, n = m ∧ specOf op = some (lo, hi, m) ∧ Ext w u | _ => False, ?_, ?_⟩
  · have hsum : op ≠ sOver → op ≠ sMix → op ≠ sBeside → op ≠ sBelow → ∀ {Rn Ri : World → Prop}, (∀ u, Ext w u → fidOf op = none → Rn u) → (∀ u, Ext w u → specOf op = some (0, 0, 0) → Ri u) →
        Calls P F.blend_sums #[] w fun e1 w1 => ∃ p1 : Option Nat, e1 = .returned (.map p1) ∧ mapIn .str w1 (.map p1) fun l1 =>
          ((∃ c1 : Bool, mgot l1 (.string op) .nilFunc = (.nilFunc, c1) ∧ isFnV .nilFunc = true ∧ brB (isNilF .nilFunc) (Rn w1) (Ri w1)) ∨
          (∃ y1 : FuncId, ∃ y2 : Array Value, ∃ y3 : Array Value, ∃ c2 : Bool, mgot l1 (.string op) .nilFunc = (.func (.func y1) y2 y3, c2) ∧ isFnV (.func (.func y1) y2 y3) = true ∧ brB (isNilF (.func (.func y1) y2 y3)) (Rn w1) (Ri w1))) :=
      fun n1 n2 n3 n4 Rn Ri hn hi => by
        refine sums_spec fun k w1 hE hk hm => ⟨_, rfl, _, hm, ?_⟩
        have hm' := mgot_S op
        cases hf : fidOf op with
        | none =>
          rw [hf] at hm'
          exact .inl ⟨false, hm', rfl, brB_t rfl (hn w1 hE hf)⟩
        | some n =>
          rw [hf] at hm'
          refine .inr ⟨n, #[], #[], true, hm', rfl, brB_f rfl (hi w1 hE ?_)⟩
          unfold specOf
          rw [if_neg n1, if_neg n2, if_neg (by simp [n3, n4]), hf]
    have hnone : op ≠ sOver → op ≠ sMix → op ≠ sBeside → op ≠ sBelow → fidOf op = none → chkR op args = 8 := fun n1 n2 n3 n4 hf => by
      unfold chkR specOf
      rw [if_neg n1, if_neg n2, if_neg (by simp [n3, n4]), hf]
    refine brB_i (fun hb => ?_) (fun hb => ?_)
    · have hb : op = sOver := by simpa using hb
      exact ⟨2, rfl, by unfold specOf; rw [if_pos hb], Ext.refl w⟩
    have n1 : op ≠ sOver := by simpa using hb
    refine brB_i (fun hb2 => ?_) (fun hb2 => ?_)
    · have hb2 : op = sMix := by simpa using hb2
      exact ⟨1, rfl, by unfold specOf; rw [if_neg n1, if_pos hb2], Ext.refl w⟩
    have n2 : op ≠ sMix := by simpa using hb2
    refine brB_i (fun hb3 => ?_) (fun hb3 => ?_)
    · have hb3' : op = sBeside := by simpa using hb3
      exact brB_t hb3 ⟨0, rfl, by unfold specOf; rw [if_neg n1, if_neg n2, if_pos (.inl hb3')], Ext.refl w⟩
    have n3 : op ≠ sBeside := by simpa using hb3
    refine brB_i (fun hb4 => ?_) (fun hb4 => ?_)
    · have hb4 : op = sBelow := by simpa using hb4
      exact ⟨0, rfl, by unfold specOf; rw [if_neg n1, if_neg n2, if_pos (.inr hb4)], Ext.refl w⟩
    have n4 : op ≠ sBelow := by simpa using hb4
    refine hsum n1 n2 n3 n4 (fun u hE hf => ?_) (fun u hE hs => ⟨0, rfl, hs, hE⟩)
    have := hR u hE
    rwa [hnone n1 n2 n3 n4 hf] at this
  intro n1 n2 n3 w3 hI
  obtain ⟨m, rfl, hs, hE⟩ := hI
  have hc : chkR op args = if args.length ≠ m then 190 else if args.all fun a => decide (n1 ≤ a ∧ a ≤ n2) then 0 else 190 := by unfold chkR; rw [hs]
  rw [hc] at hR
  refine brB_i (fun hb => ?_) (fun hb => ?_)
  · have hb : ¬ (len : Int) = m := by simpa using hb
    rw [if_pos (by omega)] at hR
    exact hR _ hE
  have hb : (len : Int) = m := by simpa using hb
  rw [if_neg (by omega)] at hR
  refine ⟨fun vs u => match vs with | [.int _ k] => ∃ i : Nat, k = i ∧ i ≤ args.length ∧ Ext w u ∧ ∀ j, j < i → n1 ≤ args.getD j 0 ∧ args.getD j 0 ≤ n2 | _ => False,
    fun vs _ => match vs with | [.int _ k] => (args.length - k).toNat | _ => 0, ⟨0, rfl, by omega, hE, by simp⟩, fun k w4 hI => ?_⟩
  obtain ⟨i, rfl, hi, hE4, hall⟩ := hI
  refine brB_i (fun hlt => ?_) (fun hge => ?_)
  · have hlt : (i : Int) < len := by simpa using hlt
    refine (h.ext hE4).at_ (by omega) hlt fun a1 ha1 => ⟨_, ha1, ?_⟩
    rw [Int.toNat_natCast]
    refine brB_i (fun hb2 => ?_) (fun hb2 => ?_)
    · have hb2 : args.getD i 0 < n1 ∨ args.getD i 0 > n2 := by simpa using hb2
      rw [if_neg] at hR
      · exact hR _ hE4
      · rw [all_iff]
        intro hh
        have := hh i (by omega)
        omega
    · have hb2 : ¬ (args.getD i 0 < n1 ∨ args.getD i 0 > n2) := by simpa using hb2
      rw [w64 (by omega) (by omega)]
      refine ⟨⟨i + 1, by omega, by omega, hE4, fun j hj => ?_⟩, by show ((args.length : Int) - (i + 1)).toNat < ((args.length : Int) - i).toNat; omega⟩
      by_cases hji : j < i
      · exact hall j hji
      · have : j = i := by omega
        subst this; omega
  · have hge : ¬ (i : Int) < len := by simpa using hge
    rw [if_pos (all_iff.2 fun j hj => hall j (by omega))] at hR
    exact hR _ hE4
end Go.Proofs.Ytombfebgojeliaa
