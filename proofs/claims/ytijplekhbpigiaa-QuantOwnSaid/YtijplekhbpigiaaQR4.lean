/- Raster: the colours of an image, each once; the program's map, the document's list. -/
import Derived.Test.YtijplekhbpigiaaQR3
namespace Go.Proofs.Ytijplekhbpigiaa
open Go Go.Vc Go.RowKit
set_option maxRecDepth 100000
set_option linter.unusedVariables false
set_option linter.unusedSimpArgs false

def addC (l : List Co) (c : Co) : List Co := if c ∈ l then l else l ++ [c]
def distX (xs : List Int) : Nat → List Co
  | 0 => []
  | n + 1 => addC (distX xs n) (colAt xs n)
theorem distX_succ (xs : List Int) (n : Nat) : distX xs (n + 1) = addC (distX xs n) (colAt xs n) := rfl
theorem addC_length (l : List Co) (c : Co) : (addC l c).length ≤ l.length + 1 := by unfold addC; split <;> simp
theorem distX_length (xs : List Int) : ∀ n, (distX xs n).length ≤ n
  | 0 => by simp [distX]
  | n + 1 => by have := addC_length (distX xs n) (colAt xs n); have := distX_length xs n; rw [distX_succ]; omega
theorem mem_addC (l : List Co) (c : Co) : c ∈ addC l c := by unfold addC; split <;> simp_all
theorem distX_mem (xs : List Int) (n : Nat) : colAt xs n ∈ distX xs (n + 1) := mem_addC _ _
theorem addC_old {l : List Co} {c : Co} (h : c ∈ l) : addC l c = l := by simp [addC, h]
theorem addC_new {l : List Co} {c : Co} (h : c ∉ l) : addC l c = l ++ [c] := by simp [addC, h]
/-- the colours answered -/
def distR (W H : Int) (xs : List Int) : List Co := if good W H xs then distX xs (W * H).toNat else []
theorem co_inj {a b : Co} : (decide (a.1 = b.1) && (decide (a.2.1 = b.2.1) && (decide (a.2.2.1 = b.2.2.1) && (decide (a.2.2.2 = b.2.2.2) && true)))) = decide (a = b) := by
  obtain ⟨a1, a2, a3, a4⟩ := a; obtain ⟨b1, b2, b3, b4⟩ := b
  rw [Bool.eq_iff_iff]; simp
/-! ## lists of colours -/
theorem cos_elem {N : Nat} {w : World} {p : Option Addr} {len : Nat} {l : List Co} {F : Addr → Prop} (h : Sl N w p (cos l)) (hl : l.length = len) {i : Int} (h0 : 0 ≤ i) (h1 : i < len)
    (hF : ∀ a : Addr, w.cell? a = some (u16 (l.getD i.toNat zeroC).1) → w.cell? (a.add 1) = some (u16 (l.getD i.toNat zeroC).2.1) → w.cell? (a.add 2) = some (u16 (l.getD i.toNat zeroC).2.2.1) → w.cell? (a.add 3) = some (u16 (l.getD i.toNat zeroC).2.2.2) → F a) : idx p len i 4 F := by
  have hlt : i.toNat < l.length := by omega
  refine h.elem (f := co) (fun _ => rfl) (by omega) h0 hl (List.getElem?_eq_getElem hlt) fun c hc => ?_
  have e : l.getD i.toNat zeroC = l[i.toNat] := by simp [List.getD, hlt]
  rw [e] at hF
  have h0 := hc 0 _ rfl
  rw [add_zero'] at h0
  exact hF c h0 (hc 1 _ rfl) (hc 2 _ rfl) (hc 3 _ rfl)
theorem Place_spec {N : Nat} {w : World} {p : Option Addr} {len cap : Nat} {l : List Co} {c : Co} {R : Ending → World → Prop} (h : Sl N w p (cos l)) (hl : l.length = len) (h62 : len < 2 ^ 62)
    (hR : ∀ n w', Ext w w' → decide (n < 0) = decide (c ∉ l) → R (.returned (i64 n)) w') : Calls P F.ref09_Place #[.slice p len cap, .agg (co c).toArray] w R := by
  refine calls_ref09_Place _ _ _ _ _ _ _ _ _ ?_
  intro k1 hk1
  refine ⟨fun vs u => match vs with | [.int _ n] => 0 ≤ n ∧ n ≤ len ∧ Ext w u ∧ ∀ j : Nat, (j : Int) < n → l.getD j zeroC ≠ c | _ => False,
    fun vs _ => match vs with | [.int _ n] => (len - n).toNat | _ => 0, fun w1 hL1 => ⟨Int.le_refl _, by omega, hL1.ext (by simpa using hk1), fun j hj => by omega⟩, fun n w2 hI => ?_⟩
  obtain ⟨n0, n1, hE, hj⟩ := hI
  refine brB_i (fun hlt => ?_) (fun hge => ?_)
  · have hlt : n < len := by simpa using hlt
    refine cos_elem (h.ext hE).drew hl n0 hlt fun a h1 h2 h3 h4 => ⟨_, _, _, _, h1, h2, h3, h4, ?_⟩
    rw [co_inj (a := l.getD n.toNat zeroC) (b := c)]
    have hnl : n.toNat < l.length := by omega
    refine brB_i (fun he => ?_) (fun hne => ?_)
    · refine hR n _ hE.drew ?_
      have he : l.getD n.toNat zeroC = c := by simpa using he
      have hm : c ∈ l := by
        rw [← he]; simp [List.getD, hnl]
      rw [decide_eq_false (by omega), decide_eq_false (by simpa using hm)]
    · have hne : l.getD n.toNat zeroC ≠ c := by simpa using hne
      rw [w64 (x := n + 1) (by omega) (by omega)]
      refine ⟨⟨by omega, by omega, hE.drew, fun j hj' => ?_⟩, ?_⟩
      · by_cases hjn : (j : Int) < n
        · exact hj j hjn
        · rw [show j = n.toNat by omega]; exact hne
      · show (len - (n + 1)).toNat < (len - n).toNat
        omega
  · have hge : n = len := by simp at hge; omega
    refine hR (-1) w2 hE ?_
    have hm : c ∉ l := fun hm => by
      obtain ⟨j, hjl, hje⟩ := List.getElem_of_mem hm
      exact hj j (by omega) (by simp [List.getD, hjl, hje])
    rw [decide_eq_true (by omega), decide_eq_true hm]
theorem SameColors_spec {N M : Nat} {w : World} {p q : Option Addr} {la ca lb cb : Nat} {l m : List Co} {R : Ending → World → Prop} (hp : Sl N w p (cos l)) (hq : Sl M w q (cos m)) (hl : l.length = la) (hm : m.length = lb) (h62 : la < 2 ^ 62)
    (hR : ∀ w', Ext w w' → R (.returned (.bool (decide (l = m)))) w') : Calls P F.ref09_SameColors #[.slice p la ca, .slice q lb cb] w R := by
  refine calls_ref09_SameColors _ _ _ _ _ _ _ _ ?_
  unfold vc_ref09_SameColors
  refine brB_i (fun hne => ?_) (fun heq => ?_)
  · have : l ≠ m := fun e => by subst e; simp [← hl, ← hm] at hne
    simpa [this] using hR w (Ext.refl w)
  have heq : la = lb := by
    have : (la : Int) = lb := by simpa using heq
    omega
  refine ⟨fun vs u => match vs with | [.int _ n] => 0 ≤ n ∧ n ≤ la ∧ Ext w u ∧ ∀ j : Nat, (j : Int) < n → l.getD j zeroC = m.getD j zeroC | _ => False,
    fun vs _ => match vs with | [.int _ n] => (la - n).toNat | _ => 0, ⟨Int.le_refl _, by omega, Ext.refl _, fun j hj => by omega⟩, fun n w2 hI => ?_⟩
  obtain ⟨n0, n1, hE, hj⟩ := hI
  refine brB_i (fun hlt => ?_) (fun hge => ?_)
  · have hlt : n < la := by simpa using hlt
    refine cos_elem (hp.ext hE).drew hl n0 hlt fun a h1 h2 h3 h4 => ⟨_, _, _, _, h1, h2, h3, h4, ?_⟩
    refine cos_elem (hq.ext hE).drew hm n0 (by omega) fun b e1 e2 e3 e4 => ⟨_, _, _, _, e1, e2, e3, e4, ?_⟩
    rw [co_inj (a := l.getD n.toNat zeroC) (b := m.getD n.toNat zeroC)]
    refine brB_i (fun hne => ?_) (fun he => ?_)
    · have : l ≠ m := fun e => by subst e; simp at hne
      simpa [this] using hR _ hE.drew
    · have he : l.getD n.toNat zeroC = m.getD n.toNat zeroC := by simpa using he
      rw [w64 (x := n + 1) (by omega) (by omega)]
      refine ⟨⟨by omega, by omega, hE.drew, fun j hj' => ?_⟩, ?_⟩
      · by_cases hjn : (j : Int) < n
        · exact hj j hjn
        · rw [show j = n.toNat by omega]; exact he
      · show (la - (n + 1)).toNat < (la - n).toNat
        omega
  · have hge : n = la := by simp at hge; omega
    have : l = m := by
      refine List.ext_getElem (by omega) fun j h1 h2 => ?_
      have := hj j (by omega)
      simpa [List.getD, h1, h2] using this
    simpa [this] using hR w2 hE
/-! ## the program's map -/
abbrev kdC : Kd := .agg [.u16, .u16, .u16, .u16]
def kvC (l : List Co) : List (Value × Value) := l.map fun c => (.agg (co c).toArray, .agg #[])
theorem keyEq_co (a b : Co) : keyEq (.agg (co a).toArray) (.agg (co b).toArray) = decide (a = b) := by
  have := keyEq_iff (kd := kdC) (u := .agg (co a).toArray) (v := .agg (co b).toArray) rfl rfl
  rw [Bool.eq_iff_iff, this]
  obtain ⟨a1, a2, a3, a4⟩ := a; obtain ⟨b1, b2, b3, b4⟩ := b
  simp [co]
theorem mfind_co (c : Co) : ∀ l : List Co, mfind (.agg (co c).toArray) (kvC l) = if c ∈ l then some (.agg #[]) else none
  | [] => rfl
  | d :: l => by
    have ih := mfind_co c l
    show (match keyEq (.agg (co c).toArray) (.agg (co d).toArray) with | true => some (Value.agg #[]) | false => mfind (.agg (co c).toArray) (kvC l)) = _
    rw [keyEq_co]
    by_cases h : c = d
    · simp [h]
    · simp [h, ih]
theorem mgot_co (c : Co) (l : List Co) : mgot (kvC l) (.agg (co c).toArray) (.agg #[]) = (.agg #[], decide (c ∈ l)) := by
  unfold mgot; rw [mfind_co]
  by_cases h : c ∈ l <;> simp [h]
theorem mput_co (c : Co) : ∀ l : List Co, c ∉ l → mput (.agg (co c).toArray) (.agg #[]) (kvC l) = kvC (l ++ [c])
  | [], _ => rfl
  | d :: l, h => by
    have ih := mput_co c l (fun hm => h (by simp [hm]))
    show (match keyEq (.agg (co c).toArray) (.agg (co d).toArray) with | true => ((Value.agg (co c).toArray, Value.agg #[]) :: kvC l) | false => (Value.agg (co d).toArray, Value.agg #[]) :: mput (.agg (co c).toArray) (.agg #[]) (kvC l)) = (Value.agg (co d).toArray, Value.agg #[]) :: kvC (l ++ [c])
    rw [keyEq_co]
    have : c ≠ d := fun e => h (by simp [e])
    simp [this, ih]
theorem pixNext {W H y x : Int} (h0 : 0 ≤ y) (h1 : 0 ≤ x) : (y * W + (x + 1)) = y * W + x + 1 := by omega
/-- the program's list -/
theorem Distinct_spec {w : World} {p : Option Addr} {len cap : Nat} {W H : Int} {xs : List Int} {R : Ending → World → Prop} (h : Img w p len xs) (hc : len ≤ cap)
    (hR : ∀ p' c' w', Fg [] w w' 4 p' (distR W H xs).length c' (cos (distR W H xs)) → R (.returned (.slice p' (distR W H xs).length c')) w') :
    Calls P F.raster_Distinct #[.agg #[i64 W, i64 H, .slice p len cap]] w R := by
  refine calls_raster_Distinct _ _ _ _ _ _ _ ?_
  intro k1 hk1 w1 hL1
  have hE1 : Ext w w1 := hL1.ext (by simpa using hk1)
  refine good_spec h.len fun w2 hE2 => ⟨_, rfl, hE2.keep _, ?_⟩
  have hE12 := hE1.trans hE2
  have hs12 := hE12.size
  refine brB_i (fun hb => ?_) (fun hb k2 w3 hn3 k3 hk3 => ?_)
  · have hb : good W H xs = false := by simpa using hb
    rw [distR, if_neg (by simp [hb])] at hR
    exact hR none 0 w2 (Fg.nil hE12 4)
  have hb : good W H xs = true := by simpa using hb
  rw [distR, if_pos hb] at hR
  have hb' := hb
  simp only [good, Bool.and_eq_true, decide_eq_true_eq] at hb'
  obtain ⟨g1, g2, g3, g4, g5⟩ := gfits_iff.1 hb'.1
  have hwm := wrapmul g1 g2 g3 g4
  have hpos : 0 ≤ W * H := Int.mul_nonneg (by omega) (by omega)
  have ht1 := hL1.there k1 (by simp)
  have hk2 : w2.heap.size = k2 := hn3.1.symm
  have hs2 := hE2.size
  have hk2' := hn3.size
  have hE3 := hE12.trans hn3.ext
  have hxl := h.len
  have hmp : Mp kdC w3 k2 (kvC []) := hn3.mp _
  rw [hwm]
  refine ⟨fun vs u => match vs with | [.slice p len cap, .int _ n, .int _ a, .int _ b, .int _ c, .int _ d] => 0 ≤ n ∧ n ≤ W * H ∧ len = (distX xs n.toNat).length ∧ Fg [k3, k1, k2] w u 4 p len cap (cos (distX xs n.toNat)) ∧ Mp kdC u k2 (kvC (distX xs n.toNat)) ∧ (0 < n → (a, b, c, d) ∈ distX xs n.toNat) | _ => False,
    fun vs _ => match vs with | [_, .int _ n, _, _, _, _] => (W * H - n).toNat | _ => 0, fun w4 hL4 => ⟨Int.le_refl _, hpos, by simp [distX], ?_, ?_, by omega⟩, fun p1 l1 c1 n la lb lc ld w5 hI => ?_⟩
  · exact Fg.nil' hE3 (hL4.wide (cs := [k2]) (by simpa using hk2')) (by simp; omega) 4
  · exact hmp.same (hL4.block k2 hk2' (by simp; omega))
  obtain ⟨n0, n1, rfl, hf, hmp, hla⟩ := hI
  refine brB_i (fun hlt => ?_) (fun hge => ?_)
  · have hlt : n < W * H := by simpa using hlt
    have hll := distX_length xs n.toNat
    rw [w64 (x := 4 * n) (by omega) (by omega)]
    have hnx : (n + 1).toNat = n.toNat + 1 := by omega
    refine ⟨fun vs u => match vs with | [.slice p len cap, .int _ a, .int _ b, .int _ c, .int _ d] => len = (distX xs (n + 1).toNat).length ∧ Fg [k3, k1, k2] w u 4 p len cap (cos (distX xs (n + 1).toNat)) ∧ Mp kdC u k2 (kvC (distX xs (n + 1).toNat)) ∧ (a, b, c, d) ∈ distX xs (n + 1).toNat | _ => False, ?_, fun p4 l4 c4 a b c d w17 hI => ?_⟩
    · rw [hnx, distX_succ]
      refine ⟨by omega, by omega, by omega, ?_⟩
      have hsl : Sl w5.heap.size w5 (slcBase p (4 * n).toNat cap 1) (px (xs.drop (4 * n.toNat))) := by
        refine ((h.sl.ext hf.ext).up).part (by rw [px_length]; omega) ?_
        rw [show (4 * n).toNat = 4 * n.toNat by omega]; simp [px, List.map_drop]
      have hk2s := (hf.avs k2 (by simp)).2
      refine colour_spec hsl (by rw [List.length_drop]; omega) (by omega) fun w6 hE6 => ?_
      rw [colAt_drop]
      refine ⟨_, _, _, _, rfl, hE6.keep _, fun k8 hk8 => ?_⟩
      have hf6 := hf.step hE6
      have hm6 := hmp.same (hE6.block k2 hk2s)
      have hk26 := (hf6.avs k2 (by simp)).2
      have hk8n : k2 ≠ k8 := by omega
      have hnk : k2 ≠ k3 ∧ k2 ≠ k1 := by omega
      have loc6 : ∀ u, Locl [k8, k3, k1] w6 u → Fg [k8, k3, k1, k2] w u 4 p1 (distX xs n.toNat).length c1 (cos (distX xs n.toNat)) ∧ Mp kdC u k2 (kvC (distX xs n.toNat)) := fun u hL =>
        ⟨hf6.locl (hL.wide (cs := [k2]) (by simpa using hk26)) (by simp; omega), hm6.same (hL.block k2 hk26 (by simp; omega))⟩
      refine ⟨fun vs u => match vs with | [] => Fg [k8, k3, k1, k2] w u 4 p1 (distX xs n.toNat).length c1 (cos (distX xs n.toNat)) ∧ Mp kdC u k2 (kvC (distX xs n.toNat)) | _ => False, ?_, fun w10 hI w11 hL11 => ?_⟩
      · refine brB_i (fun hn => ?_) (fun _ u hL => loc6 u hL)
        rw [co_inj (a := colAt xs n.toNat) (b := (la, lb, lc, ld))]
        refine brB_i (fun he u hL => ?_) (fun _ u hL => loc6 u hL)
        obtain ⟨hfu, hmu⟩ := loc6 u hL
        have he : colAt xs n.toNat = (la, lb, lc, ld) := by simpa using he
        have hm := hla (by simpa using hn)
        rw [he, addC_old hm]
        exact ⟨rfl, hfu.mono (by simp), hmu, hm⟩
      · obtain ⟨hf10, hm10⟩ := hI
        have hk210 := (hf10.avs k2 (by simp)).2
        have hf11 := hf10.locl (hL11.wide (cs := [k2]) (by simpa using hk210)) (by simp)
        have hm11 := hm10.same (hL11.block k2 hk210 (by simp; omega))
        refine ⟨_, hm11, _, mgot_co (colAt xs n.toNat) (distX xs n.toNat), fun k9 hk9 => ?_⟩
        have hk211 := (hf11.avs k2 (by simp)).2
        refine brB_i (fun hm w12 hL12 => ?_) (fun hm w16 hL16 => ?_)
        · have hm : colAt xs n.toNat ∉ distX xs n.toNat := by simpa using hm
          have hf12 := hf11.locl (hL12.wide (cs := [k2]) (by simpa using hk211)) (by simp; omega)
          have hm12 := hm11.same (hL12.block k2 hk211 (by simp; omega))
          refine ⟨_, hm12, fun w13 hP13 hm13 k10 hk10 w14 hL14 => ?_⟩
          rw [show Value.agg #[Value.int IntKind.u16 (colAt xs n.toNat).1, Value.int IntKind.u16 (colAt xs n.toNat).2.1, Value.int IntKind.u16 (colAt xs n.toNat).2.2.1, Value.int IntKind.u16 (colAt xs n.toNat).2.2.2] = Value.agg (co (colAt xs n.toNat)).toArray from rfl, mput_co _ _ hm] at hm13
          have hk212 := (hf12.avs k2 (by simp)).2
          have hL13 : Locl [k2, k9, k8, k3, k1] w12 w13 := ⟨hP13.os, hP13.tape, hP13.output, Nat.le_of_eq hP13.size.symm, fun k hk hn => hP13.block k (fun e => hn (by simp [e])), fun b hb => by
            rw [hP13.size]; exact (hf12.avs b (by simp at hb ⊢; omega)).2⟩
          have hf13 := hf12.locl hL13 (by simp)
          have hk213 := (hf13.avs k2 (by simp)).2
          have hf14 := hf13.locl (hL14.wide (cs := [k2]) (by simpa using hk213)) (by simp; omega)
          have hm14 := hm13.same (hL14.block k2 hk213 (by simp; omega))
          refine hf14.app' (by simp [blocks]) rfl rfl (by omega) (by omega) fun p' c' w15 hf15 hk15 _ => ?_
          rw [addC_new hm]
          refine ⟨by simp, ?_, hm14.same (hk15 k2 (by simp) (hf14.avs k2 (by simp)).2).2, by simp⟩
          rw [cos_append, cos_one]
          exact hf15.mono (by simp)
        · have hm : colAt xs n.toNat ∈ distX xs n.toNat := by simpa using hm
          have hf16 := hf11.locl (hL16.wide (cs := [k2]) (by simpa using hk211)) (by simp; omega)
          have hm16 := hm11.same (hL16.block k2 hk211 (by simp; omega))
          rw [addC_old hm]
          exact ⟨rfl, hf16.mono (by simp), hm16, hm⟩
    · obtain ⟨rfl, hf17, hm17, hm⟩ := hI
      rw [w64 (x := n + 1) (by omega) (by omega)]
      refine ⟨⟨by omega, by omega, rfl, hf17, hm17, fun _ => hm⟩, ?_⟩
      show (W * H - (n + 1)).toNat < (W * H - n).toNat
      omega
  · have hge : n = W * H := by simp at hge; omega
    subst hge
    exact hR p1 c1 w5 hf.weak
end Go.Proofs.Ytijplekhbpigiaa
