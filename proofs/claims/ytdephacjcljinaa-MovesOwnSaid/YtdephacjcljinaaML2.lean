/- Moves: names, find, Check, the document's. -/
import Derived.Test.YtdephacjcljinaaML1
namespace Go.Proofs.Ytdephacjcljinaa
open Go Go.Vc Go.RowKit
set_option maxRecDepth 100000
set_option linter.unusedVariables false
set_option linter.unusedSimpArgs false

def fitB : List Int → List Int → Bool
  | [], [] => true
  | a :: z, l :: h :: r => decide (l ≤ a ∧ a ≤ h) && fitB z r
  | _, _ => false
theorem fitB_iff : ∀ {args bl : List Int}, fitB args bl = true ↔ fitP args bl
  | [], [] => by simp [fitB, fitP]
  | [], _ :: _ => by simp [fitB, fitP]
  | _ :: _, [] => by simp [fitB, fitP]
  | _ :: _, [_] => by simp [fitB, fitP]; omega
  | a :: z, l :: h :: r => by
    have ih := fitB_iff (args := z) (bl := r)
    rw [fitB, Bool.and_eq_true, ih, decide_eq_true_eq]
    unfold fitP
    constructor
    · rintro ⟨⟨h1, h2⟩, h3, h4⟩
      refine ⟨by simp only [List.length_cons]; omega, fun i hi => ?_⟩
      cases i with
      | zero => exact ⟨h1, h2⟩
      | succ i =>
        have := h4 i (by simpa using hi)
        rw [show 2 * (i + 1) = 2 * i + 1 + 1 by omega]
        simpa using this
    · rintro ⟨h1, h2⟩
      refine ⟨h2 0 (by simp), by simp only [List.length_cons] at h1; omega, fun i hi => ?_⟩
      have := h2 (i + 1) (by simpa using hi)
      rw [show 2 * (i + 1) = 2 * i + 1 + 1 by omega] at this
      simpa using this
def nameB (op : ByteArray) : Bool := names14.any fun s => decide (op = s)
theorem nameB_iff {op : ByteArray} : nameB op = true ↔ op ∈ names14 := by simp [nameB]
def chkR (op : ByteArray) (args : List Int) : Int := if nameB op then if fitB args (bndOf op) then 0 else 190 else 8
theorem names_get {N M : Nat} {w : World} {k : Nat} {rs : List Rw} (h : Tab N M w k rs) {i : Nat} (hi : i < 14) : ∃ r, rs[i]? = some r ∧ r ∈ rs ∧ r.nm = names14.getD i ByteArray.empty := by
  have hl := h.len
  refine ⟨rs[i], List.getElem?_eq_getElem (by omega), List.getElem_mem _, ?_⟩
  rw [← h.nm]
  simp [List.getD, List.getElem?_eq_getElem (show i < rs.length by omega)]
theorem Tab.row {N M : Nat} {w : World} {k : Nat} {rs : List Rw} (h : Tab N M w k rs) {i : Nat} {r : Rw} (hr : rs[i]? = some r) {F : Addr → Prop}
    (hF : ∀ a : Addr, w.cell? a = some (.string r.nm) → w.cell? (a.add 1) = some (.slice r.p r.n r.n) → w.cell? (a.add 2) = some (fnV (szF r.nm)) → w.cell? (a.add 3) = some (fnO (frF r.nm)) → F a) : idx (some ⟨k, 0, none⟩) 14 (i : Int) 4 F := by
  have hl := h.len
  have hlt : i < rs.length := by
    rcases Nat.lt_or_ge i rs.length with h' | h'
    · exact h'
    · rw [List.getElem?_eq_none h'] at hr; cases hr
  have hsl : Sl w.heap.size w (some ⟨k, 0, none⟩) (cellsF rwC rs) := h.cs.sl (List.prefix_refl _) h.cs.lt
  refine hsl.elem (f := rwC) (fun _ => rfl) (by omega) (by omega) hl (a := r) (by rw [Int.toNat_natCast]; exact hr) fun c hc => ?_
  have h0 := hc 0 _ rfl
  rw [add_zero'] at h0
  exact hF c h0 (hc 1 _ rfl) (hc 2 _ rfl) (hc 3 _ rfl)
theorem one_fnO (o : Option Nat) : Value.oneCell' (fnO o) = true := by cases o <;> rfl
theorem one_row (s : ByteArray) (p : Option Addr) (n m : Nat) (x : Nat) (o : Option Nat) : (oneAll [.string s, .slice p n m, fnV x, fnO o] && true) = true := by
  simp only [oneAll, List.all_cons, List.all_nil, one_fnO, Bool.and_true]; rfl
theorem pair_at {w : World} {b n : Nat} {bl : List Int} (h : Cs w b (i64s bl)) (hn : 2 * n = bl.length) {i : Nat} (hi : i < n) {F : Addr → Prop}
    (hF : ∀ a : Addr, w.cell? a = some (i64 (bl.getD (2 * i) 0)) → w.cell? (a.add 1) = some (i64 (bl.getD (2 * i + 1) 0)) → F a) : idx (some ⟨b, 0, none⟩) n (i : Int) 2 F := by
  refine idx_i (by omega) (by omega) rfl ?_
  rw [loc_add, Int.toNat_natCast, Nat.zero_add]
  refine hF _ ?_ ?_
  · rw [Nat.mul_comm]; exact h.cell (i64s_get (by omega))
  · rw [loc_add, Nat.mul_comm]; exact h.cell (i64s_get (by omega))
set_option maxHeartbeats 2000000 in
theorem find_spec {w : World} {op : ByteArray} {p : Option Addr} {len cap : Nat} {args : List Int} {R : Ending → World → Prop} (h : Ints w p len args)
    (hR : ∀ s q n m v1 v2 w', Ext w w' → Value.oneCell' v1 = true → Value.oneCell' v2 = true → (chkR op args = 0 → v1 = fnV (szF op) ∧ v2 = fnO (frF op)) → R (.returned (.tuple #[.agg #[.string s, .slice q n m, v1, v2], i64 (chkR op args)])) w') :
    Calls P F.moves_find #[.string op, .slice p len cap] w R := by
  refine calls_moves_find _ _ _ _ _ _ ?_
  intro k1 hk1 w1 hL1
  have hE1 : Ext w w1 := hL1.ext (by simpa using hk1)
  have t1 := hL1.there k1 (by simp)
  have hl := h.lth
  have hsm := h.small
  refine operators_spec fun k w2 rs hE2 hT2 => ⟨_, _, _, rfl, hE2.keep _, ?_⟩
  refine ⟨fun vs u => match vs with | [.int _ n, .string _, .slice _ _ _, _, _] => ∃ i : Nat, n = i ∧ i ≤ 14 ∧ Ext w u ∧ w2.heap.size ≤ u.heap.size ∧ Tab w1.heap.size w2.heap.size u k rs ∧ ∀ j, j < i → names14.getD j ByteArray.empty ≠ op | _ => False,
    fun vs _ => match vs with | [.int _ n, _, _, _, _] => (14 - n).toNat | _ => 0, ⟨0, rfl, by omega, hE1.trans hE2, Nat.le_refl _, hT2, by simp⟩, ?_⟩
  intro n1 s1 p2 k4 k5 v1 v2 w3 hI
  obtain ⟨i, rfl, hi, hE3, hs3, hT3, hall⟩ := hI
  refine brB_i (fun hlt => ?_) (fun hge w12 hL12 => ?_)
  · have hlt : i < 14 := by simp at hlt; omega
    obtain ⟨r, hr, hrm, hnm⟩ := names_get hT3 hlt
    refine hT3.row hr fun a1 c0 c1 c2 c3 => ⟨_, _, _, _, _, _, c0, c1, c2, c3, fun k8 hk8 => brB_t (one_row _ _ _ _ _ _) ?_⟩
    have hbb : ∀ b, b ∈ [k8, k1] → w.heap.size ≤ b := by have := hE3.size; simp; omega
    have hout : ∀ b, w1.heap.size ≤ b → b < w2.heap.size → ¬ b ∈ [k8, k1] := by simp; omega
    refine brB_i (fun hb => ?_) (fun hb w11 hL11 => ?_)
    · have hb : r.nm = op := by simpa using hb
      subst hb
      have hmem : r.nm ∈ names14 := mem_getD.2 ⟨i, hlt, hnm.symm⟩
      have hc : chkR r.nm args = if fitB args (bndOf r.nm) then 0 else 190 := by unfold chkR; rw [if_pos (nameB_iff.2 hmem)]
      obtain ⟨hn, hbd⟩ := hT3.bd r hrm
      have bad : ¬ fitP args (bndOf r.nm) → chkR r.nm args = 190 := fun hf => by rw [hc, if_neg (fun h => hf (fitB_iff.1 h))]
      refine brB_i (fun hb2 => ?_) (fun hb2 => ?_)
      · have hb2 : ¬ (len : Int) = r.n := by simpa using hb2
        refine brB_t (one_row _ _ _ _ _ _) fun w4 hL4 => ?_
        have := hR r.nm r.p r.n r.n _ _ w4 (hE3.step hL4.chg hbb) rfl (one_fnO _) (fun _ => ⟨rfl, rfl⟩)
        rwa [bad (fun hf => by have := hf.1; omega)] at this
      have hb2 : len = r.n := by simp at hb2; omega
      refine ⟨fun vs u => match vs with | [.int _ n, .string _, .slice _ _ _, _, _] => ∃ j : Nat, n = j ∧ j ≤ r.n ∧ Ext w u ∧ w3.heap.size ≤ u.heap.size ∧ k8 < u.heap.size ∧ Tab w1.heap.size w2.heap.size u k rs ∧ ∀ m, m < j → (bndOf r.nm).getD (2 * m) 0 ≤ args.getD m 0 ∧ args.getD m 0 ≤ (bndOf r.nm).getD (2 * m + 1) 0 | _ => False,
        fun vs _ => match vs with | [.int _ n, _, _, _, _] => (r.n - n).toNat | _ => 0, fun w5 hL5 => ⟨0, rfl, by omega, hE3.step hL5.chg hbb, hL5.size, hL5.there k8 (by simp), hT3.chg hL5.chg hout, by simp⟩, ?_⟩
      intro n2 s3 p4 k9 k10 v5 v6 w6 hI
      obtain ⟨j, rfl, hj, hE6, hs6, t8, hT6, hall6⟩ := hI
      refine brB_i (fun hlt2 => ?_) (fun hge2 => ?_)
      · have hlt2 : j < r.n := by simp at hlt2; omega
        obtain ⟨b, hp, hb0, hb1, hcs⟩ := (hT6.bd r hrm).2.resolve_left (by omega)
        rw [hp]
        refine pair_at hcs hn hlt2 fun a2 d0 d1 => ⟨_, _, d0, d1, fun k11 w7 hn7 => ?_⟩
        have hk11 := hn7.1
        have hset := hn7.cs.set (off := 0) (us := [i64 ((bndOf r.nm).getD (2 * j) 0), i64 ((bndOf r.nm).getD (2 * j + 1) 0)]) (by simp)
        simp only [List.take_zero, List.nil_append, List.length_cons, List.length_nil] at hset
        have hC := Chg.setCells w7 ⟨k11, 0, none⟩ [i64 ((bndOf r.nm).getD (2 * j) 0), i64 ((bndOf r.nm).getD (2 * j + 1) 0)] 0
        have hsz8 : (setCells w7 ⟨k11, 0, none⟩ [i64 ((bndOf r.nm).getD (2 * j) 0), i64 ((bndOf r.nm).getD (2 * j + 1) 0)] 0).heap.size = w7.heap.size := (setCells_same _ _ _ _).size
        have s7 := hn7.ext.size
        have s6 := hE6.size
        have hE8 : Ext w6 (setCells w7 ⟨k11, 0, none⟩ [i64 ((bndOf r.nm).getD (2 * j) 0), i64 ((bndOf r.nm).getD (2 * j + 1) 0)] 0) := hn7.ext.step hC fun i hi => by have hi : i = k11 := hi; omega
        generalize setCells w7 ⟨k11, 0, none⟩ [i64 ((bndOf r.nm).getD (2 * j) 0), i64 ((bndOf r.nm).getD (2 * j + 1) 0)] 0 = w8 at *
        have hE8' := (hE6.trans hE8).drew
        have hT8 := (hT6.ext hE8).ext (Ext.refl w8).drew
        refine ⟨⟨_, hn7.cs.cell (i := 0) rfl⟩, hn7.cs.frozen 0, ⟨_, hn7.cs.cell (i := 1) rfl⟩, hn7.cs.frozen 1, by simp; omega, ?_⟩
        have hk1' : k1 < w6.heap.size := by omega
        have hdone : ∀ {e : Int} {w9 : World}, chkR r.nm args = e → Locl [k8, k1] w8.drew w9 → R (.returned (.tuple #[.agg #[.string r.nm, .slice (some ⟨b, 0, none⟩) r.n r.n, fnV (szF r.nm), fnO (frF r.nm)], i64 e])) w9 := fun he hL9 => by
          subst he
          exact hR _ _ _ _ _ _ _ (hE8'.step hL9.chg hbb) rfl (one_fnO _) (fun _ => ⟨rfl, rfl⟩)
        refine (h.ext hE8').at_ (by omega) (by omega) fun a3 ha3 => ⟨_, ha3, by omega, by omega, _, hset.drew.cell (i := 0) rfl, ?_⟩
        rw [Int.toNat_natCast]
        refine brB_i (fun hb3 => brB_t (one_row _ _ _ _ _ _) fun w9 hL9 => hdone (bad fun hf => ?_) hL9) (fun hb3 => ?_)
        · have hb3 : args.getD j 0 < (bndOf r.nm).getD (2 * j) 0 := by simpa using hb3
          have := hf.2 j (by omega); omega
        have hb3 : ¬ args.getD j 0 < (bndOf r.nm).getD (2 * j) 0 := by simpa using hb3
        refine (h.ext hE8').at_ (by omega) (by omega) fun a4 ha4 => ⟨_, ha4, by omega, by omega, _, hset.drew.cell (i := 1) rfl, ?_⟩
        rw [Int.toNat_natCast]
        refine brB_i (fun hb4 => brB_t (one_row _ _ _ _ _ _) fun w9 hL9 => hdone (bad fun hf => ?_) hL9) (fun hb4 => ?_)
        · have hb4 : args.getD j 0 > (bndOf r.nm).getD (2 * j + 1) 0 := by simpa using hb4
          have := hf.2 j (by omega); omega
        have hb4 : ¬ args.getD j 0 > (bndOf r.nm).getD (2 * j + 1) 0 := by simpa using hb4
        have s8 := hE8.size
        rw [w64 (by omega) (by omega)]
        refine ⟨⟨j + 1, by omega, by omega, hE8', Nat.le_trans hs6 s8, Nat.lt_of_lt_of_le t8 s8, hT8, fun m hm => ?_⟩, by show ((r.n : Int) - (j + 1)).toNat < ((r.n : Int) - j).toNat; omega⟩
        by_cases hmj : m < j
        · exact hall6 m hmj
        · have : m = j := by omega
          subst this; omega
      · have hge2 : ¬ (j : Int) < r.n := by simpa using hge2
        refine brB_t (one_row _ _ _ _ _ _) fun w10 hL10 => ?_
        have := hR r.nm r.p r.n r.n _ _ w10 (hE6.step hL10.chg hbb) rfl (one_fnO _) (fun _ => ⟨rfl, rfl⟩)
        rw [hc, if_pos (fitB_iff.2 ⟨by omega, fun m hm => hall6 m (by omega)⟩)] at this
        exact this
    · have hb : r.nm ≠ op := by simpa using hb
      rw [w64 (by omega) (by omega)]
      refine ⟨⟨i + 1, by omega, by omega, hE3.step hL11.chg hbb, Nat.le_trans hs3 hL11.size, hT3.chg hL11.chg hout, fun j hj => ?_⟩, by show ((14 : Int) - (i + 1)).toNat < ((14 : Int) - i).toNat; omega⟩
      by_cases hji : j < i
      · exact hall j hji
      · have : j = i := by omega
        subst this; rw [← hnm]; exact hb
  · have hge : ¬ (i : Int) < 14 := by simpa using hge
    have hn : op ∉ names14 := fun hm => by
      obtain ⟨j, hj, e⟩ := mem_getD.1 hm
      have hj : j < 14 := hj
      exact hall j (by omega) e
    have hc : chkR op args = 8 := by unfold chkR; rw [if_neg (fun h => hn (nameB_iff.1 h))]
    have := hR { data := #[] } none 0 0 .nilFunc .nilFunc w12 (hE3.step hL12.chg (by simpa using hk1)) rfl rfl (fun h => by omega)
    rw [hc] at this
    exact this
theorem Check_spec {w : World} {op : ByteArray} {p : Option Addr} {len cap : Nat} {args : List Int} {R : Ending → World → Prop} (h : Ints w p len args)
    (hR : ∀ w', Ext w w' → R (.returned (i64 (chkR op args))) w') : Calls P F.moves_Check #[.string op, .slice p len cap] w R := by
  refine calls_moves_Check _ _ _ _ _ _ ?_
  refine find_spec h fun s q n m v1 v2 w1 hE1 o1 o2 _ => ⟨_, _, _, _, _, _, _, rfl, fun k3 hk3 => brB_t ?_ fun w2 hL2 => hR w2 (hE1.step hL2.chg (by have := hE1.size; simp; omega))⟩
  simp only [oneAll, List.all_cons, List.all_nil, o1, o2, Bool.and_true]; rfl
theorem rNames_spec {w : World} {R : Ending → World → Prop} (hR : ∀ p w', Ext w w' → Sl w'.heap.size w' p (strs names14) → R (.returned (.slice p 14 14)) w') : Calls P F.ref21_Names #[] w R := by
  refine calls_ref21_Names _ _ ?_
  intro k w1 hn
  exact hR _ w1 hn.ext (hn.cs.sl (List.prefix_refl _) hn.size)
theorem bounds_spec {w : World} {op : ByteArray} {R : Ending → World → Prop} (hR : ∀ p w', Ext w w' → Sl w'.heap.size w' p (i64s (bndOf op)) → R (.returned (.slice p (bndOf op).length (bndOf op).length)) w') : Calls P F.ref21_bounds #[.string op] w R := by
  refine calls_ref21_bounds _ _ _ ?_
  have go : ∀ {l : List Int} {arr : Array Value} {e : TypeId} {n : Nat}, bndOf op = l → arr.toList = i64s l → l.length = n → ∀ k w', New w (.cells arr e (0, 0)) k w' → R (.returned (.slice (some ⟨k, 0, none⟩) n n)) w' := fun {l arr e n} hl ha hlen k w' hn => by
    subst hl
    subst hlen
    exact hR _ w' hn.ext ((ha ▸ hn.cs).sl (List.prefix_refl _) hn.size)
  have no : bndOf op = [] → R (.returned (.slice none 0 0)) w := fun e => by
    have := hR none w (Ext.refl w) (by rw [e]; exact Sl.nil _ _ _)
    rwa [e] at this
  refine ⟨fun vs u => vs = [] ∧ u = w ∧ bndOf op = [], ?_, fun w13 hI => by obtain ⟨_, rfl, h⟩ := hI; exact no h⟩
  have eB : ∀ {s : ByteArray} {A B : Prop}, (op = s → A) → (op ≠ s → B) → brB (decide (op = s)) A B := fun hA hB => brB_i (fun h => hA (by simpa using h)) (fun h => hB (by simpa using h))
  refine eB (fun e => go (by subst e; rfl) rfl rfl) fun n1 => ?_
  refine eB (fun e => go (by subst e; rfl) rfl rfl) fun n2 => ?_
  refine eB (fun e => go (by subst e; rfl) rfl rfl) fun n3 => ?_
  refine eB (fun e => go (by subst e; rfl) rfl rfl) fun n4 => ?_
  refine eB (fun e => eB (fun e => go (by subst e; rfl) rfl rfl) fun n => (n e).elim) fun n5 => ?_
  refine eB (fun e => go (by subst e; rfl) rfl rfl) fun n6 => ?_
  refine eB (fun e => go (by subst e; rfl) rfl rfl) fun n7 => ?_
  refine eB (fun e => go (by subst e; rfl) rfl rfl) fun n8 => ?_
  refine eB (fun e => go (by subst e; rfl) rfl rfl) fun n9 => ?_
  refine ⟨rfl, rfl, ?_⟩
  unfold bndOf
  rw [if_neg n1, if_neg n2, if_neg n3, if_neg n4, if_neg n5, if_neg n7, if_neg n8, if_neg n9, if_neg n6]
theorem bnd_len (op : ByteArray) : (bndOf op).length ≤ 10 := by
  unfold bndOf
  repeat' split
  all_goals decide
theorem refCheck_spec {w : World} {op : ByteArray} {p : Option Addr} {len cap : Nat} {args : List Int} {R : Ending → World → Prop} (h : Ints w p len args)
    (hR : ∀ w', Ext w w' → R (.returned (i64 (chkR op args))) w') : Calls P F.ref21_Check #[.string op, .slice p len cap] w R := by
  refine calls_ref21_Check _ _ _ _ _ _ ?_
  refine rNames_spec fun q w1 hE1 hS => ⟨_, _, _, rfl, ?_⟩
  refine In_spec hS rfl (by omega) (fun hm w2 hE2 => ⟨_, rfl, brB_f rfl ?_⟩) (fun hm w2 hE2 => ⟨_, rfl, brB_t rfl ?_⟩)
  · have hE12 := hE1.trans hE2
    refine bounds_spec fun b w3 hE3 hB => ⟨_, _, _, rfl, ?_⟩
    have hc : chkR op args = if fitB args (bndOf op) then 0 else 190 := by unfold chkR; rw [if_pos (nameB_iff.2 hm)]
    have hE13 := hE12.trans hE3
    refine Fit_spec (h.ext hE13) ⟨hB, rfl, by have := bnd_len op; omega⟩ (fun hf w4 hE4 => ⟨_, rfl, brB_f rfl ?_⟩) (fun hf w4 hE4 => ⟨_, rfl, brB_t rfl ?_⟩)
    · have := hR w4 (hE13.trans hE4)
      rwa [hc, if_pos (fitB_iff.2 hf)] at this
    · have := hR w4 (hE13.trans hE4)
      rwa [hc, if_neg (fun h => hf (fitB_iff.1 h))] at this
  · have := hR w2 (hE1.trans hE2)
    unfold chkR at this
    rwa [if_neg (fun h => hm (nameB_iff.1 h))] at this
end Go.Proofs.Ytdephacjcljinaa
