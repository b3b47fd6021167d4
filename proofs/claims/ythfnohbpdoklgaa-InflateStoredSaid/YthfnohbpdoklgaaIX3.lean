/- Inflate: the document's table of a code. -/
import Derived.Test.YthfnohbpdoklgaaIX2
namespace Go.Proofs.Ythfnohbpdoklgaa
open Go Go.Vc Go.RowKit
set_option maxRecDepth 100000
set_option linter.unusedVariables false
set_option linter.unusedSimpArgs false
set_option maxHeartbeats 2000000

abbrev Ofs := Nat → Option Addr × Nat
def tblS (l : List Nat) (n j : Nat) (o : Ofs) (i : Nat) : Value :=
  if 1 ≤ i ∧ i < n then .slice (o i).1 (symsL l i).length (o i).2 else if i = n ∧ 1 ≤ n then .slice (o i).1 (symsU l n j).length (o i).2 else .slice none 0 0
/-- a table's cells, after the lengths below n, and of length n the first j symbols -/
def tblG (l : List Nat) (n j : Nat) (o : Ofs) (i : Nat) : Value :=
  if i < 18 then i64 (fsJ l n i : Nat) else if i < 36 then tblS l n j o (i - 18) else .bool (decide (deepJ l n j ≠ 0))
theorem tbl_a {l : List Nat} {n j i : Nat} {o : Ofs} (h : i < 18) : tblG l n j o i = i64 (fsJ l n i : Nat) := by unfold tblG; rw [if_pos h]
theorem tbl_b {l : List Nat} {n j i : Nat} {o : Ofs} (h : i < 18) : tblG l n j o (18 + i) = tblS l n j o i := by
  unfold tblG; rw [if_neg (by omega), if_pos (by omega), Nat.add_sub_cancel_left]
theorem tbl_c {l : List Nat} {n j : Nat} {o : Ofs} : tblG l n j o 36 = .bool (decide (deepJ l n j ≠ 0)) := rfl
theorem tbl_place {i : Nat} (h : i < 37) : i < 18 ∨ (∃ k, k < 18 ∧ i = 18 + k) ∨ i = 36 := by
  rcases Nat.lt_or_ge i 18 with g | g
  · exact .inl g
  · rcases Nat.lt_or_ge i 36 with g2 | g2
    · exact .inr (.inl ⟨i - 18, by omega, by omega⟩)
    · exact .inr (.inr (by omega))
def ofsUp (o : Ofs) (n : Nat) (p : Option Addr) (c : Nat) : Ofs := fun i => if i = n then (p, c) else o i
theorem ofsUp_at (o : Ofs) (n : Nat) (p : Option Addr) (c : Nat) : ofsUp o n p c n = (p, c) := if_pos rfl
theorem ofsUp_ne {o : Ofs} {n i : Nat} {p : Option Addr} {c : Nat} (h : i ≠ n) : ofsUp o n p c i = o i := if_neg h
/-- a table as a value, its slices in blocks of D -/
structure TblAt (w : World) (vs : List Value) (D : Nat → Prop) (l : List Nat) : Prop where
  obj : ∃ o : Ofs, vs = rowF 37 (tblG l 16 l.length o) ∧ ∀ i, 1 ≤ i → i ≤ 16 → OwnS D w (o i).1 (symsL l i).length (o i).2 1 (ni (symsL l i))
  lens : Lens l
theorem TblAt.chg {w w' : World} {vs : List Value} {D Z : Nat → Prop} {l : List Nat} (h : TblAt w vs D l) (hc : Chg Z w w') (hz : ∀ b, D b → b < w.heap.size → ¬ Z b) : TblAt w' vs D l := by
  obtain ⟨o, h1, h2⟩ := h.obj
  exact ⟨⟨o, h1, fun i i1 i2 => (h2 i i1 i2).chg hc hz⟩, h.lens⟩
theorem TblAt.mono {w : World} {vs : List Value} {D E : Nat → Prop} {l : List Nat} (h : TblAt w vs D l) (hE : ∀ b, D b → b < w.heap.size → E b) : TblAt w vs E l := by
  obtain ⟨o, h1, h2⟩ := h.obj
  exact ⟨⟨o, h1, fun i i1 i2 => (h2 i i1 i2).mono hE⟩, h.lens⟩
theorem TblAt.length {w : World} {vs : List Value} {D : Nat → Prop} {l : List Nat} (h : TblAt w vs D l) : vs.length = 37 := by
  obtain ⟨o, rfl, _⟩ := h.obj
  exact rowF_length _ _
theorem tbl_oneAll {l : List Nat} {n j : Nat} {o : Ofs} : oneAll (rowF 37 (tblG l n j o)) = true := by
  unfold oneAll
  rw [List.all_eq_true]
  intro v hv
  obtain ⟨i, _, rfl⟩ := List.mem_map.1 hv
  unfold tblG
  split
  · rfl
  · split
    · unfold tblS
      split
      · rfl
      · split <;> rfl
    · rfl
theorem Cs.cellsAt {w : World} {b : Nat} {vs : List Value} (h : Cs w b vs) : CellsAt w ⟨b, 0, none⟩ vs := fun j v hv => by
  rw [loc_add, Nat.zero_add]; exact h.cell hv
theorem Tabled_spec {N : Nat} {w : World} {p : Option Addr} {len cap : Nat} {l : List Nat} {R : Ending → World → Prop} (h : Sl N w p (ni l)) (hl : l.length = len) (hk : Lens l)
    (hR : ∀ vs w', Ext w w' → TblAt w' vs (fun i => w.heap.size ≤ i) l → R (.returned (.agg vs.toArray)) w') : Calls P F.ref03_Tabled #[.slice p len cap] w R := by
  subst hl
  have hfew := hk.few
  refine calls_ref03_Tabled _ _ _ _ _ ?_
  intro k1 w1 hn1 k2 w2 hn2
  have hk1 : k1 = w.heap.size := hn1.1
  have hs1 := hn1.size
  have hk2 : k2 = w1.heap.size := hn2.1
  have hs2 := hn2.size
  have hs12 := hn2.ext.size
  have hZ1 : Cs w2 k1 (rowF 37 (tblG l 0 l.length fun _ => (none, 0))) := (show Cs w1 k1 (rowF 37 (tblG l 0 l.length fun _ => (none, 0))) from hn1.cs).ext hn2.ext
  have hZ2 : Cs w2 k2 (rowF 37 (tblG l 0 l.length fun _ => (none, 0))) := hn2.cs
  refine ⟨fun vs u => ∃ (n : Nat) (o : Ofs), n ≤ 16 ∧ vs = [i64 (nxL l n : Nat), i64 (n + 1 : Nat)] ∧ Ext w u ∧ k2 < u.heap.size ∧ Cs u k1 (rowF 37 (tblG l 0 l.length fun _ => (none, 0))) ∧ Cs u k2 (rowF 37 (tblG l n l.length o)) ∧
      ∀ i, 1 ≤ i → i ≤ n → OwnS (fun b => w.heap.size ≤ b ∧ b ≠ k1 ∧ b ≠ k2 ∧ b < u.heap.size) u (o i).1 (symsL l i).length (o i).2 1 (ni (symsL l i)),
    fun vs _ => match vs with | [_, .int _ n] => (17 - n).toNat | _ => 0, ⟨0, fun _ => (none, 0), by omega, rfl, hn1.ext.trans hn2.ext, hs2, hZ1, hZ2, fun i i1 i2 => by omega⟩, fun n1 n2 w3 hI => ?_⟩
  obtain ⟨n, o, hn16, hv, hE3, hk23, hC13, hC3, hO3⟩ := hI
  simp only [List.cons.injEq, Value.int.injEq, true_and, and_true] at hv
  obtain ⟨rfl, rfl⟩ := hv
  have hs3 := hE3.size
  refine brB_i (fun hlt => ?_) fun hge => ?_
  rotate_left
  · have : n = 16 := by have := of_decide_eq_false hge; omega
    subst this
    have hset := hC13.set (off := 0) (us := rowF 37 (tblG l 16 l.length o)) (by rw [rowF_length, rowF_length]; omega)
    rw [List.take_zero, List.nil_append, rowF_length, List.drop_eq_nil_of_le (by rw [rowF_length]; omega), List.append_nil] at hset
    have hch := Chg.setCells w3 ⟨k1, 0, none⟩ (rowF 37 (tblG l 16 l.length o)) 0
    refine ⟨_, rowF_length _ _, Cs.cellsAt hC3, brB_t (by rw [tbl_oneAll, rowF_length]; rfl) ⟨hC13.canSet (by rw [rowF_length]; omega), _, rowF_length _ _, Cs.cellsAt hset, ?_⟩⟩
    refine hR _ _ (hE3.step hch fun i hi => by have hi : i = k1 := hi; omega) ⟨⟨o, rfl, fun i i1 i2 => ?_⟩, hk⟩
    exact (OwnS.chg (hO3 i i1 i2) hch fun b hb _ hz => hb.2.1 hz).mono fun b hb _ => hb.1
  have hn : n < 16 := by have := of_decide_eq_true hlt; omega
  have hnx := nx_small hk (n := n) (by omega)
  have hnx1 := nx_small hk (n := n + 1) (by omega)
  have hfs : IntKind.i64.wrap (2 * ((nxL l n : Nat) : Int)) = ((fsL l (n + 1) : Nat) : Int) := by
    rw [w64 (by omega) (by omega)]; simp [fsL]
  rw [hfs]
  simp only [loc_add, Int.toNat_natCast, Nat.mul_one, Nat.zero_add]
  have sA : Cs (setCells w3 ⟨k2, n + 1, none⟩ [i64 (fsL l (n + 1) : Nat)] 0) k2 (rowF 37 (tblG l (n + 1) 0 (ofsUp o (n + 1) none 0))) := by
    have := hC3.set1 (off := n + 1) (v := i64 (fsL l (n + 1) : Nat)) (by rw [rowF_length]; omega)
    rwa [rowF_set (H := tblG l (n + 1) 0 (ofsUp o (n + 1) none 0)) (by rw [tbl_a (by omega)]; simp [fsJ]) (fun j hj hne => ?_)] at this
    rcases tbl_place hj with g | ⟨i, g, rfl⟩ | rfl
    · rw [tbl_a g, tbl_a g]
      unfold fsJ
      by_cases e2 : 1 ≤ j ∧ j ≤ n
      · rw [if_pos (by omega), if_pos e2]
      · rw [if_neg (by omega), if_neg e2]
    · rw [tbl_b g, tbl_b g]
      unfold tblS
      by_cases e : i = n + 1
      · subst e
        rw [if_neg (by omega), if_pos ⟨rfl, by omega⟩, if_neg (by omega), if_neg (by omega), ofsUp_at, symsU_zero]; rfl
      · rw [ofsUp_ne e]
        by_cases h1 : 1 ≤ i ∧ i < n
        · rw [if_pos (by omega), if_pos h1]
        · rw [if_neg h1]
          by_cases h2 : i = n ∧ 1 ≤ n
          · obtain ⟨rfl, h3⟩ := h2
            rw [if_pos (by omega), if_pos ⟨rfl, h3⟩]; rfl
          · rw [if_neg h2, if_neg (by omega), if_neg (by omega)]
    · rw [tbl_c, tbl_c, deepJ_zero, deepJ_full]
  have cA := Chg.setCells w3 ⟨k2, n + 1, none⟩ [i64 (fsL l (n + 1) : Nat)] 0
  refine ⟨by omega, by omega, ⟨_, hC3.cell (rowF_get (by omega))⟩, hC3.frozen _, ?_⟩
  refine ⟨fun vs u => ∃ (j : Nat) (o : Ofs), j ≤ l.length ∧ vs = [i64 (j : Nat)] ∧ Ext w u ∧ w3.heap.size ≤ u.heap.size ∧ Cs u k1 (rowF 37 (tblG l 0 l.length fun _ => (none, 0))) ∧ Cs u k2 (rowF 37 (tblG l (n + 1) j o)) ∧
      (∀ i, 1 ≤ i → i ≤ n → OwnS (fun b => w.heap.size ≤ b ∧ b ≠ k1 ∧ b ≠ k2 ∧ b < w3.heap.size) u (o i).1 (symsL l i).length (o i).2 1 (ni (symsL l i))) ∧
      OwnS (fun b => w3.heap.size ≤ b) u (o (n + 1)).1 (symsU l (n + 1) j).length (o (n + 1)).2 1 (ni (symsU l (n + 1) j)),
    fun vs _ => match vs with | [.int _ n] => (l.length - n).toNat | _ => 0, ⟨0, ofsUp o (n + 1) none 0, by omega, rfl, hE3.step cA (fun i hi => by have hi : i = k2 := hi; omega), by rw [(setCells_same _ _ _ _).size]; omega, hC13.chg cA (by show ¬ k1 = k2; omega), sA, fun i i1 i2 => ?_, ?_⟩, fun n3 w4 hI => ?_⟩
  · rw [ofsUp_ne (by omega)]
    exact OwnS.chg (hO3 i i1 i2) cA fun b hb _ hz => hb.2.2.1 hz
  · rw [ofsUp_at, symsU_zero]
    exact OwnS.nil _ _ _ _
  obtain ⟨j, o4, hj, hv, hE4, hs34, hC14, hC4, hO4, hP4⟩ := hI
  obtain rfl : n3 = (j : Nat) := by simpa using hv
  have hs4 := hE4.size
  have hsl := symsU_len l (n + 1) j
  refine brB_i (fun hlt => ?_) fun hge => ?_
  rotate_left
  · have : j = l.length := by have := of_decide_eq_false hge; omega
    subst this
    have eS : tblS l (n + 1) l.length o4 (n + 1) = .slice (o4 (n + 1)).1 (symsL l (n + 1)).length (o4 (n + 1)).2 := by
      unfold tblS; rw [if_neg (by omega), if_pos ⟨rfl, by omega⟩]; rfl
    refine ⟨by omega, by omega, _, _, _, hC4.cell (i := 18 + (n + 1)) (by rw [rowF_get (by omega), tbl_b (by omega), eS]), ?_⟩
    have e1 : IntKind.i64.wrap (((fsL l (n + 1) : Nat) : Int) + ((symsL l (n + 1)).length : Nat)) = ((nxL l (n + 1) : Nat) : Int) := by
      rw [nx_fs] at hnx1 ⊢
      rw [w64 (by omega) (by omega)]; omega
    rw [e1, w64 (x := ((n + 1 : Nat) : Int) + 1) (by omega) (by omega)]
    refine ⟨⟨n + 1, o4, by omega, by simp, hE4, by omega, hC14, hC4, fun i i1 i2 => ?_⟩, ?_⟩
    · rcases Nat.lt_or_ge n i with g | g
      · obtain rfl : i = n + 1 := by omega
        exact OwnS.mono hP4 fun b hb hlt => ⟨by omega, by omega, by omega, hlt⟩
      · exact (hO4 i i1 g).mono fun b hb hlt => ⟨hb.1, hb.2.1, hb.2.2.1, hlt⟩
    · show ((17 : Int) - (((n + 1 : Nat) : Int) + 1)).toNat < ((17 : Int) - ((n + 1 : Nat) : Int)).toNat; omega
  have hj : j < l.length := by have := of_decide_eq_true hlt; omega
  refine ⟨fun vs u => vs = [] ∧ ∃ (o : Ofs), Ext w u ∧ w3.heap.size ≤ u.heap.size ∧ Cs u k1 (rowF 37 (tblG l 0 l.length fun _ => (none, 0))) ∧ Cs u k2 (rowF 37 (tblG l (n + 1) (j + 1) o)) ∧
      (∀ i, 1 ≤ i → i ≤ n → OwnS (fun b => w.heap.size ≤ b ∧ b ≠ k1 ∧ b ≠ k2 ∧ b < w3.heap.size) u (o i).1 (symsL l i).length (o i).2 1 (ni (symsL l i))) ∧
      OwnS (fun b => w3.heap.size ≤ b) u (o (n + 1)).1 (symsU l (n + 1) (j + 1)).length (o (n + 1)).2 1 (ni (symsU l (n + 1) (j + 1))), ?_, fun w7 hI => ?_⟩
  rotate_left
  · obtain ⟨_, o7, hE7, hs7, hC17, hC7, hO7, hP7⟩ := hI
    rw [w64 (x := ((j : Nat) : Int) + 1) (by omega) (by omega)]
    exact ⟨⟨j + 1, o7, hj, by simp, hE7, hs7, hC17, hC7, hO7, hP7⟩, by show ((l.length : Int) - ((j : Int) + 1)).toNat < ((l.length : Int) - j).toNat; omega⟩
  refine (h.ext hE4).get (by omega) (ni_length l) (by rw [Int.toNat_natCast]; exact ni_get hj) fun a1 ha1 => ⟨_, ha1, ?_⟩
  refine brB_i (fun heq => ?_) fun hne => ?_
  rotate_left
  · have hne : l.getD j 0 ≠ n + 1 := fun e => by rw [e] at hne; simp at hne
    refine ⟨rfl, o4, hE4, hs34, hC14, ?_, hO4, ?_⟩
    · rwa [rowF_congr (H := tblG l (n + 1) j o4)]
      intro i hi
      unfold tblG tblS
      rw [symsU_miss hne, deepJ_miss hne]
    · rw [symsU_miss hne]; exact hP4
  have heq : l.getD j 0 = n + 1 := by have := eq_of_beq heq; omega
  have eS : tblS l (n + 1) j o4 (n + 1) = .slice (o4 (n + 1)).1 (symsU l (n + 1) j).length (o4 (n + 1)).2 := by
    unfold tblS; rw [if_neg (by omega), if_pos ⟨rfl, by omega⟩]
  have g18 : (rowF 37 (tblG l (n + 1) j o4))[18 + (n + 1)]? = some (.slice (o4 (n + 1)).1 (symsU l (n + 1) j).length (o4 (n + 1)).2) := by rw [rowF_get (by omega), tbl_b (by omega), eS]
  refine ⟨by omega, by omega, _, _, _, hC4.cell g18, fun k5 hk5 w5 hL5 => ?_⟩
  refine OwnS.grow hP4 hL5 (by simp; omega) (fun i hi => by omega) (by simp [blocks]) rfl rfl (by omega) (by omega) fun p6 c6 w6 hO6 hc6 => ?_
  have hC16 := hC14.chg hc6 (by simp; omega)
  have hC6 := hC4.chg hc6 (by simp; omega)
  have hE6 : Ext w w6 := hE4.step hc6 fun i hi => by
    rcases hi with hi | hi
    · omega
    · simp at hi; omega
  have hs46 := hc6.size
  have hlen : (symsU l (n + 1) j).length + 1 = (symsU l (n + 1) (j + 1)).length := by rw [symsU_hit heq]; simp
  rw [hlen] at hO6 ⊢
  -- the two stores
  have t1 := hC6.set1 (off := 18 + (n + 1)) (v := .slice p6 (symsU l (n + 1) (j + 1)).length c6) (by rw [rowF_length]; omega)
  rw [rowF_set (H := fun i => if i = 36 then .bool (decide (deepJ l (n + 1) j ≠ 0)) else tblG l (n + 1) (j + 1) (ofsUp o4 (n + 1) p6 c6) i) (by
      rw [if_neg (by omega), tbl_b (by omega)]
      unfold tblS; rw [if_neg (by omega), if_pos ⟨rfl, by omega⟩, ofsUp_at]) (fun i hi hne => ?_)] at t1
  rotate_left
  · show (if i = 36 then .bool (decide (deepJ l (n + 1) j ≠ 0)) else tblG l (n + 1) (j + 1) (ofsUp o4 (n + 1) p6 c6) i) = tblG l (n + 1) j o4 i
    rcases tbl_place hi with g | ⟨i', g, rfl⟩ | rfl
    · rw [if_neg (by omega), tbl_a g, tbl_a g]
    · rw [if_neg (by omega), tbl_b g, tbl_b g]
      unfold tblS
      rw [ofsUp_ne (by omega)]
      by_cases h1 : 1 ≤ i' ∧ i' < n + 1
      · rw [if_pos h1, if_pos h1]
      · rw [if_neg h1, if_neg h1, if_neg (by omega), if_neg (by omega)]
    · rw [if_pos rfl]; rfl
  have t2 := t1.set1 (off := 36) (v := .bool true) (by rw [rowF_length]; omega)
  rw [rowF_set (H := tblG l (n + 1) (j + 1) (ofsUp o4 (n + 1) p6 c6)) (by rw [tbl_c, deepJ_hit heq]; simp) (fun i hi hne => by simp [hne])] at t2
  have u1 := Chg.setCells w6 ⟨k2, 18 + (n + 1), none⟩ [.slice p6 (symsU l (n + 1) (j + 1)).length c6] 0
  have u2 := Chg.setCells (setCells w6 ⟨k2, 18 + (n + 1), none⟩ [.slice p6 (symsU l (n + 1) (j + 1)).length c6] 0) ⟨k2, 36, none⟩ [.bool true] 0
  have u : Chg (· = k2) w6 _ := u1.trans u2 fun _ h _ => h
  have hsz := u.size
  refine ⟨by omega, by omega, ⟨_, hC6.cell g18⟩, hC6.frozen _, by simp; omega, ⟨_, t1.cell (rowF_get (i := 36) (by omega))⟩, t1.frozen _, by simp; omega, rfl, ofsUp o4 (n + 1) p6 c6, hE6.step u (fun i hi => by omega), by omega, hC16.chg u (by omega), t2, fun i i1 i2 => ?_, ?_⟩
  · rw [ofsUp_ne (by omega)]
    refine OwnS.chg (OwnS.chg (hO4 i i1 i2) hc6 fun b hb _ hz => ?_) u fun b hb _ hz => hb.2.2.1 hz
    rcases hz with hz | hz
    · omega
    · simp at hz; omega
  · rw [ofsUp_at]
    refine OwnS.chg (OwnS.mono (T := fun i => w3.heap.size ≤ i) ?_ fun i hi _ => hi) u fun b hb _ hz => by have hz : b = k2 := hz; omega
    have e2 : ni (symsU l (n + 1) (j + 1)) = ni (symsU l (n + 1) j) ++ [i64 (j : Nat)] := by rw [symsU_hit heq, ni_append]; rfl
    rw [e2]
    exact hO6.mono fun i hi _ => hi.1
end Go.Proofs.Ythfnohbpdoklgaa
