namespace Go.Qn
variable {α : Type}

/-- the part [a, b) of a row -/
def seg (D : Nat → α) (a b : Nat) : List α := (List.range' a (b - a)).map D
theorem seg_len (D : Nat → α) (a b : Nat) : (seg D a b).length = b - a := by simp [seg]
theorem seg_split (D : Nat → α) {a m b : Nat} (h1 : a ≤ m) (h2 : m ≤ b) : seg D a b = seg D a m ++ seg D m b := by
  unfold seg
  rw [← List.map_append, show b - a = (m - a) + (b - m) by omega, ← List.range'_append_1, show a + (m - a) = m by omega]
theorem seg_nil (D : Nat → α) {a b : Nat} (h : b ≤ a) : seg D a b = [] := by simp [seg, show b - a = 0 by omega]
theorem seg_one (D : Nat → α) (a : Nat) : seg D a (a + 1) = [D a] := by simp [seg]
theorem seg_cons (D : Nat → α) {a b : Nat} (h : a < b) : seg D a b = D a :: seg D (a + 1) b := by
  rw [seg_split D (Nat.le_succ a) (by omega), seg_one]; rfl
theorem seg_congr {D E : Nat → α} {a b : Nat} (h : ∀ k, a ≤ k → k < b → D k = E k) : seg D a b = seg E a b := by
  unfold seg
  refine List.map_congr_left fun k hk => ?_
  simp only [List.mem_range'_1] at hk
  exact h k hk.1 (by omega)
theorem seg_move {D E : Nat → α} {a b a' b' : Nat} (hn : b - a = b' - a') (h : ∀ k, k < b - a → D (a + k) = E (a' + k)) : seg D a b = seg E a' b' := by
  refine List.ext_getElem (by simp [seg_len, hn]) fun i h1 h2 => ?_
  rw [seg_len] at h1
  simp [seg, h i h1]
theorem seg_get (D : Nat → α) {a b i : Nat} (h : i < b - a) : (seg D a b)[i]? = some (D (a + i)) := by
  simp [seg, h]

/-- alike, key by key -/
def Same (key : α → Int) (l m : List α) : Prop := ∀ v : Int, l.filter (fun x => key x == v) = m.filter (fun x => key x == v)
theorem Same.refl (key : α → Int) (l : List α) : Same key l l := fun _ => rfl
theorem Same.symm {key : α → Int} {l m : List α} (h : Same key l m) : Same key m l := fun v => (h v).symm
theorem Same.trans {key : α → Int} {l m n : List α} (h : Same key l m) (k : Same key m n) : Same key l n := fun v => (h v).trans (k v)
theorem Same.app {key : α → Int} {l m l' m' : List α} (h : Same key l m) (k : Same key l' m') : Same key (l ++ l') (m ++ m') := fun v => by
  rw [List.filter_append, List.filter_append, h v, k v]
/-- two parts of which no key of the one is the other's may change places -/
theorem Same.swap {key : α → Int} {l m : List α} (h : ∀ x, x ∈ l → ∀ y, y ∈ m → key x ≠ key y) : Same key (l ++ m) (m ++ l) := fun v => by
  rw [List.filter_append, List.filter_append]
  by_cases hl : l.filter (fun x => key x == v) = []
  · rw [hl]; simp
  · have : m.filter (fun x => key x == v) = [] := by
      rw [List.filter_eq_nil_iff]
      intro y hy hv
      refine hl ?_
      rw [List.filter_eq_nil_iff]
      intro x hx hxv
      simp only [beq_iff_eq] at hv hxv
      exact h x hx y hy (hxv.trans hv.symm)
    rw [this]; simp
theorem Same.len {key : α → Int} : ∀ {l m : List α}, Same key l m → l.Perm m := by
  intro l
  induction l with
  | nil =>
    intro m h
    cases m with
    | nil => exact .nil
    | cons y m => have := h (key y); simp at this
  | cons x l ih =>
    intro m h
    have hx := h (key x)
    rw [List.filter_cons_of_pos (by simp)] at hx
    have hm : x ∈ m := (List.mem_filter.1 (hx ▸ List.mem_cons_self : x ∈ m.filter (fun y => key y == key x))).1
    obtain ⟨s, t, rfl, hs⟩ : ∃ s t, m = s ++ x :: t ∧ ∀ y, y ∈ s → key y ≠ key x := by
      clear ih h hm
      induction m with
      | nil => simp at hx
      | cons y m ih =>
        by_cases hy : key y = key x
        · rw [List.filter_cons_of_pos (by simpa using hy)] at hx
          exact ⟨[], m, by rw [(List.cons.inj hx).1]; rfl, by simp⟩
        · rw [List.filter_cons_of_neg (by simpa using hy)] at hx
          obtain ⟨s, t, h1, h2⟩ := ih hx
          exact ⟨y :: s, t, by rw [h1]; rfl, fun z hz => by rcases List.mem_cons.1 hz with rfl | hz; exact hy; exact h2 z hz⟩
    refine (List.Perm.cons x (ih (m := s ++ t) fun v => ?_)).trans List.perm_middle.symm
    have hv := h v
    by_cases e : key x = v
    · rw [List.filter_cons_of_pos (by simpa using e), List.filter_append, List.filter_cons_of_pos (by simpa using e)] at hv
      have : s.filter (fun x => key x == v) = [] := by
        rw [List.filter_eq_nil_iff]; intro y hy hyv
        simp only [beq_iff_eq] at hyv
        exact hs y hy (hyv.trans e.symm)
      rw [this] at hv
      rw [List.filter_append, this]
      exact (List.cons.inj hv).2
    · rw [List.filter_cons_of_neg (by simpa using e), List.filter_append, List.filter_cons_of_neg (by simpa using e)] at hv
      rw [hv, List.filter_append]

/-- in order -/
def Asc (key : α → Int) (l : List α) : Prop := l.Pairwise (fun x y => key x ≤ key y)
/-- in order and alike: there is one such -/
theorem Same.uniq {key : α → Int} : ∀ {l m : List α}, Same key l m → Asc key l → Asc key m → l = m := by
  intro l
  induction l with
  | nil =>
    intro m h _ _
    cases m with
    | nil => rfl
    | cons y m => have := h (key y); simp at this
  | cons x l ih =>
    intro m h hl hm
    cases m with
    | nil => have := h (key x); simp at this
    | cons y m =>
      have hp := h.len
      have hxy : key x = key y := by
        have h1 : x ∈ y :: m := hp.subset List.mem_cons_self
        have h2 : y ∈ x :: l := hp.symm.subset List.mem_cons_self
        have h3 : key y ≤ key x := by
          rcases List.mem_cons.1 h1 with e | h1
          · rw [e]; exact Int.le_refl _
          · exact (List.pairwise_cons.1 hm).1 x h1
        have h4 : key x ≤ key y := by
          rcases List.mem_cons.1 h2 with e | h2
          · rw [e]; exact Int.le_refl _
          · exact (List.pairwise_cons.1 hl).1 y h2
        omega
      have h1 := h (key x)
      rw [List.filter_cons_of_pos (by simp), List.filter_cons_of_pos (by simpa using hxy.symm)] at h1
      have e : x = y := (List.cons.inj h1).1
      subst e
      refine congrArg (List.cons x) (ih (fun v => ?_) (List.pairwise_cons.1 hl).2 (List.pairwise_cons.1 hm).2)
      have h2 := h v
      by_cases e : key x = v
      · rw [List.filter_cons_of_pos (by simpa using e), List.filter_cons_of_pos (by simpa using e)] at h2
        exact (List.cons.inj h2).2
      · rwa [List.filter_cons_of_neg (by simpa using e), List.filter_cons_of_neg (by simpa using e)] at h2
/-- the one -/
def stab (key : α → Int) (l : List α) : List α := l.mergeSort (fun a b => decide (key a ≤ key b))
theorem stab_asc (key : α → Int) (l : List α) : Asc key (stab key l) := by
  have := List.pairwise_mergeSort (le := fun a b => decide (key a ≤ key b)) (by intro a b c; simp; omega) (by intro a b; simp; omega) l
  exact this.imp (by intro a b h; simpa using h)
theorem stab_perm (key : α → Int) (l : List α) : (stab key l).Perm l := List.mergeSort_perm l _
theorem stab_same (key : α → Int) (l : List α) : Same key (stab key l) l := fun v => by
  have h1 : (l.filter (fun x => key x == v)).Sublist (stab key l) := by
    refine List.sublist_mergeSort (by intro a b c; simp; omega) (by intro a b; simp; omega) ?_ List.filter_sublist
    rw [List.pairwise_iff_forall_sublist]
    intro a b hab
    have ha := List.mem_filter.1 (hab.subset (by simp : a ∈ [a, b]))
    have hb := List.mem_filter.1 (hab.subset (by simp : b ∈ [a, b]))
    have h1 := ha.2; have h2 := hb.2
    simp only [beq_iff_eq] at h1 h2
    simp; omega
  have h2 := h1.filter (fun x => key x == v)
  rw [List.filter_filter] at h2
  simp only [Bool.and_self] at h2
  exact (h2.eq_of_length ((stab_perm key l).filter _).length_eq.symm).symm
theorem stab_uniq {key : α → Int} {l m : List α} (h : Same key l m) (hm : Asc key m) : m = stab key l := (h.symm.trans (stab_same key l).symm).uniq hm (stab_asc key l)

/-! ## Rows as functions -/
def AscF (key : α → Int) (D : Nat → α) (a b : Nat) : Prop := ∀ p q, a ≤ p → p < q → q < b → key (D p) ≤ key (D q)
theorem AscF.asc {key : α → Int} {D : Nat → α} {a b : Nat} (h : AscF key D a b) : Asc key (seg D a b) := by
  unfold Asc
  rw [List.pairwise_iff_getElem]
  intro i j hi hj hij
  simp only [seg_len] at hi hj
  simpa [seg] using h (a + i) (a + j) (by omega) (by omega) (by omega)
/-- nothing has turned but within [a, b), and there alike key by key -/
structure Rear (key : α → Int) (D E : Nat → α) (a b : Nat) : Prop where
  out : ∀ k, k < a ∨ b ≤ k → E k = D k
  same : Same key (seg D a b) (seg E a b)
theorem Rear.refl (key : α → Int) (D : Nat → α) (a b : Nat) : Rear key D D a b := ⟨fun _ _ => rfl, Same.refl _ _⟩
theorem Rear.trans {key : α → Int} {D E F : Nat → α} {a b : Nat} (h : Rear key D E a b) (k : Rear key E F a b) : Rear key D F a b :=
  ⟨fun i hi => (k.out i hi).trans (h.out i hi), h.same.trans k.same⟩
theorem Rear.wide {key : α → Int} {D E : Nat → α} {a b a' b' : Nat} (h : Rear key D E a b) (h1 : a' ≤ a) (h2 : b ≤ b') (hab : a ≤ b) : Rear key D E a' b' := by
  refine ⟨fun i hi => h.out i (by omega), ?_⟩
  rw [seg_split D h1 (by omega), seg_split D hab h2, seg_split E h1 (by omega), seg_split E hab h2]
  refine Same.app ?_ (Same.app h.same ?_)
  · rw [seg_congr (D := D) (E := E) fun k _ hk => (h.out k (by omega)).symm]; exact Same.refl _ _
  · rw [seg_congr (D := D) (E := E) fun k hk _ => (h.out k (by omega)).symm]; exact Same.refl _ _
theorem Rear.mem {key : α → Int} {D E : Nat → α} {a b : Nat} (h : Rear key D E a b) {k : Nat} (h1 : a ≤ k) (h2 : k < b) : ∃ j, a ≤ j ∧ j < b ∧ E k = D j := by
  have h3 : E k ∈ seg E a b := by
    unfold seg; exact List.mem_map_of_mem (by simp only [List.mem_range'_1]; omega)
  have h4 := h.same.len.symm.subset h3
  unfold seg at h4
  obtain ⟨j, hj, e⟩ := List.mem_map.1 h4
  simp only [List.mem_range'_1] at hj
  exact ⟨j, by omega, by omega, e.symm⟩

/-- two of a row changed -/
def swp (D : Nat → α) (i j : Nat) : Nat → α := fun k => if k = i then D j else if k = j then D i else D k
/-- two neighbours out of order changed -/
theorem Rear.swp {key : α → Int} {D : Nat → α} {j : Nat} (h : key (D (j + 1)) < key (D j)) : Rear key D (swp D j (j + 1)) j (j + 2) := by
  refine ⟨fun k hk => by simp only [Qn.swp]; rw [if_neg (by omega), if_neg (by omega)], ?_⟩
  have e : ∀ F : Nat → α, seg F j (j + 2) = [F j] ++ [F (j + 1)] := fun F => by rw [seg_split F (Nat.le_succ j) (by omega : j + 1 ≤ j + 2), seg_one]; rw [show j + 2 = j + 1 + 1 from rfl, seg_one]
  rw [e, e]
  have : Qn.swp D j (j + 1) j = D (j + 1) := by simp [Qn.swp]
  rw [this]
  have : Qn.swp D j (j + 1) (j + 1) = D j := by simp [Qn.swp]
  rw [this]
  exact Same.swap fun x hx y hy => by simp at hx hy; subst hx; subst hy; omega

/-- a row in order in [a, i), whose next is laid in: as far as [j, i] is in order, and nothing before j is greater than what lies behind j -/
structure Ins (key : α → Int) (D : Nat → α) (a j i : Nat) : Prop where
  lo : AscF key D a j
  hi : AscF key D j (i + 1)
  mid : ∀ p q, a ≤ p → p < j → j < q → q ≤ i → key (D p) ≤ key (D q)
theorem Ins.start {key : α → Int} {D : Nat → α} {a i : Nat} (h : AscF key D a i) : Ins key D a i i := ⟨h, fun p q h1 h2 h3 => by omega, fun p q h1 h2 h3 h4 => by omega⟩
theorem Ins.step {key : α → Int} {D : Nat → α} {a j i : Nat} (h : Ins key D a (j + 1) i) (haj : a ≤ j) (_hji : j + 1 ≤ i) (hlt : key (D (j + 1)) < key (D j)) : Ins key (Qn.swp D j (j + 1)) a j i := by
  have e1 : Qn.swp D j (j + 1) j = D (j + 1) := by simp [Qn.swp]
  have e2 : Qn.swp D j (j + 1) (j + 1) = D j := by simp [Qn.swp]
  have e3 : ∀ k, k ≠ j → k ≠ j + 1 → Qn.swp D j (j + 1) k = D k := fun k h1 h2 => by simp [Qn.swp, h1, h2]
  refine ⟨fun p q h1 h2 h3 => ?_, fun p q h1 h2 h3 => ?_, fun p q h1 h2 h3 h4 => ?_⟩
  · rw [e3 p (by omega) (by omega), e3 q (by omega) (by omega)]; exact h.lo p q h1 h2 (by omega)
  · rcases Nat.eq_or_lt_of_le h1 with rfl | h1
    · rw [e1]
      rcases Nat.lt_or_ge (j + 1) q with hq | hq
      · rw [e3 q (by omega) (by omega)]; exact h.hi (j + 1) q (by omega) (by omega) h3
      · rw [show q = j + 1 by omega, e2]; omega
    · rcases Nat.lt_or_ge (j + 1) p with hp | hp
      · rw [e3 p (by omega) (by omega), e3 q (by omega) (by omega)]; exact h.hi p q (by omega) h2 h3
      · rw [show p = j + 1 by omega, e2, e3 q (by omega) (by omega)]; exact h.mid j q haj (by omega) (by omega) (by omega)
  · rw [e3 p (by omega) (by omega)]
    rcases Nat.lt_or_ge (j + 1) q with hq | hq
    · rw [e3 q (by omega) (by omega)]; exact h.mid p q h1 (by omega) hq h4
    · rw [show q = j + 1 by omega, e2]; exact h.lo p j h1 h2 (by omega)
theorem Ins.done {key : α → Int} {D : Nat → α} {a j i : Nat} (h : Ins key D a j i) (hd : j ≤ a ∨ ∃ p, j = p + 1 ∧ key (D p) ≤ key (D j)) : AscF key D a (i + 1) := by
  intro p q h1 h2 h3
  rcases Nat.lt_or_ge p j with hp | hp
  · rcases Nat.lt_or_ge q j with hq | hq
    · exact h.lo p q h1 h2 hq
    · rcases Nat.eq_or_lt_of_le hq with rfl | hq
      · rcases hd with hd | ⟨r, hr, hd⟩
        · omega
        · subst hr
          rcases Nat.lt_or_ge p r with hpr | hpr
          · have := h.lo p r h1 hpr (by omega); omega
          · rw [show p = r by omega]; exact hd
      · exact h.mid p q h1 hp hq (by omega)
  · exact h.hi p q hp h2 h3

/-- parts changed in place: [m, b) before [a, m) -/
def rot (D : Nat → α) (a m b : Nat) : Nat → α := fun k => if k < a then D k else if k < a + (b - m) then D (k + (m - a)) else if k < b then D (k - (b - m)) else D k
/-- parts of a length changed: [p, p + n) with [q, q + n) -/
def swr (D : Nat → α) (p q n : Nat) : Nat → α := fun k => if p ≤ k ∧ k < p + n then D (k - p + q) else if q ≤ k ∧ k < q + n then D (k - q + p) else D k
theorem swr_zero (D : Nat → α) (p q : Nat) : swr D p q 0 = D := by
  funext k; simp only [swr]; rw [if_neg (by omega), if_neg (by omega)]
theorem swr_step (D : Nat → α) {p q n : Nat} (h : p + n < q) : swp (swr D p q n) (p + n) (q + n) = swr D p q (n + 1) := by
  funext k
  simp only [swp, swr]
  repeat' split
  all_goals first | (exfalso; omega) | (congr 1; omega) | rfl
/-- a rotation by changing the first of the longer left part with the right one -/
theorem rot_left (D : Nat → α) {a m b : Nat} (ham : a < m) (hmb : m < b) (h : b - m < m - a) : rot (swr D a m (b - m)) (a + (b - m)) m b = rot D a m b := by
  funext k
  simp only [rot, swr]
  repeat' split
  all_goals first | (exfalso; omega) | (congr 1; omega) | rfl
theorem rot_right (D : Nat → α) {a m b : Nat} (ham : a < m) (hmb : m < b) (h : m - a < b - m) : rot (swr D a (b - (m - a)) (m - a)) a m (b - (m - a)) = rot D a m b := by
  funext k
  simp only [rot, swr]
  repeat' split
  all_goals first | (exfalso; omega) | (congr 1; omega) | rfl
theorem rot_even (D : Nat → α) {a m b : Nat} (ham : a < m) (hmb : m < b) (h : m - a = b - m) : swr D a m (m - a) = rot D a m b := by
  funext k
  simp only [rot, swr]
  repeat' split
  all_goals first | (exfalso; omega) | (congr 1; omega) | rfl
theorem rot_none (D : Nat → α) {a m b : Nat} (h : m = a ∨ m = b) : rot D a m b = D := by
  funext k
  simp only [rot]
  repeat' split
  all_goals first | (exfalso; omega) | (congr 1; omega) | rfl
theorem rot_seg (D : Nat → α) {a m b : Nat} (ham : a ≤ m) (hmb : m ≤ b) : seg (rot D a m b) a b = seg D m b ++ seg D a m := by
  rw [seg_split _ (show a ≤ a + (b - m) by omega) (show a + (b - m) ≤ b by omega)]
  have e1 : seg (rot D a m b) a (a + (b - m)) = seg D m b := seg_move (by omega) fun k hk => by
    simp only [rot]
    rw [if_neg (by omega), if_pos (by omega)]; congr 1; omega
  have e2 : seg (rot D a m b) (a + (b - m)) b = seg D a m := seg_move (by omega) fun k hk => by
    simp only [rot]
    rw [if_neg (by omega), if_neg (by omega), if_pos (by omega)]; congr 1; omega
  rw [e1, e2]

/-! ## Merging -/
/-- one step of merging [a, m) with [m, b): s of the left stay, and as far as e of the right go before the others of the left -/
structure Cut (key : α → Int) (D : Nat → α) (a s m e b : Nat) : Prop where
  as : a ≤ s
  sm : s ≤ m
  me : m ≤ e
  eb : e ≤ b
  /-- what is moved forward is less than what it passes -/
  lt : s = m ∨ m = e ∨ key (D (e - 1)) < key (D s)
  /-- what stays is not greater than what stays behind -/
  le : a = s ∨ e = b ∨ key (D (s - 1)) ≤ key (D e)
theorem Cut.rear {key : α → Int} {D : Nat → α} {a s m e b : Nat} (h : Cut key D a s m e b) (hl : AscF key D a m) (hr : AscF key D m b) : Rear key D (rot D s m e) s e := by
  have h1 := h.as; have h2 := h.sm; have h3 := h.me; have h4 := h.eb
  refine ⟨fun k hk => ?_, ?_⟩
  · simp only [rot]
    rcases hk with hk | hk
    · rw [if_pos hk]
    · rw [if_neg (by omega), if_neg (by omega), if_neg (by omega)]
  · rw [rot_seg D h2 h3, seg_split D h2 h3]
    refine Same.swap fun x hx y hy => ?_
    unfold seg at hx hy
    obtain ⟨i, hi, rfl⟩ := List.mem_map.1 hx
    obtain ⟨j, hj, rfl⟩ := List.mem_map.1 hy
    simp only [List.mem_range'_1] at hi hj
    have hlt := h.lt
    have t1 : key (D s) ≤ key (D i) := by
      rcases Nat.eq_or_lt_of_le hi.1 with e | e
      · rw [e]; exact Int.le_refl _
      · exact hl s i h1 e (by omega)
    have t2 : key (D j) ≤ key (D (e - 1)) := by
      rcases Nat.lt_or_ge j (e - 1) with g | g
      · exact hr j (e - 1) hj.1 g (by omega)
      · rw [show j = e - 1 by omega]; exact Int.le_refl _
    omega
/-- what both halves are after it -/
theorem Cut.lo {key : α → Int} {D : Nat → α} {a s m e b : Nat} (h : Cut key D a s m e b) (hl : AscF key D a m) (hr : AscF key D m b) :
    AscF key (rot D s m e) a s ∧ AscF key (rot D s m e) s (s + (e - m)) ∧ AscF key (rot D s m e) (s + (e - m)) e ∧ AscF key (rot D s m e) e b := by
  have h1 := h.as; have h2 := h.sm; have h3 := h.me; have h4 := h.eb
  refine ⟨fun p q hp hpq hq => ?_, fun p q hp hpq hq => ?_, fun p q hp hpq hq => ?_, fun p q hp hpq hq => ?_⟩
  · simp only [rot]; rw [if_pos (by omega), if_pos (by omega)]; exact hl p q hp hpq (by omega)
  · simp only [rot]; rw [if_neg (by omega), if_pos (by omega), if_neg (by omega), if_pos (by omega)]; exact hr _ _ (by omega) (by omega) (by omega)
  · simp only [rot]; rw [if_neg (by omega), if_neg (by omega), if_pos (by omega), if_neg (by omega), if_neg (by omega), if_pos (by omega)]; exact hl _ _ (by omega) (by omega) (by omega)
  · simp only [rot]; rw [if_neg (by omega), if_neg (by omega), if_neg (by omega), if_neg (by omega), if_neg (by omega), if_neg (by omega)]; exact hr _ _ (by omega) (by omega) (by omega)
/-- nothing of the first half is greater than anything of the second -/
theorem Cut.mid {key : α → Int} {D : Nat → α} {a s m e b : Nat} (h : Cut key D a s m e b) (hl : AscF key D a m) (hr : AscF key D m b) :
    ∀ p q, a ≤ p → p < s + (e - m) → s + (e - m) ≤ q → q < b → key (rot D s m e p) ≤ key (rot D s m e q) := by
  have h1 := h.as; have h2 := h.sm; have h3 := h.me; have h4 := h.eb
  have hlt := h.lt; have hle := h.le
  have L : ∀ i j, a ≤ i → i ≤ j → j < m → key (D i) ≤ key (D j) := fun i j hi hij hj => by
    rcases Nat.eq_or_lt_of_le hij with e | e
    · rw [e]; exact Int.le_refl _
    · exact hl i j hi e hj
  have R : ∀ i j, m ≤ i → i ≤ j → j < b → key (D i) ≤ key (D j) := fun i j hi hij hj => by
    rcases Nat.eq_or_lt_of_le hij with e | e
    · rw [e]; exact Int.le_refl _
    · exact hr i j hi e hj
  intro p q hp hps hq hqb
  simp only [rot]
  by_cases c1 : p < s
  · rw [if_pos c1, if_neg (by omega), if_neg (by omega)]
    by_cases c2 : q < e
    · rw [if_pos c2]; exact L _ _ (by omega) (by omega) (by omega)
    · rw [if_neg c2]
      have t1 := L p (s - 1) (by omega) (by omega) (by omega)
      have t2 := R e q (by omega) (by omega) (by omega)
      omega
  · rw [if_neg c1, if_pos hps, if_neg (by omega), if_neg (by omega)]
    by_cases c2 : q < e
    · rw [if_pos c2]
      have t1 := R (p + (m - s)) (e - 1) (by omega) (by omega) (by omega)
      have t2 := L s (q - (e - m)) (by omega) (by omega) (by omega)
      omega
    · rw [if_neg c2]; exact R _ _ (by omega) (by omega) (by omega)
/-- both halves merged: all of it is -/
theorem Cut.merge {key : α → Int} {D E F : Nat → α} {a s m e b : Nat} (h : Cut key D a s m e b) (hl : AscF key D a m) (hr : AscF key D m b)
    (h1 : Rear key (rot D s m e) E a (s + (e - m))) (h2 : AscF key E a (s + (e - m))) (h3 : Rear key E F (s + (e - m)) b) (h4 : AscF key F (s + (e - m)) b) :
    Rear key D F a b ∧ AscF key F a b := by
  have i1 := h.as; have i2 := h.sm; have i3 := h.me; have i4 := h.eb
  refine ⟨(((h.rear hl hr).wide i1 i4 (by omega)).trans (h1.wide (Nat.le_refl _) (by omega) (by omega))).trans (h3.wide (by omega) (Nat.le_refl _) (by omega)), fun p q hp hpq hq => ?_⟩
  rcases Nat.lt_or_ge p (s + (e - m)) with c1 | c1
  · rcases Nat.lt_or_ge q (s + (e - m)) with c2 | c2
    · rw [h3.out p (by omega), h3.out q (by omega)]; exact h2 p q hp hpq c2
    · rw [h3.out p (by omega)]
      obtain ⟨i, ia, ib, ie⟩ := h1.mem hp c1
      obtain ⟨j, ja, jb, je⟩ := h3.mem c2 hq
      rw [ie, je, h1.out j (by omega)]
      exact h.mid hl hr i j ia ib ja jb
  · exact h4 p q c1 hpq hq
/-- where the moved parts need no more merging -/
theorem Cut.all {key : α → Int} {D : Nat → α} {a s m e b : Nat} (h : Cut key D a s m e b) (hl : AscF key D a m) (hr : AscF key D m b)
    (hx : s = m ∨ e = b ∨ key (D (m - 1)) ≤ key (D e)) (hy : s = a ∨ e = m ∨ key (D (s - 1)) ≤ key (D m)) :
    Rear key D (rot D s m e) a b ∧ AscF key (rot D s m e) a b := by
  have i1 := h.as; have i2 := h.sm; have i3 := h.me; have i4 := h.eb
  have hlt := h.lt; have hle := h.le
  have L : ∀ i j, a ≤ i → i ≤ j → j < m → key (D i) ≤ key (D j) := fun i j hi hij hj => by
    rcases Nat.eq_or_lt_of_le hij with e | e
    · rw [e]; exact Int.le_refl _
    · exact hl i j hi e hj
  have R : ∀ i j, m ≤ i → i ≤ j → j < b → key (D i) ≤ key (D j) := fun i j hi hij hj => by
    rcases Nat.eq_or_lt_of_le hij with e | e
    · rw [e]; exact Int.le_refl _
    · exact hr i j hi e hj
  refine ⟨(h.rear hl hr).wide i1 i4 (by omega), fun p q hp hpq hq => ?_⟩
  rcases Nat.lt_or_ge p (s + (e - m)) with c1 | c1
  · rcases Nat.lt_or_ge q (s + (e - m)) with c2 | c2
    · simp only [rot]
      by_cases d1 : q < s
      · rw [if_pos (by omega), if_pos d1]; exact L _ _ hp (by omega) (by omega)
      · rw [if_neg d1, if_pos c2]
        by_cases d2 : p < s
        · rw [if_pos d2]
          have t1 := L p (s - 1) (by omega) (by omega) (by omega)
          have t2 := R m (q + (m - s)) (by omega) (by omega) (by omega)
          omega
        · rw [if_neg d2, if_pos c1]; exact R _ _ (by omega) (by omega) (by omega)
    · exact h.mid hl hr p q hp c1 c2 hq
  · simp only [rot]
    by_cases d1 : p < e
    · rw [if_neg (by omega), if_neg (by omega), if_pos d1, if_neg (by omega), if_neg (by omega)]
      by_cases d2 : q < e
      · rw [if_pos d2]; exact L _ _ (by omega) (by omega) (by omega)
      · rw [if_neg d2]
        have t1 := L (p - (e - m)) (m - 1) (by omega) (by omega) (by omega)
        have t2 := R e q (by omega) (by omega) (by omega)
        omega
    · rw [if_neg (by omega), if_neg (by omega), if_neg d1, if_neg (by omega), if_neg (by omega), if_neg (by omega)]
      exact R _ _ (by omega) (by omega) (by omega)
/-- one moved behind: place by place -/
theorem rot_up (D : Nat → α) {a k : Nat} (h : a ≤ k) : swp (rot D a (a + 1) (k + 1)) k (k + 1) = rot D a (a + 1) (k + 2) := by
  funext i
  simp only [swp, rot]
  repeat' split
  all_goals first | (exfalso; omega) | (congr 1; omega) | rfl
theorem rot_down (D : Nat → α) {k m : Nat} (h : k + 1 ≤ m) : swp (rot D (k + 1) m (m + 1)) (k + 1) k = rot D k m (m + 1) := by
  funext i
  simp only [swp, rot]
  repeat' split
  all_goals first | (exfalso; omega) | (congr 1; omega) | rfl

/-! ## Blocks in order -/
/-- each block of z, from 0 as far as n, is in order -/
def Bl (key : α → Int) (D : Nat → α) (z n : Nat) : Prop := ∀ i, AscF key D (i * z) (min ((i + 1) * z) n)
theorem AscF.sub {key : α → Int} {D : Nat → α} {a b a' b' : Nat} (h : AscF key D a b) (h1 : a ≤ a') (h2 : b' ≤ b) : AscF key D a' b' := fun p q hp hpq hq => h p q (by omega) hpq (by omega)
theorem AscF.congr {key : α → Int} {D E : Nat → α} {a b : Nat} (h : AscF key D a b) (he : ∀ k, a ≤ k → k < b → E k = D k) : AscF key E a b := fun p q hp hpq hq => by
  rw [he p hp (by omega), he q (by omega) hq]; exact h p q hp hpq hq
theorem AscF.short {key : α → Int} {D : Nat → α} {a b : Nat} (h : b ≤ a + 1) : AscF key D a b := fun p q hp hpq hq => by omega
end Go.Qn
