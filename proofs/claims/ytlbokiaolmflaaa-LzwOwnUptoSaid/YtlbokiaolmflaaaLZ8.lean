/- LZW: bytes packed as runs. -/
import Derived.Test.YtlbokiaolmflaaaLZ7
namespace Go.Proofs.Ytlbokiaolmflaaa
open Go Go.Vc Go.RowKit
set_option maxRecDepth 100000
set_option linter.unusedVariables false
set_option linter.unusedSimpArgs false

theorem callF_i {P : Program} {f : FuncId} {first caps : Array Value} {args : List Value} {w : World} {R : Ending → World → Prop} (hok : FnOk P f = true) (h : Calls P f (first.toList ++ args ++ caps.toList).toArray w R) : callF P (.func (.func f) first caps) args w R := by
  unfold callF
  simp only [hok]
  exact h
theorem yield_mono {F : Fence} {m : Nat} {P : Program} {l : Nat} {args : Array Value} {W : World} {R R' : Ending → World → Prop} (h : YieldAt F m P l args W R) (hr : ∀ e w, R e w → R' e w) : YieldAt F m P l args W R' := by
  obtain ⟨fn, tmps, assign, body, hy, hR⟩ := h
  exact ⟨fn, tmps, assign, body, hy, hR.mono hr⟩
/-- what a round may answer: go on, or stop -/
def Goes (go : World → Prop) (R : Ending → World → Prop) (e : Ending) (w : World) : Prop :=
  (e = .returned (.bool true) ∧ go w) ∨ (e = .returned (.bool false) ∧ R (.returned (.tuple #[])) w)
/-- how many of the first are x, at most k -/
def cnt (x : Int) : Nat → List Int → Nat
  | 0, _ => 0
  | _ + 1, [] => 0
  | k + 1, y :: r => if y = x then cnt x k r + 1 else 0
def runAt (bs : List Int) (i : Nat) : Nat := cnt (bs.getD i 0) 127 (bs.drop (i + 1)) + 1
theorem cnt_le (x : Int) : ∀ (k : Nat) (l : List Int), cnt x k l ≤ k ∧ cnt x k l ≤ l.length
  | 0, l => by simp [cnt]
  | k + 1, [] => by simp [cnt]
  | k + 1, y :: r => by
    rw [cnt]
    have := cnt_le x k r
    split
    · simp only [List.length_cons]; omega
    · omega
theorem runs_iter {w : World} {fr : Addr} {yl : Nat} {p : Option Addr} {len cap : Nat} {bs : List Int} (J : Nat → World → Prop) {R : Ending → World → Prop} (hl : len = bs.length) (h24 : len ≤ 2 ^ 24)
    (hJ : ∀ i u, J i u → u.cell? fr = some (.slice p len cap) ∧ Sl u.heap.size u p (bytes bs)) (h0 : J 0 w) (hd : ∀ i u, J i u → J i u.drew)
    (hy : ∀ (i : Nat) u, i < bs.length → J i u → YieldAt Fence.wide 0 P yl #[u8 (bs.getD i 0), i64 (runAt bs i)] u (Goes (J (i + runAt bs i)) R))
    (hend : ∀ u, J bs.length u → R (.returned (.tuple #[])) u) :
    Calls P F.lzw_runs_byte_fn1 #[.func (.yield yl) #[] #[], .pointer (some fr)] w R := by
  refine calls_lzw_runs_byte_fn1 _ _ _ _ ?_
  refine ⟨fun vs u => match vs with | [.int _ k] => ∃ i : Nat, k = i ∧ i ≤ bs.length ∧ J i u | _ => False, fun vs _ => match vs with | [.int _ k] => (bs.length - k).toNat | _ => 0, ⟨0, rfl, by omega, h0⟩, fun k w1 hI => ?_⟩
  obtain ⟨i, rfl, hi, hI⟩ := hI
  obtain ⟨hc, hs⟩ := hJ _ _ hI
  refine ⟨_, _, _, hc, brB_i (fun hlt => ?_) (fun hge => ?_)⟩
  · have hlt : (i : Int) < len := by simpa using hlt
    have hil : i < bs.length := by omega
    have hdl : (bs.drop (i + 1)).length = bs.length - (i + 1) := List.length_drop
    have hcl := cnt_le (bs.getD i 0) 127 (bs.drop (i + 1))
    have hrun : runAt bs i = cnt (bs.getD i 0) 127 (bs.drop (i + 1)) + 1 := rfl
    refine ⟨fun vs u => match vs with | [.int _ n] => n = runAt bs i ∧ J i u | _ => False, ⟨fun vs u => match vs with | [.int _ n] => ∃ m : Nat, n = m ∧ 1 ≤ m ∧ m ≤ 128 ∧ i + m ≤ bs.length ∧ runAt bs i = m + cnt (bs.getD i 0) (128 - m) (bs.drop (i + m)) ∧ J i u | _ => False,
      fun vs _ => match vs with | [.int _ n] => (128 - n).toNat | _ => 0, ⟨1, rfl, by omega, by omega, by omega, by show runAt bs i = 1 + cnt _ 127 _; omega, hI⟩, fun n2 w2 hI3 => ?_⟩, fun n5 w3 hI2 => ?_⟩
    · obtain ⟨m, rfl, m1, m2, m3, m4, hI3⟩ := hI3
      obtain ⟨hc2, hs2⟩ := hJ _ _ (hd _ _ hI3)
      rw [w64 (x := (i : Int) + m) (by omega) (by omega)]
      refine ⟨_, _, _, hc2, brB_i (fun hb => ?_) (fun hb => ?_)⟩
      · have hb : (i : Int) + m < len := by simpa using hb
        have him : i + m < bs.length := by omega
        refine ⟨_, _, _, hc2, hs2.get (by omega) (by rw [bytes_length]; omega) (v := u8 (bs.getD (i + m) 0)) (by rw [show ((i : Int) + m).toNat = i + m by omega, bytes_get him]) fun a1 ha1 => ⟨_, ha1, _, _, _, hc2, ?_⟩⟩
        refine hs2.get (by omega) (by rw [bytes_length]; omega) (v := u8 (bs.getD i 0)) (by rw [Int.toNat_natCast, bytes_get hil]) fun a2 ha2 => ⟨_, ha2, ?_⟩
        rw [drop_cons_of him] at m4
        refine brB_i (fun hb2 => ?_) (fun hb2 => ?_)
        · have hb2 : bs.getD (i + m) 0 = bs.getD i 0 ∧ (m : Int) < 128 := by
            simp only [Bool.and_eq_true, decide_eq_true_eq, beq_iff_eq] at hb2; exact hb2
          rw [w64 (by omega) (by omega)]
          obtain ⟨q, hq⟩ : ∃ q, 128 - m = q + 1 := ⟨127 - m, by omega⟩
          rw [hq, cnt, if_pos hb2.1] at m4
          refine ⟨⟨m + 1, by omega, by omega, by omega, by omega, ?_, hd _ _ hI3⟩, by show (128 - ((m : Int) + 1)).toNat < (128 - (m : Int)).toNat; omega⟩
          rw [show 128 - (m + 1) = q by omega, show i + (m + 1) = i + m + 1 by omega]; omega
        · refine ⟨?_, hd _ _ hI3⟩
          have : cnt (bs.getD i 0) (128 - m) (bs.getD (i + m) 0 :: bs.drop (i + m + 1)) = 0 := by
            by_cases hm : 128 - m = 0
            · rw [hm]; rfl
            · obtain ⟨q, hq⟩ : ∃ q, 128 - m = q + 1 := ⟨127 - m, by omega⟩
              rw [hq, cnt, if_neg]
              intro he
              have h1 : (bs.getD (i + m) 0 == bs.getD i 0) = true := by simpa using he
              have h2 : decide ((m : Int) < 128) = true := by simp; omega
              rw [h1, h2] at hb2; cases hb2
          omega
      · have hb : ¬ (i : Int) + m < len := by simpa using hb
        refine ⟨?_, hd _ _ hI3⟩
        rw [List.drop_of_length_le (by omega)] at m4
        have : cnt (bs.getD i 0) (128 - m) [] = 0 := by cases 128 - m <;> rfl
        omega
    · obtain ⟨rfl, hI2⟩ := hI2
      obtain ⟨hc3, hs3⟩ := hJ _ _ hI2
      refine ⟨_, _, _, hc3, hs3.get (by omega) (by rw [bytes_length]; omega) (v := u8 (bs.getD i 0)) (by rw [Int.toNat_natCast, bytes_get hil]) fun a3 ha3 => ⟨_, ha3, ?_⟩⟩
      refine yield_mono (hy i w3 hil hI2) fun e w4 he => ?_
      rcases he with ⟨rfl, he⟩ | ⟨rfl, he⟩
      · refine ⟨_, rfl, brB_f rfl ?_⟩
        rw [w64 (by omega) (by omega)]
        refine ⟨⟨i + runAt bs i, by omega, by omega, he⟩, ?_⟩
        show ((bs.length : Int) - (i + runAt bs i)).toNat < ((bs.length : Int) - i).toNat
        omega
      · exact ⟨_, rfl, brB_t rfl he⟩
  · have hge : ¬ (i : Int) < len := by simpa using hge
    have : i = bs.length := by omega
    subst this
    exact hend w1 hI

/-! ## what is written, and what is still loose -/
structure PM (w u : World) (f : Nat → Nat) (L : List Nat) (a b : Nat) (va vb : Value) (out loose : List Int) (po : Option Addr) (lo co : Nat) (pl : Option Addr) (ll cl : Nat) : Prop where
  pal : Pal w u f (a :: b :: L)
  o : Th w u f 1 po lo co 1 (bytes out)
  l : ThO w u f 2 pl ll cl 1 (bytes loose)
  ca : Cs u a [va]
  cb : Cs u b [vb]
  ne : a ≠ b
  nl : a ∉ L ∧ b ∉ L
section
variable {w u u' : World} {f : Nat → Nat} {L : List Nat} {a b : Nat} {va vb : Value} {out loose : List Int} {po : Option Addr} {lo co : Nat} {pl : Option Addr} {ll cl : Nat}
theorem PM.la (h : PM w u f L a b va vb out loose po lo co pl ll cl) : lo = out.length := by have := h.o.len; rwa [bytes_length] at this
theorem PM.lb (h : PM w u f L a b va vb out loose po lo co pl ll cl) : ll = loose.length := by have := OwO.len h.l; rwa [bytes_length] at this
theorem PM.mono {L' : List Nat} (h : PM w u f L a b va vb out loose po lo co pl ll cl) (hL : ∀ i, i ∈ L' → i ∈ L) : PM w u f L' a b va vb out loose po lo co pl ll cl :=
  ⟨h.pal.mono fun i hi => by simp only [List.mem_cons] at hi ⊢; rcases hi with hi | hi | hi; exact .inl hi; exact .inr (.inl hi); exact .inr (.inr (hL i hi)), h.o, h.l, h.ca, h.cb, h.ne, fun hm => h.nl.1 (hL a hm), fun hm => h.nl.2 (hL b hm)⟩
theorem PM.dr (h : PM w u f L a b va vb out loose po lo co pl ll cl) : PM w u.drew f L a b va vb out loose po lo co pl ll cl :=
  ⟨h.pal.same (Z := fun _ => False) (Ext.refl u).drew.chg fun _ _ h => h.elim, h.o, h.l, h.ca, h.cb, h.ne, h.nl⟩
theorem PM.ltL (h : PM w u f L a b va vb out loose po lo co pl ll cl) {i : Nat} (hi : i ∈ L) : i < u.heap.size ∧ w.heap.size ≤ i ∧ f i = 0 := by
  have := h.pal.av i (by simp [hi]); exact ⟨this.2.1, this.1, this.2.2⟩
theorem PM.abl (h : PM w u f L a b va vb out loose po lo co pl ll cl) : (a < u.heap.size ∧ w.heap.size ≤ a ∧ f a = 0) ∧ (b < u.heap.size ∧ w.heap.size ≤ b ∧ f b = 0) := by
  have h1 := h.pal.av a (by simp)
  have h2 := h.pal.av b (by simp)
  exact ⟨⟨h1.2.1, h1.1, h1.2.2⟩, h2.2.1, h2.1, h2.2.2⟩
theorem PM.locl {bs' : List Nat} (h : PM w u f L a b va vb out loose po lo co pl ll cl) (hL : Locl bs' u u') (hb : ∀ i, i ∈ bs' → i ∈ L ∨ u.heap.size ≤ i) : PM w u' (fOn f u.heap.size 0) (bs' ++ L) a b va vb out loose po lo co pl ll cl := by
  obtain ⟨ha, hbl⟩ := h.abl
  obtain ⟨hP, hT⟩ := h.pal.locl hL (fun i hm => by rcases hb i hm with h | h; exact .inl (List.mem_cons_of_mem _ (List.mem_cons_of_mem _ h)); exact .inr h)
  have hna : ∀ c, (c = a ∨ c = b) → c ∉ bs' := fun c hc hm => by
    rcases hb c hm with h' | h'
    · rcases hc with rfl | rfl
      · exact h.nl.1 h'
      · exact h.nl.2 h'
    · rcases hc with rfl | rfl <;> omega
  refine ⟨hP.mono fun i hi => ?_, hT (by omega) h.o, ThO.chg h.l hL.chg fun c hlt hc _ hm => ?_, h.ca.locl hL (hna a (.inl rfl)), h.cb.locl hL (hna b (.inr rfl)), h.ne, ?_, ?_⟩
  · simp only [List.mem_cons, List.mem_append] at hi ⊢
    rcases hi with hi | hi | hi | hi
    · exact .inr (.inl hi)
    · exact .inr (.inr (.inl hi))
    · exact .inl hi
    · exact .inr (.inr (.inr hi))
  · rcases hb c hm with h' | h'
    · have := h.ltL h'; omega
    · omega
  · intro hm
    rcases List.mem_append.1 hm with hm | hm
    · exact hna a (.inl rfl) hm
    · exact h.nl.1 hm
  · intro hm
    rcases List.mem_append.1 hm with hm | hm
    · exact hna b (.inr rfl) hm
    · exact h.nl.2 hm
theorem PM.step (h : PM w u f L a b va vb out loose po lo co pl ll cl) (hE : Ext u u') : PM w u' (fOn f u.heap.size 0) L a b va vb out loose po lo co pl ll cl :=
  ⟨h.pal.step hE, h.o.ext hE, ThO.chg (Z := fun _ => False) h.l hE.chg fun _ _ _ _ => id, h.ca.ext hE, h.cb.ext hE, h.ne, h.nl⟩
theorem PM.app1 {m : List (Nat × Nat × List Value)} {xs : List Int} {n : Nat} {F : Option Addr → Nat → Nat → World → Prop} (h : PM w u f L a b va vb out loose po lo co pl ll cl) (hl : ∀ i, i ∈ blocks m → i ∈ L) (hn : n = xs.length) (h4 : out.length + xs.length ≤ 2 ^ 47)
    (hF : ∀ p' c' u' f', PM w u' f' L a b va vb (out ++ xs) loose p' (lo + n) c' pl ll cl → Keep L u u' → u.heap.size ≤ u'.heap.size → F p' (lo + n) c' u') : appVC u m po lo co n 1 1 5 [u8 0] (bytes xs) F := by
  obtain ⟨ha, hbl⟩ := h.abl
  have hla := h.la
  refine h.o.app h.pal (by omega) (fun i hi => List.mem_cons_of_mem _ (List.mem_cons_of_mem _ (hl i hi))) rfl (by rw [bytes_length]; omega) (by omega) (by omega) fun p' c' u' hP hT hC => hF p' c' u' _ ⟨hP, by rw [bytes_append]; exact hT, ThO.chg h.l hC fun c _ hc _ hz => (by have := hz.1; omega), h.ca.chg hC fun hz => (by have := hz.1; omega), h.cb.chg hC fun hz => (by have := hz.1; omega), h.ne, h.nl⟩ (hC.keep fun i hi hz => by have := h.ltL hi; have := hz.1; omega) hC.size
theorem PM.app2 {m : List (Nat × Nat × List Value)} {xs : List Int} {n : Nat} {F : Option Addr → Nat → Nat → World → Prop} (h : PM w u f L a b va vb out loose po lo co pl ll cl) (hl : ∀ i, i ∈ blocks m → i ∈ L) (hn : n = xs.length) (h4 : loose.length + xs.length ≤ 2 ^ 47)
    (hF : ∀ p' c' u' f', PM w u' f' L a b va vb out (loose ++ xs) po lo co p' (ll + n) c' → Keep L u u' → u.heap.size ≤ u'.heap.size → F p' (ll + n) c' u') : appVC u m pl ll cl n 1 1 5 [u8 0] (bytes xs) F := by
  obtain ⟨ha, hbl⟩ := h.abl
  have hlb := h.lb
  refine ThO.app h.l h.pal (by omega) (fun i hi => List.mem_cons_of_mem _ (List.mem_cons_of_mem _ (hl i hi))) rfl (by rw [bytes_length]; omega) (by omega) (by omega) fun p' c' u' hP hT hC => hF p' c' u' _ ⟨hP, h.o.chg hC fun c _ hc _ hz => (by have := hz.1; omega), by rw [bytes_append]; exact hT, h.ca.chg hC fun hz => (by have := hz.1; omega), h.cb.chg hC fun hz => (by have := hz.1; omega), h.ne, h.nl⟩ (hC.keep fun i hi hz => by have := h.ltL hi; have := hz.1; omega) hC.size
theorem PM.from2 (h : PM w u f L a b va vb out loose po lo co pl ll cl) {n : Nat} (hn : n ≤ ll) : PM w u f L a b va vb out (loose.drop n) po lo co (slcBase pl n cl 1) (ll - n) (cl - n) :=
  ⟨h.pal, h.o, by
    have := OwO.from_ h.l hn
    rwa [show (bytes loose).drop n = bytes (loose.drop n) by simp [bytes, List.map_drop]] at this, h.ca, h.cb, h.ne, h.nl⟩
theorem PM.sta (h : PM w u f L a b va vb out loose po lo co pl ll cl) (v : Value) : PM w (setCells u ⟨a, 0, none⟩ [v] 0) f L a b v vb out loose po lo co pl ll cl ∧ Keep L u (setCells u ⟨a, 0, none⟩ [v] 0) := by
  obtain ⟨ha, hbl⟩ := h.abl
  have hC := Chg.setCells u ⟨a, 0, none⟩ [v] 0
  have e : ∀ {k : Nat}, (· = (⟨a, 0, none⟩ : Addr).block) k → k = a := fun h => h
  refine ⟨⟨h.pal.same hC fun i _ hi => by have := e hi; omega, h.o.same hC fun i _ hf _ hi => by have := e hi; subst this; omega, ThO.same h.l hC fun i _ hf _ hi => by have := e hi; subst this; omega, by have := h.ca.set1 (off := 0) (v := v) (by simp); simpa using this, h.cb.chg hC fun hi => h.ne (e hi).symm, h.ne, h.nl⟩, hC.keep fun i hi hz => h.nl.1 (by have := e hz; subst this; exact hi)⟩
theorem PM.stb (h : PM w u f L a b va vb out loose po lo co pl ll cl) (v : Value) : PM w (setCells u ⟨b, 0, none⟩ [v] 0) f L a b va v out loose po lo co pl ll cl ∧ Keep L u (setCells u ⟨b, 0, none⟩ [v] 0) := by
  obtain ⟨ha, hbl⟩ := h.abl
  have hC := Chg.setCells u ⟨b, 0, none⟩ [v] 0
  have e : ∀ {k : Nat}, (· = (⟨b, 0, none⟩ : Addr).block) k → k = b := fun h => h
  refine ⟨⟨h.pal.same hC fun i _ hi => by have := e hi; omega, h.o.same hC fun i _ hf _ hi => by have := e hi; subst this; omega, ThO.same h.l hC fun i _ hf _ hi => by have := e hi; subst this; omega, h.ca.chg hC fun hi => h.ne (e hi), by have := h.cb.set1 (off := 0) (v := v) (by simp); simpa using this, h.ne, h.nl⟩, hC.keep fun i hi hz => h.nl.2 (by have := e hz; subst this; exact hi)⟩
end
end Go.Proofs.Ytlbokiaolmflaaa
