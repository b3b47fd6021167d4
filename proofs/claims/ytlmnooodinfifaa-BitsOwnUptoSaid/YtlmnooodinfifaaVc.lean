/- A calculus of conditions over codes, part 4: codes, loops, functions. -/
import Derived.Test.YtlmnooodinfifaaVcC
set_option linter.unusedVariables false
set_option linter.unusedSimpArgs false
namespace Go.Vc
open Go.RowKit
set_option linter.unusedVariables false
set_option linter.unusedSimpArgs false

/-! ## Codes -/
inductive LV
  | slot (t : Nat) (sc : Sc)
  | loc (k : Nat) (scs : List Sc)
  | nloc (k : Nat) (scs : List Sc)

def Sc.fits : Sc → Value → Bool
  | .int k, .int k' _ => decide (k = k')
  | .bool, .bool _ => true
  | .str, .string _ => true
  | .ptr, .pointer _ => true
  | .slice, .slice _ _ _ => true
  | .map, .map _ => true
  | .fn, .func (.func _) _ _ => true
  | .any, _ => true
  | _, _ => false
def fitsL : List Sc → List Value → Bool
  | [], [] => true
  | s :: l, v :: vs => s.fits v && fitsL l vs
  | _, _ => false
def allL : List Sc → (List Value → Prop) → Prop
  | [], F => F []
  | s :: l, F => s.all fun v => allL l fun vs => F (v :: vs)
theorem Sc.all_inst {s : Sc} {v : Value} {F : Value → Prop} (hf : s.fits v = true) (h : s.all F) : F v := by
  cases s <;> cases v <;> simp [Sc.fits] at hf <;> simp only [Sc.all] at h <;> first | exact h _ | exact h _ _ _ | (subst hf; exact h _) | (rename_i f _ _; cases f <;> simp at hf; exact h _ _ _)
theorem allL_inst : ∀ {l : List Sc} {vs : List Value} {F : List Value → Prop}, fitsL l vs = true → allL l F → F vs
  | [], [], _, _, h => h
  | s :: l, v :: vs, F, hf, h => by
    simp only [fitsL, Bool.and_eq_true] at hf
    exact allL_inst (F := fun vs => F (v :: vs)) hf.2 (Sc.all_inst hf.1 h)

def ptrB (b : Nat) : Value := .pointer (some ⟨b, 0, none⟩)
def lvGet (s : St) : List LV → Option (List Value)
  | [] => some []
  | .slot t sc :: r => match s.ρ t, lvGet s r with
    | some (.v v), some vs => match sc.fits v with | true => some (v :: vs) | false => none
    | _, _ => none
  | .loc k scs :: r => match look k s.l, lvGet s r with
    | some (_, cs), some vs => match fitsL scs cs with | true => some (cs ++ vs) | false => none
    | _, _ => none
  | .nloc k scs :: r => match s.ρ k with
    | some (.loc k' 0) => match Nat.beq k k' with
      | true => match look k s.l, lvGet s r with
        | some (b, cs), some vs => match fitsL scs cs with | true => some (ptrB b :: (cs ++ vs)) | false => none
        | _, _ => none
      | false => none
    | _ => none
def lvAll (F : List Value → St → Prop) : List LV → List Value → St → Prop
  | [], acc, s => F acc s
  | .slot t sc :: r, acc, s => sc.all fun v => lvAll F r (acc ++ [v]) (s.set t (some (.v v)))
  | .loc k scs :: r, acc, s => allL scs fun cs => lvAll F r (acc ++ cs) { s with l := change k (fun _ => cs) s.l }
  | .nloc k scs :: r, acc, s => match look k s.l with
    | none => ∀ b : Nat, allL scs fun cs => lvAll F r (acc ++ ptrB b :: cs) ({ s with l := (k, b, cs) :: s.l }.set k (some (.loc k 0)))
    | some _ => False
/-- keys that are laid anew -/
def lvKeys : List LV → List Nat
  | [] => []
  | .slot _ _ :: r => lvKeys r
  | .loc k _ :: r => k :: lvKeys r
  | .nloc k _ :: r => k :: lvKeys r
def keysOf (l : List (Nat × Nat × List Value)) : List Nat := l.map (·.1)

inductive AC
  | skip | ret | exit
  | reg (p : Plan)
  | seq (a b : AC)
  | cut (lv : List LV) (a b : AC)
  | cond (a b : AC)
  | block (a : AC)
  | bcut (lv : List LV) (a : AC)
  | loop (lv : List LV) (a : AC)

/-- the temporaries that code writes -/
def odsts (ops : Array Oper) : List Nat := ops.toList.filterMap (·.dst)
def cdsts : Code → List Nat
  | .region _ ops _ => odsts ops
  | .seq a b => cdsts a ++ cdsts b
  | .cond _ a b => cdsts a ++ cdsts b
  | .block _ a => cdsts a
  | .loop a => cdsts a
  | .scope a => cdsts a
  | _ => []
def St.withRo (s : St) (ro : List Nat) : St := { s with ro := ro }
def thenQ (next : St → World → Prop) (Q : Exit → St → World → Prop) : Exit → St → World → Prop
  | .normal, s, w => next s w
  | e, s, w => Q e s w
def blockQ (id : Nat) (Q : Exit → St → World → Prop) : Exit → St → World → Prop
  | .exit id', s, w => match Nat.beq id' id with | true => Q .normal s w | false => Q (.exit id') s w
  | e, s, w => Q e s w
def drewW (dr : Bool) (s : St) (w : World) : World := match dr, s.dirty with | true, false => w.drew | _, _ => w
/-- the locals that may not be written while these are told anew -/
def roOf (s : St) (lv : List LV) : List Nat := s.ro ++ (keysOf s.l).filter fun k => !(lvKeys lv).any (Nat.beq k)
def lvIs (s : St) (lv : List LV) (F : List Value → Prop) : Prop := match lvGet s lv with | some vs => F vs | none => False

def vc (P : Program) (X : List PanicEntry → World → Prop) : AC → Code → St → World → (Exit → St → World → Prop) → Prop
  | .skip, .skip, s, w, Q => Q .normal s w
  | .ret, .ret, s, w, Q => Q .ret s w
  | .exit, .exit id, s, w, Q => Q (.exit id) s w
  | .reg p, .region _ ops dr, s, w, Q => vcPlan P X ops p s (drewW dr s w) fun s' w' => Q .normal s' w'
  | .seq a b, .seq x y, s, w, Q => vc P X a x s w (thenQ (fun s' w' => vc P X b y s' w' Q) Q)
  | .cut lv a b, .seq x y, s, w, Q => ∃ R : List Value → World → Prop,
      vc P X a x (s.withRo (roOf s lv)) w (thenQ (fun s' w' => sync s' w' fun w' => lvIs s' lv fun vs => R vs w') fun e s' w' => Q e (s'.withRo s.ro) w') ∧
      lvAll (fun vs s' => ∀ w', R vs w' → vc P X b y s' w' Q) lv [] (s.del (cdsts x)).clean
  | .cond a b, .cond c x y, s, w, Q => match s.ev c with
    | some (.bool t) => brB t (vc P X a x s w Q) (vc P X b y s w Q)
    | _ => False
  | .block a, .block id x, s, w, Q => vc P X a x s w (blockQ id Q)
  | .bcut lv a, .block id x, s, w, Q => ∃ R : List Value → World → Prop,
      vc P X a x (s.withRo (roOf s lv)) w (blockQ id (thenQ (fun s' w' => sync s' w' fun w' => lvIs s' lv fun vs => R vs w') fun e s' w' => Q e (s'.withRo s.ro) w')) ∧
      lvAll (fun vs s' => ∀ w', R vs w' → Q .normal s' w') lv [] (s.del (cdsts x)).clean
  | .loop lv a, .loop x, s, w, Q => ∃ (I : List Value → World → Prop) (μ : List Value → World → Nat),
      (sync s w fun w' => lvIs s lv fun vs => I vs w') ∧
      lvAll (fun vs s' => ∀ w', I vs w' → vc P X a x (s'.withRo (roOf s lv)) w'
        (thenQ (fun s'' w'' => sync s'' w'' fun w'' => lvIs s'' lv fun vs' => I vs' w'' ∧ μ vs' w'' < μ vs w') fun e s'' w'' => Q e (s''.withRo s.ro) w'')) lv [] (s.del (cdsts x)).clean
  | _, _, _, _, _ => False

/-- what of a region is no keeper of cells -/
def nsOf (P : Program) (ops : Array Oper) : Plan → List Nat
  | .done => []
  | .op i loc _ fl p => match ops[i]? with
    | some o => match kpOf P loc fl o with | true => nsOf P ops p | false => i :: nsOf P ops p
    | none => nsOf P ops p
  | .split _ p => nsOf P ops p
  | .gand _ _ _ _ p => nsOf P ops p
  | .alt p q => nsOf P ops p ++ nsOf P ops q
def nlocsOk : List LV → Bool
  | [] => true
  | .loc _ _ :: r => nlocsOk r
  | .slot _ _ :: r => nlocsOk r
  | .nloc _ _ :: r => nlocsOk r
def noDeferB (ops : Array Oper) : Bool := ops.toList.all fun o => match o.op with | .defer _ => false | _ => true
def okC (P : Program) (N : Nat) : AC → Code → Bool
  | .skip, .skip => true
  | .ret, .ret => true
  | .exit, .exit _ => true
  | .reg p, .region _ ops dr => (noDeferB ops && Region.noSelect ops) && okPlan dr P ops (nsOf P ops p) N (odsts ops) false p ops.size (match dr with | true => Array.replicate ops.size false | false => #[])
  | .seq a b, .seq x y => okC P N a x && okC P N b y
  | .cut _ a b, .seq x y => okC P N a x && okC P N b y
  | .cond a b, .cond _ x y => okC P N a x && okC P N b y
  | .block a, .block _ x => okC P N a x
  | .bcut _ a, .block _ x => okC P N a x
  | .loop _ a, .loop x => okC P N a x
  | _, _ => false
end Go.Vc

namespace Go.Vc
open Go.RowKit
set_option linter.unusedVariables false
set_option linter.unusedSimpArgs false

structure PreS (M : List Nat) (s : St) (a : Act) (lc : List (Nat × Nat × List Value)) : Prop where
  v : ∀ t x, s.ρ t = some (.v x) → a.tmps.getD t undef = x
  loc : ∀ t k off, s.ρ t = some (.loc k off) → ∃ b cs, (k, b, cs) ∈ s.l ∧ a.tmps.getD t undef = .pointer (some ⟨b, off, none⟩)
  lsl : ∀ t k n, s.ρ t = some (.lsl k n) → ∃ b cs, (k, b, cs) ∈ s.l ∧ a.tmps.getD t undef = .slice (some ⟨b, 0, none⟩) n n
  l : ∀ k b cs, (k, b, cs) ∈ s.l → ∃ cs', (k, b, cs') ∈ lc ∧ (k ∉ M → cs' = cs)
  keys : (keysOf s.l).Nodup
  blks : (blocks s.l).Nodup

theorem PreS.good {s : St} {a : Act} {lc : List (Nat × Nat × List Value)} {wa : World} (h : PreS [] s a lc) (hl : LOk lc wa) (hd : s.dirty = false) : Good s a wa wa := by
  refine ⟨⟨h.v, h.loc, h.lsl, ⟨fun k b cs hm => ?_, h.keys, h.blks⟩⟩, fun hx => (by rw [hd] at hx; cases hx), fun _ => rfl⟩
  obtain ⟨cs', h1, h2⟩ := h.l k b cs hm
  have := h2 (by simp)
  subst this
  exact hl.at_ _ _ _ h1

theorem look_none {l : List (Nat × Nat × List Value)} {k : Nat} (h : look k l = none) (hn : (keysOf l).Nodup) : ∀ b cs, (k, b, cs) ∉ l := fun b cs hm => by
  rw [look_of_mem hn hm] at h; cases h
theorem lv_inst {sc : St} {a : Act} {wa : World} (hsc : Agree sc a wa) {F : List Value → St → Prop} : ∀ (lv : List LV) (acc vs : List Value) (s : St), lvAll F lv acc s → lvGet sc lv = some vs → PreS (lvKeys lv) s a sc.l →
    ∃ s', F (acc ++ vs) s' ∧ PreS [] s' a sc.l ∧ s'.dirty = s.dirty ∧ s'.ro = s.ro ∧ ∀ k b cs, (k, b, cs) ∈ s.l → ∃ cs', (k, b, cs') ∈ s'.l ∧ (k ∉ lvKeys lv → cs' = cs)
  | [], acc, vs, s, h, hg, hp => by
    simp only [lvGet, Option.some.injEq] at hg
    subst hg
    exact ⟨s, by rw [List.append_nil]; exact h, hp, rfl, rfl, fun k b cs hm => ⟨cs, hm, fun _ => rfl⟩⟩
  | .slot t ty :: r, acc, vs, s, h, hg, hp => by
    simp only [lvGet] at hg
    split at hg <;> try cases hg
    rename_i v vs' hv hr
    split at hg <;> cases hg
    rename_i hf
    have h1 := Sc.all_inst hf h
    have hp' : PreS (lvKeys r) (s.set t (some (.v v))) a sc.l := by
      have key : ∀ u y, (s.set t (some (.v v))).ρ u = some y → (u = t ∧ y = .v v) ∨ s.ρ u = some y := by
        intro u y hu
        simp only [St.set, beqN] at hu
        by_cases hut : u = t
        · simp only [hut, decide_true, cond_true] at hu; cases hu; exact .inl ⟨hut, rfl⟩
        · simp only [hut, decide_false, cond_false] at hu; exact .inr hu
      refine ⟨fun u y hu => ?_, fun u k off hu => ?_, fun u k n hu => ?_, hp.l, hp.keys, hp.blks⟩
      · rcases key _ _ hu with ⟨e1, e2⟩ | e1
        · cases e2; rw [e1]; exact hsc.v _ _ hv
        · exact hp.v _ _ e1
      · rcases key _ _ hu with ⟨e1, e2⟩ | e1
        · cases e2
        · exact hp.loc _ _ _ e1
      · rcases key _ _ hu with ⟨e1, e2⟩ | e1
        · cases e2
        · exact hp.lsl _ _ _ e1
    obtain ⟨s', h2, h3, h4, h5, h6⟩ := lv_inst hsc r (acc ++ [v]) vs' _ h1 hr hp'
    exact ⟨s', by simpa using h2, h3, h4, h5, h6⟩
  | .loc k scs :: r, acc, vs, s, h, hg, hp => by
    simp only [lvGet] at hg
    split at hg <;> try cases hg
    rename_i b0 cs vs' hv hr
    split at hg <;> cases hg
    rename_i hf
    have h1 := allL_inst hf h
    have hm0 := look_mem hv
    obtain ⟨hk1, hk2⟩ := change_keys s.l k (fun _ => cs)
    have hp' : PreS (lvKeys r) { s with l := change k (fun _ => cs) s.l } a sc.l := by
      refine ⟨hp.v, fun t k' off ht => ?_, fun t k' n ht => ?_, fun k' b cs' hm => ?_, ?_, ?_⟩
      · obtain ⟨b, c1, hm, he⟩ := hp.loc t k' off ht
        obtain ⟨c2, h2⟩ := change_mem (k := k) (f := fun _ => cs) hm
        exact ⟨b, c2, h2, he⟩
      · obtain ⟨b, c1, hm, he⟩ := hp.lsl t k' n ht
        obtain ⟨c2, h2⟩ := change_mem (k := k) (f := fun _ => cs) hm
        exact ⟨b, c2, h2, he⟩
      · rcases mem_change hp.keys hm with ⟨hne, h2⟩ | ⟨rfl, c0, h2, rfl⟩
        · obtain ⟨c2, h3, h4⟩ := hp.l k' b cs' h2
          exact ⟨c2, h3, fun hn => h4 (by simp [lvKeys, hne]; exact hn)⟩
        · obtain ⟨c2, h3, h4⟩ := hp.l k' b c0 h2
          have := inj_of_nodup' hsc.lok.keys h3 hm0 rfl
          cases this
          exact ⟨_, h3, fun _ => rfl⟩
      · show (keysOf (change k (fun _ => cs) s.l)).Nodup
        unfold keysOf; rw [hk1]; exact hp.keys
      · show (blocks (change k (fun _ => cs) s.l)).Nodup
        rw [hk2]; exact hp.blks
    obtain ⟨s', h2, h3, h4, h5, h6⟩ := lv_inst hsc r (acc ++ cs) vs' _ h1 hr hp'
    refine ⟨s', by simpa using h2, h3, h4, h5, fun k' b c hm => ?_⟩
    obtain ⟨c1, h7, h8⟩ := change_mem' (k := k) (f := fun _ => cs) hm
    obtain ⟨c2, h9, h10⟩ := h6 k' b c1 h7
    refine ⟨c2, h9, fun hn => ?_⟩
    simp only [lvKeys, List.mem_cons, not_or] at hn
    exact (h10 hn.2).trans (h8 hn.1)
  | .nloc k scs :: r, acc, vs, s, h, hg, hp => by
    simp only [lvGet] at hg
    split at hg <;> try cases hg
    rename_i k' hkk
    split at hg <;> try cases hg
    rename_i hbeq
    obtain rfl : k = k' := Nat.eq_of_beq_eq_true hbeq
    split at hg <;> try cases hg
    rename_i b0 cs vs' hv hr
    split at hg <;> cases hg
    rename_i hf
    simp only [lvAll] at h
    split at h <;> try exact h.elim
    rename_i hnone
    have h1 := allL_inst hf (h b0)
    have hm0 := look_mem hv
    have habs := look_none hnone hp.keys
    have hp' : PreS (lvKeys r) ({ s with l := (k, b0, cs) :: s.l }.set k (some (.loc k 0))) a sc.l := by
      have key : ∀ u y, ({ s with l := (k, b0, cs) :: s.l }.set k (some (.loc k 0))).ρ u = some y → (u = k ∧ y = .loc k 0) ∨ s.ρ u = some y := by
        intro u y hu
        simp only [St.set, beqN] at hu
        by_cases hut : u = k
        · simp only [hut, decide_true, cond_true] at hu; cases hu; exact .inl ⟨hut, rfl⟩
        · simp only [hut, decide_false, cond_false] at hu; exact .inr hu
      refine ⟨fun t x ht => ?_, fun t k' off ht => ?_, fun t k' n ht => ?_, fun k' b cs' hm => ?_, ?_, ?_⟩
      · rcases key _ _ ht with ⟨e1, e2⟩ | e1
        · cases e2
        · exact hp.v _ _ e1
      · rcases key _ _ ht with ⟨e1, e2⟩ | e1
        · cases e2
          obtain ⟨b, c1, hm, he⟩ := hsc.loc _ _ _ hkk
          have := inj_of_nodup' hsc.lok.keys hm hm0 rfl
          cases this
          exact ⟨b0, cs, List.mem_cons_self .., by rw [e1]; exact he⟩
        · obtain ⟨b, c1, hm, he⟩ := hp.loc t k' off e1; exact ⟨b, c1, List.mem_cons_of_mem _ hm, he⟩
      · rcases key _ _ ht with ⟨e1, e2⟩ | e1
        · cases e2
        · obtain ⟨b, c1, hm, he⟩ := hp.lsl t k' n e1; exact ⟨b, c1, List.mem_cons_of_mem _ hm, he⟩
      · rcases List.mem_cons.1 hm with h2 | h2
        · cases h2; exact ⟨_, hm0, fun _ => rfl⟩
        · obtain ⟨c2, h3, h4⟩ := hp.l k' b cs' h2
          refine ⟨c2, h3, fun hn => h4 ?_⟩
          simp only [lvKeys, List.mem_cons, not_or]
          exact ⟨fun e => habs _ _ (e ▸ h2), hn⟩
      · show (keysOf ((k, b0, cs) :: s.l)).Nodup
        simp only [keysOf, List.map_cons, List.nodup_cons]
        refine ⟨fun hm => ?_, hp.keys⟩
        obtain ⟨⟨k', b', c'⟩, hx, he⟩ := List.mem_map.1 hm
        simp only at he; subst he
        exact habs _ _ hx
      · show (blocks ((k, b0, cs) :: s.l)).Nodup
        simp only [blocks, List.map_cons, List.nodup_cons]
        refine ⟨fun hm => ?_, hp.blks⟩
        obtain ⟨⟨k', b', c'⟩, hx, he⟩ := List.mem_map.1 hm
        simp only at he; subst he
        obtain ⟨c2, h3, _⟩ := hp.l _ _ _ hx
        have := inj_of_nodup hsc.lok.blks h3 hm0 rfl
        cases this
        exact habs _ _ hx
    obtain ⟨s', h2, h3, h4, h5, h6⟩ := lv_inst hsc r (acc ++ ptrB b0 :: cs) vs' _ h1 hr hp'
    refine ⟨s', by simpa using h2, h3, h4, h5, fun k' b c hm => ?_⟩
    obtain ⟨c2, h9, h10⟩ := h6 k' b c (List.mem_cons_of_mem _ hm)
    refine ⟨c2, h9, fun hn => h10 ?_⟩
    simp only [lvKeys, List.mem_cons, not_or] at hn
    exact hn.2

theorem noDefer_of {ops : Array Oper} (h : noDeferB ops = true) : NoDefer ops := by
  intro i o ho c hc
  simp only [noDeferB, List.all_eq_true] at h
  have := h o (by rw [← Array.getElem?_toList] at ho; exact List.mem_of_getElem? ho)
  rw [hc] at this; cases this
theorem wp_loop_rel {r : Option Nat} {P : Program} {Q : Exit → Act → World → Prop} {a : Act} {w : World} {c : Code} (J : Nat → Act → World → Prop) (n₀ : Nat) (h₀ : J n₀ a w)
    (round : ∀ n a w, J n a w → c.wpIn (fR r) 0 P (Exit.then (fun a' w' => ∃ m, m < n ∧ J m a' w') Q) a w) : (Code.loop c).wpIn (fR r) 0 P Q a w := by
  intro b k cs hro hb hr
  have key : ∀ n a w, J n a w → ∃ e a' w', Q e a' w' ∧ ArrivesIn (Machine.fenced P (fR r)) P (lone (b.atR a (.code c :: .inLoop c :: k)) cs w) b k cs e a' w' := by
    intro n
    induction n using Nat.strongRecOn with
    | _ n ih =>
      intro a w hI
      obtain ⟨e, a₁, w₁, hq, harr⟩ := round n a w hI b (.inLoop c :: k) cs hro hb hr
      cases e with
      | normal =>
        obtain ⟨m, hlt, hI₁⟩ := hq
        obtain ⟨e₂, a₂, w₂, hq₂, harr₂⟩ := ih m hlt a₁ w₁ hI₁
        exact ⟨e₂, a₂, w₂, hq₂, .of_steps (StepsIn.trans harr (.one (fenced_calm hb hr rfl) stepR_inLoop)) harr₂⟩
      | exit id => exact ⟨_, a₁, w₁, hq, .pass (x := .inLoop c) rfl (fun _ _ => .inl (by simp)) harr⟩
      | goto l => exact ⟨_, a₁, w₁, hq, .pass (x := .inLoop c) rfl (fun _ _ => .inl (by simp)) harr⟩
      | ret => exact ⟨_, a₁, w₁, hq, .pass (x := .inLoop c) rfl (fun _ _ => .inl (by simp)) harr⟩
      | panic ch => exact ⟨_, a₁, w₁, hq, .pass (x := .inLoop c) rfl (fun _ _ => .inl (by simp)) harr⟩
      | outgrown => exact ⟨_, a₁, w₁, hq, .pass (x := .inLoop c) rfl (fun _ _ => .inl (by simp)) harr⟩
  obtain ⟨e, a', w', hq, harr⟩ := key n₀ a w h₀
  exact ⟨e, a', w', hq, .of_steps (.one (fenced_calm hb hr rfl) stepR_loop) harr⟩

def PostX (ds : List Nat) (a0 : Act) (s0 : St) (X : List PanicEntry → World → Prop) (Q : Exit → St → World → Prop) (e : Exit) (a : Act) (wa : World) : Prop :=
  (∃ ch, e = .panic ch ∧ a.defers = a0.defers ∧ X ch wa) ∨
  ((∀ ch, e ≠ .panic ch) ∧ e ≠ .outgrown ∧ Fr ds a0 a ∧ ∃ s' w', Good s' a w' wa ∧ LFr s0 s' ∧ Q e s' w')
theorem Good.withRo {s : St} {a : Act} {w wa : World} (h : Good s a w wa) (ro : List Nat) : Good (s.withRo ro) a w wa := ⟨⟨h.ag.v, h.ag.loc, h.ag.lsl, h.ag.lok⟩, h.dirty, h.clean⟩
theorem ro_back {s s1 : St} {lv : List LV} (h : LFr (s.withRo (roOf s lv)) s1) : LFr s (s1.withRo s.ro) :=
  ⟨rfl, fun k b cs hm => by
    obtain ⟨c, h1, h2⟩ := h.2 k b cs hm
    exact ⟨c, h1, fun hr => h2 (by simp only [St.withRo, roOf, List.mem_append]; exact .inl hr)⟩⟩
theorem preS_after {s s1 : St} {lv : List LV} {ds : List Nat} {a a1 : Act} {w wa : World} (hg : Good s a w wa) (hf : Fr ds a a1) (hl : LFr (s.withRo (roOf s lv)) s1) :
    PreS (lvKeys lv) (s.del ds).clean a1 s1.l := by
  refine ⟨fun t x hx => ?_, fun t k off hx => ?_, fun t k n hx => ?_, fun k b cs hm => ?_, hg.ag.lok.keys, hg.ag.lok.blks⟩
  · obtain ⟨h1, h2⟩ := St.del_some (s := s) hx
    rw [hf.tmps t h2]; exact hg.ag.v _ _ h1
  · obtain ⟨h1, h2⟩ := St.del_some (s := s) hx
    rw [hf.tmps t h2]; exact hg.ag.loc _ _ _ h1
  · obtain ⟨h1, h2⟩ := St.del_some (s := s) hx
    rw [hf.tmps t h2]; exact hg.ag.lsl _ _ _ h1
  · obtain ⟨c, h1, h2⟩ := hl.2 k b cs hm
    refine ⟨c, h1, fun hn => h2 ?_⟩
    simp only [St.withRo, roOf, List.mem_append, List.mem_filter]
    refine .inr ⟨List.mem_map.2 ⟨(k, b, cs), hm, rfl⟩, ?_⟩
    cases hb : (lvKeys lv).any (Nat.beq k)
    · rfl
    · obtain ⟨x, hx, he⟩ := List.any_eq_true.1 hb
      exact absurd (Nat.eq_of_beq_eq_true he ▸ hx) hn
theorem lvIs_some {s : St} {lv : List LV} {F : List Value → Prop} (h : lvIs s lv F) : ∃ vs, lvGet s lv = some vs ∧ F vs := by
  unfold lvIs at h
  split at h
  · exact ⟨_, ‹_›, h⟩
  · exact h.elim
theorem lfr_inst {s s1 s' : St} {lv : List LV} {ds : List Nat} {a1 : Act} {wa : World} (hl : LFr (s.withRo (roOf s lv)) s1) (hk : LOk s1.l wa) (hp : PreS [] s' a1 s1.l) (hro : s'.ro = (s.del ds).clean.ro)
    (h6 : ∀ k b cs, (k, b, cs) ∈ (s.del ds).clean.l → ∃ cs', (k, b, cs') ∈ s'.l ∧ (k ∉ lvKeys lv → cs' = cs)) : LFr s s' :=
  ⟨hro, fun k b cs hm => by
    obtain ⟨c1, h1, _⟩ := h6 k b cs hm
    refine ⟨c1, h1, fun hr => ?_⟩
    obtain ⟨c2, h2, h3⟩ := hp.l k b c1 h1
    have := h3 (by simp)
    subst this
    obtain ⟨c3, h4, h5⟩ := hl.2 k b cs hm
    have e1 := h5 (by simp only [St.withRo, roOf, List.mem_append]; exact .inl hr)
    subst e1
    have := inj_of_nodup' hk.keys h2 h4 rfl
    cases this; rfl⟩

section
variable {P : Program} {X : List PanicEntry → World → Prop} {N : Nat}
theorem postX_trans {ds es fs : List Nat} {a0 a1 : Act} {s0 s1 : St} {Q : Exit → St → World → Prop} (hfr : Fr ds a0 a1) (hl : LFr s0 s1) (h1 : ∀ t, t ∈ ds → t ∈ fs) (h2 : ∀ t, t ∈ es → t ∈ fs)
    {e : Exit} {a : Act} {w : World} (h : PostX es a1 s1 X Q e a w) : PostX fs a0 s0 X Q e a w := by
  rcases h with ⟨ch, rfl, hd, hx⟩ | ⟨hne, hno, hf, s', w', hg, hl', hq⟩
  · exact .inl ⟨ch, rfl, hd.trans hfr.defers, hx⟩
  · exact .inr ⟨hne, hno, (hfr.mono h1).trans (hf.mono h2), s', w', hg, hl.trans hl', hq⟩
theorem postX_mono {ds fs : List Nat} {a0 : Act} {s0 : St} {Q : Exit → St → World → Prop} (h1 : ∀ t, t ∈ ds → t ∈ fs)
    {e : Exit} {a : Act} {w : World} (h : PostX ds a0 s0 X Q e a w) : PostX fs a0 s0 X Q e a w :=
  postX_trans (Fr.refl ds a0) (LFr.refl s0) h1 h1 h
theorem then_normal {e : Exit} {next : St → World → Prop} {Q : Exit → St → World → Prop} {s : St} {w : World} (h : thenQ next Q e s w) : (e = .normal ∧ next s w) ∨ (e ≠ .normal ∧ Q e s w) := by
  cases e <;> first | exact .inl ⟨rfl, h⟩ | exact .inr ⟨by simp, h⟩
theorem exit_then {e : Exit} {next : Act → World → Prop} {Q : Exit → Act → World → Prop} {a : Act} {w : World} (hne : e ≠ .normal) (h : Q e a w) : Exit.then next Q e a w := by
  cases e <;> first | exact absurd rfl hne | exact h

theorem code_sound {r : Option Nat} (hm : P.follows .mixedOrders = true) : ∀ (ac : AC) (c : Code) (s : St) (w wa : World) (a : Act) (Q : Exit → St → World → Prop), okC P N ac c = true → vc P X ac c s w Q → Good s a w wa → a.tmps.size = N →
    c.wpIn (fR r) 0 P (PostX (cdsts c) a s X Q) a wa := by
  intro ac
  induction ac with
  | skip =>
    intro c s w wa a Q hok h hg hN
    cases c <;> simp only [vc] at h <;> try exact h.elim
    exact wpIn_skip (.inr ⟨by simp, by simp, Fr.refl _ _, s, w, hg, LFr.refl s, h⟩)
  | ret =>
    intro c s w wa a Q hok h hg hN
    cases c <;> simp only [vc] at h <;> try exact h.elim
    exact wpIn_ret (.inr ⟨by simp, by simp, Fr.refl _ _, s, w, hg, LFr.refl s, h⟩)
  | exit =>
    intro c s w wa a Q hok h hg hN
    cases c <;> simp only [vc] at h <;> try exact h.elim
    exact wpIn_exit (.inr ⟨by simp, by simp, Fr.refl _ _, s, w, hg, LFr.refl s, h⟩)
  | reg p =>
    intro c s w wa a Q hok h hg hN
    cases c <;> simp only [vc] at h <;> try exact h.elim
    rename_i id ops dr
    simp only [okC, Bool.and_eq_true] at hok
    have hnd := noDefer_of hok.1.1
    have hQ : ∀ c a' d v w', PostX (odsts ops) a s X Q (.panic c) (Act.put a' d v) w' → PostX (odsts ops) a s X Q (.panic c) a' w' := by
      intro c a' d v w' hx
      rcases hx with ⟨ch, he, hd, hx⟩ | ⟨hne, _⟩
      · cases he
        refine .inl ⟨c, rfl, ?_, hx⟩
        cases d <;> exact hd
      · exact absurd rfl (hne c)
    have hX : ∀ ch w' a', Fr (odsts ops) a a' → X ch w' → PostX (odsts ops) a s X Q (.panic ch) a' w' := fun ch w' a' hf hx => .inl ⟨ch, rfl, hf.defers, hx⟩
    have hfin : ∀ s' a' w' wa', Fr (odsts ops) a a' → Good s' a' w' wa' → LFr s s' → Q .normal s' w' → PostX (odsts ops) a s X Q .normal a' wa' :=
      fun s' a' w' wa' hf hg' hl hq => .inr ⟨by simp, by simp, hf, s', w', hg', hl, hq⟩
    cases dr with
    | false =>
      have := (plan_sound (P := P) (X := X) (dr := false) (ds := odsts ops) (r := r) hok.1.2 hQ hX hfin p ops.size #[] a s w wa trivial hg (Fr.refl _ _) (LFr.refl s) hN h).1 hok.2
      refine wpIn_region (wpOpsR_in hnd _ _ _ ?_)
      simp only [G, Nat.sub_self] at this
      rwa [← List.range_eq_range'] at this
    | true =>
      have hg' : Good s a (drewW true s w) wa.drew := by
        cases hd : s.dirty
        · have := hg.clean hd
          subst this
          exact ⟨hg.ag.ext (Ext.refl _).drew, fun hx => (by rw [hd] at hx; cases hx), fun _ => by simp [drewW, hd]⟩
        · have hl := hg.dirty hd
          refine ⟨hg.ag.ext (Ext.refl _).drew, fun _ => ?_, fun hx => (by rw [hd] at hx; cases hx)⟩
          simp only [drewW, hd]
          exact ⟨hl.os, hl.tape, hl.output, hl.size, hl.block, hl.there⟩
      have hcl : Cl true ops (Array.replicate ops.size false) := by
        intro j o hj
        simp [Array.getElem?_replicate] at hj
        split at hj <;> simp at hj
      have := (plan_sound (P := P) (X := X) (dr := true) (ds := odsts ops) (r := r) hok.1.2 hQ hX hfin p ops.size _ a s _ wa.drew hcl hg' (Fr.refl _ _) (LFr.refl s) hN h).1 hok.2
      exact wpIn_region_any hm (wpAnyR_in hnd _ _ _ _ (wpAny_of_K _ _ _ _ this))
  | seq x y ihx ihy =>
    intro c s w wa a Q hok h hg hN
    cases c <;> simp only [vc] at h <;> try exact h.elim
    rename_i cx cy
    simp only [okC, Bool.and_eq_true] at hok
    refine wpIn_seq (wpIn_mono (ihx cx s w wa a _ hok.1 h hg hN) ?_)
    intro e a1 wa1 hp
    rcases hp with ⟨ch, rfl, hd, hx⟩ | ⟨hne, hno, hf, s1, w1, hg1, hl1, hq⟩
    · exact .inl ⟨ch, rfl, hd, hx⟩
    · rcases then_normal hq with ⟨rfl, hq⟩ | ⟨hn, hq⟩
      · exact wpIn_mono (ihy cy s1 w1 wa1 a1 Q hok.2 hq hg1 (by rw [hf.size]; exact hN)) fun e a2 w2 h2 =>
          postX_trans hf hl1 (fun t ht => by simp [cdsts, ht]) (fun t ht => by simp [cdsts, ht]) h2
      · exact exit_then hn (.inr ⟨hne, hno, hf.mono (fun t ht => by simp [cdsts, ht]), s1, w1, hg1, hl1, hq⟩)
  | cut lv x y ihx ihy =>
    intro c s w wa a Q hok h hg hN
    cases c <;> simp only [vc] at h <;> try exact h.elim
    rename_i cx cy
    simp only [okC, Bool.and_eq_true] at hok
    obtain ⟨R, hx, hy⟩ := h
    refine wpIn_seq (wpIn_mono (ihx cx _ w wa a _ hok.1 hx (hg.withRo _) hN) ?_)
    intro e a1 wa1 hp
    rcases hp with ⟨ch, rfl, hd, hx⟩ | ⟨hne, hno, hf, s1, w1, hg1, hl1, hq⟩
    · exact .inl ⟨ch, rfl, hd, hx⟩
    · rcases then_normal hq with ⟨rfl, hq⟩ | ⟨hn, hq⟩
      · obtain ⟨vs, hvs, hR⟩ := lvIs_some (hg1.sync hq)
        obtain ⟨s2, h2, h3, h4, h5, h6⟩ := lv_inst hg1.ag lv [] vs _ hy hvs (preS_after hg hf hl1)
        have hg2 : Good s2 a1 wa1 wa1 := h3.good hg1.ag.lok (by rw [h4]; rfl)
        have hl2 : LFr s s2 := lfr_inst hl1 hg1.ag.lok h3 h5 h6
        simp only [List.nil_append] at h2
        exact wpIn_mono (ihy cy s2 wa1 wa1 a1 Q hok.2 (h2 wa1 hR) hg2 (by rw [hf.size]; exact hN)) fun e a2 w2 h7 =>
          postX_trans hf hl2 (fun t ht => by simp [cdsts, ht]) (fun t ht => by simp [cdsts, ht]) h7
      · exact exit_then hn (.inr ⟨hne, hno, hf.mono (fun t ht => by simp [cdsts, ht]), s1.withRo s.ro, w1, hg1.withRo _, ro_back hl1, hq⟩)
  | cond x y ihx ihy =>
    intro c s w wa a Q hok h hg hN
    cases c <;> simp only [vc] at h <;> try exact h.elim
    rename_i co cx cy
    simp only [okC, Bool.and_eq_true] at hok
    split at h <;> try exact h.elim
    rename_i t ht
    refine wpIn_cond (hg.ag.ev ht) ?_
    rcases brB_elim h with ⟨rfl, h⟩ | ⟨rfl, h⟩
    · exact wpIn_mono (ihx cx s w wa a Q hok.1 h hg hN) fun e a1 w1 h1 => postX_mono (fun t ht => by simp [cdsts, ht]) h1
    · exact wpIn_mono (ihy cy s w wa a Q hok.2 h hg hN) fun e a1 w1 h1 => postX_mono (fun t ht => by simp [cdsts, ht]) h1
  | block x ihx =>
    intro c s w wa a Q hok h hg hN
    cases c <;> simp only [vc] at h <;> try exact h.elim
    rename_i id cx
    simp only [okC] at hok
    refine wpIn_block (wpIn_mono (ihx cx s w wa a _ hok h hg hN) ?_)
    intro e a1 wa1 hp
    rcases hp with ⟨ch, rfl, hd, hx⟩ | ⟨hne, hno, hf, s1, w1, hg1, hl1, hq⟩
    · exact .inl ⟨ch, rfl, hd, hx⟩
    · cases e with
      | exit id' =>
        simp only [blockQ] at hq
        simp only [Exit.inBlock]
        split at hq
        · rename_i hb
          rw [if_pos (Nat.eq_of_beq_eq_true hb)]
          exact .inr ⟨by simp, by simp, hf, s1, w1, hg1, hl1, hq⟩
        · rename_i hb
          rw [if_neg (fun e => by subst e; simp at hb)]
          exact .inr ⟨by simp, by simp, hf, s1, w1, hg1, hl1, hq⟩
      | outgrown => exact absurd rfl hno
      | panic ch => exact absurd rfl (hne ch)
      | normal => exact .inr ⟨by simp, by simp, hf, s1, w1, hg1, hl1, hq⟩
      | goto l => exact .inr ⟨by simp, by simp, hf, s1, w1, hg1, hl1, hq⟩
      | ret => exact .inr ⟨by simp, by simp, hf, s1, w1, hg1, hl1, hq⟩
  | bcut lv x ihx =>
    intro c s w wa a Q hok h hg hN
    cases c <;> simp only [vc] at h <;> try exact h.elim
    rename_i id cx
    simp only [okC] at hok
    obtain ⟨R, hx, hy⟩ := h
    refine wpIn_block (wpIn_mono (ihx cx _ w wa a _ hok hx (hg.withRo _) hN) ?_)
    intro e a1 wa1 hp
    rcases hp with ⟨ch, rfl, hd, hx⟩ | ⟨hne, hno, hf, s1, w1, hg1, hl1, hq⟩
    · exact .inl ⟨ch, rfl, hd, hx⟩
    · have fin : (sync s1 w1 fun w' => lvIs s1 lv fun vs => R vs w') → PostX (cdsts (.block id cx)) a s X Q .normal a1 wa1 := by
        intro hq
        obtain ⟨vs, hvs, hR⟩ := lvIs_some (hg1.sync hq)
        obtain ⟨s2, h2, h3, h4, h5, h6⟩ := lv_inst hg1.ag lv [] vs _ hy hvs (preS_after hg hf hl1)
        have hg2 : Good s2 a1 wa1 wa1 := h3.good hg1.ag.lok (by rw [h4]; rfl)
        have hl2 : LFr s s2 := lfr_inst hl1 hg1.ag.lok h3 h5 h6
        simp only [List.nil_append] at h2
        exact .inr ⟨by simp, by simp, hf, s2, wa1, hg2, hl2, h2 wa1 hR⟩
      cases e with
      | exit id' =>
        simp only [blockQ] at hq
        simp only [Exit.inBlock]
        split at hq
        · rename_i hb
          rw [if_pos (Nat.eq_of_beq_eq_true hb)]
          exact fin hq
        · rename_i hb
          rw [if_neg (fun e => by subst e; simp at hb)]
          exact .inr ⟨by simp, by simp, hf, s1.withRo s.ro, w1, hg1.withRo _, ro_back hl1, hq⟩
      | outgrown => exact absurd rfl hno
      | panic ch => exact absurd rfl (hne ch)
      | normal => exact fin hq
      | goto l => exact .inr ⟨by simp, by simp, hf, s1.withRo s.ro, w1, hg1.withRo _, ro_back hl1, hq⟩
      | ret => exact .inr ⟨by simp, by simp, hf, s1.withRo s.ro, w1, hg1.withRo _, ro_back hl1, hq⟩
  | loop lv x ihx =>
    intro c s w wa a Q hok h hg hN
    cases c <;> simp only [vc] at h <;> try exact h.elim
    rename_i cx
    simp only [okC] at hok
    obtain ⟨I, μ, h0, hr⟩ := h
    obtain ⟨vs0, hvs0, hI0⟩ := lvIs_some (hg.sync h0)
    have start : LFr (s.withRo (roOf s lv)) (s.withRo (roOf s lv)) := LFr.refl _
    refine wp_loop_rel (fun n a1 wa1 => ∃ s1 vs, Fr (cdsts cx) a a1 ∧ Good s1 a1 wa1 wa1 ∧ LFr (s.withRo (roOf s lv)) s1 ∧ lvGet s1 lv = some vs ∧ I vs wa1 ∧ n = μ vs wa1) (μ vs0 wa)
      ⟨(s.withRo (roOf s lv)).clean, vs0, Fr.refl _ _, (hg.withRo _).ag.good, LFr.of_eq rfl rfl, ?_, hI0, rfl⟩ ?_
    · have : ∀ (lv' : List LV) (t : St), lvGet s lv' = lvGet { s with ro := t.ro, dirty := t.dirty } lv' := by
        intro lv' t
        induction lv' with
        | nil => rfl
        | cons x r ih => cases x <;> simp only [lvGet, ih]
      rw [this lv (s.withRo (roOf s lv)).clean] at hvs0
      exact hvs0
    · rintro n a1 wa1 ⟨s1, vs, hf, hg1, hl1, hvs, hI, rfl⟩
      obtain ⟨s2, h2, h3, h4, h5, h6⟩ := lv_inst hg1.ag lv [] vs _ hr hvs (preS_after hg hf hl1)
      have hg2 : Good s2 a1 wa1 wa1 := h3.good hg1.ag.lok (by rw [h4]; rfl)
      have hl2 : LFr s s2 := lfr_inst hl1 hg1.ag.lok h3 h5 h6
      have hl3 : LFr (s.withRo (roOf s lv)) (s2.withRo (roOf s lv)) :=
        ⟨rfl, fun k b cs hmem => by
          obtain ⟨c1, e1, e2⟩ := h6 k b cs hmem
          refine ⟨c1, e1, fun hro => ?_⟩
          simp only [St.withRo, roOf, List.mem_append, List.mem_filter] at hro
          rcases hro with hro | hro
          · obtain ⟨c2, e3, e4⟩ := hl2.2 k b cs hmem
            have := inj_of_nodup' hg2.ag.lok.keys e1 e3 rfl
            cases this
            exact e4 hro
          · refine e2 (fun hm' => ?_)
            have : (lvKeys lv).any (Nat.beq k) = true := List.any_eq_true.2 ⟨k, hm', by simp⟩
            rw [this] at hro
            simp at hro⟩
      simp only [List.nil_append] at h2
      refine wpIn_mono (ihx cx _ wa1 wa1 a1 _ hok (h2 wa1 hI) (hg2.withRo _) (by rw [hf.size]; exact hN)) ?_
      intro e a2 wa2 hp
      rcases hp with ⟨ch, rfl, hd, hx⟩ | ⟨hne, hno, hf2, s3, w3, hg3, hlf3, hq⟩
      · exact .inl ⟨ch, rfl, hd.trans hf.defers, hx⟩
      · have hl4 : LFr (s.withRo (roOf s lv)) s3 := hl3.trans hlf3
        rcases then_normal hq with ⟨rfl, hq⟩ | ⟨hn, hq⟩
        · obtain ⟨vs', hvs', hI', hμ⟩ := lvIs_some (hg3.sync hq)
          refine ⟨μ vs' wa2, hμ, s3.clean, vs', hf.trans hf2, hg3.ag.good, hl4.trans (LFr.of_eq rfl rfl), ?_, hI', rfl⟩
          have : ∀ (lv' : List LV), lvGet s3 lv' = lvGet s3.clean lv' := by
            intro lv'
            induction lv' with
            | nil => rfl
            | cons x r ih => cases x <;> simp only [lvGet, ih] <;> rfl
          rw [← this]; exact hvs'
        · exact exit_then hn (.inr ⟨hne, hno, (hf.trans hf2).mono (fun t ht => ht), s3.withRo s.ro, w3, hg3.withRo _, ro_back hl4, hq⟩)

/-! ## Functions -/
inductive Res
  | tmp (t : Nat)
  | cell (t : Nat) (sh : Sh)
def resOf (P : Program) : List ResultVar → Option (List Res)
  | [] => some []
  | .tmp t :: r => (resOf P r).map (.tmp t :: ·)
  | .cell t ty :: r => match aggT P ty, szT P ty, zeroT P ty, resOf P r with
    | some false, _, some z, some rs => some (.cell t (.sc (scOf z)) :: rs)
    | some true, some n, some (.agg cs), some rs => match Nat.beq n cs.size with | true => some (.cell t (.agg (cs.toList.map scOf)) :: rs) | false => none
    | _, _, _, _ => none
/-- the results, one by one, in a world that is known -/
def vcRes (s : St) (w : World) : List Res → List Value → (List Value → Prop) → Prop
  | [], acc, K => K acc
  | .tmp t :: r, acc, K => match s.ρ t with
    | some (.v v) => vcRes s w r (acc ++ [v]) K
    | _ => False
  | .cell t sh :: r, acc, K => match s.ρ t with
    | some (.v (.pointer p)) => nn p fun a => match sh with
      | .sc sc => sc.ex fun v => w.cell? a = some v ∧ vcRes s w r (acc ++ [v]) K
      | .agg l => exL l fun vs => cellsAt w a vs 0 (vcRes s w r (acc ++ [.agg vs.toArray]) K)
    | some (.loc k off) => match look k s.l with
      | some (_, cs) => match sh with
        | .sc _ => match cs[off]? with | some v => vcRes s w r (acc ++ [v]) K | none => False
        | .agg l => match Nat.ble (off + l.length) cs.length with | true => vcRes s w r (acc ++ [.agg ((cs.drop off).take l.length).toArray]) K | false => False
      | none => False
    | _ => False
def retV : List Value → Value
  | [v] => v
  | vs => .tuple vs.toArray
def vcRet (rs : List Res) (s : St) (w : World) (R : Ending → World → Prop) : Prop := sync s w fun w => vcRes s w rs [] fun vs => R (.returned (retV vs)) w
def start (args : List Value) : St := { ρ := fun t => (args[t]?).map EV.v, l := [], dirty := false, ro := [] }
def FnVc (P : Program) (fn : Func) (ac : AC) (args : List Value) (w : World) (R : Ending → World → Prop) : Prop :=
  match fn.body, resOf P fn.results.toList with
  | some c, some rs => vc P (fun ch w => R (.panicked ch) w) ac c (start args) w fun e s w' => match e with
    | .normal => vcRet rs s w' R
    | .ret => vcRet rs s w' R
    | _ => False
  | _, _ => False
def okFn (P : Program) (fn : Func) (ac : AC) (n : Nat) : Bool :=
  match fn.body with
  | some c => okC P fn.ntmps ac c && Nat.ble n fn.ntmps
  | none => false

def resOne (tmps : Array Value) : ResultVar → Sem Value
  | .tmp t => pure (tmps.getD t undef)
  | .cell a t => do loadVar t (← asAddr (tmps.getD a undef))
theorem res_sound {s : St} {a : Act} {wa : World} (hg : Agree s a wa) : ∀ (rv : List ResultVar) (rs : List Res) (acc : List Value) (K : List Value → Prop), resOf P rv = some rs → vcRes s wa rs acc K →
    ∃ vs : List Value, (rv.mapM (resOne a.tmps)).run P wa = .ok vs wa ∧ K (acc ++ vs)
  | [], rs, acc, K, h1, h2 => by
    simp [resOf] at h1; subst h1
    exact ⟨[], rfl, by simpa [vcRes] using h2⟩
  | .tmp t :: rv, rs, acc, K, h1, h2 => by
    simp only [resOf] at h1
    cases hr : resOf P rv with
    | none => rw [hr] at h1; cases h1
    | some rs' =>
      rw [hr] at h1; cases h1
      simp only [vcRes] at h2
      split at h2 <;> try exact h2.elim
      rename_i v hv
      obtain ⟨vs, h3, h4⟩ := res_sound hg rv rs' _ K hr h2
      refine ⟨v :: vs, ?_, by simpa using h4⟩
      simp only [List.mapM_cons, resOne, Sem.run_bind, Sem.run_pure, Result.andThen_ok]
      rw [h3]
      simp only [Result.andThen_ok, hg.v _ _ hv]
  | .cell x t :: rv, rs, acc, K, h1, h2 => by
    simp only [resOf] at h1
    have fin : ∀ (y : Addr) (v : Value) (rs' : List Res), a.tmps.getD x undef = .pointer (some y) → (loadVar t y).run P wa = .ok v wa → resOf P rv = some rs' → vcRes s wa rs' (acc ++ [v]) K →
        ∃ vs : List Value, ((ResultVar.cell x t :: rv).mapM (resOne a.tmps)).run P wa = .ok vs wa ∧ K (acc ++ vs) := by
      intro y v rs' hy hl hr h2
      obtain ⟨vs, h3, h4⟩ := res_sound hg rv rs' _ K hr h2
      refine ⟨v :: vs, ?_, by simpa using h4⟩
      simp only [List.mapM_cons, resOne, Sem.run_bind, Sem.run_pure, Result.andThen_ok, hy, asAddr, hl]
      rw [h3]
      simp only [Result.andThen_ok]
    split at h1 <;> try cases h1
    · rename_i z rs' hagg hz hr
      simp only [vcRes] at h2
      split at h2 <;> try exact h2.elim
      · rename_i p hp
        obtain ⟨y, rfl, h2⟩ := nn_some h2
        obtain ⟨v, hc, h2⟩ := Sc.ex_some h2
        exact fin y v rs' (hg.v _ _ hp) (run_loadVar_sc hagg hc) hr h2
      · rename_i k off hp
        obtain ⟨b, cs, hm, he⟩ := hg.loc _ _ _ hp
        split at h2 <;> try exact h2.elim
        rename_i b' cs' hl
        rw [look_of_mem hg.lok.keys hm] at hl
        cases hl
        split at h2 <;> try exact h2.elim
        rename_i v hv
        obtain ⟨hlt, e, hb⟩ := hg.lok.at_ _ _ _ hm
        exact fin _ v rs' he (run_loadVar_sc hagg (cell_of_block hb hv)) hr h2
    · rename_i n cs rs' hagg hsz hz hr
      split at h1 <;> cases h1
      rename_i hn
      have hn' : n = cs.toList.length := by simpa using Nat.eq_of_beq_eq_true hn
      simp only [vcRes] at h2
      split at h2 <;> try exact h2.elim
      · rename_i p hp
        obtain ⟨y, rfl, h2⟩ := nn_some h2
        obtain ⟨vs, hlen, h2⟩ := exL_some h2
        obtain ⟨hc, h2⟩ := cellsAt_spec h2
        exact fin y _ rs' (hg.v _ _ hp) (run_loadVar_agg hagg (by rw [hsz, hn', hlen]; simp) (fun j v hj => by simpa using hc j v hj)) hr h2
      · rename_i k off hp
        obtain ⟨b, ls, hm, he⟩ := hg.loc _ _ _ hp
        split at h2 <;> try exact h2.elim
        rename_i b' cs' hl
        rw [look_of_mem hg.lok.keys hm] at hl
        cases hl
        split at h2 <;> try exact h2.elim
        rename_i hle
        have hle := Nat.le_of_ble_eq_true hle
        obtain ⟨hlt, e, hb⟩ := hg.lok.at_ _ _ _ hm
        refine fin _ _ rs' he (run_loadVar_agg (vs := (ls.drop off).take (cs.toList.map scOf).length) hagg (by rw [hsz, hn']; simp at hle ⊢; omega) (fun j v hj => ?_)) hr h2
        rw [loc_add]
        refine cell_of_block hb ?_
        rw [List.getElem?_take] at hj
        split at hj
        · rw [List.getElem?_drop] at hj; exact hj
        · cases hj

theorem calls_of_vc {f : FuncId} {fn : Func} {ac : AC} {args : List Value} {w : World} {R : Ending → World → Prop} (hm : P.follows .mixedOrders = true) (hf : P.funcs[f]? = some fn)
    (hok : okFn P fn ac args.length = true) (h : FnVc P fn ac args w R) : Calls P f args.toArray w R := by
  unfold FnVc at h
  unfold okFn at hok
  cases hb : fn.body with
  | none => rw [hb] at hok; cases hok
  | some c =>
    rw [hb] at h hok
    cases hr : resOf P fn.results.toList with
    | none => rw [hr] at h; exact h.elim
    | some rs =>
      rw [hr] at h
      simp only at h
      simp only [Bool.and_eq_true] at hok
      have hle := Nat.le_of_ble_eq_true hok.2
      let a0 : Act := { tmps := args.toArray ++ Array.replicate (fn.ntmps - args.toArray.size) undef, defers := [] }
      have hN : a0.tmps.size = fn.ntmps := by simp [a0]; omega
      have hg : Good (start args) a0 w w := by
        refine ⟨⟨fun t x hx => ?_, fun t k off hx => ?_, fun t k n hx => ?_, ⟨fun k b cs hm => by simp [start] at hm, by simp [start], by simp [start, blocks]⟩⟩, fun hd => by simp [start] at hd, fun _ => rfl⟩
        · simp only [start, Option.map_eq_some_iff] at hx
          obtain ⟨y, hy, he⟩ := hx
          cases he
          have hlt : t < args.length := (List.getElem?_eq_some_iff.1 hy).1
          simp only [a0]
          rw [Array.getD_eq_getD_getElem?, Array.getElem?_append_left (by simpa using hlt)]
          simp [hy]
        · simp only [start, Option.map_eq_some_iff] at hx
          obtain ⟨y, hy, he⟩ := hx
          cases he
        · simp only [start, Option.map_eq_some_iff] at hx
          obtain ⟨y, hy, he⟩ := hx
          cases he
      refine calls_of_wp hf hb (wp_mono (wpIn_wide.1 (code_sound (r := none) hm ac c (start args) w w a0 _ hok.1 h hg hN)) ?_)
      intro e a' wa' hp
      have ret : ∀ s' w', Good s' a' w' wa' → a'.defers = [] → vcRet rs s' w' R → a'.defers = [] ∧ ∃ v, (results fn a'.tmps).run P wa' = .ok v wa' ∧ R (.returned v) wa' := by
        intro s' w' hg' hd hv
        refine ⟨hd, ?_⟩
        have hv := hg'.sync hv
        obtain ⟨vs, h1, h2⟩ := res_sound hg'.ag fn.results.toList rs [] _ hr hv
        refine ⟨retV vs, ?_, by simpa using h2⟩
        have h3 : (fn.results.mapM (resOne a'.tmps)).run P wa' = .ok vs.toArray wa' := by
          rw [Array.mapM_eq_mapM_toList]
          simp only [Sem.run_map, h1, Result.andThen_ok]
        have h4 : results fn a'.tmps = (do
            let vs ← fn.results.mapM (resOne a'.tmps)
            pure (if h : vs.size = 1 then vs[0] else .tuple vs)) := by
          unfold results
          congr 2
        rw [h4]
        simp only [Sem.run_bind, h3, Result.andThen_ok, Sem.run_pure]
        congr 1
        cases vs with
        | nil => rfl
        | cons v vs => cases vs <;> simp [retV]
      rcases hp with ⟨ch, rfl, hd, hx⟩ | ⟨hne, hno, hf2, s', w', hg', _, hq⟩
      · exact ⟨hd, hx⟩
      · cases e with
        | normal => exact ret s' w' hg' hf2.defers hq
        | ret => exact ret s' w' hg' hf2.defers hq
        | exit id => exact hq.elim
        | goto l => exact hq.elim
        | panic ch => exact absurd rfl (hne ch)
        | outgrown => exact absurd rfl hno
end
end Go.Vc

