/- A calculus of conditions over codes, part 4: codes, loops, functions. -/
import Derived.RecoverIn
import Derived.Test.YtiiaihiliimcoaaProg
import Derived.Test.YtiiaihiliimcoaaRPA2
set_option linter.unusedVariables false
set_option linter.unusedSimpArgs false
namespace Go.Vc
open Go.RowKit
inductive LV
 | slot (t : Nat) (sc : Sc)
 | loc (k : Nat) (scs : List Sc)
 | nloc (k : Nat) (scs : List Sc)
def Sc.fits : Sc → Value → Bool
 | .int k, .int k' _ => decide (k = k')
 | .bool, .bool _ => true
 | .str, .string _ => true
 | .ptr, .pointer _ => true
 | .slice, .slice _ _ _ => true
 | .map, .map _ => true
 | .fn, .func (.func _) _ _ => true
 | .any, _ => true
 | _, _ => false
def fitsL : List Sc → List Value → Bool
 | [], [] => true
 | s :: l, v :: vs => s.fits v && fitsL l vs
 | _, _ => false
def allL : List Sc → (List Value → Prop) → Prop
 | [], F => F []
 | s :: l, F => s.all fun v => allL l fun vs => F (v :: vs)
theorem Sc.all_inst {s : Sc} {v : Value} {F : Value → Prop} (hf : s.fits v = true) (h : s.all F) : F v := by
 cases s <;> cases v <;> simp [Sc.fits] at hf <;> simp only [Sc.all] at h <;> first | exact h _ | exact h _ _ _ | (subst hf; exact h _) | (rename_i f _ _; cases f <;> simp at hf; exact h _ _ _)
theorem allL_inst : ∀ {l : List Sc} {vs : List Value} {F : List Value → Prop}, fitsL l vs = true → allL l F → F vs
 | [], [], _, _, h => h
 | s :: l, v :: vs, F, hf, h => by
  simp only [fitsL, Bool.and_eq_true] at hf
  exact allL_inst (F := fun vs => F (v :: vs)) hf.2 (Sc.all_inst hf.1 h)
def Sh.all : Sh → (Value → Prop) → Prop
 | .sc s, K => s.all K
 | .agg l, K => allL l fun vs => K (.agg vs.toArray)
 | .row n, K => ∀ vs : List Value, vs.length = n → K (.agg vs.toArray)
def allT : List Sh → (List Value → Prop) → Prop
 | [], F => F []
 | s :: l, F => s.all fun v => allT l fun vs => F (v :: vs)
def ptrB (b : Nat) : Value := .pointer (some ⟨b, 0, none⟩)
def lvGet (s : St) : List LV → Option (List Value)
 | [] => some []
 | .slot t sc :: r => match s.ρ t, lvGet s r with
  | some (.v v), some vs => match sc.fits v with | true => some (v :: vs) | false => none
  | _, _ => none
 | .loc k scs :: r => match look k s.l, lvGet s r with
  | some (_, cs), some vs => match fitsL scs cs with | true => some (cs ++ vs) | false => none
  | _, _ => none
 | .nloc k scs :: r => match s.ρ k with
  | some (.loc k' 0) => match Nat.beq k k' with
   | true => match look k s.l, lvGet s r with
    | some (b, cs), some vs => match fitsL scs cs with | true => some (ptrB b :: (cs ++ vs)) | false => none
    | _, _ => none
   | false => none
  | _ => none
def lvAll (F : List Value → St → Prop) : List LV → List Value → St → Prop
 | [], acc, s => F acc s
 | .slot t sc :: r, acc, s => sc.all fun v => lvAll F r (acc ++ [v]) (s.set t (some (.v v)))
 | .loc k scs :: r, acc, s => allL scs fun cs => lvAll F r (acc ++ cs) { s with l := change k (fun _ => cs) s.l }
 | .nloc k scs :: r, acc, s => match look k s.l with
  | none => ∀ b : Nat, allL scs fun cs => lvAll F r (acc ++ ptrB b :: cs) ({ s with l := (k, b, cs) :: s.l }.set k (some (.loc k 0)))
  | some _ => False
def lvKeys : List LV → List Nat
 | [] => []
 | .slot _ _ :: r => lvKeys r
 | .loc k _ :: r => k :: lvKeys r
 | .nloc k _ :: r => k :: lvKeys r
def keysOf (l : List (Nat × Nat × List Value)) : List Nat := l.map (·.1)
inductive AC
 | skip | ret | exit
 | reg (p : Plan)
 | regR (rl : List Nat) (p : Plan)
 | seq (a b : AC)
 | cut (lv : List LV) (a b : AC)
 | cond (a b : AC)
 | block (a : AC)
 | bcut (lv : List LV) (a : AC)
 | loop (lv : List LV) (a : AC)
 | rfunc (pn : Bool) (lv : List LV) (shs : List Sh) (a b : AC)
 | dfr (a : AC)
def odsts (ops : Array Oper) : List Nat := ops.toList.filterMap (·.dst)
def cdsts : Code → List Nat
 | .region _ ops _ => odsts ops
 | .seq a b => cdsts a ++ cdsts b
 | .cond _ a b => cdsts a ++ cdsts b
 | .block _ a => cdsts a
 | .loop a => cdsts a
 | .scope a => cdsts a
 | _ => []
def hasRf : Code → Bool
 | .seq a b => hasRf a || hasRf b
 | .cond _ a b => hasRf a || hasRf b
 | .block _ a => hasRf a
 | .loop a => hasRf a
 | .scope a => hasRf a
 | .rangeFunc _ _ _ _ => true
 | _ => false
def exitsOf (bd : List Nat) : Code → List Exit
 | .seq a b => exitsOf bd a ++ exitsOf bd b
 | .cond _ a b => exitsOf bd a ++ exitsOf bd b
 | .block i a => exitsOf (i :: bd) a
 | .loop a => exitsOf bd a
 | .scope a => exitsOf bd a
 | .exit i => bif bd.any (Nat.beq i) then [] else [.exit i]
 | .ret => [.ret]
 | _ => []
def exOr : List Exit → (Exit → Prop) → Prop
 | [], _ => False
 | [e], F => F e
 | e :: r, F => F e ∨ exOr r F
def exOnce : List Exit → List Exit
 | [] => []
 | .ret :: r => .ret :: (exOnce r).filter fun e => match e with | .ret => false | _ => true
 | .exit i :: r => .exit i :: (exOnce r).filter fun e => match e with | .exit j => !Nat.beq i j | _ => true
 | _ :: r => exOnce r
def lvEx (F : List Value → St → Prop) : List LV → List Value → St → Prop
 | [], acc, s => F acc s
 | .loc k scs :: r, acc, s => exL scs fun cs => lvEx F r (acc ++ cs) { s with l := change k (fun _ => cs) s.l }
 | _, _, _ => False
def locsOnly : List LV → Bool
 | [] => true
 | .loc _ _ :: r => locsOnly r
 | _ => false
def setPs : List Nat → List Value → St → St
 | p :: ps, v :: vs, s => setPs ps vs (s.set p (some (.v v)))
 | _, _, s => s
structure Rf (w w1 : World) (L : Nat) : Prop where
 ext : Ext w w1
 eq : L = w.heap.size + 1
 size : w1.heap.size = w.heap.size + 2
def St.withKp (s : St) (kp : List (Nat × Obj)) : St := { s with kp := kp }
def defObj : Obj := .deferred (some [])
def noX : List PanicEntry → World → Prop := fun _ _ => False
def St.withRo (s : St) (ro : List Nat) : St := { s with ro := ro }
def thenQ (next : St → World → Prop) (Q : Exit → St → World → Prop) : Exit → St → World → Prop
 | .normal, s, w => next s w
 | e, s, w => Q e s w
def blockQ (id : Nat) (Q : Exit → St → World → Prop) : Exit → St → World → Prop
 | .exit id', s, w => match Nat.beq id' id with | true => Q .normal s w | false => Q (.exit id') s w
 | e, s, w => Q e s w
def drewW (dr : Bool) (s : St) (w : World) : World := match dr, s.dirty with | true, false => w.drew | _, _ => w
def roOf (s : St) (lv : List LV) : List Nat := s.ro ++ (keysOf s.l).filter fun k => !(lvKeys lv).any (Nat.beq k)
def lvIs (s : St) (lv : List LV) (F : List Value → Prop) : Prop := match lvGet s lv with | some vs => F vs | none => False
def roundQ (lv : List LV) (L : Nat) (J : List Value → World → Prop) (Z : Exit → List Value → World → Prop) (R : Ending → World → Prop) : Exit → St → World → Prop
 | .normal, s, w => sync s w fun w => lvIs s lv fun vs => ∀ w', Put L w w' → J vs w' → R (.returned (.bool true)) w'
 | .ret, s, w => sync s w fun w => lvIs s lv fun vs => ∀ w', Put L w w' → Z .ret vs w' → R (.returned (.bool false)) w'
 | .exit i, s, w => sync s w fun w => lvIs s lv fun vs => ∀ w', Put L w w' → Z (.exit i) vs w' → R (.returned (.bool false)) w'
 | _, _, _ => False
def rangeQ (pn : Bool) (lv : List LV) (L : Nat) (kp : List (Nat × Obj)) (J : List Value → World → Prop) (Z : Exit → List Value → World → Prop) (es : List Exit) (s : St) (w1 : World) (X : List PanicEntry → World → Prop) (Q : Exit → St → World → Prop) (e : Ending) (w' : World) : Prop :=
 match pn with
 | false => ∃ v, e = .returned v ∧ ((lvEx (fun vs s' => J vs w' ∧ ∀ w'', Put L w' w'' → Q .normal (s'.withKp kp) w'') lv [] s.clean) ∨
   exOr es fun x => lvEx (fun vs s' => Z x vs w' ∧ ∀ w'', Put L w' w'' → Q x (s'.withKp kp) w'') lv [] s.clean)
 | true => (∃ v, e = .returned v ∧ ((lvEx (fun vs s' => J vs w' ∧ ∀ w'', Put L w' w'' → Q .normal (s'.withKp kp) w'') lv [] s.clean) ∨
   exOr es fun x => lvEx (fun vs s' => Z x vs w' ∧ ∀ w'', Put L w' w'' → Q x (s'.withKp kp) w'') lv [] s.clean)) ∨
  ∃ ch, e = .panicked ch ∧ Keep (kp.map (·.1)) w1 w' ∧ shutW (kp.map (·.1)) w' (X ch)
def vc (P : Program) (X : List PanicEntry → World → Prop) : AC → Code → St → World → (Exit → St → World → Prop) → Prop
 | .skip, .skip, s, w, Q => Q .normal s w
 | .ret, .ret, s, w, Q => Q .ret s w
 | .exit, .exit id, s, w, Q => Q (.exit id) s w
 | .reg p, .region _ ops dr, s, w, Q => vcPlan P (fun ch w => shutW (s.kp.map (·.1)) w (X ch)) ops [] p s (drewW dr s w) fun s' w' => Q .normal s' w'
 | .regR rl p, .region _ ops dr, s, w, Q => match rl.all fun k => (look k s.l).isSome with
  | true => vcPlan P (fun ch w => shutW (s.kp.map (·.1)) w (X ch)) ops rl p (s.withRo (rl ++ s.ro)) (drewW dr s w) fun s' w' => Q .normal (s'.withRo s.ro) w'
  | false => False
 | .seq a b, .seq x y, s, w, Q => vc P X a x s w (thenQ (fun s' w' => vc P X b y s' w' Q) Q)
 | .cut lv a b, .seq x y, s, w, Q => ∃ R : List Value → World → Prop,
   vc P X a x (s.withRo (roOf s lv)) w (thenQ (fun s' w' => sync s' w' fun w' => lvIs s' lv fun vs => R vs w') fun e s' w' => Q e (s'.withRo s.ro) w') ∧
   lvAll (fun vs s' => ∀ w', R vs w' → vc P X b y s' w' Q) lv [] (s.del (cdsts x)).clean
 | .cond a b, .cond c x y, s, w, Q => match s.ev c with
  | some (.bool t) => brB t (vc P X a x s w Q) (vc P X b y s w Q)
  | _ => False
 | .block a, .block id x, s, w, Q => vc P X a x s w (blockQ id Q)
 | .bcut lv a, .block id x, s, w, Q => ∃ R : List Value → World → Prop,
   vc P X a x (s.withRo (roOf s lv)) w (blockQ id (thenQ (fun s' w' => sync s' w' fun w' => lvIs s' lv fun vs => R vs w') fun e s' w' => Q e (s'.withRo s.ro) w')) ∧
   lvAll (fun vs s' => ∀ w', R vs w' → Q .normal s' w') lv [] (s.del (cdsts x)).clean
 | .loop lv a, .loop x, s, w, Q => ∃ (I : List Value → World → Prop) (μ : List Value → World → Nat),
   (sync s w fun w' => lvIs s lv fun vs => I vs w') ∧
   lvAll (fun vs s' => ∀ w', I vs w' → vc P X a x (s'.withRo (roOf s lv)) w'
    (thenQ (fun s'' w'' => sync s'' w'' fun w'' => lvIs s'' lv fun vs' => I vs' w'' ∧ μ vs' w'' < μ vs w') fun e s'' w'' => Q e (s''.withRo s.ro) w'')) lv [] (s.del (cdsts x)).clean
 | .rfunc pn lv shs a b, .rangeFunc g ps x y, s, w, Q => match s.ev g with
  | some gv => sync s w fun w => lvIs s lv fun vs0 => ∀ (L : Nat) (w1 : World), Rf w w1 L → ∀ (J : List Value → World → Prop) (Z : Exit → List Value → World → Prop),
    (∀ vs W W', J vs W → Keep (L :: w.heap.size :: (s.kp.map (·.1) ++ blocks s.l)) W W' → J vs W') →
    (∀ e vs W W', Z e vs W → Keep (L :: w.heap.size :: (s.kp.map (·.1) ++ blocks s.l)) W W' → Z e vs W') →
    J vs0 w1 →
    lvAll (fun vs s' => allT shs fun args => ∀ (W : World) (R : Ending → World → Prop), J vs W →
     (∀ oL oB : Obj, vc P noX a x ((setPs ps.toList args s').withKp ((L, oL) :: (w.heap.size, defObj) :: s.kp)) W
      (thenQ (fun s2 w2 => sync s2 w2 fun w2 => ∀ w3, Put L w2 w3 → vc P noX b y (s2.clean.withKp ((L, oB) :: (w.heap.size, defObj) :: s.kp)) w3 (roundQ lv L J Z R)) (fun _ _ _ => False))) →
     YieldAt Fence.wide 0 P L args.toArray W R) lv [] (s.clean.withRo (roOf s lv)) →
    callF P gv [.func (.yield L) #[] #[]] w1 (rangeQ pn lv L ((w.heap.size, defObj) :: s.kp) J Z (exOnce (exitsOf [] y)) s w1 X Q)
  | none => False
 | _, _, _, _, _ => False
def nsOf (P : Program) (ops : Array Oper) : Plan → List Nat
 | .done => []
 | .op i loc _ fl p => match ops[i]? with
  | some o => match kpOf P loc fl o with | true => nsOf P ops p | false => i :: nsOf P ops p
  | none => nsOf P ops p
 | .split _ p => nsOf P ops p
 | .ldl _ p => nsOf P ops p
 | .gand _ _ _ _ p => nsOf P ops p
 | .alt p q => nsOf P ops p ++ nsOf P ops q
def noDeferB (ops : Array Oper) : Bool := ops.toList.all fun o => match o.op with | .defer _ => false | _ => true
def okC (P : Program) (N : Nat) : AC → Code → Bool
 | .skip, .skip => true
 | .ret, .ret => true
 | .exit, .exit _ => true
 | .reg p, .region _ ops dr => (noDeferB ops && Region.noSelect ops) && okPlan dr P ops (nsOf P ops p) N (odsts ops) false p ops.size (match dr with | true => Array.replicate ops.size false | false => #[])
 | .regR _ p, .region _ ops dr => (noDeferB ops && Region.noSelect ops) && okPlan dr P ops (nsOf P ops p) N (odsts ops) false p ops.size (match dr with | true => Array.replicate ops.size false | false => #[])
 | .seq a b, .seq x y => okC P N a x && okC P N b y
 | .cut _ a b, .seq x y => okC P N a x && okC P N b y && !hasRf x
 | .cond a b, .cond _ x y => okC P N a x && okC P N b y
 | .block a, .block _ x => okC P N a x
 | .bcut _ a, .block _ x => okC P N a x && !hasRf x
 | .loop _ a, .loop x => okC P N a x && !hasRf x
 | .rfunc _ lv shs a b, .rangeFunc _ ps x y => okC P N a x && okC P N b y && (locsOnly lv && Nat.beq ps.size shs.length && !hasRf x && !hasRf y && ps.toList.all fun p => Nat.blt p N)
 | _, _ => false
end Go.Vc
namespace Go.Vc
open Go.RowKit
structure PreS (M : List Nat) (s : St) (a : Act) (lc : List (Nat × Nat × List Value)) : Prop where
 v : ∀ t x, s.ρ t = some (.v x) → a.tmps.getD t undef = x
 loc : ∀ t k off, s.ρ t = some (.loc k off) → ∃ b cs, (k, b, cs) ∈ s.l ∧ a.tmps.getD t undef = .pointer (some ⟨b, off, none⟩)
 lsl : ∀ t k n, s.ρ t = some (.lsl k n) → ∃ b cs, (k, b, cs) ∈ s.l ∧ a.tmps.getD t undef = .slice (some ⟨b, 0, none⟩) n n
 l : ∀ k b cs, (k, b, cs) ∈ s.l → ∃ cs', (k, b, cs') ∈ lc ∧ (k ∉ M → cs' = cs)
 keys : (keysOf s.l).Nodup
 blks : (blocks s.l).Nodup
theorem PreS.good {s : St} {a : Act} {lc : List (Nat × Nat × List Value)} {wa : World} (h : PreS [] s a lc) (hl : LOk lc wa) (hd : s.dirty = false) (hk : KpAt s.kp wa) : Good s a wa wa := by
 refine ⟨⟨h.v, h.loc, h.lsl, ⟨fun k b cs hm => ?_, h.keys, h.blks⟩, hk⟩, fun hx => (by rw [hd] at hx; cases hx), fun _ => rfl⟩
 obtain ⟨cs', h1, h2⟩ := h.l k b cs hm
 have := h2 (by simp)
 subst this
 exact hl.at_ _ _ _ h1
theorem look_none {l : List (Nat × Nat × List Value)} {k : Nat} (h : look k l = none) (hn : (keysOf l).Nodup) : ∀ b cs, (k, b, cs) ∉ l := fun b cs hm => by
 rw [look_of_mem hn hm] at h; cases h
theorem lv_inst {sc : St} {a : Act} {wa : World} (hsc : Agree sc a wa) {F : List Value → St → Prop} : ∀ (lv : List LV) (acc vs : List Value) (s : St), lvAll F lv acc s → lvGet sc lv = some vs → PreS (lvKeys lv) s a sc.l →
  ∃ s', F (acc ++ vs) s' ∧ PreS [] s' a sc.l ∧ s'.dirty = s.dirty ∧ (s'.ro = s.ro ∧ s'.kp = s.kp) ∧ ∀ k b cs, (k, b, cs) ∈ s.l → ∃ cs', (k, b, cs') ∈ s'.l ∧ (k ∉ lvKeys lv → cs' = cs)
 | [], acc, vs, s, h, hg, hp => by
  simp only [lvGet, Option.some.injEq] at hg
  subst hg
  exact ⟨s, by rw [List.append_nil]; exact h, hp, rfl, ⟨rfl, rfl⟩, fun k b cs hm => ⟨cs, hm, fun _ => rfl⟩⟩
 | .slot t ty :: r, acc, vs, s, h, hg, hp => by
  simp only [lvGet] at hg
  split at hg <;> try cases hg
  rename_i v vs' hv hr
  split at hg <;> cases hg
  rename_i hf
  have h1 := Sc.all_inst hf h
  have hp' : PreS (lvKeys r) (s.set t (some (.v v))) a sc.l := by
   have key : ∀ u y, (s.set t (some (.v v))).ρ u = some y → (u = t ∧ y = .v v) ∨ s.ρ u = some y := by
    intro u y hu
    simp only [St.set, beqN] at hu
    by_cases hut : u = t
    ·simp only [hut, decide_true, cond_true] at hu; cases hu; exact .inl ⟨hut, rfl⟩
    ·simp only [hut, decide_false, cond_false] at hu; exact .inr hu
   refine ⟨fun u y hu => ?_, fun u k off hu => ?_, fun u k n hu => ?_, hp.l, hp.keys, hp.blks⟩
   ·rcases key _ _ hu with ⟨e1, e2⟩ | e1
    ·cases e2; rw [e1]; exact hsc.v _ _ hv
    ·exact hp.v _ _ e1
   ·rcases key _ _ hu with ⟨e1, e2⟩ | e1
    ·cases e2
    ·exact hp.loc _ _ _ e1
   ·rcases key _ _ hu with ⟨e1, e2⟩ | e1
    ·cases e2
    ·exact hp.lsl _ _ _ e1
  obtain ⟨s', h2, h3, h4, h5, h6⟩ := lv_inst hsc r (acc ++ [v]) vs' _ h1 hr hp'
  exact ⟨s', by simpa using h2, h3, h4, h5, h6⟩
 | .loc k scs :: r, acc, vs, s, h, hg, hp => by
  simp only [lvGet] at hg
  split at hg <;> try cases hg
  rename_i b0 cs vs' hv hr
  split at hg <;> cases hg
  rename_i hf
  have h1 := allL_inst hf h
  have hm0 := look_mem hv
  obtain ⟨hk1, hk2⟩ := change_keys s.l k (fun _ => cs)
  have hp' : PreS (lvKeys r) { s with l := change k (fun _ => cs) s.l } a sc.l := by
   refine ⟨hp.v, fun t k' off ht => ?_, fun t k' n ht => ?_, fun k' b cs' hm => ?_, ?_, ?_⟩
   ·obtain ⟨b, c1, hm, he⟩ := hp.loc t k' off ht
    obtain ⟨c2, h2⟩ := change_mem (k := k) (f := fun _ => cs) hm
    exact ⟨b, c2, h2, he⟩
   ·obtain ⟨b, c1, hm, he⟩ := hp.lsl t k' n ht
    obtain ⟨c2, h2⟩ := change_mem (k := k) (f := fun _ => cs) hm
    exact ⟨b, c2, h2, he⟩
   ·rcases mem_change hp.keys hm with ⟨hne, h2⟩ | ⟨rfl, c0, h2, rfl⟩
    ·obtain ⟨c2, h3, h4⟩ := hp.l k' b cs' h2
     exact ⟨c2, h3, fun hn => h4 (by simp [lvKeys, hne]; exact hn)⟩
    ·obtain ⟨c2, h3, h4⟩ := hp.l k' b c0 h2
     have := inj_of_nodup' hsc.lok.keys h3 hm0 rfl
     cases this
     exact ⟨_, h3, fun _ => rfl⟩
   ·show (keysOf (change k (fun _ => cs) s.l)).Nodup
    unfold keysOf; rw [hk1]; exact hp.keys
   ·show (blocks (change k (fun _ => cs) s.l)).Nodup
    rw [hk2]; exact hp.blks
  obtain ⟨s', h2, h3, h4, h5, h6⟩ := lv_inst hsc r (acc ++ cs) vs' _ h1 hr hp'
  refine ⟨s', by simpa using h2, h3, h4, h5, fun k' b c hm => ?_⟩
  obtain ⟨c1, h7, h8⟩ := change_mem' (k := k) (f := fun _ => cs) hm
  obtain ⟨c2, h9, h10⟩ := h6 k' b c1 h7
  refine ⟨c2, h9, fun hn => ?_⟩
  simp only [lvKeys, List.mem_cons, not_or] at hn
  exact (h10 hn.2).trans (h8 hn.1)
 | .nloc k scs :: r, acc, vs, s, h, hg, hp => by
  simp only [lvGet] at hg
  split at hg <;> try cases hg
  rename_i k' hkk
  split at hg <;> try cases hg
  rename_i hbeq
  obtain rfl : k = k' := Nat.eq_of_beq_eq_true hbeq
  split at hg <;> try cases hg
  rename_i b0 cs vs' hv hr
  split at hg <;> cases hg
  rename_i hf
  simp only [lvAll] at h
  split at h <;> try exact h.elim
  rename_i hnone
  have h1 := allL_inst hf (h b0)
  have hm0 := look_mem hv
  have habs := look_none hnone hp.keys
  have hp' : PreS (lvKeys r) ({ s with l := (k, b0, cs) :: s.l }.set k (some (.loc k 0))) a sc.l := by
   have key : ∀ u y, ({ s with l := (k, b0, cs) :: s.l }.set k (some (.loc k 0))).ρ u = some y → (u = k ∧ y = .loc k 0) ∨ s.ρ u = some y := by
    intro u y hu
    simp only [St.set, beqN] at hu
    by_cases hut : u = k
    ·simp only [hut, decide_true, cond_true] at hu; cases hu; exact .inl ⟨hut, rfl⟩
    ·simp only [hut, decide_false, cond_false] at hu; exact .inr hu
   refine ⟨fun t x ht => ?_, fun t k' off ht => ?_, fun t k' n ht => ?_, fun k' b cs' hm => ?_, ?_, ?_⟩
   ·rcases key _ _ ht with ⟨e1, e2⟩ | e1
    ·cases e2
    ·exact hp.v _ _ e1
   ·rcases key _ _ ht with ⟨e1, e2⟩ | e1
    ·cases e2
     obtain ⟨b, c1, hm, he⟩ := hsc.loc _ _ _ hkk
     have := inj_of_nodup' hsc.lok.keys hm hm0 rfl
     cases this
     exact ⟨b0, cs, List.mem_cons_self .., by rw [e1]; exact he⟩
    ·obtain ⟨b, c1, hm, he⟩ := hp.loc t k' off e1; exact ⟨b, c1, List.mem_cons_of_mem _ hm, he⟩
   ·rcases key _ _ ht with ⟨e1, e2⟩ | e1
    ·cases e2
    ·obtain ⟨b, c1, hm, he⟩ := hp.lsl t k' n e1; exact ⟨b, c1, List.mem_cons_of_mem _ hm, he⟩
   ·rcases List.mem_cons.1 hm with h2 | h2
    ·cases h2; exact ⟨_, hm0, fun _ => rfl⟩
    ·obtain ⟨c2, h3, h4⟩ := hp.l k' b cs' h2
     refine ⟨c2, h3, fun hn => h4 ?_⟩
     simp only [lvKeys, List.mem_cons, not_or]
     exact ⟨fun e => habs _ _ (e ▸ h2), hn⟩
   ·show (keysOf ((k, b0, cs) :: s.l)).Nodup
    simp only [keysOf, List.map_cons, List.nodup_cons]
    refine ⟨fun hm => ?_, hp.keys⟩
    obtain ⟨⟨k', b', c'⟩, hx, he⟩ := List.mem_map.1 hm
    simp only at he; subst he
    exact habs _ _ hx
   ·show (blocks ((k, b0, cs) :: s.l)).Nodup
    simp only [blocks, List.map_cons, List.nodup_cons]
    refine ⟨fun hm => ?_, hp.blks⟩
    obtain ⟨⟨k', b', c'⟩, hx, he⟩ := List.mem_map.1 hm
    simp only at he; subst he
    obtain ⟨c2, h3, _⟩ := hp.l _ _ _ hx
    have := inj_of_nodup hsc.lok.blks h3 hm0 rfl
    cases this
    exact habs _ _ hx
  obtain ⟨s', h2, h3, h4, h5, h6⟩ := lv_inst hsc r (acc ++ ptrB b0 :: cs) vs' _ h1 hr hp'
  refine ⟨s', by simpa using h2, h3, h4, h5, fun k' b c hm => ?_⟩
  obtain ⟨c2, h9, h10⟩ := h6 k' b c (List.mem_cons_of_mem _ hm)
  refine ⟨c2, h9, fun hn => h10 ?_⟩
  simp only [lvKeys, List.mem_cons, not_or] at hn
  exact hn.2
theorem noDefer_of {ops : Array Oper} (h : noDeferB ops = true) : NoDefer ops := by
 intro i o ho c hc
 simp only [noDeferB, List.all_eq_true] at h
 have := h o (by rw [← Array.getElem?_toList] at ho; exact List.mem_of_getElem? ho)
 rw [hc] at this; cases this
theorem wp_loop_rel {r : Option Nat} {P : Program} {Q : Exit → Act → World → Prop} {a : Act} {w : World} {c : Code} (J : Nat → Act → World → Prop) (n₀ : Nat) (h₀ : J n₀ a w)
  (round : ∀ n a w, J n a w → c.wpIn (fR r) 0 P (Exit.then (fun a' w' => ∃ m, m < n ∧ J m a' w') Q) a w) : (Code.loop c).wpIn (fR r) 0 P Q a w := by
 intro b k cs hro hb hr
 have key : ∀ n a w, J n a w → ∃ e a' w', Q e a' w' ∧ ArrivesIn (Machine.fenced P (fR r)) P (lone (b.atR a (.code c :: .inLoop c :: k)) cs w) b k cs e a' w' := by
  intro n
  induction n using Nat.strongRecOn with
  | _ n ih =>
   intro a w hI
   obtain ⟨e, a₁, w₁, hq, harr⟩ := round n a w hI b (.inLoop c :: k) cs hro hb hr
   cases e with
   | normal =>
    obtain ⟨m, hlt, hI₁⟩ := hq
    obtain ⟨e₂, a₂, w₂, hq₂, harr₂⟩ := ih m hlt a₁ w₁ hI₁
    exact ⟨e₂, a₂, w₂, hq₂, .of_steps (StepsIn.trans harr (.one (fenced_calm hb hr rfl) stepR_inLoop)) harr₂⟩
   | exit id => exact ⟨_, a₁, w₁, hq, .pass (x := .inLoop c) rfl (fun _ _ => .inl (by simp)) harr⟩
   | goto l => exact ⟨_, a₁, w₁, hq, .pass (x := .inLoop c) rfl (fun _ _ => .inl (by simp)) harr⟩
   | ret => exact ⟨_, a₁, w₁, hq, .pass (x := .inLoop c) rfl (fun _ _ => .inl (by simp)) harr⟩
   | panic ch => exact ⟨_, a₁, w₁, hq, .pass (x := .inLoop c) rfl (fun _ _ => .inl (by simp)) harr⟩
   | outgrown => exact ⟨_, a₁, w₁, hq, .pass (x := .inLoop c) rfl (fun _ _ => .inl (by simp)) harr⟩
 obtain ⟨e, a', w', hq, harr⟩ := key n₀ a w h₀
 exact ⟨e, a', w', hq, .of_steps (.one (fenced_calm hb hr rfl) stepR_loop) harr⟩
structure FrC (ds : List Nat) (a a' : Act) : Prop where
 size : a'.tmps.size = a.tmps.size
 tmps : ∀ t, t ∉ ds → a'.tmps.getD t undef = a.tmps.getD t undef
theorem Fr.c {ds : List Nat} {a a' : Act} (h : Fr ds a a') : FrC ds a a' := ⟨h.size, h.tmps⟩
theorem FrC.refl (ds : List Nat) (a : Act) : FrC ds a a := ⟨rfl, fun _ _ => rfl⟩
theorem FrC.trans {ds : List Nat} {a b c : Act} (h : FrC ds a b) (k : FrC ds b c) : FrC ds a c :=
 ⟨k.size.trans h.size, fun t ht => (k.tmps t ht).trans (h.tmps t ht)⟩
theorem FrC.mono {ds es : List Nat} {a b : Act} (h : FrC ds a b) (hs : ∀ t, t ∈ ds → t ∈ es) : FrC es a b :=
 ⟨h.size, fun t ht => h.tmps t (fun hm => ht (hs t hm))⟩
theorem FrC.unput {ds : List Nat} {a a' : Act} {d : Option Tmp} {v : Value} (h : FrC ds a (a'.put d v)) (hd : ∀ t, d = some t → t ∈ ds) : FrC ds a a' := by
 cases d with
 | none => exact h
 | some d =>
  refine ⟨by simpa [Act.put] using h.size, fun t ht => ?_⟩
  have hne : d ≠ t := fun e => ht (e ▸ hd d rfl)
  rw [← h.tmps t ht]
  simp [Act.put, Array.getElem?_setIfInBounds_ne hne]
def LFrC (s s' : St) : Prop := s'.ro = s.ro ∧ ∀ k b cs, (k, b, cs) ∈ s.l → ∃ cs', (k, b, cs') ∈ s'.l ∧ (k ∈ s.ro → cs' = cs)
theorem LFr.c {s s' : St} (h : LFr s s') : LFrC s s' := ⟨h.1.1, h.2⟩
theorem LFrC.refl (s : St) : LFrC s s := ⟨rfl, fun k b cs h => ⟨cs, h, fun _ => rfl⟩⟩
theorem LFrC.trans {s t u : St} (h : LFrC s t) (k : LFrC t u) : LFrC s u :=
 ⟨k.1.trans h.1, fun x b cs hm => by
  obtain ⟨c1, h1, e1⟩ := h.2 x b cs hm
  obtain ⟨c2, h2, e2⟩ := k.2 x b c1 h1
  exact ⟨c2, h2, fun hr => (e2 (h.1 ▸ hr)).trans (e1 hr)⟩⟩
theorem LFrC.of_eq {s s' : St} (h1 : s'.l = s.l) (h2 : s'.ro = s.ro) : LFrC s s' := ⟨h2, fun k b cs h => ⟨cs, h1 ▸ h, fun _ => rfl⟩⟩
def markOf (x : Nat × Obj) : Deferred := { target := .collected x.1, args := #[] }
def MkX (kpx : List (Nat × Obj)) (a0 a : Act) : Prop := (∀ x, x ∈ kpx → x.2 = defObj) ∧ a.defers = kpx.map markOf ++ a0.defers
theorem MkX.refl (a : Act) : MkX [] a a := ⟨(fun _ h => by cases h), rfl⟩
theorem MkX.trans {k1 k2 : List (Nat × Obj)} {a b c : Act} (h : MkX k1 a b) (k : MkX k2 b c) : MkX (k2 ++ k1) a c :=
 ⟨fun x hx => (List.mem_append.1 hx).elim (k.1 x) (h.1 x), by rw [k.2, h.2, List.map_append, List.append_assoc]⟩
def PostX (ds : List Nat) (nr : Bool) (a0 : Act) (s0 : St) (X : List PanicEntry → World → Prop) (Q : Exit → St → World → Prop) (e : Exit) (a : Act) (wa : World) : Prop :=
 (∃ ch kpx, e = .panic ch ∧ FrC ds a0 a ∧ (nr = true → kpx = []) ∧ MkX kpx a0 a ∧ KpAt (kpx ++ s0.kp) wa ∧ shutW ((kpx ++ s0.kp).map (·.1)) wa (X ch)) ∨
 ((∀ ch, e ≠ .panic ch) ∧ e ≠ .outgrown ∧ FrC ds a0 a ∧ ∃ s' w' kpx, (nr = true → kpx = []) ∧ MkX kpx a0 a ∧ s'.kp = kpx ++ s0.kp ∧ Good s' a w' wa ∧ LFrC s0 s' ∧ Q e s' w')
theorem Good.withRo {s : St} {a : Act} {w wa : World} (h : Good s a w wa) (ro : List Nat) : Good (s.withRo ro) a w wa := ⟨⟨h.ag.v, h.ag.loc, h.ag.lsl, h.ag.lok, h.ag.dok⟩, h.dirty, h.clean⟩
theorem ro_back {s s1 : St} {lv : List LV} (h : LFrC (s.withRo (roOf s lv)) s1) : LFrC s (s1.withRo s.ro) :=
 ⟨rfl, fun k b cs hm => by
  obtain ⟨c, h1, h2⟩ := h.2 k b cs hm
  exact ⟨c, h1, fun hr => h2 (by simp only [St.withRo, roOf, List.mem_append]; exact .inl hr)⟩⟩
theorem preS_after {s s1 : St} {lv : List LV} {ds : List Nat} {a a1 : Act} {w wa : World} (hg : Good s a w wa) (hf : FrC ds a a1) (hl : LFrC (s.withRo (roOf s lv)) s1) :
  PreS (lvKeys lv) (s.del ds).clean a1 s1.l := by
 refine ⟨fun t x hx => ?_, fun t k off hx => ?_, fun t k n hx => ?_, fun k b cs hm => ?_, hg.ag.lok.keys, hg.ag.lok.blks⟩
 ·obtain ⟨h1, h2⟩ := St.del_some (s := s) hx
  rw [hf.tmps t h2]; exact hg.ag.v _ _ h1
 ·obtain ⟨h1, h2⟩ := St.del_some (s := s) hx
  rw [hf.tmps t h2]; exact hg.ag.loc _ _ _ h1
 ·obtain ⟨h1, h2⟩ := St.del_some (s := s) hx
  rw [hf.tmps t h2]; exact hg.ag.lsl _ _ _ h1
 ·obtain ⟨c, h1, h2⟩ := hl.2 k b cs hm
  refine ⟨c, h1, fun hn => h2 ?_⟩
  simp only [St.withRo, roOf, List.mem_append, List.mem_filter]
  refine .inr ⟨List.mem_map.2 ⟨(k, b, cs), hm, rfl⟩, ?_⟩
  cases hb : (lvKeys lv).any (Nat.beq k)
  ·rfl
  ·obtain ⟨x, hx, he⟩ := List.any_eq_true.1 hb
   exact absurd (Nat.eq_of_beq_eq_true he ▸ hx) hn
theorem lvIs_some {s : St} {lv : List LV} {F : List Value → Prop} (h : lvIs s lv F) : ∃ vs, lvGet s lv = some vs ∧ F vs := by
 unfold lvIs at h
 split at h
 ·exact ⟨_, ‹_›, h⟩
 ·exact h.elim
theorem lfr_inst {s s1 s' : St} {lv : List LV} {ds : List Nat} {a1 : Act} {wa : World} (hl : LFrC (s.withRo (roOf s lv)) s1) (hk : LOk s1.l wa) (hp : PreS [] s' a1 s1.l) (hro : s'.ro = (s.del ds).clean.ro)
  (h6 : ∀ k b cs, (k, b, cs) ∈ (s.del ds).clean.l → ∃ cs', (k, b, cs') ∈ s'.l ∧ (k ∉ lvKeys lv → cs' = cs)) : LFrC s s' :=
 ⟨hro, fun k b cs hm => by
  obtain ⟨c1, h1, _⟩ := h6 k b cs hm
  refine ⟨c1, h1, fun hr => ?_⟩
  obtain ⟨c2, h2, h3⟩ := hp.l k b c1 h1
  have := h3 (by simp)
  subst this
  obtain ⟨c3, h4, h5⟩ := hl.2 k b cs hm
  have e1 := h5 (by simp only [St.withRo, roOf, List.mem_append]; exact .inl hr)
  subst e1
  have := inj_of_nodup' hk.keys h2 h4 rfl
  cases this; rfl⟩
theorem shutW_self {F : World → Prop} : ∀ {l : List Nat} {w : World}, shutW l w F → F w
 | [], _, h => h
 | D :: r, w, h => shutW_self (h w ⟨rfl, rfl, rfl, rfl, fun _ _ => rfl⟩)
theorem Put.putObj (L : Nat) (w : World) (o : Obj) : Put L w (w.putObj L o) := ⟨rfl, rfl, rfl, by simp, fun k hk => World.putObj_heap_other hk⟩
theorem Put.locks {L : Nat} {w w' : World} {l : List (Nat × Nat × List Value)} (hp : Put L w w') (h : LOk l w) {o : Obj} (hL : w.heap[L]? = some o) (ho : kpObj o = true) : LOk l w' :=
 h.keep fun b hb hlt => ⟨by rw [hp.size]; exact hlt, hp.block b fun e => by
  subst e
  obtain ⟨⟨k, b, cs⟩, hm, rfl⟩ := List.mem_map.1 hb
  obtain ⟨_, e, he⟩ := h.at_ k b cs hm
  rw [hL] at he
  cases he; cases ho⟩
def Made : List LV → List Value → St → St → Prop
 | [], vs, s, s' => vs = [] ∧ s' = s
 | .loc k scs :: r, vs, s, s' => ∃ cs vs', vs = cs ++ vs' ∧ cs.length = scs.length ∧ Made r vs' { s with l := change k (fun _ => cs) s.l } s'
 | _, _, _, _ => False
theorem fitsL_length : ∀ {l : List Sc} {vs : List Value}, fitsL l vs = true → vs.length = l.length
 | [], [], _ => rfl
 | s :: l, v :: vs, h => by
  simp only [fitsL, Bool.and_eq_true] at h
  simp [fitsL_length h.2]
theorem allL_intro : ∀ {l : List Sc} {F : List Value → Prop}, (∀ vs, vs.length = l.length → F vs) → allL l F
 | [], F, h => h [] rfl
 | s :: l, F, h => by
  have key : ∀ v, allL l fun vs => F (v :: vs) := fun v => allL_intro fun vs hv => h (v :: vs) (by simp [hv])
  cases s <;> simp only [allL, Sc.all] <;> intros <;> exact key _
theorem allT_intro : ∀ {l : List Sh} {F : List Value → Prop}, (∀ vs, vs.length = l.length → F vs) → allT l F
 | [], F, h => h [] rfl
 | s :: l, F, h => by
  have key : ∀ v, allT l fun vs => F (v :: vs) := fun v => allT_intro fun vs hv => h (v :: vs) (by simp [hv])
  cases s with
  | sc s => cases s <;> simp only [allT, Sh.all, Sc.all] <;> intros <;> exact key _
  | agg l => simp only [allT, Sh.all]; exact allL_intro fun vs _ => key _
  | row n => simp only [allT, Sh.all]; exact fun vs _ => key _
theorem lvAll_intro : ∀ {lv : List LV} {F : List Value → St → Prop} {acc : List Value} {s : St}, locsOnly lv = true → (∀ vs s', Made lv vs s s' → F (acc ++ vs) s') → lvAll F lv acc s
 | [], F, acc, s, _, h => by simpa [lvAll] using h [] s ⟨rfl, rfl⟩
 | .loc k scs :: r, F, acc, s, hl, h => by
  simp only [lvAll]
  refine allL_intro fun cs hcs => lvAll_intro hl fun vs s' hm => ?_
  have := h (cs ++ vs) s' ⟨cs, vs, rfl, hcs, hm⟩
  rwa [← List.append_assoc] at this
 | .slot _ _ :: r, _, _, _, hl, _ => by simp [locsOnly] at hl
 | .nloc _ _ :: r, _, _, _, hl, _ => by simp [locsOnly] at hl
theorem lvEx_elim : ∀ {lv : List LV} {F : List Value → St → Prop} {acc : List Value} {s : St}, lvEx F lv acc s → ∃ vs s', Made lv vs s s' ∧ F (acc ++ vs) s'
 | [], F, acc, s, h => ⟨[], s, ⟨rfl, rfl⟩, by simpa [lvEx] using h⟩
 | .loc k scs :: r, F, acc, s, h => by
  simp only [lvEx] at h
  obtain ⟨cs, hcs, h⟩ := exL_some h
  obtain ⟨vs, s', hm, hf⟩ := lvEx_elim h
  exact ⟨cs ++ vs, s', ⟨cs, vs, rfl, hcs, hm⟩, by rwa [List.append_assoc] at hf⟩
 | .slot _ _ :: r, _, _, _, h => h.elim
 | .nloc _ _ :: r, _, _, _, h => h.elim
theorem made_inst {a : Act} {sc : St} (hk : (keysOf sc.l).Nodup) : ∀ {lv : List LV} {vs : List Value} {s s' : St}, Made lv vs s s' → lvGet sc lv = some vs → PreS (lvKeys lv) s a sc.l →
  PreS [] s' a sc.l ∧ s'.dirty = s.dirty ∧ s'.ro = s.ro ∧ s'.kp = s.kp ∧ s'.ρ = s.ρ ∧ ∀ k b cs, (k, b, cs) ∈ s.l → ∃ cs', (k, b, cs') ∈ s'.l ∧ (k ∉ lvKeys lv → cs' = cs)
 | [], vs, s, s', hm, hg, hp => by
  obtain ⟨_, rfl⟩ := hm
  exact ⟨hp, rfl, rfl, rfl, rfl, fun k b cs h => ⟨cs, h, fun _ => rfl⟩⟩
 | .loc k scs :: r, vs, s, s', hm, hg, hp => by
  obtain ⟨cs0, vs0, rfl, hlen, hm⟩ := hm
  simp only [lvGet] at hg
  split at hg <;> try cases hg
  rename_i b0 cs vs' hv hr
  split at hg <;> try cases hg
  rename_i hf
  simp only [Option.some.injEq] at hg
  have hlc := fitsL_length hf
  obtain ⟨rfl, rfl⟩ := List.append_inj hg (hlc.trans hlen.symm)
  have hm0 := look_mem hv
  obtain ⟨hk1, hk2⟩ := change_keys s.l k (fun _ => cs)
  have hp' : PreS (lvKeys r) { s with l := change k (fun _ => cs) s.l } a sc.l := by
   refine ⟨hp.v, fun t k' off ht => ?_, fun t k' n ht => ?_, fun k' b cs' hm => ?_, ?_, ?_⟩
   ·obtain ⟨b, c1, hm, he⟩ := hp.loc t k' off ht
    obtain ⟨c2, h2⟩ := change_mem (k := k) (f := fun _ => cs) hm
    exact ⟨b, c2, h2, he⟩
   ·obtain ⟨b, c1, hm, he⟩ := hp.lsl t k' n ht
    obtain ⟨c2, h2⟩ := change_mem (k := k) (f := fun _ => cs) hm
    exact ⟨b, c2, h2, he⟩
   ·rcases mem_change hp.keys hm with ⟨hne, h2⟩ | ⟨rfl, c0, h2, rfl⟩
    ·obtain ⟨c2, h3, h4⟩ := hp.l k' b cs' h2
     exact ⟨c2, h3, fun hn => h4 (by simp [lvKeys, hne]; exact hn)⟩
    ·obtain ⟨c2, h3, h4⟩ := hp.l k' b c0 h2
     have := inj_of_nodup' hk h3 hm0 rfl
     cases this
     exact ⟨_, h3, fun _ => rfl⟩
   ·show (keysOf (change k (fun _ => cs) s.l)).Nodup
    unfold keysOf; rw [hk1]; exact hp.keys
   ·show (blocks (change k (fun _ => cs) s.l)).Nodup
    rw [hk2]; exact hp.blks
  obtain ⟨h3, h4, h5, h6, h7, h8⟩ := made_inst hk hm hr hp'
  refine ⟨h3, h4, h5, h6, h7, fun k' b c hm => ?_⟩
  obtain ⟨c1, g7, g8⟩ := change_mem' (k := k) (f := fun _ => cs) hm
  obtain ⟨c2, h9, h10⟩ := h8 k' b c1 g7
  refine ⟨c2, h9, fun hn => ?_⟩
  simp only [lvKeys, List.mem_cons, not_or] at hn
  exact (h10 hn.2).trans (g8 hn.1)
 | .slot _ _ :: r, _, _, _, hm, _, _ => hm.elim
 | .nloc _ _ :: r, _, _, _, hm, _, _ => hm.elim
def relist (l l2 : List (Nat × Nat × List Value)) : List (Nat × Nat × List Value) := l.map fun x => (x.1, x.2.1, match look x.1 l2 with | some (_, cs) => cs | none => x.2.2)
theorem relist_keys (l l2 : List (Nat × Nat × List Value)) : keysOf (relist l l2) = keysOf l ∧ blocks (relist l l2) = blocks l := by
 constructor <;> simp [relist, keysOf, blocks, List.map_map, Function.comp_def]
theorem look_relist : ∀ {l l2 : List (Nat × Nat × List Value)} {k b b' cs cs'}, look k l = some (b, cs) → look k l2 = some (b', cs') → look k (relist l l2) = some (b, cs')
 | [], _, _, _, _, _, _, h, _ => by simp [look] at h
 | (k0, b0, c0) :: r, l2, k, b, b', cs, cs', h, h2 => by
  simp only [look, relist, List.map_cons, beqN] at h ⊢
  by_cases e : k = k0
  ·subst e
   simp only [decide_true, cond_true, Option.some.injEq, Prod.mk.injEq] at h ⊢
   rw [h2]
   exact ⟨h.1, rfl⟩
  ·simp only [e, decide_false, cond_false] at h ⊢
   exact look_relist (l := r) h h2
theorem lvGet_relist {s s3 : St} (hl : ∀ k b cs, (k, b, cs) ∈ s.l → ∃ cs', (k, b, cs') ∈ s3.l) (hk : (keysOf s3.l).Nodup) : ∀ {lv : List LV} {vs0 vs : List Value}, locsOnly lv = true → lvGet s lv = some vs0 → lvGet s3 lv = some vs →
  lvGet { s with l := relist s.l s3.l } lv = some vs
 | [], _, _, _, _, h => by simpa [lvGet] using h
 | .loc k scs :: r, vs0, vs, ho, h0, h => by
  simp only [lvGet] at h0 h ⊢
  split at h0 <;> try cases h0
  rename_i b0 cs0 vs0' hv0 hr0
  split at h <;> try cases h
  rename_i b1 cs1 vs1' hv1 hr1
  split at h <;> cases h
  rename_i hf
  rw [look_relist hv0 hv1, lvGet_relist hl hk (show locsOnly r = true from ho) hr0 hr1]
  simp [hf]
 | .slot _ _ :: r, _, _, ho, _, _ => by simp [locsOnly] at ho
 | .nloc _ _ :: r, _, _, ho, _, _ => by simp [locsOnly] at ho
def RJ (s : St) (lv : List LV) (L D : Nat) (rec : Loop) (vs : List Value) (W : World) : Prop :=
 W.heap[L]? = some (.loop rec) ∧ KpAt ((D, defObj) :: s.kp) W ∧ ∃ l1 : List (Nat × Nat × List Value), blocks l1 = blocks s.l ∧ LOk l1 W ∧
  (∀ k b cs, (k, b, cs) ∈ s.l → ∃ cs', (k, b, cs') ∈ l1 ∧ (k ∉ lvKeys lv ∨ k ∈ s.ro → cs' = cs)) ∧ lvGet { s with l := l1 } lv = some vs
theorem RJ.keep {s : St} {lv : List LV} {L D : Nat} {rec : Loop} {vs : List Value} {W W' : World} (h : RJ s lv L D rec vs W) (hk : Keep (L :: D :: (s.kp.map (·.1) ++ blocks s.l)) W W') : RJ s lv L D rec vs W' := by
 obtain ⟨h1, h2, l1, h3, h4, h5, h6⟩ := h
 refine ⟨(hk L (by simp) (Array.getElem?_eq_some_iff.1 h1).1).2.trans h1, ?_, l1, h3, h4.keep ?_, h5, h6⟩
 ·exact dok_keep (bs := blocks s.l) (fun b hb hlt => hk b (by simp at hb ⊢; rcases hb with hb | hb | hb <;> simp [hb]) hlt) h2
 ·rw [h3]; exact fun b hb hlt => hk b (by simp [hb]) hlt
def codeOf : Exit → Option Code
 | .ret => some .ret
 | .exit i => some (.exit i)
 | _ => none
theorem setPs_l : ∀ (ps : List Nat) (vs : List Value) (s : St), (setPs ps vs s).l = s.l ∧ (setPs ps vs s).ro = s.ro ∧ (setPs ps vs s).kp = s.kp ∧ (setPs ps vs s).dirty = s.dirty
 | [], vs, s => by cases vs <;> exact ⟨rfl, rfl, rfl, rfl⟩
 | p :: ps, [], s => ⟨rfl, rfl, rfl, rfl⟩
 | p :: ps, v :: vs, s => setPs_l ps vs (s.set p (some (.v v)))
theorem setPs_agree {w : World} : ∀ (ps : List Nat) (vs : List Value) (s : St) (a : Act), Agree s a w → (∀ p, p ∈ ps → p < a.tmps.size) → Agree (setPs ps vs s) { a with tmps := (ps.zip vs).foldl (fun t x => t.setIfInBounds x.1 x.2) a.tmps } w
 | [], vs, s, a, h, _ => by cases vs <;> exact h
 | p :: ps, [], s, a, h, _ => h
 | p :: ps, v :: vs, s, a, h, hp => by
  have h1 := h.set (d := p) (e := some (.v v)) (v := v) (hp p (by simp)) rfl
  have := setPs_agree ps vs (s.set p (some (.v v))) (a.put (some p) v) h1 (fun q hq => by simp [Act.put]; exact hp q (by simp [hq]))
  exact this
theorem foldl_size : ∀ (l : List (Nat × Value)) (t : Array Value), (l.foldl (fun t x => t.setIfInBounds x.1 x.2) t).size = t.size
 | [], _ => rfl
 | x :: l, t => by rw [List.foldl_cons, foldl_size l]; simp
theorem exOr_elim {F : Exit → Prop} : ∀ {es : List Exit}, exOr es F → ∃ e, e ∈ es ∧ F e
 | [], h => h.elim
 | [e], h => ⟨e, by simp, h⟩
 | e :: f :: r, h => h.elim (fun h => ⟨e, by simp, h⟩) fun h => by
  obtain ⟨x, hx, hF⟩ := exOr_elim (es := f :: r) h
  exact ⟨x, by simp at hx ⊢; exact .inr hx, hF⟩
section
variable {P : Program} {N : Nat}
theorem postX_trans {X : List PanicEntry → World → Prop} {ds es fs : List Nat} {n1 n2 nr : Bool} {k1 : List (Nat × Obj)} {a0 a1 : Act} {s0 s1 : St} {Q : Exit → St → World → Prop} (hfr : FrC ds a0 a1) (hl : LFrC s0 s1) (hm : MkX k1 a0 a1) (hk : s1.kp = k1 ++ s0.kp) (hn1 : n1 = true → k1 = [])
  (hn : nr = true → n1 = true ∧ n2 = true) (h1 : ∀ t, t ∈ ds → t ∈ fs) (h2 : ∀ t, t ∈ es → t ∈ fs)
  {e : Exit} {a : Act} {w : World} (h : PostX es n2 a1 s1 X Q e a w) : PostX fs nr a0 s0 X Q e a w := by
 rcases h with ⟨ch, k2, rfl, hfp, hn2, hm2, hk2, hx⟩ | ⟨hne, hno, hf, s', w', k2, hn2, hm2, hk2, hg, hl', hq⟩
 ·rw [hk, ← List.append_assoc] at hk2 hx
  exact .inl ⟨ch, k2 ++ k1, rfl, (hfr.mono h1).trans (hfp.mono h2), fun h => by rw [hn2 (hn h).2, hn1 (hn h).1]; rfl, hm.trans hm2, hk2, hx⟩
 ·rw [hk, ← List.append_assoc] at hk2
  exact .inr ⟨hne, hno, (hfr.mono h1).trans (hf.mono h2), s', w', k2 ++ k1, fun h => by rw [hn2 (hn h).2, hn1 (hn h).1]; rfl, hm.trans hm2, hk2, hg, hl.trans hl', hq⟩
theorem postX_mono {X : List PanicEntry → World → Prop} {ds fs : List Nat} {nr mr : Bool} {a0 : Act} {s0 : St} {Q : Exit → St → World → Prop} (h1 : ∀ t, t ∈ ds → t ∈ fs) (hn : mr = true → nr = true)
  {e : Exit} {a : Act} {w : World} (h : PostX ds nr a0 s0 X Q e a w) : PostX fs mr a0 s0 X Q e a w :=
 postX_trans (FrC.refl ds a0) (LFrC.refl s0) (MkX.refl a0) rfl (n1 := true) (fun _ => rfl) (fun h => ⟨rfl, hn h⟩) h1 h1 h
theorem then_normal {e : Exit} {next : St → World → Prop} {Q : Exit → St → World → Prop} {s : St} {w : World} (h : thenQ next Q e s w) : (e = .normal ∧ next s w) ∨ (e ≠ .normal ∧ Q e s w) := by
 cases e <;> first | exact .inl ⟨rfl, h⟩ | exact .inr ⟨by simp, h⟩
theorem exit_then {e : Exit} {next : Act → World → Prop} {Q : Exit → Act → World → Prop} {a : Act} {w : World} (hne : e ≠ .normal) (h : Q e a w) : Exit.then next Q e a w := by
 cases e <;> first | exact absurd rfl hne | exact h
theorem KpAt.tail {x : Nat × Obj} {kp : List (Nat × Obj)} {w : World} (h : KpAt (x :: kp) w) : KpAt kp w := ⟨fun D o hm => h.at_ D o (List.mem_cons_of_mem _ hm), (List.nodup_cons.1 h.nd).2⟩
theorem KpAt.cons {D : Nat} {o : Obj} {kp : List (Nat × Obj)} {w : World} (h : KpAt kp w) (hD : w.heap[D]? = some o) (ho : kpObj o = true) (hn : D ∉ kp.map (·.1)) : KpAt ((D, o) :: kp) w :=
 ⟨fun E p hm => (List.mem_cons.1 hm).elim (fun e => by cases e; exact ⟨hD, ho⟩) (h.at_ E p), List.nodup_cons.2 ⟨hn, h.nd⟩⟩
theorem KpAt.put {L : Nat} {kp : List (Nat × Obj)} {w w' : World} (h : KpAt kp w) (hp : Put L w w') (hn : L ∉ kp.map (·.1)) : KpAt kp w' :=
 ⟨fun D o hm => ⟨(hp.block D (fun e => hn (List.mem_map.2 ⟨(D, o), hm, e⟩))).trans (h.at_ D o hm).1, (h.at_ D o hm).2⟩, h.nd⟩
theorem KpAt.lt {kp : List (Nat × Obj)} {w : World} (h : KpAt kp w) {D : Nat} (hD : D ∈ kp.map (·.1)) : D < w.heap.size := by
 obtain ⟨⟨D', o⟩, hm, rfl⟩ := List.mem_map.1 hD
 exact (Array.getElem?_eq_some_iff.1 (h.at_ D' o hm).1).1
theorem rj_again {s s3 : St} {a3 : Act} {lv : List LV} {L D : Nat} {r0 r1 : Loop} {vs0 vs : List Value} {w3 wa3 : World} (hg3 : Good s3 a3 w3 wa3) (hs : LOk s.l wa3 ∨ (keysOf s.l).Nodup ∧ (blocks s.l).Nodup) (hL : wa3.heap[L]? = some (.loop r0)) (hk : KpAt ((D, defObj) :: s.kp) wa3) (hn : L ∉ D :: s.kp.map (·.1)) (hlo : locsOnly lv = true)
  (h0 : lvGet s lv = some vs0) (hrel : ∀ k b cs, (k, b, cs) ∈ s.l → ∃ cs', (k, b, cs') ∈ s3.l ∧ (k ∉ lvKeys lv ∨ k ∈ s.ro → cs' = cs)) (hvs : lvGet s3 lv = some vs) : RJ s lv L D r1 vs (wa3.putObj L (.loop r1)) := by
 have hp := Put.putObj L wa3 (.loop r1)
 have hkb : (keysOf s.l).Nodup ∧ (blocks s.l).Nodup := hs.elim (fun h => ⟨h.keys, h.blks⟩) id
 obtain ⟨e1, e2⟩ := relist_keys s.l s3.l
 have lookb : ∀ k b cs, (k, b, cs) ∈ s.l → ∃ c3, look k s3.l = some (b, c3) ∧ (k, b, c3) ∈ s3.l ∧ (k ∉ lvKeys lv ∨ k ∈ s.ro → c3 = cs) := fun k b cs hm => by
  obtain ⟨c3, h3, h4⟩ := hrel k b cs hm
  exact ⟨c3, look_of_mem hg3.ag.lok.keys h3, h3, h4⟩
 have hok : LOk (relist s.l s3.l) wa3 := by
  refine ⟨fun k b cs hm => ?_, ?_, ?_⟩
  ·obtain ⟨⟨k', b', cs'⟩, hm', he⟩ := List.mem_map.1 hm
   obtain ⟨c3, h1, h2, _⟩ := lookb k' b' cs' hm'
   simp only [h1, Prod.mk.injEq] at he
   obtain ⟨rfl, rfl, rfl⟩ := he
   exact hg3.ag.lok.at_ _ _ _ h2
  ·show (keysOf (relist s.l s3.l)).Nodup
   rw [e1]; exact hkb.1
  ·rw [e2]; exact hkb.2
 refine ⟨World.putObj_heap_same (Array.getElem?_eq_some_iff.1 hL).1, hk.put hp (by simpa using hn), relist s.l s3.l, e2, hp.locks hok hL rfl, fun k b cs hm => ?_, lvGet_relist (fun k b cs hm => by obtain ⟨c, h, _⟩ := hrel k b cs hm; exact ⟨c, h⟩) hg3.ag.lok.keys hlo h0 hvs⟩
 obtain ⟨c3, h1, h2, h3⟩ := lookb k b cs hm
 refine ⟨c3, ?_, h3⟩
 exact List.mem_map.2 ⟨(k, b, cs), hm, by simp [h1]⟩
theorem rfunc_sound {X : List PanicEntry → World → Prop} {Q : Exit → St → World → Prop} {s : St} {a : Act} {w wa : World} {g : Operand} {ps : Array Tmp} {cx cy : Code} {lv : List LV} {scs : List Sh} {x y : AC} {pn : Bool} {vs0 : List Value} {gv : Value}
  (hg : Good s a w wa) (hN : a.tmps.size = N) (hgv : s.ev g = some gv) (hlo : locsOnly lv = true) (hps : ps.size = scs.length) (hnx : hasRf cx = false) (hny : hasRf cy = false) (hpN : (ps.toList.all fun p => Nat.blt p N) = true) (hvs0 : lvGet s lv = some vs0)
  (ihx : ∀ (r : Option Nat) (X : List PanicEntry → World → Prop) (s : St) (w wa : World) (a : Act) (Q : Exit → St → World → Prop), vc P X x cx s w Q → Good s a w wa → a.tmps.size = N → cx.wpIn (fR r) 0 P (PostX (cdsts cx) (!hasRf cx) a s X Q) a wa)
  (ihy : ∀ (r : Option Nat) (X : List PanicEntry → World → Prop) (s : St) (w wa : World) (a : Act) (Q : Exit → St → World → Prop), vc P X y cy s w Q → Good s a w wa → a.tmps.size = N → cy.wpIn (fR r) 0 P (PostX (cdsts cy) (!hasRf cy) a s X Q) a wa)
  (h : ∀ (L : Nat) (w1 : World), Rf wa w1 L → ∀ (J : List Value → World → Prop) (Z : Exit → List Value → World → Prop),
    (∀ vs W W', J vs W → Keep (L :: wa.heap.size :: (s.kp.map (·.1) ++ blocks s.l)) W W' → J vs W') →
    (∀ e vs W W', Z e vs W → Keep (L :: wa.heap.size :: (s.kp.map (·.1) ++ blocks s.l)) W W' → Z e vs W') →
    J vs0 w1 →
    lvAll (fun vs s' => allT scs fun args => ∀ (W : World) (R : Ending → World → Prop), J vs W →
     (∀ oL oB : Obj, vc P noX x cx ((setPs ps.toList args s').withKp ((L, oL) :: (wa.heap.size, defObj) :: s.kp)) W
      (thenQ (fun s2 w2 => sync s2 w2 fun w2 => ∀ w3, Put L w2 w3 → vc P noX y cy (s2.clean.withKp ((L, oB) :: (wa.heap.size, defObj) :: s.kp)) w3 (roundQ lv L J Z R)) (fun _ _ _ => False))) →
     YieldAt Fence.wide 0 P L args.toArray W R) lv [] (s.clean.withRo (roOf s lv)) →
    callF P gv [.func (.yield L) #[] #[]] w1 (rangeQ pn lv L ((wa.heap.size, defObj) :: s.kp) J Z (exOnce (exitsOf [] cy)) s w1 X Q)) :
  (Code.rangeFunc g ps cx cy).wpIn (fR none) 0 P (PostX [] false a s X Q) a wa := by
 refine wpIn_rangeFunc ?_
 intro fn hfn
 obtain ⟨D, hD⟩ : ∃ D, D = wa.heap.size := ⟨_, rfl⟩
 obtain ⟨rec, hrec⟩ : ∃ rec : LoopState → Option Code → Loop, rec = fun st pe => { state := st, pending := pe, fn, tmps := a.tmps, params := ps, assign := cx, body := cy, defers := wa.heap.size } := ⟨_, rfl⟩
 obtain ⟨W1, hW1⟩ : ∃ W1, (wa.alloc defObj).alloc (.loop (rec .ready none)) = W1 := ⟨_, rfl⟩
 have hE1 : Ext wa W1 := by rw [← hW1]; exact ((Ext.refl wa).alloc _).alloc _
 have hL1 : W1.heap[D + 1]? = some (.loop (rec .ready none)) := by
  rw [← hW1, hD]; have := World.alloc_heap_new (wa.alloc defObj) (.loop (rec .ready none)); rwa [World.size_alloc] at this
 have hK1 : W1.heap[D]? = some defObj := by
  rw [← hW1, hD]; exact (Below.heap_alloc _ _ _ (by simp)).trans (World.alloc_heap_new wa _)
 have hdok := hg.ag.dok
 have hDn : D ∉ s.kp.map (·.1) := fun hm => by have := hdok.lt hm; omega
 have hLn : D + 1 ∉ D :: s.kp.map (·.1) := fun hm => by
  rcases List.mem_cons.1 hm with hm | hm
  ·omega
  ·have := hdok.lt hm; omega
 have hkb : (keysOf s.l).Nodup ∧ (blocks s.l).Nodup := ⟨hg.ag.lok.keys, hg.ag.lok.blks⟩
 have hpre : ∀ {l1 : List (Nat × Nat × List Value)}, (∀ k b cs, (k, b, cs) ∈ s.l → ∃ cs', (k, b, cs') ∈ l1 ∧ (k ∉ lvKeys lv ∨ k ∈ s.ro → cs' = cs)) → ∀ ro, PreS (lvKeys lv) (s.clean.withRo ro) a l1 := fun hrel ro =>
  ⟨hg.ag.v, hg.ag.loc, hg.ag.lsl, fun k b cs hm => by obtain ⟨c, h1, h2⟩ := hrel k b cs hm; exact ⟨c, h1, fun h => h2 (.inl h)⟩, hkb.1, hkb.2⟩
 have hsame : ∀ {l1 : List (Nat × Nat × List Value)} {s' : St}, (keysOf l1).Nodup → (∀ k b cs, (k, b, cs) ∈ s.l → ∃ cs', (k, b, cs') ∈ l1 ∧ (k ∉ lvKeys lv ∨ k ∈ s.ro → cs' = cs)) → PreS [] s' a l1 → ∀ k b cs c1, (k, b, cs) ∈ s.l → (k, b, c1) ∈ s'.l → (k ∉ lvKeys lv ∨ k ∈ s.ro) → c1 = cs := fun hnd hrel hp k b cs c1 hm h1 hc => by
  obtain ⟨c, h2, h3⟩ := hrel k b cs hm
  obtain ⟨c', h4, h5⟩ := hp.l k b c1 h1
  have := inj_of_nodup' hnd h2 h4 rfl
  cases this
  exact (h5 (by simp)).symm.trans (h3 hc)
 have hRf : Rf wa W1 (D + 1) := ⟨hE1, by rw [hD], by rw [← hW1]; simp⟩
 rw [← hD] at h
 have hcall := h (D + 1) W1 hRf (RJ s lv (D + 1) D (rec .ready none)) (fun e vs W => ∃ c, codeOf e = some c ∧ RJ s lv (D + 1) D (rec .done (some c)) vs W)
  (fun vs W W' hJ hk => hJ.keep hk) (fun e vs W W' ⟨c, hc, hJ⟩ hk => ⟨c, hc, hJ.keep hk⟩)
  ⟨hL1, (hdok.kpk hE1.kpk).cons hK1 rfl hDn, s.l, rfl, (hg.ag.ext hE1).lok, fun k b cs hm => ⟨cs, hm, fun _ => rfl⟩, hvs0⟩
  (lvAll_intro hlo fun vs s' hm => allT_intro fun args hargs W R hJ hb => by
   rw [List.nil_append] at hJ
   obtain ⟨hL, hkp, l1, hbl, hlk, hrel, hget⟩ := hJ
   obtain ⟨hp2, hd, hro, hkp', hρ, hrel2⟩ := made_inst (sc := { s with l := l1 }) hlk.keys hm hget (hpre hrel _)
   have hd0 : s'.dirty = false := hd
   have hAg : Agree s' a W := (hp2.good hlk hd0 (by rw [hkp']; exact hkp.tail)).ag
   have hlt : ∀ p, p ∈ ps.toList → p < a.tmps.size := fun p hp => by
    have := List.all_eq_true.1 hpN p hp
    rw [hN]; simpa [Nat.blt_eq] using this
   have hAg2 := setPs_agree ps.toList args s' a hAg hlt
   obtain ⟨sl1, sl2, sl3, sl4⟩ := setPs_l ps.toList args s'
   have hfold : ((ps.zip args.toArray).foldl (fun (t : Array Value) (x : Tmp × Value) => t.setIfInBounds x.1 x.2) a.tmps) = (ps.toList.zip args).foldl (fun t x => t.setIfInBounds x.1 x.2) a.tmps := by
    rw [← Array.foldl_toList]; simp
   have hkL : KpAt ((D + 1, .loop (rec .ready none)) :: (D, defObj) :: s.kp) W := hkp.cons hL rfl (by simpa using hLn)
   let aA : Act := { tmps := (ps.zip args.toArray).foldl (fun (t : Array Value) (x : Tmp × Value) => t.setIfInBounds x.1 x.2) a.tmps, defers := [] }
   have hNA : aA.tmps.size = N := by simp only [aA]; rw [hfold, foldl_size]; exact hN
   have hgA : Good ((setPs ps.toList args s').withKp ((D + 1, .loop (rec .ready none)) :: (D, defObj) :: s.kp)) aA W W := by
    refine ⟨⟨?_, ?_, ?_, hAg2.lok, hkL⟩, fun hx => ?_, fun _ => rfl⟩
    ·have := hAg2.v; simp only [aA]; rw [hfold]; exact this
    ·have := hAg2.loc; simp only [aA]; rw [hfold]; exact this
    ·have := hAg2.lsl; simp only [aA]; rw [hfold]; exact this
    ·have : (setPs ps.toList args s').dirty = true := hx
     rw [sl4, hd0] at this; cases this
   have hy := run_yield (P := P) (args := args.toArray) hL (by rw [hrec]; simp [hps, hargs])
   rw [hrec] at hy
   refine ⟨fn, _, cx, cy, hy, roundIn_of_wpIn (F := Fence.wide) trivial ?_⟩
   let oB : Obj := .loop { rec .ready none with state := .busy }
   refine wpIn_mono (ihx (some (D + 1)) noX _ W W aA _ (hb (.loop (rec .ready none)) oB) hgA hNA) ?_
   intro e a2 wa2 hpost
   rcases hpost with ⟨ch, kpx, rfl, _, _, _, _, hx⟩ | ⟨hne, hno, hf2, s2, w2, kpx, hn2, hmk2, hkp2, hg2, hl2, hq⟩
   ·exact (shutW_self hx : noX _ _).elim
   obtain rfl := hn2 (by simp [hnx])
   rcases then_normal hq with ⟨rfl, hq⟩ | ⟨_, hq⟩
   ·have hq := hg2.sync hq
    have hdok2 := hg2.ag.dok
    rw [hkp2] at hdok2
    have hL2 := (hdok2.at_ (D + 1) _ (List.mem_cons_self ..)).1
    have hput := Put.putObj (D + 1) wa2 oB
    have hkp3 : KpAt ((D + 1, oB) :: (D, defObj) :: s.kp) (wa2.putObj (D + 1) oB) :=
     ((hdok2.tail).put hput (by simpa using hLn)).cons (World.putObj_heap_same (Array.getElem?_eq_some_iff.1 hL2).1) rfl (by simpa using hLn)
    have hg2' : Good (s2.clean.withKp ((D + 1, oB) :: (D, defObj) :: s.kp)) a2 (wa2.putObj (D + 1) oB) (wa2.putObj (D + 1) oB) :=
     ⟨⟨hg2.ag.v, hg2.ag.loc, hg2.ag.lsl, hput.locks hg2.ag.lok hL2 rfl, hkp3⟩, fun hx => (by cases hx), fun _ => rfl⟩
    refine ⟨_, run_beginRound hL2 (by rw [hrec]), ?_⟩
    refine wpIn_mono (ihy (some (D + 1)) noX _ _ _ a2 _ (hq _ hput) hg2' (by rw [hf2.size]; exact hNA)) ?_
    intro e3 a3 wa3 hpost3
    rcases hpost3 with ⟨ch, kpx, rfl, _, _, _, _, hx⟩ | ⟨hne3, hno3, hf3, s3, w3, kpx, hn3, hmk3, hkp3', hg3, hl3, hq3⟩
    ·exact (shutW_self hx : noX _ _).elim
    obtain rfl := hn3 (by simp [hny])
    have hdok3 := hg3.ag.dok
    rw [hkp3'] at hdok3
    have hL3 := (hdok3.at_ (D + 1) _ (List.mem_cons_self ..)).1
    have hrel3 : ∀ k b cs, (k, b, cs) ∈ s.l → ∃ cs', (k, b, cs') ∈ s3.l ∧ (k ∉ lvKeys lv ∨ k ∈ s.ro → cs' = cs) := fun k b cs hmm => by
     obtain ⟨c1, g1, g2⟩ := hrel2 k b cs hmm
     have g1' : (k, b, c1) ∈ ((setPs ps.toList args s').withKp ((D + 1, .loop (rec .ready none)) :: (D, defObj) :: s.kp)).l := by
      show (k, b, c1) ∈ (setPs ps.toList args s').l
      rw [sl1]; exact g1
     obtain ⟨c2, g3, g4⟩ := hl2.2 k b c1 g1'
     obtain ⟨c3, g5, g6⟩ := hl3.2 k b c2 g3
     refine ⟨c3, g5, fun hk => ?_⟩
     have hro1 : ((setPs ps.toList args s').withKp ((D + 1, .loop (rec .ready none)) :: (D, defObj) :: s.kp)).ro = roOf s lv := by
      show (setPs ps.toList args s').ro = _
      rw [sl2, hro]; rfl
     have hkr : k ∈ roOf s lv := by
      simp only [roOf, List.mem_append, List.mem_filter]
      rcases hk with hk | hk
      case inr => exact .inl hk
      refine .inr ⟨List.mem_map.2 ⟨(k, b, cs), hmm, rfl⟩, ?_⟩
      cases hbb : (lvKeys lv).any (Nat.beq k)
      ·rfl
      ·obtain ⟨z, hz, he⟩ := List.any_eq_true.1 hbb
       exact absurd (Nat.eq_of_beq_eq_true he ▸ hz) hk
     have h1 := g4 (by rw [hro1]; exact hkr)
     have h2 := g6 (by show k ∈ s2.ro; rw [hl2.1, hro1]; exact hkr)
     rw [h2, h1, hsame hlk.keys hrel hp2 k b cs c1 hmm g1 hk]
    have again : ∀ (r1 : Loop) (vs' : List Value), lvGet s3 lv = some vs' → RJ s lv (D + 1) D r1 vs' (wa3.putObj (D + 1) (.loop r1)) := fun r1 vs' hv =>
     rj_again hg3 (.inr hkb) hL3 hdok3.tail hLn hlo hvs0 hrel3 hv
    cases e3 with
    | normal =>
     obtain ⟨vs', hvs', hq3⟩ := lvIs_some (hg3.sync hq3)
     refine ⟨_, _, run_endRound none hL3, ?_⟩
     have := hq3 _ (Put.putObj (D + 1) wa3 _) (again (rec .ready none) vs' hvs')
     rw [hrec] at this ⊢
     exact this
    | ret =>
     obtain ⟨vs', hvs', hq3⟩ := lvIs_some (hg3.sync hq3)
     refine ⟨_, _, run_endRound (some .ret) hL3, ?_⟩
     have := hq3 _ (Put.putObj (D + 1) wa3 _) ⟨.ret, rfl, again (rec .done (some .ret)) vs' hvs'⟩
     rw [hrec] at this ⊢
     exact this
    | exit i =>
     obtain ⟨vs', hvs', hq3⟩ := lvIs_some (hg3.sync hq3)
     refine ⟨_, _, run_endRound (some (.exit i)) hL3, ?_⟩
     have := hq3 _ (Put.putObj (D + 1) wa3 _) ⟨.exit i, rfl, again (rec .done (some (.exit i))) vs' hvs'⟩
     rw [hrec] at this ⊢
     exact this
    | goto l => exact hq3.elim
    | panic ch => exact absurd rfl (hne3 ch)
    | outgrown => exact absurd rfl hno3
   ·exact hq.elim)
 obtain ⟨f, first, caps, rfl⟩ := callF_cases hcall
 simp only [callF] at hcall
 split at hcall <;> try exact hcall.elim
 rename_i hok
 have hev := hg.ag.ev hgv
 have hinv : (callFunc f (first ++ #[Value.func (.yield (D + 1)) #[] #[]] ++ caps)).run P W1 = .ok (.enter f (first.toList ++ [Value.func (.yield (D + 1)) #[] #[]] ++ caps.toList).toArray) W1 := by
  unfold FnOk at hok
  split at hok <;> try cases hok
  rename_i fn hfn
  simp only [Bool.and_eq_true, Bool.not_eq_true'] at hok
  have hb : fn.body.isNone = false := by cases hb : fn.body <;> simp_all
  have : first ++ #[Value.func (.yield (D + 1)) #[] #[]] ++ caps = (first.toList ++ [Value.func (.yield (D + 1)) #[] #[]] ++ caps.toList).toArray := by simp
  have hb' : fn.body ≠ none := by intro e; rw [e] at hb; cases hb
  have hn' : fn.name ≠ "runtime.NumGoroutine" := by intro e; rw [e] at hok; simp at hok
  simp [callFunc, hfn, hn', hb', this]
 refine ⟨D + 1, [markOf (D, defObj)], W1, { target := .fn (.func f) caps, args := first ++ #[Value.func (.yield (D + 1)) #[] #[]] }, W1, f, (first.toList ++ [Value.func (.yield (D + 1)) #[] #[]] ++ caps.toList).toArray, W1, ?_, ?_, ?_, ?_, fun hd => (by cases hd), ?_⟩
 ·rw [← hW1, hrec, hD]; exact run_enterLoop_outer _ _ _ _ _
 ·simp only [resolve, hev, rangeCall, Deferred.ofValue]
  simp [go_sem, Act.eval]
 ·intro f' hf'; trivial
 ·simp only [invoke]; exact hinv
 ·refine (callsIn_wide.2 (hcall.mono fun e w' hw => ?_) :)
  have after : ∀ {vs : List Value} {s' : St} {r0 r1 : Loop}, Made lv vs s.clean s' → RJ s lv (D + 1) D r0 vs w' →
    Good (s'.withKp ((D, defObj) :: s.kp)) { a with defers := [markOf (D, defObj)] ++ a.defers } (w'.putObj (D + 1) (.loop r1)) (w'.putObj (D + 1) (.loop r1)) ∧ LFrC s (s'.withKp ((D, defObj) :: s.kp)) := by
   intro vs s' r0 r1 hm hJ
   obtain ⟨hL, hkp, l1, hbl, hlk, hrel, hget⟩ := hJ
   obtain ⟨hp2, hd, hro, hkp', hρ, hrel2⟩ := made_inst (sc := { s with l := l1 }) hlk.keys hm hget (hpre hrel s.ro)
   have hput := Put.putObj (D + 1) w' (.loop r1)
   have hg1 := hp2.good (hput.locks hlk hL rfl) hd (by rw [hkp']; exact hkp.tail.put hput (fun hm => hLn (List.mem_cons_of_mem _ hm)))
   refine ⟨⟨⟨hg1.ag.v, hg1.ag.loc, hg1.ag.lsl, hg1.ag.lok, hkp.put hput (by simpa using hLn)⟩, fun hx => ?_, fun _ => rfl⟩, ⟨hro, fun k b cs hmm => ?_⟩⟩
   ·have : s'.dirty = true := hx
    rw [hd] at this; cases this
   ·obtain ⟨c1, g1, g2⟩ := hrel2 k b cs hmm
    exact ⟨c1, g1, fun hr => hsame hlk.keys hrel hp2 k b cs c1 hmm g1 (.inr hr)⟩
  have hmk : MkX [(D, defObj)] a { a with defers := [markOf (D, defObj)] ++ a.defers } := ⟨fun z hz => by simp at hz; subst hz; rfl, rfl⟩
  have ret : (∃ v, e = .returned v ∧ ((lvEx (fun vs s' => RJ s lv (D + 1) D (rec .ready none) vs w' ∧ ∀ w'', Put (D + 1) w' w'' → Q .normal (s'.withKp ((D, defObj) :: s.kp)) w'') lv [] s.clean) ∨
    exOr (exOnce (exitsOf [] cy)) fun x => lvEx (fun vs s' => (∃ c, codeOf x = some c ∧ RJ s lv (D + 1) D (rec .done (some c)) vs w') ∧ ∀ w'', Put (D + 1) w' w'' → Q x (s'.withKp ((D, defObj) :: s.kp)) w'') lv [] s.clean)) →
    rangePost (fR none) 0 P (D + 1) (PostX [] false a s X Q) { a with defers := [markOf (D, defObj)] ++ a.defers } e w' := by
   rintro ⟨v, rfl, hlr⟩
   rcases hlr with hl | hr
   ·obtain ⟨vs, s', hm, hJ, hq⟩ := lvEx_elim hl
    rw [List.nil_append] at hJ
    have hend := run_endLoop (P := P) hJ.1 (by rw [hrec]; simp)
    obtain ⟨hgd, hlf⟩ := after (r1 := { rec .ready none with state := .exhausted }) hm hJ
    have hend' : (Instr.endLoop (D + 1)).run P w' = .ok none (w'.putObj (D + 1) (.loop { rec .ready none with state := .exhausted })) := by rw [hrec] at hend ⊢; exact hend
    refine ⟨none, _, hend', ?_⟩
    exact .inr ⟨by simp, by simp, ⟨rfl, fun _ _ => rfl⟩, _, _, [(D, defObj)], (fun h => by cases h), hmk, rfl, hgd, hlf, hq _ (Put.putObj _ _ _)⟩
   ·obtain ⟨x, hx, hl⟩ := exOr_elim hr
    obtain ⟨vs, s', hm, ⟨c, hc, hJ⟩, hq⟩ := lvEx_elim hl
    rw [List.nil_append] at hJ
    have hend := run_endLoop (P := P) hJ.1 (by rw [hrec]; simp)
    obtain ⟨hgd, hlf⟩ := after (r1 := { rec .done (some c) with state := .exhausted }) hm hJ
    have hend' : (Instr.endLoop (D + 1)).run P w' = .ok (some c) (w'.putObj (D + 1) (.loop { rec .done (some c) with state := .exhausted })) := by rw [hrec] at hend ⊢; exact hend
    refine ⟨some c, _, hend', ?_⟩
    have hfin : x ≠ .outgrown → (∀ ch, x ≠ .panic ch) → PostX [] false a s X Q x { a with defers := [markOf (D, defObj)] ++ a.defers } _ := fun h1 h2 =>
     .inr ⟨h2, h1, ⟨rfl, fun _ _ => rfl⟩, _, _, [(D, defObj)], (fun h => by cases h), hmk, rfl, hgd, hlf, hq _ (Put.putObj _ _ _)⟩
    cases x <;> simp only [codeOf] at hc <;> try cases hc
    ·exact wpIn_exit (hfin (by simp) (by simp))
    ·exact wpIn_ret (hfin (by simp) (by simp))
  unfold rangeQ at hw
  cases pn
  ·have := ret hw
   cases e <;> exact this
  ·rcases hw with hw | ⟨ch, rfl, hk, hx⟩
   ·have := ret hw
    cases e <;> exact this
   ·exact .inl ⟨ch, [(D, defObj)], rfl, ⟨rfl, fun _ _ => rfl⟩, fun h => (by cases h), hmk, dok_keep (bs := []) (by simpa using hk) ((hdok.kpk hE1.kpk).cons hK1 rfl hDn), hx⟩
theorem code_sound (hm : P.follows .mixedOrders = true) : ∀ (ac : AC) (r : Option Nat) (X : List PanicEntry → World → Prop) (c : Code) (s : St) (w wa : World) (a : Act) (Q : Exit → St → World → Prop), (r = none ∨ hasRf c = false) → okC P N ac c = true → vc P X ac c s w Q → Good s a w wa → a.tmps.size = N →
  c.wpIn (fR r) 0 P (PostX (cdsts c) (!hasRf c) a s X Q) a wa := by
 intro ac
 induction ac with
 | skip =>
  intro r X c s w wa a Q hrf hok h hg hN
  cases c <;> simp only [vc] at h <;> try exact h.elim
  exact wpIn_skip (.inr ⟨by simp, by simp, FrC.refl _ _, s, w, [], fun _ => rfl, MkX.refl _, rfl, hg, LFrC.refl s, h⟩)
 | ret =>
  intro r X c s w wa a Q hrf hok h hg hN
  cases c <;> simp only [vc] at h <;> try exact h.elim
  exact wpIn_ret (.inr ⟨by simp, by simp, FrC.refl _ _, s, w, [], fun _ => rfl, MkX.refl _, rfl, hg, LFrC.refl s, h⟩)
 | exit =>
  intro r X c s w wa a Q hrf hok h hg hN
  cases c <;> simp only [vc] at h <;> try exact h.elim
  exact wpIn_exit (.inr ⟨by simp, by simp, FrC.refl _ _, s, w, [], fun _ => rfl, MkX.refl _, rfl, hg, LFrC.refl s, h⟩)
 | reg p =>
  intro r X c s w wa a Q hrf hok h hg hN
  cases c <;> simp only [vc] at h <;> try exact h.elim
  rename_i id ops dr
  simp only [okC, Bool.and_eq_true] at hok
  have hnd := noDefer_of hok.1.1
  have hQ : ∀ c a' d v w', (∀ t, d = some t → t ∈ odsts ops) → PostX (odsts ops) true a s X Q (.panic c) (Act.put a' d v) w' → PostX (odsts ops) true a s X Q (.panic c) a' w' := by
   intro c a' d v w' hd0 hx
   rcases hx with ⟨ch, kpx, he, hfp, hn, hmk, hk, hx⟩ | ⟨hne, _⟩
   ·cases he
    refine .inl ⟨c, kpx, rfl, hfp.unput hd0, hn, ⟨hmk.1, ?_⟩, hk, hx⟩
    have := hmk.2
    cases d <;> exact this
   ·exact absurd rfl (hne c)
  have hX : ∀ ch w' a', Fr (odsts ops) a a' → KpAt s.kp w' → shutW (s.kp.map (·.1)) w' (X ch) → PostX (odsts ops) true a s X Q (.panic ch) a' w' := fun ch w' a' hf hk hx => .inl ⟨ch, [], rfl, hf.c, fun _ => rfl, ⟨(fun _ h => by cases h), hf.defers⟩, hk, hx⟩
  have hfin : ∀ s' a' w' wa', Fr (odsts ops) a a' → Good s' a' w' wa' → LFr s s' → Q .normal s' w' → PostX (odsts ops) true a s X Q .normal a' wa' :=
   fun s' a' w' wa' hf hg' hl hq => .inr ⟨by simp, by simp, hf.c, s', w', [], fun _ => rfl, ⟨(fun _ h => by cases h), hf.defers⟩, hl.1.2, hg', hl.c, hq⟩
  cases dr with
  | false =>
   have := (plan_sound (P := P) (X := fun ch w => shutW (s.kp.map (·.1)) w (X ch)) (dr := false) (ds := odsts ops) (r := r) hok.1.2 hQ hX hfin (B := []) (rl := []) (fun _ h => by cases h) (fun _ h => by cases h) p ops.size #[] a s w wa trivial hg (Fr.refl _ _) (LFr.refl s) hN h).1 hok.2
   refine wpIn_region (wpOpsR_in hnd _ _ _ ?_)
   simp only [G, Nat.sub_self] at this
   rwa [← List.range_eq_range'] at this
  | true =>
   have hg' : Good s a (drewW true s w) wa.drew := by
    cases hd : s.dirty
    ·have := hg.clean hd
     subst this
     exact ⟨hg.ag.ext (Ext.refl _).drew, fun hx => (by rw [hd] at hx; cases hx), fun _ => by simp [drewW, hd]⟩
    ·have hl := hg.dirty hd
     refine ⟨hg.ag.ext (Ext.refl _).drew, fun _ => ?_, fun hx => (by rw [hd] at hx; cases hx)⟩
     simp only [drewW, hd]
     exact ⟨hl.os, hl.tape, hl.output, hl.size, hl.block, hl.there⟩
   have hcl : Cl true ops (Array.replicate ops.size false) := by
    intro j o hj
    simp [Array.getElem?_replicate] at hj
    split at hj <;> simp at hj
   have := (plan_sound (P := P) (X := fun ch w => shutW (s.kp.map (·.1)) w (X ch)) (dr := true) (ds := odsts ops) (r := r) hok.1.2 hQ hX hfin (B := []) (rl := []) (fun _ h => by cases h) (fun _ h => by cases h) p ops.size _ a s _ wa.drew hcl hg' (Fr.refl _ _) (LFr.refl s) hN h).1 hok.2
   exact wpIn_region_any hm (wpAnyR_in hnd _ _ _ _ (wpAny_of_K _ _ _ _ this))
 | regR rl p =>
  intro r X c s w wa a Q hrf hok h hg hN
  cases c <;> simp only [vc] at h <;> try exact h.elim
  rename_i id ops dr
  split at h <;> try exact h.elim
  rename_i hall
  simp only [okC, Bool.and_eq_true] at hok
  have hB : ∀ k, k ∈ rl → ∃ b cs, (k, b, cs) ∈ (s.withRo (rl ++ s.ro)).l ∧ b ∈ (s.l.filter (fun x => rl.any (Nat.beq x.1))).map (·.2.1) := by
   intro k hk
   obtain ⟨⟨b, cs⟩, hl⟩ := Option.isSome_iff_exists.1 (List.all_eq_true.1 hall k hk)
   have hm := look_mem hl
   exact ⟨b, cs, hm, List.mem_map.2 ⟨_, List.mem_filter.2 ⟨hm, List.any_eq_true.2 ⟨k, hk, Nat.beq_refl k⟩⟩, rfl⟩⟩
  have hB' : ∀ b, b ∈ (s.l.filter (fun x => rl.any (Nat.beq x.1))).map (·.2.1) → ∃ k cs, k ∈ (s.withRo (rl ++ s.ro)).ro ∧ (k, b, cs) ∈ (s.withRo (rl ++ s.ro)).l := by
   intro b hb
   obtain ⟨⟨k, b', cs⟩, hm, rfl⟩ := List.mem_map.1 hb
   obtain ⟨hm, hk⟩ := List.mem_filter.1 hm
   exact ⟨k, cs, List.mem_append_left _ (hasN_spec (by simpa [hasN] using hk)), hm⟩
  have hnd := noDefer_of hok.1.1
  have hQ : ∀ c a' d v w', (∀ t, d = some t → t ∈ odsts ops) → PostX (odsts ops) true a s X Q (.panic c) (Act.put a' d v) w' → PostX (odsts ops) true a s X Q (.panic c) a' w' := by
   intro c a' d v w' hd0 hx
   rcases hx with ⟨ch, kpx, he, hfp, hn, hmk, hk, hx⟩ | ⟨hne, _⟩
   ·cases he
    refine .inl ⟨c, kpx, rfl, hfp.unput hd0, hn, ⟨hmk.1, ?_⟩, hk, hx⟩
    have := hmk.2
    cases d <;> exact this
   ·exact absurd rfl (hne c)
  have hX : ∀ ch w' a', Fr (odsts ops) a a' → KpAt s.kp w' → shutW (s.kp.map (·.1)) w' (X ch) → PostX (odsts ops) true a s X Q (.panic ch) a' w' := fun ch w' a' hf hk hx => .inl ⟨ch, [], rfl, hf.c, fun _ => rfl, ⟨(fun _ h => by cases h), hf.defers⟩, hk, hx⟩
  have hfin : ∀ s' a' w' wa', Fr (odsts ops) a a' → Good s' a' w' wa' → LFr (s.withRo (rl ++ s.ro)) s' → Q .normal (s'.withRo s.ro) w' → PostX (odsts ops) true a s X Q .normal a' wa' :=
   fun s' a' w' wa' hf hg' hl hq => .inr ⟨by simp, by simp, hf.c, s'.withRo s.ro, w', [], fun _ => rfl, ⟨(fun _ h => by cases h), hf.defers⟩, hl.1.2, hg'.withRo _,
    (show LFr s (s'.withRo s.ro) from ⟨⟨rfl, hl.1.2⟩, fun k b cs h => let ⟨c, h1, h2⟩ := hl.2 k b cs h; ⟨c, h1, fun hr => h2 (List.mem_append_right _ hr)⟩⟩).c, hq⟩
  cases dr with
  | false =>
   have := (plan_sound (P := P) (X := fun ch w => shutW (s.kp.map (·.1)) w (X ch)) (dr := false) (ds := odsts ops) (r := r) hok.1.2 hQ hX hfin (s0 := s.withRo (rl ++ s.ro)) hB hB' p ops.size #[] a _ w wa trivial (hg.withRo _) (Fr.refl _ _) (LFr.refl _) hN h).1 hok.2
   refine wpIn_region (wpOpsR_in hnd _ _ _ ?_)
   simp only [G, Nat.sub_self] at this
   rwa [← List.range_eq_range'] at this
  | true =>
   have hg' : Good s a (drewW true s w) wa.drew := by
    cases hd : s.dirty
    ·have := hg.clean hd
     subst this
     exact ⟨hg.ag.ext (Ext.refl _).drew, fun hx => (by rw [hd] at hx; cases hx), fun _ => by simp [drewW, hd]⟩
    ·have hl := hg.dirty hd
     refine ⟨hg.ag.ext (Ext.refl _).drew, fun _ => ?_, fun hx => (by rw [hd] at hx; cases hx)⟩
     simp only [drewW, hd]
     exact ⟨hl.os, hl.tape, hl.output, hl.size, hl.block, hl.there⟩
   have hcl : Cl true ops (Array.replicate ops.size false) := by
    intro j o hj
    simp [Array.getElem?_replicate] at hj
    split at hj <;> simp at hj
   have := (plan_sound (P := P) (X := fun ch w => shutW (s.kp.map (·.1)) w (X ch)) (dr := true) (ds := odsts ops) (r := r) hok.1.2 hQ hX hfin (s0 := s.withRo (rl ++ s.ro)) hB hB' p ops.size _ a _ _ wa.drew hcl (hg'.withRo _) (Fr.refl _ _) (LFr.refl _) hN h).1 hok.2
   exact wpIn_region_any hm (wpAnyR_in hnd _ _ _ _ (wpAny_of_K _ _ _ _ this))
 | seq x y ihx ihy =>
  intro r X c s w wa a Q hrf hok h hg hN
  cases c <;> simp only [vc] at h <;> try exact h.elim
  rename_i cx cy
  simp only [okC, Bool.and_eq_true] at hok
  have rx : r = none ∨ hasRf cx = false := hrf.imp id fun h => by simp [hasRf] at h; exact h.1
  have ry : r = none ∨ hasRf cy = false := hrf.imp id fun h => by simp [hasRf] at h; exact h.2
  have nx : (!hasRf (.seq cx cy)) = true → (!hasRf cx) = true ∧ (!hasRf cy) = true := fun h => by simpa [hasRf] using h
  refine wpIn_seq (wpIn_mono (ihx r X cx s w wa a _ rx hok.1 h hg hN) ?_)
  intro e a1 wa1 hp
  rcases hp with ⟨ch, kpx, rfl, hfp, hn, hmk, hkp, hx⟩ | ⟨hne, hno, hf, s1, w1, kpx, hn, hmk, hkp, hg1, hl1, hq⟩
  ·exact .inl ⟨ch, kpx, rfl, hfp.mono (fun t ht => by simp [cdsts, ht]), fun h => hn (nx h).1, hmk, hkp, hx⟩
  ·rcases then_normal hq with ⟨rfl, hq⟩ | ⟨hne', hq⟩
   ·exact wpIn_mono (ihy r X cy s1 w1 wa1 a1 Q ry hok.2 hq hg1 (by rw [hf.size]; exact hN)) fun e a2 w2 h2 =>
     postX_trans hf hl1 hmk hkp hn nx (fun t ht => by simp [cdsts, ht]) (fun t ht => by simp [cdsts, ht]) h2
   ·exact exit_then hne' (.inr ⟨hne, hno, hf.mono (fun t ht => by simp [cdsts, ht]), s1, w1, kpx, fun h => hn (nx h).1, hmk, hkp, hg1, hl1, hq⟩)
 | cut lv x y ihx ihy =>
  intro r X c s w wa a Q hrf hok h hg hN
  cases c <;> simp only [vc] at h <;> try exact h.elim
  rename_i cx cy
  simp only [okC, Bool.and_eq_true, Bool.not_eq_true'] at hok
  obtain ⟨R, hx, hy⟩ := h
  have ry : r = none ∨ hasRf cy = false := hrf.imp id fun h => by simp [hasRf] at h; exact h.2
  have nx : (!hasRf (.seq cx cy)) = true → (!hasRf cx) = true ∧ (!hasRf cy) = true := fun h => by simpa [hasRf] using h
  have n0 : (!hasRf cx) = true := by simp [hok.2]
  refine wpIn_seq (wpIn_mono (ihx r X cx _ w wa a _ (.inr hok.2) hok.1.1 hx (hg.withRo _) hN) ?_)
  intro e a1 wa1 hp
  rcases hp with ⟨ch, kpx, rfl, hfp, hn, hmk, hkp, hx⟩ | ⟨hne, hno, hf, s1, w1, kpx, hn, hmk, hkp, hg1, hl1, hq⟩
  ·exact .inl ⟨ch, kpx, rfl, hfp.mono (fun t ht => by simp [cdsts, ht]), fun h => hn (nx h).1, hmk, hkp, hx⟩
  ·obtain rfl := hn n0
   rcases then_normal hq with ⟨rfl, hq⟩ | ⟨hne', hq⟩
   ·obtain ⟨vs, hvs, hR⟩ := lvIs_some (hg1.sync hq)
    obtain ⟨s2, h2, h3, h4, h5, h6⟩ := lv_inst hg1.ag lv [] vs _ hy hvs (preS_after hg hf hl1)
    have hkp2 : KpAt s2.kp wa1 := by rw [h5.2]; have := hg1.ag.dok; rw [hkp] at this; exact this
    have hg2 : Good s2 a1 wa1 wa1 := h3.good hg1.ag.lok (by rw [h4]; rfl) hkp2
    have hl2 : LFrC s s2 := lfr_inst hl1 hg1.ag.lok h3 h5.1 h6
    simp only [List.nil_append] at h2
    exact wpIn_mono (ihy r X cy s2 wa1 wa1 a1 Q ry hok.1.2 (h2 wa1 hR) hg2 (by rw [hf.size]; exact hN)) fun e a2 w2 h7 =>
     postX_trans hf hl2 hmk (by rw [h5.2]; rfl) (fun _ => rfl) (fun h => ⟨rfl, (nx h).2⟩) (fun t ht => by simp [cdsts, ht]) (fun t ht => by simp [cdsts, ht]) h7
   ·exact exit_then hne' (.inr ⟨hne, hno, hf.mono (fun t ht => by simp [cdsts, ht]), s1.withRo s.ro, w1, [], fun _ => rfl, hmk, hkp, hg1.withRo _, ro_back hl1, hq⟩)
 | cond x y ihx ihy =>
  intro r X c s w wa a Q hrf hok h hg hN
  cases c <;> simp only [vc] at h <;> try exact h.elim
  rename_i co cx cy
  simp only [okC, Bool.and_eq_true] at hok
  split at h <;> try exact h.elim
  rename_i t ht
  have rx : r = none ∨ hasRf cx = false := hrf.imp id fun h => by simp [hasRf] at h; exact h.1
  have ry : r = none ∨ hasRf cy = false := hrf.imp id fun h => by simp [hasRf] at h; exact h.2
  have nx : (!hasRf (.cond co cx cy)) = true → (!hasRf cx) = true ∧ (!hasRf cy) = true := fun h => by simpa [hasRf] using h
  refine wpIn_cond (hg.ag.ev ht) ?_
  rcases brB_elim h with ⟨rfl, h⟩ | ⟨rfl, h⟩
  ·exact wpIn_mono (ihx r X cx s w wa a Q rx hok.1 h hg hN) fun e a1 w1 h1 => postX_mono (fun t ht => by simp [cdsts, ht]) (fun h => (nx h).1) h1
  ·exact wpIn_mono (ihy r X cy s w wa a Q ry hok.2 h hg hN) fun e a1 w1 h1 => postX_mono (fun t ht => by simp [cdsts, ht]) (fun h => (nx h).2) h1
 | block x ihx =>
  intro r X c s w wa a Q hrf hok h hg hN
  cases c <;> simp only [vc] at h <;> try exact h.elim
  rename_i id cx
  simp only [okC] at hok
  refine wpIn_block (wpIn_mono (ihx r X cx s w wa a _ hrf hok h hg hN) ?_)
  intro e a1 wa1 hp
  rcases hp with ⟨ch, kpx, rfl, hfp, hn, hmk, hkp, hx⟩ | ⟨hne, hno, hf, s1, w1, kpx, hn, hmk, hkp, hg1, hl1, hq⟩
  ·exact .inl ⟨ch, kpx, rfl, hfp, hn, hmk, hkp, hx⟩
  ·cases e with
   | exit id' =>
    simp only [blockQ] at hq
    simp only [Exit.inBlock]
    split at hq
    ·rename_i hb
     rw [if_pos (Nat.eq_of_beq_eq_true hb)]
     exact .inr ⟨by simp, by simp, hf, s1, w1, kpx, hn, hmk, hkp, hg1, hl1, hq⟩
    ·rename_i hb
     rw [if_neg (fun e => by subst e; simp at hb)]
     exact .inr ⟨by simp, by simp, hf, s1, w1, kpx, hn, hmk, hkp, hg1, hl1, hq⟩
   | outgrown => exact absurd rfl hno
   | panic ch => exact absurd rfl (hne ch)
   | normal => exact .inr ⟨by simp, by simp, hf, s1, w1, kpx, hn, hmk, hkp, hg1, hl1, hq⟩
   | goto l => exact .inr ⟨by simp, by simp, hf, s1, w1, kpx, hn, hmk, hkp, hg1, hl1, hq⟩
   | ret => exact .inr ⟨by simp, by simp, hf, s1, w1, kpx, hn, hmk, hkp, hg1, hl1, hq⟩
 | bcut lv x ihx =>
  intro r X c s w wa a Q hrf hok h hg hN
  cases c <;> simp only [vc] at h <;> try exact h.elim
  rename_i id cx
  simp only [okC, Bool.and_eq_true, Bool.not_eq_true'] at hok
  obtain ⟨R, hx, hy⟩ := h
  have n0 : (!hasRf cx) = true := by simp [hok.2]
  refine wpIn_block (wpIn_mono (ihx r X cx _ w wa a _ (.inr hok.2) hok.1 hx (hg.withRo _) hN) ?_)
  intro e a1 wa1 hp
  rcases hp with ⟨ch, kpx, rfl, hfp, hn, hmk, hkp, hx⟩ | ⟨hne, hno, hf, s1, w1, kpx, hn, hmk, hkp, hg1, hl1, hq⟩
  ·exact .inl ⟨ch, kpx, rfl, hfp, hn, hmk, hkp, hx⟩
  ·obtain rfl := hn n0
   have fin : (sync s1 w1 fun w' => lvIs s1 lv fun vs => R vs w') → PostX (cdsts (.block id cx)) (!hasRf (.block id cx)) a s X Q .normal a1 wa1 := by
    intro hq
    obtain ⟨vs, hvs, hR⟩ := lvIs_some (hg1.sync hq)
    obtain ⟨s2, h2, h3, h4, h5, h6⟩ := lv_inst hg1.ag lv [] vs _ hy hvs (preS_after hg hf hl1)
    have hkp2 : KpAt s2.kp wa1 := by rw [h5.2]; have := hg1.ag.dok; rw [hkp] at this; exact this
    have hg2 : Good s2 a1 wa1 wa1 := h3.good hg1.ag.lok (by rw [h4]; rfl) hkp2
    have hl2 : LFrC s s2 := lfr_inst hl1 hg1.ag.lok h3 h5.1 h6
    simp only [List.nil_append] at h2
    exact .inr ⟨by simp, by simp, hf, s2, wa1, [], fun _ => rfl, hmk, h5.2, hg2, hl2, h2 wa1 hR⟩
   cases e with
   | exit id' =>
    simp only [blockQ] at hq
    simp only [Exit.inBlock]
    split at hq
    ·rename_i hb
     rw [if_pos (Nat.eq_of_beq_eq_true hb)]
     exact fin hq
    ·rename_i hb
     rw [if_neg (fun e => by subst e; simp at hb)]
     exact .inr ⟨by simp, by simp, hf, s1.withRo s.ro, w1, [], fun _ => rfl, hmk, hkp, hg1.withRo _, ro_back hl1, hq⟩
   | outgrown => exact absurd rfl hno
   | panic ch => exact absurd rfl (hne ch)
   | normal => exact fin hq
   | goto l => exact .inr ⟨by simp, by simp, hf, s1.withRo s.ro, w1, [], fun _ => rfl, hmk, hkp, hg1.withRo _, ro_back hl1, hq⟩
   | ret => exact .inr ⟨by simp, by simp, hf, s1.withRo s.ro, w1, [], fun _ => rfl, hmk, hkp, hg1.withRo _, ro_back hl1, hq⟩
 | loop lv x ihx =>
  intro r X c s w wa a Q hrf hok h hg hN
  cases c <;> simp only [vc] at h <;> try exact h.elim
  rename_i cx
  simp only [okC, Bool.and_eq_true, Bool.not_eq_true'] at hok
  obtain ⟨I, μ, h0, hr⟩ := h
  have n0 : (!hasRf cx) = true := by simp [hok.2]
  obtain ⟨vs0, hvs0, hI0⟩ := lvIs_some (hg.sync h0)
  refine wp_loop_rel (fun n a1 wa1 => ∃ s1 vs, FrC (cdsts cx) a a1 ∧ a1.defers = a.defers ∧ s1.kp = s.kp ∧ Good s1 a1 wa1 wa1 ∧ LFrC (s.withRo (roOf s lv)) s1 ∧ lvGet s1 lv = some vs ∧ I vs wa1 ∧ n = μ vs wa1) (μ vs0 wa)
   ⟨(s.withRo (roOf s lv)).clean, vs0, FrC.refl _ _, rfl, rfl, (hg.withRo _).ag.good, LFrC.of_eq rfl rfl, ?_, hI0, rfl⟩ ?_
  ·have : ∀ (lv' : List LV) (t : St), lvGet s lv' = lvGet { s with ro := t.ro, dirty := t.dirty } lv' := by
    intro lv' t
    induction lv' with
    | nil => rfl
    | cons x r ih => cases x <;> simp only [lvGet, ih]
   rw [this lv (s.withRo (roOf s lv)).clean] at hvs0
   exact hvs0
  ·rintro n a1 wa1 ⟨s1, vs, hf, hdf, hkp1, hg1, hl1, hvs, hI, rfl⟩
   obtain ⟨s2, h2, h3, h4, h5, h6⟩ := lv_inst hg1.ag lv [] vs _ hr hvs (preS_after hg hf hl1)
   have hkp2 : KpAt s2.kp wa1 := by rw [h5.2]; have := hg1.ag.dok; rw [hkp1] at this; exact this
   have hg2 : Good s2 a1 wa1 wa1 := h3.good hg1.ag.lok (by rw [h4]; rfl) hkp2
   have hl2 : LFrC s s2 := lfr_inst hl1 hg1.ag.lok h3 h5.1 h6
   have hl3 : LFrC (s.withRo (roOf s lv)) (s2.withRo (roOf s lv)) :=
    ⟨rfl, fun k b cs hmem => by
     obtain ⟨c1, e1, e2⟩ := h6 k b cs hmem
     refine ⟨c1, e1, fun hro => ?_⟩
     simp only [St.withRo, roOf, List.mem_append, List.mem_filter] at hro
     rcases hro with hro | hro
     ·obtain ⟨c2, e3, e4⟩ := hl2.2 k b cs hmem
      have := inj_of_nodup' hg2.ag.lok.keys e1 e3 rfl
      cases this
      exact e4 hro
     ·refine e2 (fun hm' => ?_)
      have : (lvKeys lv).any (Nat.beq k) = true := List.any_eq_true.2 ⟨k, hm', by simp⟩
      rw [this] at hro
      simp at hro⟩
   simp only [List.nil_append] at h2
   refine wpIn_mono (ihx r X cx _ wa1 wa1 a1 _ (.inr hok.2) hok.1 (h2 wa1 hI) (hg2.withRo _) (by rw [hf.size]; exact hN)) ?_
   intro e a2 wa2 hp
   rcases hp with ⟨ch, kpx, rfl, hfp, hn, hmk, hkp, hx⟩ | ⟨hne, hno, hf2, s3, w3, kpx, hn, hmk, hkp, hg3, hlf3, hq⟩
   ·have e2 : (s2.withRo (roOf s lv)).kp = s.kp := h5.2
    rw [e2] at hkp hx
    exact .inl ⟨ch, kpx, rfl, hf.trans hfp, fun _ => hn n0, ⟨hmk.1, by rw [hmk.2, hdf]⟩, hkp, hx⟩
   ·obtain rfl := hn n0
    have hl4 : LFrC (s.withRo (roOf s lv)) s3 := hl3.trans hlf3
    have hkp3 : s3.kp = s.kp := hkp.trans h5.2
    have hd3 : a2.defers = a.defers := hmk.2.trans hdf
    rcases then_normal hq with ⟨rfl, hq⟩ | ⟨hne', hq⟩
    ·obtain ⟨vs', hvs', hI', hμ⟩ := lvIs_some (hg3.sync hq)
     refine ⟨μ vs' wa2, hμ, s3.clean, vs', hf.trans hf2, hd3, hkp3, hg3.ag.good, hl4.trans (LFrC.of_eq rfl rfl), ?_, hI', rfl⟩
     have : ∀ (lv' : List LV), lvGet s3 lv' = lvGet s3.clean lv' := by
      intro lv'
      induction lv' with
      | nil => rfl
      | cons x r ih => cases x <;> simp only [lvGet, ih] <;> rfl
     rw [← this]; exact hvs'
    ·exact exit_then hne' (.inr ⟨hne, hno, (hf.trans hf2).mono (fun t ht => ht), s3.withRo s.ro, w3, [], fun _ => rfl, ⟨(fun _ h => by cases h), hd3⟩, hkp3, hg3.withRo _, ro_back hl4, hq⟩)
 | rfunc pn lv scs x y ihx ihy =>
  intro r X c s w wa a Q hrf hok h hg hN
  cases c <;> simp only [vc] at h <;> try exact h.elim
  rename_i g ps cx cy
  have hr : r = none := hrf.resolve_right (by simp [hasRf])
  subst hr
  simp only [okC, Bool.and_eq_true, Bool.not_eq_true'] at hok
  obtain ⟨⟨hokx, hoky⟩, ⟨⟨⟨hlo, hps⟩, hnx⟩, hny⟩, hpN⟩ := hok
  split at h <;> try exact h.elim
  rename_i gv hgv
  obtain ⟨vs0, hvs0, h⟩ := lvIs_some (hg.sync h)
  exact rfunc_sound hg hN hgv hlo (Nat.eq_of_beq_eq_true hps) hnx hny hpN hvs0
   (fun r X s w wa a Q h hg hN => ihx r X cx s w wa a Q (.inr hnx) hokx h hg hN) (fun r X s w wa a Q h hg hN => ihy r X cy s w wa a Q (.inr hny) hoky h hg hN) h
 | dfr x ihx =>
  intro r X c s w wa a Q hrf hok h hg hN
  cases c <;> simp only [vc] at h
inductive Res
 | tmp (t : Nat)
 | cell (t : Nat) (sh : Sh)
def resOf (P : Program) : List ResultVar → Option (List Res)
 | [] => some []
 | .tmp t :: r => (resOf P r).map (.tmp t :: ·)
 | .cell t ty :: r => match aggT P ty, szT P ty, zeroT P ty, resOf P r with
  | some false, _, some z, some rs => some (.cell t (.sc (scOf z)) :: rs)
  | some true, some n, some (.agg cs), some rs => match Nat.beq n cs.size with | true => some (.cell t (aggSh cs) :: rs) | false => none
  | _, _, _, _ => none
def vcRes (s : St) (w : World) : List Res → List Value → (List Value → Prop) → Prop
 | [], acc, K => K acc
 | .tmp t :: r, acc, K => match s.ρ t with
  | some (.v v) => vcRes s w r (acc ++ [v]) K
  | _ => False
 | .cell t sh :: r, acc, K => match s.ρ t with
  | some (.v (.pointer p)) => nn p fun a => match sh with
   | .sc sc => sc.ex fun v => w.cell? a = some v ∧ vcRes s w r (acc ++ [v]) K
   | .agg l => exL l fun vs => cellsAt w a vs 0 (vcRes s w r (acc ++ [.agg vs.toArray]) K)
   | .row n => ∃ vs : List Value, vs.length = n ∧ CellsAt w a vs ∧ vcRes s w r (acc ++ [.agg vs.toArray]) K
  | some (.loc k off) => match look k s.l with
   | some (_, cs) => match sh with
    | .sc _ => match cs[off]? with | some v => vcRes s w r (acc ++ [v]) K | none => False
    | .agg l => match Nat.ble (off + l.length) cs.length with | true => vcRes s w r (acc ++ [.agg ((cs.drop off).take l.length).toArray]) K | false => False
    | .row _ => False
   | none => False
  | _ => False
def retV : List Value → Value
 | [v] => v
 | vs => .tuple vs.toArray
def vcRet (rs : List Res) (s : St) (w : World) (R : Ending → World → Prop) : Prop := sync s w fun w => shutW (s.kp.map (·.1)) w fun w => vcRes s w rs [] fun vs => R (.returned (retV vs)) w
def start (args : List Value) : St := { ρ := fun t => (args[t]?).map EV.v, l := [], dirty := false, ro := [], kp := [] }
def FnVc (P : Program) (fn : Func) (ac : AC) (args : List Value) (w : World) (R : Ending → World → Prop) : Prop :=
 match fn.body, resOf P fn.results.toList with
 | some c, some rs => vc P (fun ch w => R (.panicked ch) w) ac c (start args) w fun e s w' => match e with
  | .normal => vcRet rs s w' R
  | .ret => vcRet rs s w' R
  | _ => False
 | _, _ => False
def okFn (P : Program) (fn : Func) (ac : AC) (n : Nat) : Bool :=
 match fn.body with
 | some c => okC P fn.ntmps ac c && Nat.ble n fn.ntmps
 | none => false
def resOne (tmps : Array Value) : ResultVar → Sem Value
 | .tmp t => pure (tmps.getD t undef)
 | .cell a t => do loadVar t (← asAddr (tmps.getD a undef))
theorem res_sound {s : St} {a : Act} {wa : World} (hg : Agree s a wa) : ∀ (rv : List ResultVar) (rs : List Res) (acc : List Value) (K : List Value → Prop), resOf P rv = some rs → vcRes s wa rs acc K →
  ∃ vs : List Value, (rv.mapM (resOne a.tmps)).run P wa = .ok vs wa ∧ K (acc ++ vs)
 | [], rs, acc, K, h1, h2 => by
  simp [resOf] at h1; subst h1
  exact ⟨[], rfl, by simpa [vcRes] using h2⟩
 | .tmp t :: rv, rs, acc, K, h1, h2 => by
  simp only [resOf] at h1
  cases hr : resOf P rv with
  | none => rw [hr] at h1; cases h1
  | some rs' =>
   rw [hr] at h1; cases h1
   simp only [vcRes] at h2
   split at h2 <;> try exact h2.elim
   rename_i v hv
   obtain ⟨vs, h3, h4⟩ := res_sound hg rv rs' _ K hr h2
   refine ⟨v :: vs, ?_, by simpa using h4⟩
   simp only [List.mapM_cons, resOne, Sem.run_bind, Sem.run_pure, Result.andThen_ok]
   rw [h3]
   simp only [Result.andThen_ok, hg.v _ _ hv]
 | .cell x t :: rv, rs, acc, K, h1, h2 => by
  simp only [resOf] at h1
  have fin : ∀ (y : Addr) (v : Value) (rs' : List Res), a.tmps.getD x undef = .pointer (some y) → (loadVar t y).run P wa = .ok v wa → resOf P rv = some rs' → vcRes s wa rs' (acc ++ [v]) K →
    ∃ vs : List Value, ((ResultVar.cell x t :: rv).mapM (resOne a.tmps)).run P wa = .ok vs wa ∧ K (acc ++ vs) := by
   intro y v rs' hy hl hr h2
   obtain ⟨vs, h3, h4⟩ := res_sound hg rv rs' _ K hr h2
   refine ⟨v :: vs, ?_, by simpa using h4⟩
   simp only [List.mapM_cons, resOne, Sem.run_bind, Sem.run_pure, Result.andThen_ok, hy, asAddr, hl]
   rw [h3]
   simp only [Result.andThen_ok]
  split at h1 <;> try cases h1
  ·rename_i z rs' hagg hz hr
   simp only [vcRes] at h2
   split at h2 <;> try exact h2.elim
   ·rename_i p hp
    obtain ⟨y, rfl, h2⟩ := nn_some h2
    obtain ⟨v, hc, h2⟩ := Sc.ex_some h2
    exact fin y v rs' (hg.v _ _ hp) (run_loadVar_sc hagg hc) hr h2
   ·rename_i k off hp
    obtain ⟨b, cs, hm, he⟩ := hg.loc _ _ _ hp
    split at h2 <;> try exact h2.elim
    rename_i b' cs' hl
    rw [look_of_mem hg.lok.keys hm] at hl
    cases hl
    split at h2 <;> try exact h2.elim
    rename_i v hv
    obtain ⟨hlt, e, hb⟩ := hg.lok.at_ _ _ _ hm
    exact fin _ v rs' he (run_loadVar_sc hagg (cell_of_block hb hv)) hr h2
  ·rename_i n cs rs' hagg hsz hz hr
   split at h1 <;> cases h1
   rename_i hn
   have hn' : n = cs.toList.length := by simpa using Nat.eq_of_beq_eq_true hn
   rcases aggSh_cases cs with hsh | hsh <;> rw [hsh] at h2 <;> simp only [vcRes] at h2
   rotate_left
   ·split at h2 <;> try exact h2.elim
    ·rename_i p hp
     obtain ⟨y, rfl, h2⟩ := nn_some h2
     obtain ⟨vs, hlen, hc, h2⟩ := h2
     exact fin y _ rs' (hg.v _ _ hp) (run_loadVar_agg hagg (by rw [hsz, hn', hlen]; simp) (fun j v hj => hc j v hj)) hr h2
    ·split at h2 <;> exact h2.elim
   split at h2 <;> try exact h2.elim
   ·rename_i p hp
    obtain ⟨y, rfl, h2⟩ := nn_some h2
    obtain ⟨vs, hlen, h2⟩ := exL_some h2
    obtain ⟨hc, h2⟩ := cellsAt_spec h2
    exact fin y _ rs' (hg.v _ _ hp) (run_loadVar_agg hagg (by rw [hsz, hn', hlen]; simp) (fun j v hj => by simpa using hc j v hj)) hr h2
   ·rename_i k off hp
    obtain ⟨b, ls, hm, he⟩ := hg.loc _ _ _ hp
    split at h2 <;> try exact h2.elim
    rename_i b' cs' hl
    rw [look_of_mem hg.lok.keys hm] at hl
    cases hl
    split at h2 <;> try exact h2.elim
    rename_i hle
    have hle := Nat.le_of_ble_eq_true hle
    obtain ⟨hlt, e, hb⟩ := hg.lok.at_ _ _ _ hm
    refine fin _ _ rs' he (run_loadVar_agg (vs := (ls.drop off).take (cs.toList.map scIn).length) hagg (by rw [hsz, hn']; simp at hle ⊢; omega) (fun j v hj => ?_)) hr h2
    rw [loc_add]
    refine cell_of_block hb ?_
    rw [List.getElem?_take] at hj
    split at hj
    ·rw [List.getElem?_drop] at hj; exact hj
    ·cases hj
theorem vcRes_congr {s s' : St} {w : World} (h1 : s.ρ = s'.ρ) (h2 : s.l = s'.l) : ∀ (rs : List Res) (acc : List Value) (K : List Value → Prop), vcRes s w rs acc K = vcRes s' w rs acc K
 | [], _, _ => rfl
 | .tmp t :: rs, acc, K => by simp only [vcRes, h1, vcRes_congr h1 h2 rs]
 | .cell t sh :: rs, acc, K => by simp only [vcRes, h1, h2, vcRes_congr h1 h2 rs]
theorem leaves_marks {P : Program} {fn : Func} {tmps : Array Value} {R : Ending → World → Prop} {u : FrameMode} (hu : u ≠ .run) {F : World → Prop} (Inv : World → Prop) (hInv : ∀ D w w', Inv w → w.heap[D]? = some defObj → Put D w w' → Inv w')
  (hF : ∀ w, Inv w → F w → LeavesIn Fence.wide 0 P fn tmps R [] u w) : ∀ {kp : List (Nat × Obj)} {w : World}, KpAt kp w → (∀ x, x ∈ kp → x.2 = defObj) → Inv w → shutW (kp.map (·.1)) w F → LeavesInM Fence.wide 0 P fn tmps R (kp.map markOf) u w
 | [], w, _, _, hi, h => hF w hi h
 | (D, o) :: kp, w, hk, hd, hi, h => by
  have ho : o = defObj := hd (D, o) (by simp)
  subst ho
  have hD := (hk.at_ D defObj (by simp)).1
  have hput := Put.putObj D w (.deferred none)
  refine ⟨hu, .inl ⟨D, _, rfl, run_takeDeferred hD, ?_⟩⟩
  exact leaves_marks hu Inv hInv hF (hk.tail.put hput (List.nodup_cons.1 hk.nd).1) (fun x hx => hd x (by simp [hx])) (hInv D _ _ hi hD hput) (h _ hput)
theorem calls_of_vc {f : FuncId} {fn : Func} {ac : AC} {args : List Value} {w : World} {R : Ending → World → Prop} (hm : P.follows .mixedOrders = true) (hf : P.funcs[f]? = some fn)
    (hok : okFn P fn ac args.length = true) (h : FnVc P fn ac args w R) : Calls P f args.toArray w R := by
  unfold FnVc at h
  unfold okFn at hok
  cases hb : fn.body with
  | none => rw [hb] at hok; cases hok
  | some c =>
    rw [hb] at h hok
    cases hr : resOf P fn.results.toList with
    | none => rw [hr] at h; exact h.elim
    | some rs =>
      rw [hr] at h
      simp only at h
      simp only [Bool.and_eq_true] at hok
      have hle := Nat.le_of_ble_eq_true hok.2
      let a0 : Act := { tmps := args.toArray ++ Array.replicate (fn.ntmps - args.toArray.size) undef, defers := [] }
      have hN : a0.tmps.size = fn.ntmps := by simp [a0]; omega
      have hg : Good (start args) a0 w w := by
        refine ⟨⟨fun t x hx => ?_, fun t k off hx => ?_, fun t k n hx => ?_, ⟨fun k b cs hm => by simp [start] at hm, by simp [start], by simp [start, blocks]⟩, ⟨fun D o hm => by simp [start] at hm, by simp [start]⟩⟩, fun hd => by simp [start] at hd, fun _ => rfl⟩
        · simp only [start, Option.map_eq_some_iff] at hx
          obtain ⟨y, hy, he⟩ := hx
          cases he
          have hlt : t < args.length := (List.getElem?_eq_some_iff.1 hy).1
          simp only [a0]
          rw [Array.getD_eq_getD_getElem?, Array.getElem?_append_left (by simpa using hlt)]
          simp [hy]
        · simp only [start, Option.map_eq_some_iff] at hx
          obtain ⟨y, hy, he⟩ := hx
          cases he
        · simp only [start, Option.map_eq_some_iff] at hx
          obtain ⟨y, hy, he⟩ := hx
          cases he
      refine callsIn_wide.1 (callsIn_of_wp_marks hf hb trivial (wpIn_mono (code_sound hm ac none _ c (start args) w w a0 _ (.inl rfl) hok.1 h hg hN) ?_))
      intro e a' wa' hp
      have ret : ∀ s' w' kpx, Good s' a' w' wa' → MkX kpx a0 a' → s'.kp = kpx ++ (start args).kp → vcRet rs s' w' R → LeavesInM Fence.wide 0 P fn a'.tmps R a'.defers .returning wa' := by
        intro s' w' kpx hg' hmk hkp hv
        have hv := hg'.sync hv
        have hkp' : s'.kp = kpx := by rw [hkp]; simp [start]
        have hdf : a'.defers = s'.kp.map markOf := by rw [hmk.2, hkp']; simp [a0]
        rw [hdf]
        refine leaves_marks (by simp) (fun w => Agree (s'.withKp []) a' w) (fun D w1 w2 hi hD hp => ⟨hi.v, hi.loc, hi.lsl, hp.locks hi.lok hD rfl, ⟨(fun _ _ h => by cases h), by simp [St.withKp]⟩⟩) ?_ hg'.ag.dok (fun x hx => hmk.1 x (hkp' ▸ hx)) ⟨hg'.ag.v, hg'.ag.loc, hg'.ag.lsl, hg'.ag.lok, ⟨(fun _ _ h => by cases h), by simp [St.withKp]⟩⟩ hv
        intro w1 hag hv
        have hv : vcRes (s'.withKp []) w1 rs [] fun vs => R (.returned (retV vs)) w1 := by
          rw [vcRes_congr (s := s'.withKp []) (s' := s') rfl rfl]; exact hv
        obtain ⟨vs, h1, h2⟩ := res_sound hag fn.results.toList rs [] _ hr hv
        refine ⟨retV vs, ?_, by simpa using h2⟩
        have h3 : (fn.results.mapM (resOne a'.tmps)).run P w1 = .ok vs.toArray w1 := by
          rw [Array.mapM_eq_mapM_toList]
          simp only [Sem.run_map, h1, Result.andThen_ok]
        have h4 : results fn a'.tmps = (do
            let vs ← fn.results.mapM (resOne a'.tmps)
            pure (if h : vs.size = 1 then vs[0] else .tuple vs)) := by
          unfold results
          congr 2
        rw [h4]
        simp only [Sem.run_bind, h3, Result.andThen_ok, Sem.run_pure]
        congr 1
        cases vs with
        | nil => rfl
        | cons v vs => cases vs <;> simp [retV]
      rcases hp with ⟨ch, kpx, rfl, _, _, hmk, hk, hx⟩ | ⟨hne, hno, hf2, s', w', kpx, _, hmk, hkp, hg', _, hq⟩
      · have e1 : kpx ++ (start args).kp = kpx := by simp [start]
        rw [e1] at hk hx
        have hdf : a'.defers = kpx.map markOf := by rw [hmk.2]; simp [a0]
        show LeavesInM Fence.wide 0 P fn a'.tmps R a'.defers (.panicking ch) wa'
        rw [hdf]
        exact leaves_marks (by simp) (fun _ => True) (fun _ _ _ _ _ _ => trivial) (fun w1 _ h => h) hk hmk.1 trivial hx
      · cases e with
        | normal => exact ret s' w' kpx hg' hmk hkp hq
        | ret => exact ret s' w' kpx hg' hmk hkp hq
        | exit id => exact hq.elim
        | goto l => exact hq.elim
        | panic ch => exact absurd rfl (hne ch)
        | outgrown => exact absurd rfl hno
end
end Go.Vc
namespace Go.Vc
open Go.RowKit
/-- what recover answers when a call asks that a frame of this mode has put off; the frame's mode behind it -/
def recV : FrameMode → Value
 | .panicking ({ v, recovered := false, goexit := false } :: _) => v
 | _ => .nilIface
def recM : FrameMode → FrameMode
 | .panicking ({ v, recovered := false, goexit := false } :: older) => .panicking ({ v, recovered := true } :: older)
 | u => u
theorem recover_cases (c : Frame) (cs : List Frame) : (recoverD (c :: cs) = some (recV c.mode, { c with mode := recM c.mode } :: cs)) ∨ (recoverD (c :: cs) = none ∧ recV c.mode = .nilIface ∧ recM c.mode = c.mode) := by
 unfold recoverD
 simp only
 split
 ·rename_i v older h
  rw [h]; exact .inl rfl
 ·rename_i h
  refine .inr ⟨rfl, ?_, ?_⟩
  ·unfold recV; split
   ·rename_i v older e; exact absurd e (h v older)
   ·rfl
  ·unfold recM; split
   ·rename_i v older e; exact absurd e (h v older)
   ·rfl
def movesOf (t : Nat) : List Oper → Option (List Nat)
 | [] => some []
 | o :: r => match o.op, o.dst, o.guard with
  | .assign (.tmp t'), some d, none => match Nat.beq t t' with
   | true => (movesOf t r).map (d :: ·)
   | false => none
  | _, _, _ => none
def recOps : List Oper → Option (Nat × List Nat)
 | [] => none
 | o :: r => match o.op, o.dst, o.guard with
  | .call c, some t, none => match c.callee with
   | .builtin .recover => (movesOf t r).map (t, ·)
   | _ => none
  | _, _, _ => none
def setAll (v : Value) : List Nat → St → St
 | [], s => s
 | d :: ds, s => setAll v ds (s.set d (some (.v v)))
def FnVcR (P : Program) (fn : Func) (ac : AC) (args : List Value) (v : Value) (w : World) (R : Ending → World → Prop) : Prop :=
 match fn.body, resOf P fn.results.toList with
 | some (.seq (.region _ ops false) c), some rs => match recOps ops.toList with
  | some (t, ds) => vc P (fun ch w => R (.panicked ch) w) ac c (setAll v (t :: ds) (start args)) w fun e s w' => match e with
   | .normal => vcRet rs s w' R
   | .ret => vcRet rs s w' R
   | _ => False
  | none => False
 | _, _ => False
def okFnR (P : Program) (fn : Func) (ac : AC) (n : Nat) : Bool :=
 match fn.body with
 | some (.seq (.region _ ops false) c) => match recOps ops.toList with
  | some (t, ds) => okC P fn.ntmps ac c && Nat.ble n fn.ntmps && (!hasRf c) && (t :: ds).all (fun d => Nat.blt d fn.ntmps)
  | none => false
 | _ => false
theorem setAll_same (v : Value) : ∀ (ds : List Nat) (s : St), (setAll v ds s).l = s.l ∧ (setAll v ds s).dirty = s.dirty ∧ (setAll v ds s).ro = s.ro ∧ (setAll v ds s).kp = s.kp
 | [], _ => ⟨rfl, rfl, rfl, rfl⟩
 | d :: ds, s => setAll_same v ds (s.set d (some (.v v)))
section
variable {P : Program}
theorem start_good {fn : Func} {args : List Value} {w : World} (hle : args.length ≤ fn.ntmps) :
  Good (start args) { tmps := args.toArray ++ Array.replicate (fn.ntmps - args.toArray.size) undef, defers := [] } w w := by
 refine ⟨⟨fun t x hx => ?_, fun t k off hx => ?_, fun t k n hx => ?_, ⟨fun k b cs hm => by simp [start] at hm, by simp [start], by simp [start, blocks]⟩, ⟨fun D o hm => by simp [start] at hm, by simp [start]⟩⟩, fun hd => by simp [start] at hd, fun _ => rfl⟩
 ·simp only [start, Option.map_eq_some_iff] at hx
  obtain ⟨y, hy, he⟩ := hx
  cases he
  have hlt : t < args.length := (List.getElem?_eq_some_iff.1 hy).1
  rw [Array.getD_eq_getD_getElem?, Array.getElem?_append_left (by simpa using hlt)]
  simp [hy]
 ·simp only [start, Option.map_eq_some_iff] at hx
  obtain ⟨y, hy, he⟩ := hx
  cases he
 ·simp only [start, Option.map_eq_some_iff] at hx
  obtain ⟨y, hy, he⟩ := hx
  cases he
theorem results_ok {fn : Func} {a : Act} {w : World} {s : St} {rs : List Res} {R : Ending → World → Prop} (hr : resOf P fn.results.toList = some rs) (hag : Agree s a w) (hv : vcRes s w rs [] fun vs => R (.returned (retV vs)) w) :
  ∃ v, (results fn a.tmps).run P w = .ok v w ∧ R (.returned v) w := by
 obtain ⟨vs, h1, h2⟩ := res_sound hag fn.results.toList rs [] _ hr hv
 refine ⟨retV vs, ?_, by simpa using h2⟩
 have h3 : (fn.results.mapM (resOne a.tmps)).run P w = .ok vs.toArray w := by
  rw [Array.mapM_eq_mapM_toList]
  simp only [Sem.run_map, h1, Result.andThen_ok]
 have h4 : results fn a.tmps = (do
   let vs ← fn.results.mapM (resOne a.tmps)
   pure (if h : vs.size = 1 then vs[0] else .tuple vs)) := by
  unfold results
  congr 2
 rw [h4]
 simp only [Sem.run_bind, h3, Result.andThen_ok, Sem.run_pure]
 congr 1
 cases vs with
 | nil => rfl
 | cons v vs => cases vs <;> simp [retV]
theorem moves_run {ops : Array Oper} {Q : Exit → Act → List Frame → World → Prop} {cs : List Frame} {w : World} {v : Value} {t : Nat} {N : Nat} : ∀ (os : List Oper) (i : Nat) (ds : List Nat) (s : St) (a : Act), (∀ j o, os[j]? = some o → ops[i + j]? = some o) →
  movesOf t os = some ds → Good s a w w → s.ρ t = some (.v v) → a.tmps.size = N → (∀ d, d ∈ ds → d < N) → a.defers = [] →
  (∀ a', Good (setAll v ds s) a' w w → a'.tmps.size = N → a'.defers = [] → Q .normal a' cs w) → wpOpsSIn Fence.wide 0 P ops Q (List.range' i os.length) a cs w
 | [], i, ds, s, a, hops, hm, hg, ht, hN, hlt, hd, hQ => by
  simp only [movesOf, Option.some.injEq] at hm
  subst hm
  exact hQ a hg hN hd
 | o :: os, i, ds, s, a, hops, hm, hg, ht, hN, hlt, hd, hQ => by
  unfold movesOf at hm
  split at hm <;> try cases hm
  rename_i t' d ho hdst hgd
  split at hm <;> try cases hm
  rename_i htt
  obtain rfl := Nat.eq_of_beq_eq_true htt
  obtain ⟨ds', hds, rfl⟩ := Option.map_eq_some_iff.1 hm
  have ho0 : ops[i]? = some o := hops 0 o rfl
  have htv : a.eval (.tmp t) = v := hg.ag.v _ _ ht
  have hdN : d < a.tmps.size := by rw [hN]; exact hlt d (by simp)
  have hrun : (execOp a.eval o).run P w = .ok (.value v) w := by simp only [execOp, ho, htv, Sem.run_pure]
  simp only [List.length_cons, List.range'_succ, wpOpsSIn, ho0]
  refine ⟨fun _ _ => trivial, ?_⟩
  have hwt : Region.wanted o (yielded ops a.tmps) = true := by simp [Region.wanted, hgd]
  simp only [hwt, if_true, hrun, hdst]
  have hg' : Good (s.put (some d) (some (.v v))) (a.put (some d) v) w w := hg.put (fun t ht => by cases ht; exact hdN) rfl
  refine moves_run os (i + 1) ds' (s.set d (some (.v v))) _ (fun j o hj => by rw [show i + 1 + j = i + (j + 1) by omega]; exact hops (j + 1) o (by simpa using hj)) hds hg' ?_ (by simp [Act.put, hN]) (fun x hx => hlt x (by simp [hx])) hd hQ
  simp only [St.set, beqN]
  by_cases e : t = d
  ·subst e; simp
  ·simp [e, ht]
theorem calls_of_vcR {f : FuncId} {fn : Func} {ac : AC} {args : List Value} {u : FrameMode} {w : World} {R : Ending → World → Prop} (hm : P.follows .mixedOrders = true) (hf : P.funcs[f]? = some fn)
  (hok : okFnR P fn ac args.length = true) (h : FnVcR P fn ac args (recV u) w R) : CallsDIn Fence.wide 0 P f args.toArray u w fun e u' w' => u' = recM u ∧ R e w' := by
 unfold FnVcR at h
 unfold okFnR at hok
 split at h <;> try exact h.elim
 rename_i id ops c rs hb hr
 rw [hb] at hok
 simp only at hok
 split at h <;> try exact h.elim
 rename_i t ds hro
 rw [hro] at hok
 simp only [Bool.and_eq_true, Bool.not_eq_true'] at hok
 obtain ⟨⟨⟨hokc, hle⟩, hrf⟩, hall⟩ := hok
 have hle := Nat.le_of_ble_eq_true hle
 have hlt : ∀ d, d ∈ t :: ds → d < fn.ntmps := fun d hd => by
  have := List.all_eq_true.1 hall d hd
  simpa [Nat.blt_eq] using this
 refine callsDIn_of_wpSIn hf hb trivial fun c₀ cs hu => wpSIn_seq (wpSIn_region ?_)
 have hops : ∃ o os, ops.toList = o :: os ∧ (∃ cl, o.op = .call cl ∧ cl.callee = .builtin .recover) ∧ o.dst = some t ∧ o.guard = none ∧ movesOf t os = some ds := by
  cases hl : ops.toList with
  | nil => rw [hl] at hro; cases hro
  | cons o os =>
   rw [hl] at hro
   simp only [recOps] at hro
   split at hro <;> try cases hro
   rename_i cl t' ho hd hg
   split at hro <;> try cases hro
   rename_i hc
   obtain ⟨ds', h1, h2⟩ := Option.map_eq_some_iff.1 hro
   cases h2
   exact ⟨o, os, rfl, ⟨cl, ho, hc⟩, hd, hg, h1⟩
 obtain ⟨o, os, hl, ⟨cl, ho, hcal⟩, hdst, hgd, hmv⟩ := hops
 have hat : ∀ j x, (o :: os)[j]? = some x → ops[j]? = some x := fun j x hj => by rw [← Array.getElem?_toList, hl]; exact hj
 have hsz : ops.size = os.length + 1 := by rw [← Array.length_toList, hl]; rfl
 have hg0 := start_good (fn := fn) (w := w) hle
 have hN0 : (args.toArray ++ Array.replicate (fn.ntmps - args.toArray.size) undef).size = fn.ntmps := by simp; omega
 have hrun : ∀ a : Act, (execOp a.eval o).run P w = .ok .recover w := fun a => by
  simp only [execOp, ho, resolve, hcal, Sem.run_bind, Sem.run_pure, Result.andThen_ok, invoke, builtin]
 have hwt : ∀ tm : Array Value, Region.wanted o (yielded ops tm) = true := fun tm => by simp [Region.wanted, hgd]
 have fin : ∀ (cs' : List Frame) (hcs : cs' = { c₀ with mode := recM u } :: cs) (a' : Act), Good (setAll (recV u) ds ((start args).set t (some (.v (recV u))))) a' w w → a'.tmps.size = fn.ntmps → a'.defers = [] →
   Exit.thenS (c.wpSIn Fence.wide 0 P (bodyPostS P fn c₀ cs fun e u' w' => u' = recM u ∧ R e w')) (bodyPostS P fn c₀ cs fun e u' w' => u' = recM u ∧ R e w') .normal a' cs' w := by
  intro cs' hcs a' hg' hN' hd'
  refine wpSIn_of_wpIn rfl (wpIn_mono (code_sound hm ac none _ c _ w w a' _ (.inl rfl) hokc h hg' hN') ?_)
  intro e a2 w2 hp
  have ret : ∀ s' w' kpx, kpx = [] → Good s' a2 w' w2 → MkX kpx a' a2 → s'.kp = kpx ++ (setAll (recV u) (t :: ds) (start args)).kp → vcRet rs s' w' R →
    a2.defers = [] ∧ ∃ u', cs' = { c₀ with mode := u' } :: cs ∧ ∃ v, (results fn a2.tmps).run P w2 = .ok v w2 ∧ (u' = recM u ∧ R (.returned v) w2) := by
   rintro s' w' kpx rfl hg2 hmk hkp hv
   have hkp' : s'.kp = [] := by rw [hkp]; exact (setAll_same _ _ _).2.2.2
   have hv := hg2.sync hv
   rw [hkp'] at hv
   obtain ⟨v, h1, h2⟩ := results_ok hr hg2.ag hv
   exact ⟨by rw [hmk.2, hd']; rfl, recM u, hcs, v, h1, rfl, h2⟩
  rcases hp with ⟨ch, kpx, rfl, _, hn, hmk, hk, hx⟩ | ⟨hne, hno, hf2, s', w', kpx, hn, hmk, hkp, hg2, _, hq⟩
  ·obtain rfl := hn (by simp [hrf])
   refine ⟨by rw [hmk.2, hd']; rfl, recM u, hcs, rfl, ?_⟩
   have e1 : (setAll (recV u) (t :: ds) (start args)).kp = [] := (setAll_same _ _ _).2.2.2
   exact shutW_self hx
  ·have hkn := hn (by simp [hrf])
   cases e with
   | normal => exact ret s' w' kpx hkn hg2 hmk hkp hq
   | ret => exact ret s' w' kpx hkn hg2 hmk hkp hq
   | exit id => exact hq.elim
   | goto l => exact hq.elim
   | panic ch => exact absurd rfl (hne ch)
   | outgrown => exact absurd rfl hno
 rw [hsz, List.range_eq_range', List.range'_succ]
 simp only [wpOpsSIn, hat 0 o rfl]
 refine ⟨fun _ _ => trivial, ?_⟩
 simp only [hwt, if_true, hrun, hdst]
 have ht : t < fn.ntmps := hlt t (by simp)
 have hgt := hg0.put (d := some t) (e := some (.v (recV u))) (v := recV u) (fun x hx => by cases hx; rw [hN0]; exact ht) rfl
 have hst : ((start args).set t (some (.v (recV u)))).ρ t = some (.v (recV u)) := by simp [St.set]
 rcases recover_cases c₀ cs with he | ⟨he, hv, hmd⟩
 ·rw [he, hu]
  exact moves_run os (0 + 1) ds _ _ (fun j x hj => by rw [show 0 + 1 + j = j + 1 by omega]; exact hat (j + 1) x (by simpa using hj)) hmv hgt hst (by simp [Act.put]; omega) (fun d hd => hlt d (by simp [hd])) rfl (fin _ rfl)
 ·rw [he]
  rw [hu] at hv hmd
  have hgt' := hgt
  rw [hv] at hgt' hst
  have := moves_run (P := P) (Q := Exit.thenS (c.wpSIn Fence.wide 0 P (bodyPostS P fn c₀ cs fun e u' w' => u' = recM u ∧ R e w')) (bodyPostS P fn c₀ cs fun e u' w' => u' = recM u ∧ R e w')) (cs := c₀ :: cs) os (0 + 1) ds _ _ (fun j x hj => by rw [show 0 + 1 + j = j + 1 by omega]; exact hat (j + 1) x (by simpa using hj)) hmv hgt' hst (by simp [Act.put]; omega) (fun d hd => hlt d (by simp [hd])) rfl
   (by rw [hv] at fin; exact fin _ (by rw [hmd]; subst hu; rfl))
  exact this
end
def putsOff : List Oper → Option (Nat × FuncId × List Operand)
 | [o1, o2] => match o1.op, o1.dst, o1.guard with
  | .makeFunc (.func f) first caps, some t, none => match o2.op, o2.dst, o2.guard with
   | .defer c, none, none => match c.callee with
    | .value (.tmp t') => match Nat.beq t t' && first.toList.isEmpty && c.args.toList.isEmpty with
     | true => some (t, f, caps.toList)
     | false => none
    | _ => none
   | _, _, _ => none
  | _, _, _ => none
 | _ => none
def St.vals (s : St) : St := { ρ := fun t => match s.ρ t with | some (.v x) => some (.v x) | _ => none, l := [], dirty := false, ro := [], kp := [] }
def CallsOff (P : Program) (f : FuncId) (args : List Value) (v : Value) (w : World) (R : Ending → World → Prop) : Prop :=
 ∀ u, recV u = v → CallsDIn Fence.wide 0 P f args.toArray u w fun e u' w' => u' = recM u ∧ R e w'
def offQ (rs : List Res) (s : St) (R : Ending → World → Prop) (e : Ending) (w' : World) : Prop := (∃ x, e = .returned x) ∧ vcRes s.vals w' rs [] fun vs => R (.returned (retV vs)) w'
def retQ (rs : List Res) (R : Ending → World → Prop) (e : Exit) (s : St) (w : World) : Prop := match e with | .ret => vcRet rs s w R | _ => False
def vcD (P : Program) (rs : List Res) (R : Ending → World → Prop) : AC → Code → St → World → Prop
 | .seq a b, .seq x y, s, w => vc P (fun ch w => R (.panicked ch) w) a x s w (thenQ (fun s' w' => vcD P rs R b y s' w') (retQ rs R))
 | .dfr a, .seq (.region _ ops _) y, s, w => match putsOff ops.toList with
  | some (t, f, caps) => match s.evs caps with
   | some vs => vc P (fun ch w => ∃ v, ch = [{ v := v, recovered := false }] ∧ CallsOff P f vs v w (offQ rs ((s.set t (some (.v (.func (.func f) #[] vs.toArray)))).del (cdsts y)) R)) a y (s.set t (some (.v (.func (.func f) #[] vs.toArray)))) w fun e s' w' => match e with
    | .normal => sync s' w' fun w' => CallsOff P f vs .nilIface w' (offQ rs s' R)
    | .ret => sync s' w' fun w' => CallsOff P f vs .nilIface w' (offQ rs s' R)
    | _ => False
   | none => False
  | none => False
 | _, _, _, _ => False
def FnVcD (P : Program) (fn : Func) (ac : AC) (args : List Value) (w : World) (R : Ending → World → Prop) : Prop :=
 match fn.body, resOf P fn.results.toList with
 | some c, some rs => vcD P rs R ac c (start args) w
 | _, _ => False
def okD (P : Program) (N : Nat) : AC → Code → Bool
 | .seq a b, .seq x y => okC P N a x && !hasRf x && okD P N b y
 | .dfr a, .seq (.region _ ops dr) y => !dr && okC P N a y && !hasRf y && (match putsOff ops.toList with | some (t, f, _) => Nat.blt t N && !(cdsts y).any (Nat.beq t) && FnOk P f | none => false)
 | _, _ => false
def okFnD (P : Program) (fn : Func) (ac : AC) (n : Nat) : Bool :=
 match fn.body with
 | some c => okD P fn.ntmps ac c && Nat.ble n fn.ntmps
 | none => false
section
variable {P : Program}
theorem vals_agree {s : St} {a b : Act} {w w' : World} {D : List Nat} (h : Agree s a w) (hf : ∀ t, t ∉ D → b.tmps.getD t undef = a.tmps.getD t undef) : Agree (s.del D).vals b w' := by
 refine ⟨fun t x hx => ?_, fun t k off hx => ?_, fun t k n hx => ?_, ⟨(fun _ _ _ h => by cases h), by simp [St.vals], by simp [St.vals, blocks]⟩, ⟨(fun _ _ h => by cases h), by simp [St.vals]⟩⟩
 ·simp only [St.vals] at hx
  split at hx <;> cases hx
  rename_i hx
  obtain ⟨h1, h2⟩ := St.del_some hx
  rw [hf t h2]; exact h.v t x h1
 ·simp only [St.vals] at hx
  split at hx <;> cases hx
 ·simp only [St.vals] at hx
  split at hx <;> cases hx
theorem vals_agree' {s : St} {a : Act} {w w' : World} (h : Agree s a w) : Agree s.vals a w' := by
 refine ⟨fun t x hx => ?_, fun t k off hx => ?_, fun t k n hx => ?_, ⟨(fun _ _ _ h => by cases h), by simp [St.vals], by simp [St.vals, blocks]⟩, ⟨(fun _ _ h => by cases h), by simp [St.vals]⟩⟩
 ·simp only [St.vals] at hx
  split at hx <;> cases hx
  rename_i hx
  exact h.v t x hx
 ·simp only [St.vals] at hx
  split at hx <;> cases hx
 ·simp only [St.vals] at hx
  split at hx <;> cases hx
theorem vcD_sound (hm : P.follows .mixedOrders = true) {fn : Func} {rs : List Res} {R : Ending → World → Prop} (hr : resOf P fn.results.toList = some rs) : ∀ (ac : AC) (c : Code) (s : St) (w wa : World) (a : Act), okD P fn.ntmps ac c = true →
  vcD P rs R ac c s w → Good s a w wa → a.tmps.size = fn.ntmps → a.defers = [] → s.kp = [] → c.wpIn (fR none) 0 P (bodyPostM Fence.wide 0 P fn R) a wa := by
 intro ac
 induction ac with
 | seq x y ihx ihy =>
  intro c s w wa a hok h hg hN hd hk
  cases c <;> simp only [vcD] at h <;> try exact h.elim
  rename_i cx cy
  simp only [okD, Bool.and_eq_true, Bool.not_eq_true'] at hok
  obtain ⟨⟨hokx, hrf⟩, hoky⟩ := hok
  refine wpIn_seq (wpIn_mono (code_sound hm x none _ cx s w wa a _ (.inl rfl) hokx h hg hN) ?_)
  intro e a1 wa1 hp
  rcases hp with ⟨ch, kpx, rfl, _, hn, hmk, _, hx⟩ | ⟨hne, hno, hf, s1, w1, kpx, hn, hmk, hkp, hg1, _, hq⟩
  ·obtain rfl := hn (by simp [hrf])
   have hx := shutW_self hx
   refine exit_then (by simp) ?_
   show LeavesInM Fence.wide 0 P fn a1.tmps R a1.defers (.panicking ch) wa1
   rw [hmk.2, hd]
   exact hx
  ·obtain rfl := hn (by simp [hrf])
   have hd1 : a1.defers = [] := by rw [hmk.2, hd]; rfl
   have hk1 : s1.kp = [] := by rw [hkp, hk]; rfl
   rcases then_normal hq with ⟨rfl, hq⟩ | ⟨hne', hq⟩
   ·exact ihy cy s1 w1 wa1 a1 hoky hq hg1 (by rw [hf.size]; exact hN) hd1 hk1
   ·refine exit_then hne' ?_
    cases e with
    | ret =>
     have hv := hg1.sync hq
     rw [hk1] at hv
     obtain ⟨v, h1, h2⟩ := results_ok hr hg1.ag hv
     show LeavesInM Fence.wide 0 P fn a1.tmps R a1.defers .returning wa1
     rw [hd1]
     exact ⟨v, h1, h2⟩
    | normal => exact absurd rfl hne'
    | exit id => exact hq.elim
    | goto l => exact hq.elim
    | panic ch => exact absurd rfl (hne ch)
    | outgrown => exact absurd rfl hno
 | dfr x ihx =>
  intro c s w wa a hok h hg hN hd hk
  cases c <;> try exact h.elim
  rename_i cx cy
  cases cx <;> try exact h.elim
  rename_i id ops dr
  simp only [vcD] at h
  simp only [okD, Bool.and_eq_true, Bool.not_eq_true'] at hok
  obtain ⟨⟨⟨hdr, hoky⟩, hrf⟩, hpo⟩ := hok
  subst hdr
  split at h <;> try exact h.elim
  rename_i t f caps hpf
  rw [hpf] at hpo
  simp only [Bool.and_eq_true, Bool.not_eq_true'] at hpo
  obtain ⟨⟨htN, htc⟩, hfo⟩ := hpo
  have htN : t < fn.ntmps := by simpa [Nat.blt_eq] using htN
  split at h <;> try exact h.elim
  rename_i vs hvs
  obtain ⟨o1, o2, capsA, c2, firstA, hl, ho1, hd1, hg1, ho2, hd2, hg2, hcal, hfe, hae, rfl⟩ : ∃ o1 o2 capsA c2 firstA, ops.toList = [o1, o2] ∧ o1.op = .makeFunc (.func f) firstA capsA ∧ o1.dst = some t ∧ o1.guard = none ∧ o2.op = .defer c2 ∧ o2.dst = none ∧ o2.guard = none ∧ c2.callee = .value (.tmp t) ∧ firstA = #[] ∧ c2.args = #[] ∧ capsA.toList = caps := by
   unfold putsOff at hpf
   split at hpf <;> try cases hpf
   rename_i o1 o2 hl
   split at hpf <;> try cases hpf
   rename_i f' first' caps' t' e1 e2 e3
   split at hpf <;> try cases hpf
   rename_i c' e4 e5 e6
   split at hpf <;> try cases hpf
   rename_i t'' e7
   split at hpf <;> cases hpf
   rename_i hb
   simp only [Bool.and_eq_true] at hb
   obtain ⟨⟨b1, b2⟩, b3⟩ := hb
   have b1 := Nat.eq_of_beq_eq_true b1
   subst b1
   exact ⟨o1, o2, caps', c', first', hl, e1, e2, e3, e4, e5, e6, e7, by cases first'; simpa using b2, (by
    generalize c'.args = A at b3
    cases A; simpa using b3), rfl⟩
  have hops0 : ops[0]? = some o1 := by rw [← Array.getElem?_toList, hl]; rfl
  have hops1 : ops[1]? = some o2 := by rw [← Array.getElem?_toList, hl]; rfl
  have hsz : ops.size = 2 := by rw [← Array.length_toList, hl]; rfl
  have hcaps : capsA.map a.eval = vs.toArray := by
   have := hg.ag.evs hvs
   rw [← this]; cases capsA; simp
  let fv : Value := .func (.func f) #[] vs.toArray
  have hg3 : Good (s.set t (some (.v fv))) (a.put (some t) fv) w wa := hg.put (d := some t) (e := some (.v fv)) (v := fv) (fun x hx => by cases hx; rw [hN]; exact htN) rfl
  have run1 : (execOp a.eval o1).run P wa = .ok (.value fv) wa := by
   simp [execOp, ho1, Instr.makeFunc, hfe, hcaps, fv]
  have hev2 : (a.put (some t) fv).eval (.tmp t) = fv := by
   simp only [Act.eval]
   rw [Act.getD_put t (by rw [hN]; exact htN), if_pos rfl]
  have run2 : (execOp (a.put (some t) fv).eval o2).run P wa = .ok (.defer { target := .fn (.func f) vs.toArray, args := #[] }) wa := by
   simp [execOp, ho2, resolve, hcal, hev2, Deferred.ofValue, fv, hae]
  let d0 : Deferred := { target := .fn (.func f) vs.toArray, args := #[] }
  let a3 : Act := { a.put (some t) fv with defers := d0 :: a.defers }
  have hg4 : Good (s.set t (some (.v fv))) a3 w wa := ⟨⟨hg3.ag.v, hg3.ag.loc, hg3.ag.lsl, hg3.ag.lok, hg3.ag.dok⟩, hg3.dirty, hg3.clean⟩
  have hN3 : a3.tmps.size = fn.ntmps := by simp [a3, Act.put]; exact hN
  have hinv : ∀ w', (invoke d0.target d0.args).run P w' = .ok (.enter f vs.toArray) w' := fun w' => by
   unfold FnOk at hfo
   split at hfo <;> try cases hfo
   rename_i fn1 hfn1
   simp only [Bool.and_eq_true, Bool.not_eq_true'] at hfo
   have hb : fn1.body.isNone = false := by cases hb : fn1.body <;> simp_all
   have hb' : fn1.body ≠ none := by intro e; rw [e] at hb; cases hb
   have hn' : fn1.name ≠ "runtime.NumGoroutine" := by intro e; rw [e] at hfo; simp at hfo
   simp only [invoke, d0]
   simp [callFunc, hfn1, hn', hb']
  have leave : ∀ (a4 : Act) (s4 : St) (w4 : World) (u : FrameMode), a4.defers = [d0] → u ≠ .run → settle (recM u) = .returning → (∀ w', Agree s4 a4 w') → CallsOff P f vs (recV u) w4 (fun e w' => (∃ x, e = .returned x) ∧ vcRes s4 w' rs [] fun vs => R (.returned (retV vs)) w') →
    LeavesInM Fence.wide 0 P fn a4.tmps R a4.defers u w4 := by
   intro a4 s4 w4 u hd4 hu hst hag hc
   rw [hd4]
   refine ⟨hu, .inr ⟨fun hd => (by cases hd), .func f, vs.toArray, f, vs.toArray, rfl, hinv w4, fun _ _ => trivial, ?_⟩⟩
   refine CallsDIn.mono (hc u rfl) ?_
   rintro e u' w' ⟨rfl, ⟨x, rfl⟩, hv⟩
   show LeavesInM Fence.wide 0 P fn a4.tmps R [] (settle (recM u)) w'
   rw [hst]
   obtain ⟨v, h1, h2⟩ := results_ok hr (hag w') hv
   exact ⟨v, h1, h2⟩
  refine wpIn_seq (wpIn_region ?_)
  rw [hsz]
  show wpOpsIn _ _ _ _ _ [0, 1] a wa
  rw [wpOpsIn_cons, wpOpIn]
  simp only [hops0, Region.wanted, hg1, if_true]
  refine ⟨fun _ _ => trivial, ?_⟩
  rw [Oper.semAt_none, run1]
  show wpOpsIn _ _ _ _ _ [1] (a.put o1.dst fv) wa
  rw [hd1, wpOpsIn_cons, wpOpIn]
  simp only [hops1, Region.wanted, hg2, if_true]
  refine ⟨fun _ _ => trivial, ?_⟩
  rw [Oper.semAt_none, run2]
  show Exit.then (cy.wpIn (fR none) 0 P (bodyPostM Fence.wide 0 P fn R)) (bodyPostM Fence.wide 0 P fn R) .normal (Act.put a3 o2.dst undef) wa
  rw [hd2]
  show cy.wpIn (fR none) 0 P (bodyPostM Fence.wide 0 P fn R) a3 wa
  have hcs := code_sound hm x none _ cy _ w wa a3 _ (.inl rfl) hoky h hg4 hN3
  refine wpIn_mono hcs ?_
  intro e a4 wa4 hp
  rcases hp with ⟨ch, kpx, rfl, hfr, hn, hmk, _, hx⟩ | ⟨hne, hno, hf, s1, w1, kpx, hn, hmk, hkp, hg5, _, hq⟩
  ·obtain rfl := hn (by simp [hrf])
   obtain ⟨v, rfl, hc⟩ := shutW_self hx
   have hd4 : a4.defers = [d0] := by rw [hmk.2]; show [] ++ (d0 :: a.defers) = _; rw [hd]; rfl
   exact leave a4 ((s.set t (some (.v fv))).del (cdsts cy)).vals wa4 (.panicking [{ v := v, recovered := false }]) hd4 (by simp) rfl (fun w' => vals_agree hg4.ag fun t' ht' => hfr.tmps t' ht') hc
  ·obtain rfl := hn (by simp [hrf])
   have hd4 : a4.defers = [d0] := by rw [hmk.2]; show [] ++ (d0 :: a.defers) = _; rw [hd]; rfl
   have fin : (sync s1 w1 fun w' => CallsOff P f vs .nilIface w' (offQ rs s1 R)) → LeavesInM Fence.wide 0 P fn a4.tmps R a4.defers .returning wa4 := fun hq =>
    leave a4 s1.vals wa4 .returning hd4 (by simp) rfl (fun w' => vals_agree' hg5.ag) (hg5.sync hq)
   cases e with
   | normal => exact fin hq
   | ret => exact fin hq
   | exit id => exact hq.elim
   | goto l => exact hq.elim
   | panic ch => exact absurd rfl (hne ch)
   | outgrown => exact absurd rfl hno
 | _ =>
  intro c s w wa a hok h hg hN hd hk
  cases c <;> exact h.elim
theorem calls_of_vcD {f : FuncId} {fn : Func} {ac : AC} {args : List Value} {w : World} {R : Ending → World → Prop} (hm : P.follows .mixedOrders = true) (hf : P.funcs[f]? = some fn)
  (hok : okFnD P fn ac args.length = true) (h : FnVcD P fn ac args w R) : Calls P f args.toArray w R := by
 unfold FnVcD at h
 unfold okFnD at hok
 split at h <;> try exact h.elim
 rename_i c rs hb hr
 rw [hb] at hok
 simp only [Bool.and_eq_true] at hok
 have hle := Nat.le_of_ble_eq_true hok.2
 have := vcD_sound (fn := fn) (rs := rs) (R := R) hm hr ac c (start args) w w _ hok.1 h (start_good hle) (by simp; omega) rfl rfl
 exact callsIn_wide.1 (callsIn_of_wp_marks (F := Fence.wide) (n := 0) hf hb trivial this)
end
end Go.Vc
namespace Go.Proofs.Ytiiaihiliimcoaa
open Go Go.Vc
set_option maxRecDepth 100000
noncomputable abbrev P : Program := Try.prog
theorem mixed : P.follows .mixedOrders = true := by kernel_rfl
namespace F
abbrev law15_GifAgain : FuncId := 3
abbrev law15_wakes : FuncId := 4
abbrev gif_Decode : FuncId := 5
abbrev law15_own : FuncId := 6
abbrev gif_Encode : FuncId := 7
abbrev ref09_Copy : FuncId := 8
abbrev ref14_Met : FuncId := 9
abbrev ref09_Same : FuncId := 10
abbrev ref15_May : FuncId := 11
abbrev gif_Decode_fn1 : FuncId := 12
abbrev gif_reader_bytes : FuncId := 13
abbrev gif_reader_two : FuncId := 14
abbrev gif_reader_one : FuncId := 15
abbrev gif_reader_palette : FuncId := 16
abbrev gif_reader_extension : FuncId := 17
abbrev gif_reader_picture : FuncId := 18
abbrev raster_Good : FuncId := 19
abbrev quant_Palette : FuncId := 20
abbrev quant_Apply : FuncId := 21
abbrev gif_Encode_fn1 : FuncId := 22
abbrev lzw_GifPack : FuncId := 23
abbrev slices_Chunk_byte : FuncId := 24
abbrev ref09_Pixel : FuncId := 25
abbrev ref14_Clear : FuncId := 26
abbrev ref09_Place : FuncId := 27
abbrev ref14_Eight : FuncId := 28
abbrev ref09_Good : FuncId := 29
abbrev ref08_Nearest : FuncId := 30
abbrev ref08_Far : FuncId := 31
abbrev gif_reader_blocks : FuncId := 32
abbrev lzw_GifUnpack : FuncId := 33
abbrev gif_rows : FuncId := 34
abbrev raster_Distinct : FuncId := 35
abbrev quant_clear : FuncId := 36
abbrev quant_eight : FuncId := 37
abbrev quant_Palette_fn1 : FuncId := 38
abbrev quant_bag_api_Color_put : FuncId := 39
abbrev quant_bag_api_Color_take : FuncId := 40
abbrev quant_longest : FuncId := 41
abbrev slices_Clone_api_Color : FuncId := 42
abbrev slices_SortStableFunc_api_Color : FuncId := 43
abbrev quant_Palette_fn2 : FuncId := 44
abbrev cmp_Compare_int : FuncId := 45
abbrev quant_axis : FuncId := 46
abbrev raster_Grid : FuncId := 47
abbrev slices_IndexFunc_api_Color : FuncId := 48
abbrev quant_Apply_fn1 : FuncId := 49
abbrev grid_Grid_api_Color_All : FuncId := 50
abbrev tones_Nearest : FuncId := 51
abbrev lzw_gif : FuncId := 52
abbrev lzw_kind_pack : FuncId := 53
abbrev slices_Chunk_byte_fn1 : FuncId := 54
abbrev ref08_Round : FuncId := 55
abbrev ref07_Fits : FuncId := 56
abbrev gif_reader_blocks_fn1 : FuncId := 57
abbrev lzw_kind_unpack : FuncId := 58
abbrev gif_rows_fn1 : FuncId := 59
abbrev slices_SortStableFunc_int : FuncId := 60
abbrev gif_rows_fn2 : FuncId := 61
abbrev raster_colour : FuncId := 62
abbrev quant_eight_fn1 : FuncId := 63
abbrev tones_Down : FuncId := 64
abbrev slices_Delete_api_Color : FuncId := 65
abbrev quant_longest_fn1 : FuncId := 66
abbrev slices_MaxFunc_api_Color : FuncId := 67
abbrev slices_MinFunc_api_Color : FuncId := 68
abbrev slices_stableCmpFunc_api_Color : FuncId := 69
abbrev cmp_isNaN_int : FuncId := 70
abbrev slices_Chunk_uint16 : FuncId := 71
abbrev grid_Of_api_Color : FuncId := 72
abbrev grid_Grid_api_Color_All_fn1 : FuncId := 73
abbrev grid_Grid_api_Color_W : FuncId := 74
abbrev grid_Grid_api_Color_H : FuncId := 75
abbrev bits_NewWriter : FuncId := 76
abbrev bits_Writer_Put : FuncId := 77
abbrev lzw_kind_pack_fn1 : FuncId := 78
abbrev bits_Writer_Bytes : FuncId := 79
abbrev ref08_Down : FuncId := 80
abbrev ref08_Up : FuncId := 81
abbrev bits_NewReader : FuncId := 82
abbrev lzw_kind_entries : FuncId := 83
abbrev bits_Reader_Take : FuncId := 84
abbrev slices_stableCmpFunc_int : FuncId := 85
abbrev slices_insertionSortCmpFunc_api_Color : FuncId := 86
abbrev slices_symMergeCmpFunc_api_Color : FuncId := 87
abbrev slices_Chunk_uint16_fn1 : FuncId := 88
abbrev grid_fits : FuncId := 89
abbrev bits_order : FuncId := 90
abbrev bits_Writer_one : FuncId := 91
abbrev slices_Clone_byte : FuncId := 92
abbrev bits_Reader_Left : FuncId := 93
abbrev slices_insertionSortCmpFunc_int : FuncId := 94
abbrev slices_symMergeCmpFunc_int : FuncId := 95
abbrev slices_rotateCmpFunc_api_Color : FuncId := 96
abbrev bits_high : FuncId := 97
abbrev bits_low : FuncId := 98
abbrev slices_rotateCmpFunc_int : FuncId := 99
abbrev slices_swapRangeCmpFunc_api_Color : FuncId := 100
abbrev slices_swapRangeCmpFunc_int : FuncId := 101
end F
abbrev rr (n : Nat) : AC := .reg (.run 0 n .done)
abbrev ra : AC := .reg (.op 0 false false false .done)
abbrev o0 (i : Nat) (p : Plan) : Plan := .op i false false false p
abbrev o1 (i : Nat) (p : Plan) : Plan := .op i true false false p
abbrev si : Sc := .int .i64
def ac_law15_GifAgain : AC := .seq ra (.seq (.seq (rr 2) (.cond (.seq ra .ret) .skip)) (.seq (.reg (.run 0 6 <| o1 6 <| .run 7 2 <| .done)) (.seq (.seq (rr 2) (.cond (.seq (rr 5) .ret) .skip)) (.seq (rr 8) (.seq (.reg (.run 0 5 <| o1 5 <| .run 6 2 <| .done)) (.seq (rr 5) (.seq (.reg (.run 0 3 <| .gand 41 true 3 2 <| o0 6 <| .split 45 <| .run 7 4 <| .split 49 <| .run 11 3 <| .split 52 <| .run 14 7 <| .done)) .ret)))))))
def ac_law15_wakes : AC := .seq ra (.seq (.reg (.run 0 2 <| o1 2 <| o0 3 <| .done)) (.seq (rr 8) (.seq (.reg (.run 0 6 <| o1 6 <| .run 7 2 <| .done)) (.seq (.reg (.run 0 6 <| o1 6 <| .run 7 2 <| .done)) (.seq (.reg (.run 0 6 <| o1 6 <| .run 7 2 <| .done)) (.seq (.reg (.run 0 3 <| .gand 38 true 3 2 <| o0 6 <| .gand 42 true 7 2 <| o0 10 <| .gand 46 true 11 2 <| o0 14 <| .gand 50 true 15 4 <| o0 20 <| .split 56 <| .run 21 7 <| .split 63 <| .run 28 7 <| .split 70 <| .run 35 12 <| .done)) .ret))))))
def ac_gif_Decode : AC := .seq (rr 2) (.seq (.seq (rr 3) (.cond (.seq (rr 3) .ret) .skip)) (.dfr (.seq (rr 4) (.cut [] (.seq (.reg (o0 0 <| .op 1 false true false <| .run 2 2 <| .done)) (.seq (.reg (.run 0 3 <| .split 26 <| .run 3 3 <| .done)) (.cond (rr 3) .skip))) (.seq (.reg (o0 0 <| .op 1 false true false <| o0 2 <| .op 3 false true false <| o0 4 <| .op 5 false true false <| .run 6 3 <| .done)) (.seq (.reg (o0 0 <| .op 1 false true false <| .done)) (.seq (.seq (.reg (.run 0 3 <| .gand 42 false 3 2 <| .done)) (.cond (rr 3) .skip)) (.seq ra (.cut [.slot 11 .slice] (.seq (rr 3) (.cond (.reg (.run 0 2 <| .op 2 false true false <| o0 3 <| .done)) .skip)) (.seq (.seq (.reg (.run 0 5 <| .gand 58 false 5 6 <| .done)) (.cond (.seq (rr 3) .ret) .skip)) (.seq (rr 9) (.seq ra (.block (.loop [.slot 12 si] (.block (.seq (.reg (o0 0 <| .op 1 false true false <| .done)) (.block (.seq (rr 2) (.cond (.reg (.run 0 2 <| .op 2 false true false <| o0 3 <| .done)) (.seq (rr 2) (.cond (.seq (.reg (.run 0 4 <| .op 4 false true false <| .done)) (.seq (rr 3) .ret)) (rr 3))))))))))))))))))))))
def ac_law15_own : AC := .seq ra (.seq (rr 4) .ret)
def ac_gif_Encode : AC := .seq (.reg (o1 0 <| .run 1 2 <| .done)) (.seq (.seq (rr 3) (.cond (.seq (rr 2) .ret) .skip)) (.seq ra (.seq (.seq ra (.block (.loop [.slot 4 .bool, .slot 5 si] (.seq (.seq (rr 5) (.cond .skip .exit)) (.seq (.bcut [.slot 4 .bool] (.reg (.run 0 2 <| .split 33 <| .run 2 8 <| .done))) (rr 3)))))) (.seq ra (.cut [.slot 6 si] (.seq ra (.cond ra .skip)) (.seq (rr 8) (.cut [.slot 7 .slice] (.seq ra (.cond (.reg (.run 0 2 <| o1 2 <| .run 3 2 <| .done)) .skip)) (.seq (.reg (.run 0 6 <| o1 6 <| .run 7 2 <| .done)) (.cut [] (.seq ra (.cond (.cut [.slot 12 si, .nloc 11 [si, si, .slice, .slice]] (.reg (.run 0 6 <| .alt (.run 6 4 <| o1 10 <| .run 11 2 <| .done) (o1 10 <| .run 6 4 <| .run 11 2 <| .done))) (.seq (rr 4) (.block (.loop [.slot 73 si] (.seq ra (.seq (.cond .skip .exit) (.seq (.bcut [] (.seq (rr 2) (.seq (.reg (.run 0 3 <| .split 78 <| .run 3 9 <| .done)) (.cond (rr 10) .skip)))) (rr 2)))))))) .skip)) (.seq ra (.seq (.block (.loop [.slot 14 si] (.seq (.seq (rr 5) (.cond .skip .exit)) (.block (rr 3))))) (.seq (rr 4) (.seq (rr 2) (.seq (rr 4) (.seq (rr 4) (.seq (.reg (.run 0 5 <| o1 5 <| .run 6 2 <| .done)) (.seq (.seq (rr 3) (.block (.loop [.slot 125 si] (.seq ra (.seq (.cond .skip .exit) (.seq (.block (.seq (rr 2) (.seq (.reg (.run 0 3 <| o1 3 <| o0 4 <| .done)) (.cut [.loc 18 [(.int .u16), (.int .u16), (.int .u16), (.int .u16)]] (.seq (.reg (.run 0 5 <| .split 135 <| .run 5 7 <| .done)) (.cond (rr 5) .skip)) (.reg (.run 0 13 <| o1 13 <| .run 14 2 <| .done)))))) (rr 2))))))) (.cut [] (.seq ra (.cond (.reg (.run 0 5 <| o1 5 <| .run 6 2 <| .done)) .skip)) (.seq (.reg (o0 0 <| o1 1 <| .run 2 2 <| .done)) (.seq (rr 4) (.seq (rr 4) (.seq (rr 3) (.seq (rr 9) (.seq (.reg (.run 0 3 <| o1 3 <| .run 4 2 <| .done)) (.seq (.seq (rr 2) (.block (.rfunc false [] [.sc .slice] ra (.block (.reg (.run 0 4 <| o1 4 <| .run 5 4 <| .done)))))) (.seq (.reg (o0 0 <| o1 1 <| .run 2 3 <| .done)) .ret))))))))))))))))))))))))))
def ac_ref09_Copy : AC := .seq (.reg (o1 0 <| o1 1 <| .done)) (.seq (rr 6) (.seq (rr 2) .ret))
def ac_ref14_Met : AC := .seq (.reg (o1 0 <| o0 1 <| .done)) (.seq ra (.seq (.seq ra (.block (.loop [.slot 5 .slice, .slot 6 si] (.seq (.seq (rr 4) (.cond .skip .exit)) (.seq (.block (.seq ra (.block (.loop [.slot 5 .slice, .slot 7 si] (.seq (.seq (rr 4) (.cond .skip .exit)) (.seq (.bcut [.slot 5 .slice] (.seq (.reg (.run 0 4 <| o1 4 <| o0 5 <| .done)) (.seq (.reg (.run 0 4 <| .gand 28 true 4 4 <| o0 9 <| .split 34 <| .run 10 6 <| .done)) (.cond (.reg (.run 0 3 <| o1 3 <| .run 4 2 <| .done)) .skip)))) (rr 3))))))) (rr 3)))))) (.seq (rr 2) .ret)))
def ac_ref09_Same : AC := .seq (.reg (o1 0 <| o1 1 <| o0 2 <| .done)) (.seq (.seq (.reg (.run 0 6 <| .gand 11 false 6 5 <| o0 12 <| .gand 18 false 13 7 <| .done)) (.cond (.seq ra .ret) .skip)) (.seq (.seq ra (.block (.loop [.slot 5 si] (.seq (.seq (rr 5) (.cond .skip .exit)) (.seq (.block (.seq (rr 11) (.cond (.seq ra .ret) .skip))) (rr 3)))))) (.seq ra .ret)))
def ac_ref15_May : AC := .seq (.reg (o1 0 <| o1 1 <| o0 2 <| .done)) (.seq (.seq (.reg (.run 0 6 <| .gand 24 false 6 5 <| o0 12 <| .split 31 <| .run 13 4 <| .done)) (.cond (.seq ra .ret) .skip)) (.seq ra (.seq ra (.seq (.seq ra (.block (.loop [.slot 5 .bool, .slot 6 .slice, .slot 7 si] (.seq (.seq (rr 4) (.cond .skip .exit)) (.seq (.block (.seq ra (.block (.loop [.slot 5 .bool, .slot 6 .slice, .slot 8 si] (.seq (.seq (rr 4) (.cond .skip .exit)) (.seq (.bcut [.slot 5 .bool, .slot 6 .slice] (.cut [.nloc 9 [(.int .u16), (.int .u16), (.int .u16), (.int .u16)], .nloc 10 [(.int .u16), (.int .u16), (.int .u16), (.int .u16)]] (.reg (.run 0 3 <| .run 4 3 <| .alt (.op 3 false false true <| .alt (o0 7 <| .alt (o1 8 <| o1 9 <| .run 10 2 <| .done) (o1 9 <| o1 8 <| .run 10 2 <| .done)) (.alt (o1 8 <| .alt (o0 7 <| o1 9 <| .run 10 2 <| .done) (o1 9 <| o0 7 <| .run 10 2 <| .done)) (o1 9 <| .alt (o0 7 <| o1 8 <| .run 10 2 <| .done) (o1 8 <| o0 7 <| .run 10 2 <| .done)))) (.alt (o1 8 <| .alt (.op 3 false false true <| .alt (o0 7 <| o1 9 <| .run 10 2 <| .done) (o1 9 <| o0 7 <| .run 10 2 <| .done)) (o1 9 <| .op 3 false false true <| o0 7 <| .run 10 2 <| .done)) (o1 9 <| .alt (.op 3 false false true <| .alt (o0 7 <| o1 8 <| .run 10 2 <| .done) (o1 8 <| o0 7 <| .run 10 2 <| .done)) (o1 8 <| .op 3 false false true <| o0 7 <| .run 10 2 <| .done))))) (.seq (.seq (rr 2) (.cond (.seq ra (.seq (.seq (rr 3) (.cond (.seq ra .ret) .skip)) .exit)) .skip)) (.seq (.seq (rr 3) (.cond (.seq ra .ret) .skip)) (.seq (rr 4) (.cond (.reg (.run 0 2 <| o1 2 <| .run 3 2 <| .done)) .skip)))))) (rr 3))))))) (rr 3)))))) (.seq ra (.cut [.slot 11 si] (.seq ra (.cond ra .skip)) (.seq (rr 7) (.seq (.seq (rr 4) (.cond (.seq ra .ret) .skip)) (.seq (.seq ra (.block (.loop [.slot 13 si] (.seq (.seq (rr 4) (.cond .skip .exit)) (.seq (.block (.seq ra (.block (.loop [.slot 14 si] (.seq (.seq (rr 4) (.cond .skip .exit)) (.seq (.bcut [] (.cut [.nloc 15 [(.int .u16), (.int .u16), (.int .u16), (.int .u16)], .nloc 16 [(.int .u16), (.int .u16), (.int .u16), (.int .u16)]] (.reg (.run 0 3 <| .run 4 3 <| .alt (.op 3 false false true <| .alt (o0 7 <| .alt (o1 8 <| o1 9 <| .run 10 2 <| .done) (o1 9 <| o1 8 <| .run 10 2 <| .done)) (.alt (o1 8 <| .alt (o0 7 <| o1 9 <| .run 10 2 <| .done) (o1 9 <| o0 7 <| .run 10 2 <| .done)) (o1 9 <| .alt (o0 7 <| o1 8 <| .run 10 2 <| .done) (o1 8 <| o0 7 <| .run 10 2 <| .done)))) (.alt (o1 8 <| .alt (.op 3 false false true <| .alt (o0 7 <| o1 9 <| .run 10 2 <| .done) (o1 9 <| o0 7 <| .run 10 2 <| .done)) (o1 9 <| .op 3 false false true <| o0 7 <| .run 10 2 <| .done)) (o1 9 <| .alt (.op 3 false false true <| .alt (o0 7 <| o1 8 <| .run 10 2 <| .done) (o1 8 <| o0 7 <| .run 10 2 <| .done)) (o1 8 <| .op 3 false false true <| o0 7 <| .run 10 2 <| .done))))) (.seq (.seq (rr 2) (.cond .exit .skip)) (.seq (.reg (.run 0 2 <| o1 2 <| o0 3 <| .done)) (.seq (rr 4) (.seq (.reg (.run 0 2 <| .split 111 <| .run 2 5 <| .split 116 <| .run 7 5 <| .run 13 2 <| .op 12 false false true <| .run 15 3 <| .done)) (.cond (.seq ra .ret) .skip))))))) (rr 3))))))) (rr 3)))))) (.seq ra .ret))))))))))
def ac_gif_Decode_fn1 : AC := .bcut [] (.seq ra (.cond ra (.seq (rr 3) (.cond (.seq (.reg (o1 0 <| o0 1 <| .done)) (rr 3)) (.seq ra (rr 2))))))
def ac_gif_reader_bytes : AC := .seq ra (.seq (.seq (rr 7) (.cond (rr 3) .skip)) (.seq (rr 7) (.seq (rr 10) (.seq (rr 2) .ret))))
def ac_gif_reader_two : AC := .seq ra (.seq (.reg (o0 0 <| .op 1 false true false <| o0 2 <| .done)) (.seq (rr 11) .ret))
def ac_gif_reader_one : AC := .seq ra (.seq (.reg (o0 0 <| .op 1 false true false <| .run 2 4 <| .done)) .ret)
def ac_gif_reader_palette : AC := .seq ra (.seq (.reg (o1 0 <| .done)) (.seq (.seq (.reg (.run 0 4 <| .op 4 false true false <| o0 5 <| .done)) (.block (.rfunc false [.loc 5 [.slice]] [.sc .slice] ra (.block (.reg (.run 0 17 <| o1 17 <| .run 18 2 <| .done)))))) (.seq (rr 2) .ret)))
def ac_gif_reader_extension : AC := .seq ra (.seq (.reg (o0 0 <| .op 1 false true false <| o0 2 <| .done)) (.seq (.reg (o1 0 <| .done)) (.seq (.seq (rr 2) (.block (.rfunc true [.loc 6 [.slice]] [.sc .slice] ra (.block (.reg (.run 0 2 <| o1 2 <| .run 3 2 <| .done)))))) (.seq (.seq (rr 2) (.cond (.seq (rr 2) .ret) .skip)) (.seq (.seq (.reg (.run 0 4 <| .split 23 <| .run 4 6 <| .done)) (.cond (rr 3) .skip)) (.seq (.seq (rr 7) (.cond (.seq ra .ret) .skip)) (.seq (rr 7) .ret)))))))
def ac_gif_reader_picture : AC := .seq (.reg (o1 0 <| .done)) (.seq (.reg (o0 0 <| .op 1 false true false <| o0 2 <| .op 3 false true false <| o0 4 <| .op 5 false true false <| o0 6 <| .op 7 false true false <| o0 8 <| .op 9 false true false <| .run 10 5 <| .done)) (.seq (.seq (.reg (.run 0 3 <| .gand 35 false 3 2 <| o0 6 <| .gand 39 false 7 6 <| o0 14 <| .gand 47 false 15 6 <| .done)) (.cond (rr 3) .skip)) (.cut [.slot 2 .slice] (.seq (rr 3) (.cond (.reg (.run 0 2 <| .op 2 false true false <| o0 3 <| .done)) .skip)) (.seq (.reg (o0 0 <| .op 1 false true false <| o0 2 <| .done)) (.seq (.reg (o1 0 <| .done)) (.seq (.seq (rr 2) (.block (.rfunc true [.loc 14 [.slice]] [.sc .slice] ra (.block (rr 4))))) (.seq (rr 11) (.seq (.seq (.reg (.run 0 3 <| .gand 82 false 3 6 <| o0 10 <| .gand 90 false 11 3 <| .done)) (.cond (rr 3) .skip)) (.seq (rr 7) (.block (.loop [.slot 103 si] (.seq ra (.seq (.cond .skip .exit) (.seq (.block (.seq (rr 5) (.seq (rr 11) (.block (.loop [.slot 118 si] (.seq ra (.seq (.cond .skip .exit) (.seq (.bcut [] (.seq (rr 5) (.seq (.seq (rr 5) (.cond (rr 3) .skip)) (.seq (.reg (.run 0 4 <| o1 4 <| o0 5 <| .done)) (.seq (rr 4) (.cond (rr 24) .skip)))))) (rr 2))))))))) (rr 2)))))))))))))))
def ac_raster_Good : AC := .seq (.reg (o1 0 <| o0 1 <| .done)) (.seq (.reg (.run 0 7 <| .gand 9 true 7 6 <| o0 14 <| .gand 17 true 15 6 <| o0 22 <| .gand 25 true 23 10 <| o0 34 <| .done)) .ret)
def ac_quant_Palette : AC := .seq (.reg (o1 0 <| .run 1 2 <| .done)) (.seq (.seq (rr 3) (.cond (.seq (rr 2) .ret) .skip)) (.seq (.seq (.reg (.run 0 3 <| .gand 23 false 3 2 <| .done)) (.cond (.seq (rr 2) .ret) .skip)) (.seq (rr 2) (.seq ra (.seq (.seq (rr 4) (.block (.loop [.slot 7 .slice, .slot 31 si] (.seq ra (.seq (.cond .skip .exit) (.seq (.bcut [.slot 7 .slice] (.seq (.reg (.run 0 2 <| o1 2 <| o0 3 <| .done)) (.seq (.seq (rr 2) (.cond .exit .skip)) (.seq (rr 3) (.seq (.reg (.run 0 6 <| o1 6 <| .run 7 2 <| .done)) (.seq (rr 2) (.cond (.seq (rr 4) (.reg (.run 0 2 <| o1 2 <| .run 3 2 <| .done))) .skip))))))) (rr 2))))))) (.seq (.seq (rr 4) (.cond (.seq (rr 3) .ret) .skip)) (.seq (rr 3) (.seq (rr 3) (.seq (.block (.loop [] (.seq (.seq (rr 7) (.cond .skip .exit)) (.block (.seq (rr 3) (.seq (rr 4) (.seq (rr 3) (.seq (rr 3) (.seq (rr 7) (rr 7)))))))))) (.seq ra (.seq (.seq (rr 6) (.block (.loop [.slot 15 .slice, .slot 100 si] (.seq ra (.seq (.cond .skip .exit) (.seq (.block (.seq (rr 3) (.reg (.run 0 7 <| o1 7 <| .run 8 2 <| .done)))) (rr 2))))))) (.seq (rr 3) .ret))))))))))))
def ac_quant_Apply : AC := .seq (.reg (o1 0 <| o1 1 <| o1 2 <| o0 3 <| .done)) (.seq (rr 7) (.seq (.seq (rr 2) (.cond (.seq (rr 4) .ret) .skip)) (.seq (.seq (.reg (.run 0 4 <| .gand 28 false 4 3 <| .done)) (.cond (.seq (rr 3) .ret) .skip)) (.seq (.reg (.run 0 2 <| o1 2 <| o0 3 <| .done)) (.seq (.reg (o0 0 <| o1 1 <| o0 2 <| .done)) (.cut [.nloc 10 [si, si, .slice, .slice]] (.reg (.run 0 5 <| .alt (.op 5 false false true <| o0 6 <| o1 7 <| o0 8 <| .done) (o1 7 <| .op 5 false false true <| o0 6 <| o0 8 <| .done))) (.seq (.seq (rr 2) (.block (.rfunc false [.loc 10 [si, si, .slice, .slice]] [.agg [si, si], .agg [(.int .u16), (.int .u16), (.int .u16), (.int .u16)]] (.reg (o1 0 <| o0 1 <| .done)) (.block (.seq (rr 2) (.cut [.slot 13 si, .loc 12 [(.int .u16), (.int .u16), (.int .u16), (.int .u16)]] (.seq (.reg (.run 0 3 <| .split 51 <| .run 3 4 <| .done)) (.cond (.seq (rr 3) (.seq (rr 8) (.seq (.seq (rr 2) (.cond (.seq (rr 4) (rr 4)) .skip)) (rr 2)))) .skip)) (.reg (.run 0 4 <| o1 4 <| .run 5 3 <| .done)))))))) (.seq (rr 3) .ret))))))))
def ac_gif_Encode_fn1 : AC := .reg (.run 0 6 <| o1 6 <| .run 7 2 <| .done)
def ac_lzw_GifPack : AC := .seq (rr 2) (.seq (.seq (.reg (.run 0 3 <| .gand 10 false 3 2 <| .done)) (.cond (.seq (rr 2) .ret) .skip)) (.seq (.seq (rr 3) (.block (.loop [.slot 16 si] (.seq ra (.seq (.cond .skip .exit) (.seq (.block (.seq (rr 3) (.seq (rr 5) (.cond (.seq (rr 2) .ret) .skip)))) (rr 2))))))) (.seq (rr 6) .ret)))
def ac_slices_Chunk_byte : AC := .seq (rr 3) (.seq (.seq (rr 2) (.cond (rr 2) .skip)) (.seq (rr 2) .ret))
def ac_ref09_Pixel : AC := .seq (.reg (o1 0 <| o1 1 <| .done)) (.seq (rr 8) (.seq (rr 25) .ret))
def ac_ref14_Clear : AC := .seq (.reg (o1 0 <| o0 1 <| .done)) (.seq (rr 4) .ret)
def ac_ref09_Place : AC := .seq (.reg (o1 0 <| o0 1 <| .done)) (.seq (.seq ra (.block (.loop [.slot 5 si] (.seq (.seq (rr 4) (.cond .skip .exit)) (.seq (.block (.seq (rr 6) (.cond (.seq (rr 2) .ret) .skip))) (rr 3)))))) (.seq ra .ret))
def ac_ref14_Eight : AC := .seq (.reg (o1 0 <| o1 1 <| .done)) (.seq (.reg (.run 0 2 <| .run 3 2 <| .run 6 2 <| .op 2 false false true <| .op 5 false false true <| .run 8 3 <| .done)) .ret)
def ac_ref09_Good : AC := .seq (.reg (o1 0 <| o0 1 <| .done)) (.seq (.reg (.run 0 6 <| .gand 8 true 6 10 <| o0 17 <| .done)) .ret)
def ac_ref08_Nearest : AC := .seq (.reg (o1 0 <| o0 1 <| .done)) (.seq ra (.seq (.seq ra (.block (.loop [.slot 5 si, .slot 6 si] (.seq (.seq (rr 4) (.cond .skip .exit)) (.seq (.bcut [.slot 5 si] (.seq (.reg (.run 0 3 <| .split 15 <| .run 3 5 <| .run 9 5 <| .op 8 false false true <| .run 14 3 <| .done)) (.cond (rr 2) .skip))) (rr 3)))))) (.seq (rr 2) .ret)))
def ac_ref08_Far : AC := .seq (.reg (o1 0 <| o1 1 <| o0 2 <| .done)) (.seq (rr 24) (.seq (rr 12) .ret))
def ac_gif_reader_blocks : AC := .seq (rr 2) (.seq (rr 2) .ret)
def ac_lzw_GifUnpack : AC := .seq (rr 2) (.seq (.seq (.reg (.run 0 3 <| .gand 10 false 3 2 <| .done)) (.cond (.seq (rr 2) .ret) .skip)) (.seq (rr 10) .ret))
def ac_gif_rows : AC := .seq ra (.seq ra (.seq (.seq (rr 2) (.block (.loop [.slot 5 .slice, .slot 9 si] (.seq ra (.seq (.cond .skip .exit) (.seq (.block (.seq (rr 2) (.reg (.run 0 2 <| o1 2 <| .run 3 2 <| .done)))) (rr 2))))))) (.seq (.seq ra (.cond (.seq (rr 2) (rr 3)) .skip)) (.seq (rr 2) .ret))))
def ac_raster_Distinct : AC := .seq (.reg (o1 0 <| o0 1 <| .done)) (.seq (.seq (rr 3) (.cond (.seq ra .ret) .skip)) (.seq (rr 2) (.seq ra (.seq (.reg (o0 0 <| o1 1 <| o0 2 <| .done)) (.seq (.seq (rr 6) (.block (.loop [.slot 4 .slice, .slot 20 si, .loc 5 [(.int .u16), (.int .u16), (.int .u16), (.int .u16)]] (.seq ra (.seq (.cond .skip .exit) (.seq (.bcut [.slot 4 .slice, .loc 5 [(.int .u16), (.int .u16), (.int .u16), (.int .u16)]] (.seq (rr 2) (.seq (.reg (.run 0 6 <| o1 6 <| o0 7 <| .done)) (.cut [] (.seq (.reg (.run 0 3 <| .split 31 <| .run 3 4 <| .done)) (.cond .exit .skip)) (.seq (rr 2) (.seq (.reg (.run 0 6 <| o1 6 <| .run 7 2 <| .done)) (.seq (rr 2) (.cond (.seq (rr 4) (.reg (.run 0 2 <| o1 2 <| .run 3 2 <| .done))) .skip)))))))) (rr 2))))))) (.seq (rr 2) .ret))))))
def ac_quant_clear : AC := .seq (.reg (o1 0 <| o0 1 <| .done)) (.seq (rr 4) .ret)
def ac_quant_eight : AC := .seq (.reg (o1 0 <| o1 1 <| .done)) (.seq ra (.seq (.reg (.run 0 3 <| .run 4 3 <| .run 8 3 <| .op 3 false false true <| .op 7 false false true <| .run 11 3 <| .done)) .ret))
def ac_quant_Palette_fn1 : AC := .seq ra (.seq (rr 3) .ret)
def ac_quant_bag_api_Color_put : AC := .reg (.run 0 6 <| o1 6 <| .run 7 4 <| .done)
def ac_quant_bag_api_Color_take : AC := .seq ra (.seq ra (.seq (.seq (rr 6) (.block (.loop [.slot 3 si, .slot 11 si] (.seq ra (.seq (.cond .skip .exit) (.seq (.bcut [.slot 3 si] (.seq (rr 2) (.seq (.reg (.run 0 11 <| .run 12 11 <| .op 11 false false true <| .run 23 2 <| .done)) (.cond (rr 2) .skip)))) (rr 2))))))) (.seq (rr 8) (.seq (rr 12) (.seq (rr 2) .ret)))))
def ac_quant_longest : AC := .seq ra (.seq (rr 2) (.seq (.seq ra (.block (.loop [.slot 3 si, .slot 4 si, .slot 8 si] (.seq ra (.seq (.cond .skip .exit) (.seq (.bcut [.slot 3 si, .slot 4 si] (.seq (rr 3) (.seq (rr 2) (.seq (.reg (.run 0 2 <| o0 3 <| .run 5 2 <| o0 8 <| .op 2 false false true <| .op 4 false false true <| .op 7 false false true <| .run 9 3 <| .done)) (.seq (rr 3) (.cond (rr 4) .skip)))))) (rr 2))))))) (.seq (rr 2) .ret)))
def ac_slices_Clone_api_Color : AC := .seq ra (.seq (.seq (rr 2) (.cond (.seq ra .ret) .skip)) (.seq (rr 4) .ret))
def ac_slices_SortStableFunc_api_Color : AC := .reg (.run 0 5 <| .done)
def ac_quant_Palette_fn2 : AC := .seq (.reg (o1 0 <| o1 1 <| o0 2 <| .done)) (.seq (.reg (.run 0 2 <| .run 3 2 <| .op 2 false false true <| .run 5 3 <| .done)) .ret)
def ac_cmp_Compare_int : AC := .seq ra (.seq (rr 3) (.seq (rr 3) (.seq (.seq ra (.cond (.seq (.seq ra (.cond (.seq ra .ret) .skip)) (.seq ra .ret)) .skip)) (.seq (.seq ra (.cond (.seq ra .ret) .skip)) (.seq (.seq (rr 3) (.cond (.seq ra .ret) .skip)) (.seq (.seq (rr 3) (.cond (.seq ra .ret) .skip)) (.seq ra .ret)))))))
def ac_quant_axis : AC := .seq (.reg (o1 0 <| o0 1 <| .done)) (.seq (rr 13) .ret)
def ac_raster_Grid : AC := .seq (.reg (o1 0 <| .run 1 2 <| .done)) (.seq (.seq (rr 3) (.cond (.seq (rr 2) .ret) .skip)) (.seq (.reg (.run 0 6 <| o1 6 <| o0 7 <| .done)) (.seq (.seq (rr 3) (.block (.rfunc false [.loc 4 [.slice]] [.sc .slice] ra (.block (.reg (.run 0 2 <| .op 2 false false true <| o1 3 <| .run 4 2 <| .done)))))) (.seq (rr 10) .ret))))
def ac_slices_IndexFunc_api_Color : AC := .seq ra (.seq (.seq (rr 3) (.block (.loop [.slot 8 si] (.seq ra (.seq (.cond .skip .exit) (.seq (.block (.seq (rr 2) (.seq (rr 6) (.cond (.seq (rr 2) .ret) .skip)))) (rr 2))))))) (.seq ra .ret))
def ac_quant_Apply_fn1 : AC := .seq (.reg (o1 0 <| o0 1 <| .done)) (.seq (rr 4) .ret)
def ac_grid_Grid_api_Color_All : AC := .seq (rr 2) (.seq (rr 2) .ret)
def ac_tones_Nearest : AC := .seq (.reg (o1 0 <| o0 1 <| .done)) (.seq (rr 2) (.seq (.seq (rr 3) (.block (.loop [.slot 5 si, .slot 6 si, .slot 15 si] (.seq ra (.seq (.cond .skip .exit) (.seq (.bcut [.slot 5 si, .slot 6 si] (.seq (.reg (.run 0 3 <| o1 3 <| .run 4 2 <| .done)) (.seq (rr 24) (.seq (rr 12) (.seq (.reg (.run 0 3 <| .gand 54 false 3 3 <| .done)) (.cond (rr 4) .skip)))))) (rr 2))))))) (.seq (rr 2) .ret)))
def ac_lzw_gif : AC := .seq (.reg (o1 0 <| .done)) (.seq (rr 6) .ret)
def ac_lzw_kind_pack : AC := .seq (rr 2) (.seq (rr 5) (.cut [.slot 6 .map, .slot 7 .ptr, .slot 8 .ptr] (.reg (.run 1 3 <| .alt (o0 0 <| .alt (.run 4 2 <| .alt (.run 6 5 <| .done) (o0 7 <| o0 6 <| .run 8 3 <| .done)) (.alt (o0 6 <| .alt (.run 4 2 <| .run 7 4 <| .done) (.run 7 2 <| .alt (.run 4 2 <| .run 9 2 <| .done) (o0 9 <| .run 4 2 <| o0 10 <| .done))) (o0 7 <| .alt (.run 4 3 <| .run 8 3 <| .done) (o0 6 <| o0 8 <| .alt (.run 4 2 <| .run 9 2 <| .done) (o0 9 <| .run 4 2 <| o0 10 <| .done))))) (.alt (.run 4 2 <| .alt (o0 0 <| .alt (.run 6 5 <| .done) (o0 7 <| o0 6 <| .run 8 3 <| .done)) (.alt (o0 6 <| .alt (o0 0 <| .run 7 4 <| .done) (o0 7 <| o0 0 <| .run 8 3 <| .done)) (o0 7 <| .alt (o0 0 <| o0 6 <| .run 8 3 <| .done) (o0 6 <| o0 0 <| .run 8 3 <| .done)))) (.alt (o0 6 <| .alt (o0 0 <| .alt (.run 4 2 <| .run 7 4 <| .done) (.run 7 2 <| .alt (.run 4 2 <| .run 9 2 <| .done) (o0 9 <| .run 4 2 <| o0 10 <| .done))) (.alt (.run 4 2 <| .alt (o0 0 <| .run 7 4 <| .done) (o0 7 <| o0 0 <| .run 8 3 <| .done)) (o0 7 <| .alt (o0 0 <| o0 8 <| .alt (.run 4 2 <| .run 9 2 <| .done) (o0 9 <| .run 4 2 <| o0 10 <| .done)) (.run 4 2 <| o0 0 <| .run 8 3 <| .done)))) (o0 7 <| .alt (o0 0 <| .alt (.run 4 3 <| .run 8 3 <| .done) (o0 6 <| o0 8 <| .alt (.run 4 2 <| .run 9 2 <| .done) (o0 9 <| .run 4 2 <| o0 10 <| .done))) (.alt (.run 4 2 <| .alt (o0 0 <| o0 6 <| .run 8 3 <| .done) (o0 6 <| o0 0 <| .run 8 3 <| .done)) (o0 6 <| .alt (o0 0 <| o0 8 <| .alt (.run 4 2 <| .run 9 2 <| .done) (o0 9 <| .run 4 2 <| o0 10 <| .done)) (.run 4 2 <| o0 0 <| .run 8 3 <| .done)))))))) (.seq (rr 6) (.seq ra (.seq (rr 2) (.seq ra (.seq (.seq (rr 3) (.block (.loop [.slot 6 .map, .slot 9 si, .slot 11 .bool, .slot 34 si] (.seq ra (.seq (.cond .skip .exit) (.seq (.bcut [.slot 6 .map, .slot 9 si, .slot 11 .bool] (.seq (rr 3) (.seq (.seq (rr 2) (.cond (.seq (rr 3) .exit) .skip)) (.seq (.seq (rr 10) (.seq ra (.cond (.seq (rr 2) .exit) .skip))) (.seq (rr 4) (.seq ra (.seq (rr 6) (.seq (rr 3) (.seq (rr 2) (.cond (.seq (rr 6) (.reg (.run 1 3 <| .alt (o0 0 <| o0 6 <| .alt (.run 4 2 <| .run 7 3 <| .done) (o0 7 <| .run 4 2 <| .run 8 2 <| .done)) (.run 4 2 <| o0 0 <| .run 6 4 <| .done)))) .skip)))))))))) (rr 2))))))) (.cut [] (.seq (rr 2) (.cond (rr 4) .skip)) (.seq (rr 7) (.seq (rr 3) .ret))))))))))
def ac_slices_Chunk_byte_fn1 : AC := .seq ra (.block (.loop [.slot 4 si] (.seq (.seq (rr 4) (.cond .skip .exit)) (.seq (.block (.seq (rr 7) (.seq (rr 12) (.cond .ret .skip)))) (rr 4)))))
def ac_ref08_Round : AC := .seq ra (.seq (rr 8) (.seq (rr 8) (.seq (rr 2) .ret)))
def ac_ref07_Fits : AC := .seq ra (.seq (.reg (.run 0 3 <| .gand 7 true 3 2 <| o0 6 <| .gand 11 true 7 2 <| o0 10 <| .gand 15 true 11 2 <| o0 14 <| .gand 19 true 15 4 <| o0 20 <| .done)) .ret)
def ac_gif_reader_blocks_fn1 : AC := .seq (.reg (o0 0 <| .op 1 false true false <| o0 2 <| .done)) (.block (.loop [.slot 3 si] (.seq (.seq (rr 2) (.cond .skip .exit)) (.seq (.block (.seq (.reg (.run 0 3 <| .op 3 false true false <| .run 4 2 <| .done)) (.cond .ret .skip))) (.reg (o0 0 <| .op 1 false true false <| o0 2 <| .done))))))
def ac_lzw_kind_unpack : AC := .seq (.reg (o1 0 <| .run 1 2 <| .done)) (.seq (rr 5) (.seq (.reg (o0 0 <| .run 2 2 <| .op 1 false false true <| .run 4 3 <| .done)) (.seq ra (.block (.loop [.slot 9 .slice, .slot 10 si, .slot 11 si, .slot 12 .slice] (.bcut [.slot 9 .slice, .slot 10 si, .slot 11 si, .slot 12 .slice] (.seq (rr 8) (.seq (.seq (rr 2) (.cond (.seq (rr 2) .ret) .skip)) (.seq (rr 3) (.seq (.bcut [.slot 9 .slice, .slot 10 si, .slot 11 si] (.seq (rr 5) (.cond (.seq (rr 10) .exit) (.seq (rr 6) (.cond (.seq (rr 3) .ret) (.seq (.seq (.reg (.run 0 3 <| .gand 59 true 3 4 <| o0 8 <| .done)) (.cond .skip (.seq (rr 5) (.cond .skip (.reg (.run 0 5 <| .gand 73 true 5 3 <| o0 9 <| .done)))))) (.cond (.seq (rr 2) .ret) .skip))))))) (.cut [.slot 9 .slice, .slot 10 si] (.seq (.reg (.run 0 3 <| .gand 80 true 3 3 <| .done)) (.cond (.seq (rr 6) (.cut [.slot 16 (.int .u8)] (.seq (rr 4) (.cond (rr 6) .skip)) (.seq (.reg (.run 0 15 <| o1 15 <| .run 16 2 <| .done)) (.seq (.reg (.run 0 9 <| .gand 124 true 9 2 <| .done)) (.cond (rr 3) .skip))))) .skip)) (.seq (.seq (rr 10) (.cond (.seq (rr 2) .ret) .skip)) (.seq (rr 8) (.seq (.seq (rr 6) (.block (.loop [.slot 17 si, .slot 18 si] (.seq (.seq (rr 2) (.cond .skip .exit)) (.seq (.block (rr 9)) (rr 9)))))) (rr 2)))))))))))))))
def ac_gif_rows_fn1 : AC := .seq ra (.seq (.block (.seq (rr 4) (.cond (.seq ra .ret) (.seq (rr 4) (.cond (.seq ra .ret) (.seq (rr 4) (.cond (.seq ra .ret) .skip))))))) (.seq ra .ret))
def ac_slices_SortStableFunc_int : AC := .reg (.run 0 5 <| .done)
def ac_gif_rows_fn2 : AC := .seq ra (.seq (.reg (.run 0 2 <| .run 3 2 <| .op 2 false false true <| .run 5 3 <| .done)) .ret)
def ac_raster_colour : AC := .seq (.reg (o1 0 <| .done)) (.seq (rr 14) .ret)
def ac_quant_eight_fn1 : AC := .seq ra (.seq (rr 7) (.seq (rr 4) .ret))
def ac_tones_Down : AC := .seq (rr 2) (.seq (.seq (.reg (.run 0 3 <| .gand 8 false 3 2 <| .done)) (.cond (.seq (rr 2) .ret) .skip)) (.seq (rr 8) .ret))
def ac_slices_Delete_api_Color : AC := .seq ra (.seq (rr 6) (.seq (.seq (rr 3) (.cond (.seq (rr 2) .ret) .skip)) (.seq (rr 3) (.seq (rr 8) (.seq (rr 6) (.seq (rr 2) .ret))))))
def ac_quant_longest_fn1 : AC := .seq (.reg (o1 0 <| o1 1 <| o0 2 <| .done)) (.seq (.reg (.run 0 2 <| .run 3 2 <| .op 2 false false true <| .run 5 3 <| .done)) .ret)
def ac_slices_MaxFunc_api_Color : AC := .seq (.reg (o1 0 <| .done)) (.seq (.seq (rr 3) (.cond (rr 2) .skip)) (.seq (.reg (.run 0 3 <| o1 3 <| o0 4 <| .done)) (.seq (.seq ra (.block (.loop [.slot 6 si, .loc 5 [(.int .u16), (.int .u16), (.int .u16), (.int .u16)]] (.seq (.seq (rr 4) (.cond .skip .exit)) (.seq (.bcut [.loc 5 [(.int .u16), (.int .u16), (.int .u16), (.int .u16)]] (.seq (rr 8) (.cond (rr 5) .skip))) (rr 3)))))) (.seq (rr 2) .ret))))
def ac_slices_MinFunc_api_Color : AC := .seq (.reg (o1 0 <| .done)) (.seq (.seq (rr 3) (.cond (rr 2) .skip)) (.seq (.reg (.run 0 3 <| o1 3 <| o0 4 <| .done)) (.seq (.seq ra (.block (.loop [.slot 6 si, .loc 5 [(.int .u16), (.int .u16), (.int .u16), (.int .u16)]] (.seq (.seq (rr 4) (.cond .skip .exit)) (.seq (.bcut [.loc 5 [(.int .u16), (.int .u16), (.int .u16), (.int .u16)]] (.seq (rr 8) (.cond (rr 5) .skip))) (rr 3)))))) (.seq (rr 2) .ret))))
def ac_slices_stableCmpFunc_api_Color : AC := .seq ra (.seq (rr 3) (.seq (.block (.loop [.slot 7 si, .slot 8 si] (.seq (.seq (rr 3) (.cond .skip .exit)) (.block (.seq (rr 5) (.seq (rr 2) (rr 4))))))) (.seq (rr 5) (.block (.loop [.slot 6 si] (.seq (.seq (rr 3) (.cond .skip .exit)) (.bcut [.slot 6 si] (.seq (rr 4) (.seq (.block (.loop [.slot 7 si, .slot 8 si] (.seq (.seq (rr 3) (.cond .skip .exit)) (.block (.seq (rr 8) (.seq (rr 2) (rr 5))))))) (.seq (.seq (rr 4) (.seq (rr 3) (.cond (rr 6) .skip))) (rr 3)))))))))))
def ac_cmp_isNaN_int : AC := .seq ra (.seq (rr 4) .ret)
def ac_slices_Chunk_uint16 : AC := .seq (rr 3) (.seq (.seq (rr 2) (.cond (rr 2) .skip)) (.seq (rr 2) .ret))
def ac_grid_Of_api_Color : AC := .seq (rr 2) (.seq (.seq (rr 4) (.cond (.seq (rr 2) .ret) .skip)) (.seq (.seq (rr 6) (.cond (.seq (rr 2) .ret) .skip)) (.seq (rr 8) .ret)))
def ac_grid_Grid_api_Color_All_fn1 : AC := .seq (.reg (o0 0 <| o0 2 <| o0 5 <| .op 1 false false true <| .run 3 2 <| .done)) (.block (.loop [.slot 9 si] (.seq ra (.seq (.cond .skip .exit) (.seq (.block (.seq (rr 2) (.seq (rr 23) (.cond .ret .skip)))) (rr 2))))))
def ac_grid_Grid_api_Color_W : AC := .seq ra (.seq (.seq (rr 2) (.cond (.seq ra .ret) .skip)) (.seq (rr 5) .ret))
def ac_grid_Grid_api_Color_H : AC := .seq ra (.seq (.seq (rr 2) (.cond (.seq ra .ret) .skip)) (.seq (rr 5) .ret))
def ac_bits_NewWriter : AC := .seq ra (.seq (rr 6) .ret)
def ac_bits_Writer_Put : AC := .seq ra (.seq (.seq (rr 2) (.cond (.seq ra .ret) .skip)) (.seq (.seq (.reg (.run 0 3 <| .gand 12 false 3 2 <| .done)) (.cond (.seq ra .ret) .skip)) (.seq (.seq (rr 2) (.block (.loop [.slot 17 si] (.seq ra (.seq (.cond .skip .exit) (.seq (.bcut [] (.seq (rr 2) (.seq (.seq (rr 4) (.cond (rr 5) .skip)) (rr 7)))) (rr 2))))))) (.seq ra .ret))))
def ac_lzw_kind_pack_fn1 : AC := .seq (rr 5) (.seq ra (.cond (.seq (rr 3) (.seq (.reg (.run 0 8 <| .split 23 <| .run 8 3 <| .done)) (.cond (rr 3) .skip))) .skip))
def ac_bits_Writer_Bytes : AC := .seq ra (.seq (.seq (rr 2) (.cond (.seq ra .ret) .skip)) (.seq (rr 6) .ret))
def ac_ref08_Down : AC := .seq (rr 2) (.seq (.seq (.reg (.run 0 3 <| .gand 8 false 3 2 <| .done)) (.cond (.seq (rr 2) .ret) .skip)) (.seq (rr 8) .ret))
def ac_ref08_Up : AC := .seq (rr 2) (.seq (.seq (.reg (.run 0 3 <| .gand 8 false 3 2 <| o0 6 <| .gand 12 false 7 2 <| o0 10 <| .gand 16 false 11 3 <| .done)) (.cond (.seq (rr 2) .ret) .skip)) (.seq (rr 10) .ret))
def ac_bits_NewReader : AC := .seq ra (.seq (rr 8) .ret)
def ac_lzw_kind_entries : AC := .seq (.reg (o1 0 <| o0 1 <| .done)) (.seq (rr 5) (.seq (.seq (rr 3) (.block (.loop [.slot 11 si] (.seq ra (.seq (.cond .skip .exit) (.seq (.block (.seq (rr 2) (rr 9))) (rr 2))))))) (.seq (rr 2) .ret)))
def ac_bits_Reader_Take : AC := .seq (rr 2) (.seq (.block (.seq (rr 3) (.cond (.seq (rr 2) .ret) (.seq (.reg (.run 0 3 <| .gand 15 false 3 2 <| o0 6 <| .done)) (.cond (.seq (rr 2) .ret) (.seq (rr 5) (.cond (.seq (rr 2) .ret) .skip))))))) (.seq ra (.seq (.seq (rr 2) (.block (.loop [.slot 6 (.int .u32), .slot 25 si] (.seq ra (.seq (.cond .skip .exit) (.seq (.bcut [.slot 6 (.int .u32)] (.seq (rr 2) (.seq (.reg (.run 0 19 <| .op 19 false false true <| .run 20 4 <| .done)) (.seq (rr 8) (.seq (rr 4) (.cond (rr 5) (rr 6))))))) (rr 2))))))) (.seq (rr 3) .ret))))
def ac_slices_stableCmpFunc_int : AC := .seq ra (.seq (rr 3) (.seq (.block (.loop [.slot 7 si, .slot 8 si] (.seq (.seq (rr 3) (.cond .skip .exit)) (.block (.seq (rr 5) (.seq (rr 2) (rr 4))))))) (.seq (rr 5) (.block (.loop [.slot 6 si] (.seq (.seq (rr 3) (.cond .skip .exit)) (.bcut [.slot 6 si] (.seq (rr 4) (.seq (.block (.loop [.slot 7 si, .slot 8 si] (.seq (.seq (rr 3) (.cond .skip .exit)) (.block (.seq (rr 8) (.seq (rr 2) (rr 5))))))) (.seq (.seq (rr 4) (.seq (rr 3) (.cond (rr 6) .skip))) (rr 3)))))))))))
def ac_slices_insertionSortCmpFunc_api_Color : AC := .seq (rr 3) (.block (.loop [.slot 8 si] (.seq (.seq (rr 3) (.cond .skip .exit)) (.seq (.block (.seq (rr 2) (.bcut [] (.loop [.slot 9 si] (.seq (.seq (.reg (.run 0 4 <| .split 21 <| .run 4 13 <| .done)) (.cond .skip .exit)) (.seq (.block (rr 18)) (rr 3))))))) (rr 3)))))
def ac_slices_symMergeCmpFunc_api_Color : AC := .seq (.seq (rr 4) (.cond (.seq (rr 2) (.seq (rr 2) (.seq (.block (.loop [.slot 10 si, .slot 11 si] (.seq (.seq (rr 3) (.cond .skip .exit)) (.bcut [.slot 10 si, .slot 11 si] (.seq (rr 7) (.seq (rr 11) (.cond (rr 3) (rr 2)))))))) (.seq (.seq (rr 2) (.block (.loop [.slot 13 si] (.seq (.seq (rr 4) (.cond .skip .exit)) (.seq (.block (rr 18)) (rr 3)))))) .ret)))) .skip)) (.seq (.seq (rr 4) (.cond (.seq (rr 2) (.seq (rr 2) (.seq (.block (.loop [.slot 14 si, .slot 15 si] (.seq (.seq (rr 3) (.cond .skip .exit)) (.bcut [.slot 14 si, .slot 15 si] (.seq (rr 7) (.seq (rr 12) (.cond (rr 3) (rr 2)))))))) (.seq (.seq (rr 2) (.block (.loop [.slot 17 si] (.seq (.seq (rr 3) (.cond .skip .exit)) (.seq (.block (rr 18)) (rr 3)))))) .ret)))) .skip)) (.seq (rr 7) (.seq (rr 4) (.seq (rr 2) (.cut [.slot 20 si, .slot 21 si] (.seq (rr 3) (.cond (.seq (rr 4) (rr 2)) (.seq (rr 2) (rr 2)))) (.seq (rr 3) (.seq (.block (.loop [.slot 20 si, .slot 21 si] (.seq (.seq (rr 3) (.cond .skip .exit)) (.bcut [.slot 20 si, .slot 21 si] (.seq (rr 7) (.seq (rr 14) (.cond (rr 3) (rr 2)))))))) (.seq (rr 4) (.cut [] (.seq (.reg (.run 0 4 <| .gand 181 true 4 3 <| .done)) (.cond (rr 6) .skip)) (.cut [] (.seq (.reg (.run 0 4 <| .gand 195 true 4 3 <| .done)) (.cond (rr 6) .skip)) (.seq (.reg (.run 0 4 <| .gand 209 true 4 3 <| .done)) (.cond (rr 6) .skip))))))))))))
def ac_slices_Chunk_uint16_fn1 : AC := .seq ra (.block (.loop [.slot 4 si] (.seq (.seq (rr 4) (.cond .skip .exit)) (.seq (.block (.seq (rr 7) (.seq (rr 12) (.cond .ret .skip)))) (rr 4)))))
def ac_grid_fits : AC := .seq ra (.seq (.reg (.run 0 5 <| .gand 9 true 5 4 <| o0 10 <| .gand 15 true 11 4 <| o0 16 <| .done)) .ret)
def ac_bits_order : AC := .seq ra (.seq (.seq ra (.cond (.seq ra .ret) .skip)) (.seq ra .ret))
def ac_bits_Writer_one : AC := .cut [] (.seq (rr 6) (.cond (.reg (.run 0 5 <| o1 5 <| .run 6 4 <| .done)) .skip)) (.seq (.reg (.run 0 20 <| .op 20 false false true <| .run 21 4 <| .done)) (rr 8))
def ac_slices_Clone_byte : AC := .seq ra (.seq (.seq (rr 2) (.cond (.seq ra .ret) .skip)) (.seq (rr 4) .ret))
def ac_bits_Reader_Left : AC := .seq ra (.seq (.seq (rr 2) (.cond (.seq ra .ret) .skip)) (.seq (rr 12) .ret))
def ac_slices_insertionSortCmpFunc_int : AC := .seq (rr 3) (.block (.loop [.slot 8 si] (.seq (.seq (rr 3) (.cond .skip .exit)) (.seq (.block (.seq (rr 2) (.bcut [] (.loop [.slot 9 si] (.seq (.seq (.reg (.run 0 4 <| .split 21 <| .run 4 13 <| .done)) (.cond .skip .exit)) (.seq (.block (rr 18)) (rr 3))))))) (rr 3)))))
def ac_slices_symMergeCmpFunc_int : AC := .seq (.seq (rr 4) (.cond (.seq (rr 2) (.seq (rr 2) (.seq (.block (.loop [.slot 10 si, .slot 11 si] (.seq (.seq (rr 3) (.cond .skip .exit)) (.bcut [.slot 10 si, .slot 11 si] (.seq (rr 7) (.seq (rr 11) (.cond (rr 3) (rr 2)))))))) (.seq (.seq (rr 2) (.block (.loop [.slot 13 si] (.seq (.seq (rr 4) (.cond .skip .exit)) (.seq (.block (rr 18)) (rr 3)))))) .ret)))) .skip)) (.seq (.seq (rr 4) (.cond (.seq (rr 2) (.seq (rr 2) (.seq (.block (.loop [.slot 14 si, .slot 15 si] (.seq (.seq (rr 3) (.cond .skip .exit)) (.bcut [.slot 14 si, .slot 15 si] (.seq (rr 7) (.seq (rr 12) (.cond (rr 3) (rr 2)))))))) (.seq (.seq (rr 2) (.block (.loop [.slot 17 si] (.seq (.seq (rr 3) (.cond .skip .exit)) (.seq (.block (rr 18)) (rr 3)))))) .ret)))) .skip)) (.seq (rr 7) (.seq (rr 4) (.seq (rr 2) (.cut [.slot 20 si, .slot 21 si] (.seq (rr 3) (.cond (.seq (rr 4) (rr 2)) (.seq (rr 2) (rr 2)))) (.seq (rr 3) (.seq (.block (.loop [.slot 20 si, .slot 21 si] (.seq (.seq (rr 3) (.cond .skip .exit)) (.bcut [.slot 20 si, .slot 21 si] (.seq (rr 7) (.seq (rr 14) (.cond (rr 3) (rr 2)))))))) (.seq (rr 4) (.cut [] (.seq (.reg (.run 0 4 <| .gand 181 true 4 3 <| .done)) (.cond (rr 6) .skip)) (.cut [] (.seq (.reg (.run 0 4 <| .gand 195 true 4 3 <| .done)) (.cond (rr 6) .skip)) (.seq (.reg (.run 0 4 <| .gand 209 true 4 3 <| .done)) (.cond (rr 6) .skip))))))))))))
def ac_slices_rotateCmpFunc_api_Color : AC := .seq (rr 4) (.seq (rr 4) (.seq (.block (.loop [.slot 10 si, .slot 11 si] (.seq (.seq (rr 3) (.cond .skip .exit)) (.bcut [.slot 10 si, .slot 11 si] (.seq (rr 3) (.cond (.seq (rr 8) (rr 4)) (.seq (rr 12) (rr 4)))))))) (rr 8)))
def ac_bits_high : AC := .seq ra (.seq (rr 5) .ret)
def ac_bits_low : AC := .seq ra (.seq (rr 4) .ret)
def ac_slices_rotateCmpFunc_int : AC := .seq (rr 4) (.seq (rr 4) (.seq (.block (.loop [.slot 10 si, .slot 11 si] (.seq (.seq (rr 3) (.cond .skip .exit)) (.bcut [.slot 10 si, .slot 11 si] (.seq (rr 3) (.cond (.seq (rr 8) (rr 4)) (.seq (rr 12) (rr 4)))))))) (rr 8)))
def ac_slices_swapRangeCmpFunc_api_Color : AC := .seq ra (.block (.loop [.slot 10 si] (.seq (.seq (rr 3) (.cond .skip .exit)) (.seq (.block (rr 24)) (rr 3)))))
def ac_slices_swapRangeCmpFunc_int : AC := .seq ra (.block (.loop [.slot 10 si] (.seq (.seq (rr 3) (.cond .skip .exit)) (.seq (.block (rr 24)) (rr 3)))))
end Go.Proofs.Ytiiaihiliimcoaa
