/- A calculus of conditions over codes, part 3: regions of operations, whatever order they are run in. -/
import Derived.Test.YthfnohbpdoklgaaVcB
set_option linter.unusedVariables false
set_option linter.unusedSimpArgs false
namespace Go.Vc
open Go.RowKit
set_option linter.unusedVariables false
set_option linter.unusedSimpArgs false

/-! ## Regions -/
inductive Plan
  | done
  | op (i : Nat) (loc pn fl : Bool) (p : Plan)
  | split (t : Nat) (p : Plan)
  | gand (g : Nat) (want : Bool) (i n : Nat) (p : Plan)
  | alt (p q : Plan)
  | ldl (i : Nat) (p : Plan)

/-- n plain operations in turn -/
def Plan.run (i n : Nat) (p : Plan) : Plan := match n with | 0 => p | n + 1 => .op i false false false (Plan.run (i + 1) n p)
def vcOp (P : Program) (X : List PanicEntry → World → Prop) (loc pn fl : Bool) (o : Oper) (s : St) (w : World) (K : Option EV → St → World → Prop) : Prop :=
  match compileHeavy P loc o.dst o.type o.op with
  | some i => vcHeavy P pn fl X i s w K
  | none => False
/-- does the guard let the operation be carried out? -/
def gval (ops : Array Oper) (s : St) (j : Nat) (want : Bool) : Option Bool :=
  match ops[j]? with
  | some o => match o.dst with
    | some t => match s.ρ t with
      | some (.v (.bool b)) => match b, want with
        | true, true => some true
        | false, false => some true
        | true, false => some false
        | false, true => some false
      | some (.v (.tuple _)) => some false
      | _ => none
    | none => none
  | none => none
/-- a guarded operation, its guard known -/
def vcG (P : Program) (X : List PanicEntry → World → Prop) (ops : Array Oper) (loc pn fl : Bool) (o : Oper) (s : St) (w : World) (K : Option EV → St → World → Prop) : Prop :=
  match o.guard with
  | none => vcOp P X loc pn fl o s w K
  | some (j, want) => match gval ops s j want with
    | some true => vcOp P X loc pn fl o s w K
    | some false => K (some (.v undef)) s w
    | none => False
/-- n light operations, whether their guard lets them or not; then the pick -/
def vcBlock (P : Program) (ops : Array Oper) : Nat → Nat → St → World → (St → World → Prop) → Prop
  | _, 0, s, w, K => K s w
  | i, n + 1, s, w, K => match ops[i]? with
    | some o => match compileLight P o.op with
      | some ins => vcLight ins s w fun e s' w' => vcBlock P ops (i + 1) n (s'.put o.dst e) w' K
      | none => False
    | none => False
def dstsOf (ops : Array Oper) : Nat → Nat → List Nat
  | _, 0 => []
  | i, n + 1 => match (ops[i]?).bind (·.dst) with
    | some d => d :: dstsOf ops (i + 1) n
    | none => dstsOf ops (i + 1) n
def andV (want b v : Bool) : Bool := match want with | true => b && v | false => b || v
/-- where a local's cells are loaded from -/
def locOf (s : St) (o : Oper) : Option Nat :=
  match o.op with
  | .load _ x => match s.evE x with
    | some (.loc k _) => some k
    | _ => none
  | _ => none
def vcPlan (P : Program) (X : List PanicEntry → World → Prop) (ops : Array Oper) (rl : List Nat) : Plan → St → World → (St → World → Prop) → Prop
  | .done, s, w, K => K s w
  | .op i loc pn fl p, s, w, K => match ops[i]? with
    | some o => vcG P X ops loc pn fl o s w fun e s' w' => vcPlan P X ops rl p (s'.put o.dst e) w' K
    | none => False
  | .split t p, s, w, K => match s.ρ t with
    | some (.v (.bool b)) => brB b (vcPlan P X ops rl p (s.set t (some (.v (.bool true)))) w K) (vcPlan P X ops rl p (s.set t (some (.v (.bool false)))) w K)
    | some (.v (.tuple _)) => vcPlan P X ops rl p s w K
    | _ => False
  | .gand g want i n p, s, w, K => match ops[i + n]? with
    | some o => match o.op with
      | .pick c x y => match s.ρ g with
        | some (.v (.bool b)) => vcBlock P ops i n s w fun s' w' => match s'.ev (match want with | true => x | false => y) with
          | some (.bool v) => vcPlan P X ops rl p ((s'.del (dstsOf ops i n)).put o.dst (some (.v (.bool (andV want b v))))) w' K
          | _ => False
        | _ => False
      | _ => False
    | none => False
  | .alt p q, s, w, K => vcPlan P X ops rl p s w K ∧ vcPlan P X ops rl q s w K
  | .ldl i p, s, w, K => match ops[i]? with
    | some o => match locOf s o with
      | some k => match rl.any (Nat.beq k) with
        | true => vcG P X ops false false false o s w fun e s' w' => vcPlan P X ops rl p (s'.put o.dst e) w' K
        | false => False
      | none => False
    | none => False

/-! ### The game of orders -/
section
variable {r : Option Nat} {P : Program} {ops : Array Oper} {Q : Exit → Act → World → Prop} {md : Region.Mode}

/-- what an operation waits for, as bits -/
def afterMask (md : Region.Mode) (o : Oper) : Nat := o.after.toList.foldl (fun m e => bif Region.binds md e then Nat.lor m (Nat.shiftLeft 1 e.on) else m) 0
/-- the operations that wait for i, directly or through others, as bits -/
def reachMask (md : Region.Mode) : List Oper → Nat → Nat → Nat
  | [], _, m => m
  | o :: r, j, m => reachMask md r (j + 1) (match Nat.beq (Nat.land (afterMask md o) m) 0 with | true => m | false => Nat.lor m (Nat.shiftLeft 1 j))
def reachB (m j : Nat) : Bool := !Nat.beq (Nat.land m (Nat.shiftLeft 1 j)) 0
def Closed (md : Region.Mode) (ops : Array Oper) (listed : Array Bool) : Prop :=
  ∀ j o, listed.getD j false = true → ops[j]? = some o → ∀ e ∈ o.after, Region.binds md e = true → listed.getD e.on false = true
theorem testBit_one (j k : Nat) : (Nat.shiftLeft 1 j).testBit k = decide (k = j) := by
  show (1 <<< j).testBit k = _
  rw [Nat.testBit_shiftLeft]
  by_cases h : k = j
  · subst h; simp
  · by_cases h2 : k ≥ j
    · have : k - j ≠ 0 := by omega
      have h1 : Nat.testBit 1 (k - j) = false := by
        obtain ⟨d, hd⟩ : ∃ d, k - j = d + 1 := ⟨k - j - 1, by omega⟩
        rw [hd, Nat.testBit_succ]; simp
      simp [h, h2, h1]
    · simp [h, h2]
theorem testBit_lor (a b k : Nat) : (Nat.lor a b).testBit k = (a.testBit k || b.testBit k) := Nat.testBit_or a b k
theorem testBit_land (a b k : Nat) : (Nat.land a b).testBit k = (a.testBit k && b.testBit k) := Nat.testBit_and a b k
theorem land_bit {a b : Nat} (h : Nat.beq (Nat.land a b) 0 = false) : ∃ k, a.testBit k = true ∧ b.testBit k = true := by
  have hne : Nat.land a b ≠ 0 := fun e => by rw [e] at h; cases h
  obtain ⟨k, hk⟩ := Nat.exists_testBit_of_ne_zero hne
  rw [testBit_land, Bool.and_eq_true] at hk
  exact ⟨k, hk⟩
theorem afterMask_bit {o : Oper} {k : Nat} (h : (afterMask md o).testBit k = true) : ∃ e, e ∈ o.after ∧ Region.binds md e = true ∧ e.on = k := by
  have key : ∀ (l : List Edge) (m : Nat), (l.foldl (fun m e => bif Region.binds md e then Nat.lor m (Nat.shiftLeft 1 e.on) else m) m).testBit k = true → m.testBit k = true ∨ ∃ e, e ∈ l ∧ Region.binds md e = true ∧ e.on = k := by
    intro l
    induction l with
    | nil => intro m h; exact .inl h
    | cons e l ih =>
      intro m h
      rcases ih _ h with h1 | ⟨e', h1, h2⟩
      · simp only at h1
        cases hb : Region.binds md e
        · rw [hb] at h1; exact .inl h1
        · rw [hb] at h1
          simp only [cond_true, testBit_lor, testBit_one, Bool.or_eq_true, decide_eq_true_eq] at h1
          rcases h1 with h1 | h1
          · exact .inl h1
          · exact .inr ⟨e, by simp, hb, h1.symm⟩
      · exact .inr ⟨e', by simp [h1], h2⟩
  rcases key _ _ h with h1 | ⟨e, h1, h2⟩
  · simp at h1
  · exact ⟨e, by simpa using h1, h2⟩
/-- whoever can be listed, or is, i is -/
def Waits (md : Region.Mode) (ops : Array Oper) (i j : Nat) : Prop := ∀ listed, Closed md ops listed → ((listed.getD j false = true → listed.getD i false = true) ∧ (j ≠ i → j ∈ Region.ready md ops listed → listed.getD i false = true))
theorem reachMask_waits {i : Nat} : ∀ (l : List Oper) (j m : Nat), (∀ k o, l[k]? = some o → ops[j + k]? = some o) → (∀ k, m.testBit k = true → Waits md ops i k) → ∀ k, (reachMask md l j m).testBit k = true → Waits md ops i k
  | [], _, _, _, hm, k, h => hm k h
  | o :: l, j, m, hl, hm, k, h => by
    refine reachMask_waits l (j + 1) _ (fun k o hk => by rw [show j + 1 + k = j + (k + 1) by omega]; exact hl (k + 1) o (by simpa using hk)) (fun x hx => ?_) k h
    cases hb : Nat.beq (Nat.land (afterMask md o) m) 0
    · rw [hb] at hx
      simp only [testBit_lor, testBit_one, Bool.or_eq_true, decide_eq_true_eq] at hx
      rcases hx with hx | rfl
      · exact hm x hx
      · obtain ⟨y, h1, h2⟩ := land_bit hb
        obtain ⟨e, he, hbd, rfl⟩ := afterMask_bit h1
        have ho : ops[x]? = some o := hl 0 o rfl
        refine fun listed hc => ⟨fun hj => (hm _ h2 listed hc).1 (hc x o hj ho e he hbd), fun _ hr => ?_⟩
        obtain ⟨_, o', ho', hall⟩ := mem_ready.1 hr
        rw [ho] at ho'; cases ho'
        exact (hm _ h2 listed hc).1 (hall e he hbd)
    · rw [hb] at hx; exact hm x hx
def reachOf (md : Region.Mode) (ops : Array Oper) (i j : Nat) : Bool := reachB (reachMask md ops.toList 0 (Nat.shiftLeft 1 i)) j
theorem reach_ready {listed : Array Bool} (hc : Closed md ops listed) {j i : Nat} (hji : j ≠ i) (hj : j ∈ Region.ready md ops listed) (h : reachOf md ops i j = true) : listed.getD i false = true := by
  unfold reachOf reachB at h
  simp only [Bool.not_eq_true'] at h
  obtain ⟨k, h1, h2⟩ := land_bit h
  rw [testBit_one, decide_eq_true_eq] at h2
  subst h2
  refine (reachMask_waits ops.toList 0 _ (fun k o hk => by rw [Nat.zero_add]; simpa using hk) (fun x hx => ?_) k h1 listed hc).2 hji hj
  rw [testBit_one, decide_eq_true_eq] at hx
  subst hx
  exact fun listed hc => ⟨id, fun hne => absurd rfl hne⟩
theorem ready_lt {listed : Array Bool} {j : Nat} (h : j ∈ Region.ready md ops listed) : j < listed.size := by
  obtain ⟨h0, _⟩ := mem_ready.1 h
  rcases Nat.lt_or_ge j listed.size with h' | h'
  · exact h'
  · simp [Array.getElem?_eq_none h'] at h0
theorem Closed.set {listed : Array Bool} (hc : Closed md ops listed) {i : Nat} (hi : i ∈ Region.ready md ops listed) : Closed md ops (listed.setIfInBounds i true) := by
  intro j o hj ho e he hb
  refine getD_set_true ?_
  by_cases hji : i = j
  · subst hji
    obtain ⟨_, o', ho', hall⟩ := mem_ready.1 hi
    rw [ho] at ho'; cases ho'
    exact hall e he hb
  · rw [getD_set_ne false hji] at hj
    exact hc j o hj ho e he hb

/-- the cells of these blocks read as before -/
def KeepL (B : List Nat) (w w' : World) : Prop := ∀ b, b ∈ B → ∀ off v, w.cell? ⟨b, off, none⟩ = some v → w'.cell? ⟨b, off, none⟩ = some v
theorem KeepL.refl (B : List Nat) (w : World) : KeepL B w w := fun _ _ _ _ h => h
theorem KeepL.trans {B : List Nat} {a b c : World} (h : KeepL B a b) (k : KeepL B b c) : KeepL B a c := fun x hx o v hv => k x hx o v (h x hx o v hv)
theorem Keeps.keepL {B : List Nat} {w w' : World} (h : Keeps w w') : KeepL B w w' := fun _ _ _ _ hv => h _ _ hv
/-- whatever order is picked from here on; the operations outside 'ns' keep all cells, all of them those of the blocks B -/
def wpK (r : Option Nat) (P : Program) (md : Region.Mode) (ops : Array Oper) (Q : Exit → Act → World → Prop) (ns B : List Nat) : Nat → Array Bool → Act → World → Prop
  | 0, listed, a, w => Region.ready md ops listed = [] ∧ Q .normal a w
  | fuel + 1, listed, a, w =>
    (Region.ready md ops listed = [] → Q .normal a w) ∧
    ∀ i ∈ Region.ready md ops listed, wpOpR r P ops Q i (fun a' w' => (i ∉ ns → Keeps w w') ∧ KeepL B w w' ∧ wpK r P md ops Q ns B fuel (listed.setIfInBounds i true) a' w') a w
theorem wpAny_of_K {ns B : List Nat} : ∀ (fuel : Nat) (listed : Array Bool) (a : Act) (w : World), wpK r P md ops Q ns B fuel listed a w → wpAnyR r P md ops Q fuel listed a w
  | 0, _, _, _, h => h
  | fuel + 1, _, _, _, h => ⟨h.1, fun i hi => wpOpR_mono (fun a' w' h' => wpAny_of_K fuel _ a' w' h'.2.2) (h.2 i hi)⟩

def YieldsK (P : Program) (ops : Array Oper) (B : List Nat) (fl : Bool) (wa : World) (o : Oper) (v : Value) (a : Act) : Prop :=
  (Region.wanted o (yielded ops a.tmps) = true ∧ ∀ wx, (indep o.op = true ∨ Keeps wa wx ∨ (fl = true ∧ KeepL B wa wx)) → (execOp a.eval o).run P wx = .ok (.value v) wx) ∨
  (Region.wanted o (yielded ops a.tmps) = false ∧ v = undef)
theorem YieldsK.wpOp {B : List Nat} {fl : Bool} {i : Nat} {o : Oper} {v : Value} {a : Act} {w : World} (hi : ops[i]? = some o) (hy : YieldsK P ops B fl w o v a) {K : Act → World → Prop} (h : K (a.put o.dst v) w) : wpOpR r P ops Q i K a w := by
  unfold wpOpR
  simp only [hi]
  rcases hy with ⟨hw, hv⟩ | ⟨hw, rfl⟩
  · simp only [hw, if_true, wpR, hv w (.inr (.inl (Keeps.refl w))), Oper.uponIn]; exact h
  · simp only [hw, Bool.false_eq_true, if_false]; exact h
theorem YieldsK.of_same {B : List Nat} {fl : Bool} {o : Oper} {v : Value} {a a' : Act} {w : World} (hy : YieldsK P ops B fl w o v a) (he : execOp a'.eval o = execOp a.eval o)
    (hw : Region.wanted o (yielded ops a'.tmps) = Region.wanted o (yielded ops a.tmps)) : YieldsK P ops B fl w o v a' := by
  unfold YieldsK at *
  rw [he, hw]
  exact hy
theorem YieldsK.keeps {B : List Nat} {fl : Bool} {o : Oper} {v : Value} {a : Act} {w w' : World} (hy : YieldsK P ops B fl w o v a) (hk : indep o.op = true ∨ Keeps w w' ∨ (fl = true ∧ KeepL B w w')) : YieldsK P ops B fl w' o v a :=
  hy.imp (fun ⟨h1, h2⟩ => ⟨h1, fun wx hwx => h2 wx (by
    rcases hk with hk | hk | ⟨hf, hk⟩
    · exact .inl hk
    · rcases hwx with hx | hx | ⟨hf, hx⟩
      · exact .inl hx
      · exact .inr (.inl (hk.trans hx))
      · exact .inr (.inr ⟨hf, hk.keepL.trans hx⟩)
    · rcases hwx with hx | hx | ⟨_, hx⟩
      · exact .inl hx
      · exact .inr (.inr ⟨hf, hk.trans hx.keepL⟩)
      · exact .inr (.inr ⟨hf, hk.trans hx⟩))⟩) id

theorem wpOp_putK {B : List Nat} {fl : Bool} {j : Nat} {oi oj : Oper} {v : Value} (hj : ops[j]? = some oj) (hap : oi.apart ops oj = true)
    (hsi : ∀ cs b, oi.op ≠ .select cs b) (hsj : ∀ cs b, oj.op ≠ .select cs b)
    (hQ : ∀ c a w, Q (.panic c) (a.put oi.dst v) w → Q (.panic c) a w) {K : Act → World → Prop} {a : Act} {w0 w : World}
    (hy : YieldsK P ops B fl w0 oi v a) (h : wpOpR r P ops Q j K (a.put oi.dst v) w) :
    wpOpR r P ops Q j (fun a' w' => YieldsK P ops B fl w0 oi v a' ∧ K (a'.put oi.dst v) w') a w := by
  obtain ⟨h1, h2, h3⟩ := Oper.apart_spec hap
  have keep : ∀ (a : Act), YieldsK P ops B fl w0 oi v a → ∀ u, YieldsK P ops B fl w0 oi v (a.put oj.dst u) := fun a hy u =>
    hy.of_same (execOp_put oi hsi a oj.dst u h3) (wanted_put oi a oj.dst u h3)
  have keepD : ∀ d, YieldsK P ops B fl w0 oi v { a with defers := d :: a.defers } := fun d => hy.of_same rfl rfl
  unfold wpOpR at *
  simp only [hj] at *
  rw [wanted_put oj a oi.dst v h1] at h
  split
  · rename_i hw
    simp only [hw, if_true] at h
    unfold wpR at *
    rw [execOp_put oj hsj a oi.dst v h1] at h
    generalize (execOp a.eval oj).run P w = r at *
    cases r with
    | ok n w' =>
      cases n <;> simp only [Oper.uponIn] at h ⊢
      case value u => exact ⟨keep a hy u, by rw [← Act.put_comm a v u h2]; exact h⟩
      case skip => exact ⟨keep a hy _, by rw [← Act.put_comm a v undef h2]; exact h⟩
      case defer d =>
        refine ⟨keep _ (keepD d) _, ?_⟩
        rw [← Act.put_comm _ v undef h2, ← Act.put_defers]
        exact h
      case enter f args =>
        refine ⟨h.1, CallsIn.mono h.2 fun e w'' he => ?_⟩
        cases e with
        | returned u => exact ⟨keep a hy u, by rw [← Act.put_comm a v u h2]; exact he⟩
        | panicked c => exact hQ _ _ _ he
        | outgrown => exact he
      case row row args => exact ⟨h.1, RowsIn.mono h.2 fun u w'' he => ⟨keep a hy u, by rw [← Act.put_comm a v u h2]; exact he⟩⟩
      case round l f tmps assign body =>
        refine ⟨h.1, RoundIn.mono h.2 fun e w'' he => ?_⟩
        cases e with
        | returned u => exact ⟨keep a hy u, by rw [← Act.put_comm a v u h2]; exact he⟩
        | panicked c => exact hQ _ _ _ he
        | outgrown => exact he
    | halt x w' =>
      cases x <;> simp only [Oper.uponIn] at h ⊢
      case panic u => exact hQ _ _ _ h
  · rename_i hw
    simp only [hw] at h
    exact ⟨keep a hy _, by rw [← Act.put_comm a v undef h2]; exact h⟩

theorem wpK_first {ns B : List Nat} {fl : Bool} {i : Nat} {oi : Oper} {v : Value} (hi : ops[i]? = some oi) (hsel : ∀ (j : Nat) (o : Oper) cs b, ops[j]? = some o → o.op ≠ .select cs b)
    (hQ : ∀ c a w, Q (.panic c) (a.put oi.dst v) w → Q (.panic c) a w) :
    ∀ (fuel : Nat) (listed : Array Bool) (a : Act) (w : World), Closed md ops listed →
      (∀ j oj, ops[j]? = some oj → j ≠ i → listed.getD j true = false → reachOf md ops i j = false → oi.apart ops oj = true ∧ (indep oi.op = true ∨ j ∉ ns ∨ fl = true)) →
      i ∈ Region.ready md ops listed → YieldsK P ops B fl w oi v a →
      wpK r P md ops Q ns B fuel (listed.setIfInBounds i true) (a.put oi.dst v) w → wpK r P md ops Q ns B (fuel + 1) listed a w := by
  intro fuel
  induction fuel with
  | zero =>
    intro listed a w hcl _ hr hy H
    refine ⟨fun h => (by rw [h] at hr; cases hr), fun j hj => ?_⟩
    by_cases hji : j = i
    · subst hji; exact hy.wpOp hi ⟨fun _ => Keeps.refl w, KeepL.refl B w, H⟩
    · have := ready_mono hj hji
      rw [H.1] at this
      cases this
  | succ fuel ih =>
    intro listed a w hcl hfree hr hy H
    refine ⟨fun h => (by rw [h] at hr; cases hr), fun j hj => ?_⟩
    by_cases hji : j = i
    · subst hji; exact hy.wpOp hi ⟨fun _ => Keeps.refl w, KeepL.refl B w, H⟩
    · have h1 := H.2 j (ready_mono hj hji)
      obtain ⟨hjun, oj, hoj, hall⟩ := mem_ready.1 hj
      have hi0 : listed.getD i false = false := by
        have h0 := (mem_ready.1 hr).1
        have hlt := ready_lt hr
        simp [hlt] at h0 ⊢; exact h0
      have hnr : reachOf md ops i j = false := by
        cases hre : reachOf md ops i j
        · rfl
        · have := reach_ready hcl hji hj hre
          rw [hi0] at this; cases this
      obtain ⟨hap, hns⟩ := hfree j oj hoj hji hjun hnr
      have h2 := wpOp_putK hoj hap (fun cs b => hsel i oi cs b hi) (fun cs b => hsel j oj cs b hoj) hQ hy h1
      have hfree' : ∀ k ok, ops[k]? = some ok → k ≠ i → (listed.setIfInBounds j true).getD k true = false → reachOf md ops i k = false →
          oi.apart ops ok = true ∧ (indep oi.op = true ∨ k ∉ ns ∨ fl = true) := fun k ok hk hki hun hno => by
        refine hfree k ok hk hki ?_ hno
        by_cases hjk : j = k
        · subst hjk; exact hjun
        · rw [getD_set_ne true hjk] at hun; exact hun
      refine wpOpR_mono (fun a' w' h3 => ?_) h2
      have hk : indep oi.op = true ∨ Keeps w w' ∨ (fl = true ∧ KeepL B w w') := hns.imp id fun h => h.imp h3.2.1 fun h => ⟨h, h3.2.2.1⟩
      refine ⟨h3.2.1, h3.2.2.1, ih (listed.setIfInBounds j true) a' w' (hcl.set hj) hfree' (ready_mono hr (Ne.symm hji)) (h3.1.keeps hk) ?_⟩
      rw [Array.setIfInBounds_comm _ _ hji]
      exact h3.2.2.2
end
end Go.Vc

namespace Go.Vc
open Go.RowKit
set_option linter.unusedVariables false
set_option linter.unusedSimpArgs false

/-- what a piece of code may have done to a frame -/
structure Fr (ds : List Nat) (a a' : Act) : Prop where
  size : a'.tmps.size = a.tmps.size
  defers : a'.defers = a.defers
  tmps : ∀ t, t ∉ ds → a'.tmps.getD t undef = a.tmps.getD t undef
theorem Fr.refl (ds : List Nat) (a : Act) : Fr ds a a := ⟨rfl, rfl, fun _ _ => rfl⟩
theorem Fr.trans {ds : List Nat} {a b c : Act} (h : Fr ds a b) (k : Fr ds b c) : Fr ds a c :=
  ⟨k.size.trans h.size, k.defers.trans h.defers, fun t ht => (k.tmps t ht).trans (h.tmps t ht)⟩
theorem Fr.mono {ds es : List Nat} {a b : Act} (h : Fr ds a b) (hs : ∀ t, t ∈ ds → t ∈ es) : Fr es a b :=
  ⟨h.size, h.defers, fun t ht => h.tmps t (fun hm => ht (hs t hm))⟩
theorem Fr.put {ds : List Nat} {a : Act} {d : Option Tmp} (v : Value) (hd : ∀ t, d = some t → t ∈ ds ∧ t < a.tmps.size) : Fr ds a (a.put d v) := by
  cases d with
  | none => exact Fr.refl _ _
  | some d =>
    obtain ⟨h1, h2⟩ := hd d rfl
    refine ⟨by simp [Act.put], rfl, fun t ht => ?_⟩
    rw [Act.getD_put t h2, if_neg (by rintro rfl; exact ht h1)]

theorem LFr.put (s : St) (d : Option Nat) (e : Option EV) : LFr s (s.put d e) := by cases d <;> exact LFr.of_eq rfl rfl
theorem LFr.set (s : St) (d : Nat) (e : Option EV) : LFr s (s.set d e) := LFr.of_eq rfl rfl
theorem LFr.del (s : St) (d : List Nat) : LFr s (s.del d) := LFr.of_eq rfl rfl
def dstOk (n : Nat) (ds : List Nat) (o : Oper) : Bool := match o.dst with | some t => Nat.blt t n && ds.any (Nat.beq t) | none => true
theorem dstOk_spec {n : Nat} {ds : List Nat} {o : Oper} {a : Act} (h : dstOk n ds o = true) (hn : a.tmps.size = n) : ∀ t, o.dst = some t → t ∈ ds ∧ t < a.tmps.size := by
  intro t ht
  simp only [dstOk, ht, Bool.and_eq_true] at h
  obtain ⟨h1, h2⟩ := h
  refine ⟨?_, by rw [hn]; simpa [Nat.blt_eq] using h1⟩
  obtain ⟨x, hx, he⟩ := List.any_eq_true.1 h2
  rw [Nat.eq_of_beq_eq_true he]; exact hx

theorem dstOk_mem {n : Nat} {ds : List Nat} {o : Oper} (h : dstOk n ds o = true) : ∀ t, o.dst = some t → t ∈ ds := by
  intro t ht
  simp only [dstOk, ht, Bool.and_eq_true] at h
  obtain ⟨x, hx, he⟩ := List.any_eq_true.1 h.2
  rw [Nat.eq_of_beq_eq_true he]; exact hx

section
variable {r : Option Nat} {P : Program} {ops : Array Oper} {Q : Exit → Act → World → Prop} {X : List PanicEntry → World → Prop}

theorem gval_spec {s : St} {a : Act} {w wa : World} {j : Nat} {want b : Bool} (hg : Good s a w wa) (h : gval ops s j want = some b) : (yielded ops a.tmps j == some want) = b := by
  unfold gval at h
  split at h <;> try cases h
  rename_i o ho
  split at h <;> try cases h
  rename_i t ht
  split at h <;> try cases h
  · rename_i c hr
    have := hg.ag.v _ _ hr
    have ht' : a.tmps[t]? = some (.bool c) := by
      rw [Array.getD_eq_getD_getElem?] at this
      cases hx : a.tmps[t]? with
      | none => rw [hx] at this; simp [undef] at this
      | some y => rw [hx] at this; simpa using this
    simp only [yielded, ho, ht, ht', Option.bind_some]
    split at h <;> cases h <;> rfl
  · rename_i vs hr
    have := hg.ag.v _ _ hr
    rw [Array.getD_eq_getD_getElem?] at this
    simp only [yielded, ho, ht, Option.bind_some]
    cases hx : a.tmps[t]? with
    | none => rfl
    | some y => rw [hx] at this; simp at this; subst this; rfl

theorem vcG_cases {loc pn fl : Bool} {o : Oper} {s : St} {a : Act} {w wa : World} {K : Option EV → St → World → Prop} (hg : Good s a w wa) (h : vcG P X ops loc pn fl o s w K) :
    (Region.wanted o (yielded ops a.tmps) = true ∧ vcOp P X loc pn fl o s w K) ∨ (Region.wanted o (yielded ops a.tmps) = false ∧ K (some (.v undef)) s w) := by
  unfold vcG at h
  unfold Region.wanted
  split at h
  · rename_i hgd; rw [hgd]; exact .inl ⟨rfl, h⟩
  · rename_i j want hgd
    rw [hgd]
    split at h <;> try exact h.elim
    · rename_i hb; exact .inl ⟨gval_spec hg hb, h⟩
    · rename_i hb; exact .inr ⟨gval_spec hg hb, h⟩

theorem light_heavy {loc : Bool} {o : Oper} {i : Ins} (h : compileLight P o.op = some i) : compileHeavy P loc o.dst o.type o.op = some i := by
  unfold compileHeavy
  split
  case h_6 c hc =>
    rw [hc] at h
    split
    · rename_i f hf; simp [compileLight, hf] at h
    · rename_i hf; simp [compileLight, hf] at h
    · rename_i hf; simp [compileLight, hf] at h
    · rename_i hf; simp [compileLight, hf] at h
    · rw [hc]; exact h
  case h_7 hc => rw [hc] at h; simp [compileLight] at h
  case h_8 hc => rw [hc] at h; simp [compileLight] at h
  case h_9 hc => rw [hc] at h; simp [compileLight] at h
  case h_10 hc => rw [hc] at h; simp [compileLight] at h
  case h_11 src dst x hc =>
    split
    · rename_i h1 h2; rw [hc] at h; simp [compileLight, h1, h2] at h
    · rename_i h1 h2; rw [hc] at h; simp [compileLight, h1, h2] at h
    · exact h
  case h_12 hc => rw [hc] at h; simp [compileLight] at h
  case h_13 => exact h
  all_goals
    rename_i hc
    rw [hc] at h
    simp [compileLight] at h

def kpOf (P : Program) (loc fl : Bool) (o : Oper) : Bool := match compileHeavy P loc o.dst o.type o.op with | some i => i.kp fl | none => true

/-- one operation carried out -/
theorem step_sound {i : Nat} {o : Oper} {loc pn fl : Bool} {s : St} {a : Act} {w wa : World} {K : Option EV → St → World → Prop} (hi : ops[i]? = some o) (hg : Good s a w wa)
    (hX : ∀ ch w, KpAt s.kp w → X ch w → Q (.panic ch) a w) (h : vcG P X ops loc pn fl o s w K) :
    wpOpR r P ops Q i (fun a' wa' => (kpOf P loc fl o = true → Keeps wa wa') ∧ ∃ v e s' w', a' = a.put o.dst v ∧ Good s' a w' wa' ∧ EVOk s' e v ∧ LFr s s' ∧ K e s' w') a wa := by
  unfold wpOpR
  simp only [hi]
  rcases vcG_cases hg h with ⟨hw, h⟩ | ⟨hw, h⟩
  · simp only [hw, if_true]
    unfold vcOp at h
    split at h <;> try exact h.elim
    rename_i ins hc
    have := heavy_sound (r := r) hc hg hX h
    unfold kpOf
    simp only [hc]
    exact this
  · simp only [hw, Bool.false_eq_true, if_false]
    exact ⟨fun _ => Keeps.refl wa, undef, some (.v undef), s, w, rfl, hg, rfl, LFr.refl s, h⟩
/-- a light operation, taken first -/
theorem take_sound {B : List Nat} {o : Oper} {loc pn fl : Bool} {s : St} {a : Act} {w wa : World} {K : Option EV → St → World → Prop} (hg : Good s a w wa) (hl : (compileLight P o.op).isSome = true)
    (h : vcG P X ops loc pn fl o s w K) : ∃ v e s' w', YieldsK P ops B false wa o v a ∧ Good s' a w' wa ∧ EVOk s' e v ∧ LFr s s' ∧ K e s' w' := by
  obtain ⟨ins, hins⟩ := Option.isSome_iff_exists.1 hl
  rcases vcG_cases hg h with ⟨hw, h⟩ | ⟨hw, h⟩
  · unfold vcOp at h
    rw [light_heavy hins] at h
    obtain ⟨v, e, s', w', hr, hg', he, hlf, hk⟩ := light_sound hins hg (vcHeavy_light hins h)
    exact ⟨v, e, s', w', .inl ⟨hw, fun wx hwx => hr wx (hwx.imp id fun h => h.elim id fun h => by cases h.1)⟩, hg', he, hlf, hk⟩
  · exact ⟨undef, some (.v undef), s, w, .inr ⟨hw, rfl⟩, hg, rfl, LFr.refl s, h⟩

/-- a load of a local's cells: it runs alike wherever these read alike -/
theorem loadL {B : List Nat} {o : Oper} {s : St} {a : Act} {w wa : World} {K : Option EV → St → World → Prop} {ins : Ins} {t : TypeId} {x : Operand} {k off : Nat} (ho : o.op = .load t x) (hc : compileLight P o.op = some ins) (hg : Good s a w wa)
    (hl : s.evE x = some (.loc k off)) (hB : ∀ b cs, (k, b, cs) ∈ s.l → b ∈ B) (h : vcLight ins s w K) :
    ∃ v, (∀ wx, KeepL B wa wx → (execOp a.eval o).run P wx = .ok (.value v) wx) ∧ K (some (.v v)) s w := by
  rw [ho] at hc
  simp only [compileLight] at hc
  obtain ⟨b, ls, hm, he⟩ := hg.ag.evE hl
  obtain ⟨hlt, e, hb⟩ := hg.ag.lok.at_ _ _ _ hm
  split at hc <;> try cases hc
  · rename_i z hagg hz
    simp only [vcLight, hl, look_of_mem hg.ag.lok.keys hm] at h
    split at h <;> try exact h.elim
    rename_i v hv
    refine ⟨v, fun wx hwx => ?_, h⟩
    have hwx := hwx b (hB _ _ hm)
    simp only [execOp, ho, he, Instr.loadAt, Instr.sureAddr, Sem.run_bind, Sem.run_pure, Result.andThen_ok, run_loadVar_sc hagg (hwx _ _ (cell_of_block hb hv))]
  · rename_i n cs hagg hsz hz
    split at hc <;> try cases hc
    rename_i hn
    have hn' : n = cs.toList.length := by simpa using Nat.eq_of_beq_eq_true hn
    rcases aggSh_cases cs with hsh | hsh <;> rw [hsh] at h
    rotate_left
    · simp only [vcLight, hl, look_of_mem hg.ag.lok.keys hm] at h
    simp only [vcLight, hl, look_of_mem hg.ag.lok.keys hm] at h
    split at h <;> try exact h.elim
    rename_i hle
    have hle := Nat.le_of_ble_eq_true hle
    refine ⟨_, fun wx hwx => ?_, h⟩
    have hwx := hwx b (hB _ _ hm)
    simp only [execOp, ho, he, Instr.loadAt, Instr.sureAddr, Sem.run_bind, Sem.run_pure, Result.andThen_ok]
    rw [run_loadVar_agg (vs := (ls.drop off).take (cs.toList.map scIn).length) hagg (by rw [hsz, hn']; simp at hle ⊢; omega) (fun j v hj => by
      rw [loc_add]
      refine hwx _ _ (cell_of_block hb ?_)
      rw [List.getElem?_take] at hj
      split at hj
      · rw [List.getElem?_drop] at hj; exact hj
      · cases hj)]
    rfl
theorem takeL_sound {B : List Nat} {o : Oper} {s : St} {a : Act} {w wa : World} {K : Option EV → St → World → Prop} {k : Nat} (hg : Good s a w wa) (hl : locOf s o = some k) (hc : (compileLight P o.op).isSome = true) (hB : ∀ b cs, (k, b, cs) ∈ s.l → b ∈ B)
    (h : vcG P X ops false false false o s w K) : ∃ v e s' w', YieldsK P ops B true wa o v a ∧ Good s' a w' wa ∧ EVOk s' e v ∧ LFr s s' ∧ K e s' w' := by
  obtain ⟨ins, hins⟩ := Option.isSome_iff_exists.1 hc
  unfold locOf at hl
  split at hl <;> try cases hl
  rename_i t x ho
  split at hl <;> cases hl
  rename_i off hev
  rcases vcG_cases hg h with ⟨hw, h⟩ | ⟨hw, h⟩
  · unfold vcOp at h
    rw [light_heavy hins] at h
    obtain ⟨v, hr, hk⟩ := loadL ho hins hg hev hB (vcHeavy_light hins h)
    refine ⟨v, some (.v v), s, w, .inl ⟨hw, fun wx hwx => hr wx ?_⟩, hg, rfl, LFr.refl s, hk⟩
    rcases hwx with h1 | h1 | h1
    · exact (keeps_of_load ho (.inl h1)).keepL
    · exact h1.keepL
    · exact h1.2
  · exact ⟨undef, some (.v undef), s, w, .inr ⟨hw, rfl⟩, hg, rfl, LFr.refl s, h⟩

/-! ### The static look at a plan -/
def freeK (md : Region.Mode) (ops : Array Oper) (ns : List Nat) (fl : Bool) (listed : Array Bool) (i : Nat) : Bool :=
  match ops[i]? with
  | none => false
  | some oi => (List.range ops.size).all fun j => Nat.beq j i || listed.getD j true || reachOf md ops i j || (match ops[j]? with | some oj => oi.apart ops oj | none => true) && (indep oi.op || !ns.any (Nat.beq j) || fl)
theorem freeK_spec {md : Region.Mode} {ns : List Nat} {fl : Bool} {listed : Array Bool} {i : Nat} {oi : Oper} (hi : ops[i]? = some oi) (h : freeK md ops ns fl listed i = true) :
    ∀ j oj, ops[j]? = some oj → j ≠ i → listed.getD j true = false → reachOf md ops i j = false → oi.apart ops oj = true ∧ (indep oi.op = true ∨ j ∉ ns ∨ fl = true) := by
  intro j oj hj hji hun hre
  simp only [freeK, hi, List.all_eq_true, List.mem_range] at h
  have h1 := h j (Array.getElem?_eq_some_iff.1 hj).1
  have hb : Nat.beq j i = false := by
    cases hb : Nat.beq j i
    · rfl
    · exact absurd (Nat.eq_of_beq_eq_true hb) hji
  simp only [hb, hun, hre, hj, Bool.false_or, Bool.and_eq_true, Bool.or_eq_true, Bool.not_eq_true'] at h1
  refine ⟨h1.1, ?_⟩
  rcases h1.2 with (h2 | h2) | h2
  · exact .inl h2
  · refine .inr (.inl fun hm => ?_)
    have := List.any_eq_false.1 h2 j hm
    simp at this
  · exact .inr (.inr h2)
def hasN (l : List Nat) (i : Nat) : Bool := l.any (Nat.beq i)
theorem hasN_spec {l : List Nat} {i : Nat} (h : hasN l i = true) : i ∈ l := by
  obtain ⟨x, hx, he⟩ := List.any_eq_true.1 h
  rw [Nat.eq_of_beq_eq_true he]; exact hx
def isOne (l : List Nat) (i : Nat) : Bool := match l with | [x] => Nat.beq x i | _ => false
theorem isOne_spec {l : List Nat} {i : Nat} (h : isOne l i = true) : l = [i] := by
  unfold isOne at h
  split at h
  · rw [Nat.eq_of_beq_eq_true h]
  · cases h
def heads : Plan → List Nat
  | .op i _ _ _ _ => [i]
  | .alt p q => heads p ++ heads q
  | _ => []
def upd (dr : Bool) (listed : Array Bool) (i : Nat) : Array Bool := match dr with | true => listed.setIfInBounds i true | false => listed
/-- may number i be taken first? -/
def takeOk (dr : Bool) (P : Program) (ops : Array Oper) (ns : List Nat) (N : Nat) (ds : List Nat) (fuel : Nat) (listed : Array Bool) (i : Nat) : Bool :=
  match ops[i]? with
  | some o => dstOk N ds o && (compileLight P o.op).isSome && (match dr with
    | true => hasN (Region.ready .any ops listed) i && freeK .any ops ns false listed i
    | false => Nat.beq (i + fuel) ops.size)
  | none => false
/-- the guarded operations of a 'gand', each taken in turn; then the rest -/
def takesOk (dr : Bool) (P : Program) (ops : Array Oper) (ns : List Nat) (N : Nat) (ds : List Nat) (g : Nat) (want : Bool) : Nat → Nat → Nat → Array Bool → (Nat → Array Bool → Bool) → Bool
  | _, 0, fuel, listed, k => k fuel listed
  | i, n + 1, fuel, listed, k =>
    takeOk dr P ops ns N ds fuel listed i &&
    (match ops[i]? with
     | some o => (match o.guard with | some (j, wt) => (match (ops[j]?).bind (·.dst) with | some t => Nat.beq t g | none => false) && (wt == want) | none => false) &&
        (match o.dst with | some d => !Nat.beq d g | none => true)
     | none => false) &&
    (match fuel with | 0 => false | f + 1 => takesOk dr P ops ns N ds g want (i + 1) n f (upd dr listed i) k)
def constB (x : Operand) (b : Bool) : Bool := match x with | .const (.bool c) => c == b | _ => false
def pickOk (ops : Array Oper) (g : Nat) (want : Bool) (i : Nat) : Bool :=
  match ops[i]? with
  | some o => (match o.guard with | none => true | some _ => false) && (match o.op with
    | .pick (.tmp c) x y => Nat.beq c g && (match want with | true => constB y false | false => constB x true)
    | _ => false)
  | none => false
def okPlan (dr : Bool) (P : Program) (ops : Array Oper) (ns : List Nat) (N : Nat) (ds : List Nat) : Bool → Plan → Nat → Array Bool → Bool
  | sub, .done, fuel, listed => !sub && (match dr with
    | true => (match Region.ready .any ops listed with | [] => true | _ => false)
    | false => Nat.beq fuel 0)
  | sub, .op i loc pn fl p, fuel, listed => match fuel, ops[i]? with
    | fuel + 1, some o => dstOk N ds o && (match dr with
        | true => hasN (Region.ready .any ops listed) i && (hasN ns i || kpOf P loc fl o) &&
          (sub || isOne (Region.ready .any ops listed) i || ((compileLight P o.op).isSome && freeK .any ops ns false listed i))
        | false => !sub && Nat.beq (i + (fuel + 1)) ops.size) &&
        okPlan dr P ops ns N ds false p fuel (upd dr listed i)
    | _, _ => false
  | sub, .split t p, fuel, listed => !sub && okPlan dr P ops ns N ds false p fuel listed
  | sub, .gand g want i n p, fuel, listed => !sub && pickOk ops g want (i + n) &&
      takesOk dr P ops ns N ds g want i n fuel listed fun fuel listed => takeOk dr P ops ns N ds fuel listed (i + n) && (match fuel with | 0 => false | f + 1 => okPlan dr P ops ns N ds false p f (upd dr listed (i + n)))
  | sub, .alt p q, fuel, listed => dr && (sub || ((Region.ready .any ops listed).all (hasN (heads (.alt p q))) && !(Region.ready .any ops listed).isEmpty)) && okPlan dr P ops ns N ds true p fuel listed && okPlan dr P ops ns N ds true q fuel listed
  | sub, .ldl i p, fuel, listed => match fuel, ops[i]? with
    | fuel + 1, some o => !sub && dr && dstOk N ds o && (compileLight P o.op).isSome && hasN (Region.ready .any ops listed) i && freeK .any ops ns true listed i && okPlan dr P ops ns N ds false p fuel (upd dr listed i)
    | _, _ => false

/-! ### Soundness of a plan -/
/-- what is asked of the rest of the region -/
def G (r : Option Nat) (dr : Bool) (P : Program) (ops : Array Oper) (Q : Exit → Act → World → Prop) (ns B : List Nat) (fuel : Nat) (listed : Array Bool) (a : Act) (w : World) : Prop :=
  match dr with
  | true => wpK r P .any ops Q ns B fuel listed a w
  | false => wpOpsR r P ops Q (List.range' (ops.size - fuel) fuel) a w
def Cl (dr : Bool) (ops : Array Oper) (listed : Array Bool) : Prop := match dr with | true => Closed .any ops listed | false => True

theorem G_take {dr : Bool} {ns B : List Nat} {N : Nat} {ds : List Nat} {fuel : Nat} {listed : Array Bool} {i : Nat} {o : Oper} {v : Value} {a : Act} {w : World} (hs : Region.noSelect ops = true)
    (hQ : ∀ c a d v w, (∀ t, d = some t → t ∈ ds) → Q (.panic c) (Act.put a d v) w → Q (.panic c) a w) (hi : ops[i]? = some o) (hok : takeOk dr P ops ns N ds (fuel + 1) listed i = true) (hc : Cl dr ops listed) (hy : YieldsK P ops B false w o v a)
    (h : G r dr P ops Q ns B fuel (upd dr listed i) (a.put o.dst v) w) : G r dr P ops Q ns B (fuel + 1) listed a w ∧ Cl dr ops (upd dr listed i) := by
  simp only [takeOk, hi, Bool.and_eq_true] at hok
  cases dr with
  | true =>
    simp only [Bool.and_eq_true] at hok
    have hr : i ∈ Region.ready .any ops listed := hasN_spec hok.2.1
    exact ⟨wpK_first hi (Region.noSelect_spec hs) (fun c a w => hQ c _ _ _ w (dstOk_mem hok.1.1)) fuel listed a w hc (freeK_spec hi hok.2.2) hr hy h, Closed.set hc hr⟩
  | false =>
    have e := Nat.eq_of_beq_eq_true hok.2
    refine ⟨?_, trivial⟩
    simp only [G]
    rw [List.range'_succ, wpOpsR_cons, show ops.size - (fuel + 1) = i by omega, show i + 1 = ops.size - fuel by omega]
    exact hy.wpOp hi h
theorem Cl_upd {dr : Bool} {ns : List Nat} {N : Nat} {ds : List Nat} {fuel : Nat} {listed : Array Bool} {i : Nat} (hok : takeOk dr P ops ns N ds fuel listed i = true) (hc : Cl dr ops listed) : Cl dr ops (upd dr listed i) := by
  unfold takeOk at hok
  split at hok <;> try cases hok
  cases dr with
  | true =>
    simp only [Bool.and_eq_true] at hok
    exact Closed.set hc (hasN_spec hok.2.1)
  | false => trivial

structure SameOut (D : List Nat) (a b : Act) : Prop where
  size : a.tmps.size = b.tmps.size
  tmps : ∀ t, t ∉ D → a.tmps.getD t undef = b.tmps.getD t undef
theorem SameOut.put {D : List Nat} {a b : Act} (h : SameOut D a b) {d : Option Tmp} {u v : Value} (hd : ∀ t, d = some t → t < a.tmps.size) : SameOut (D ++ d.toList) (a.put d u) (b.put d v) := by
  cases d with
  | none => simpa [Act.put] using h
  | some d =>
    have h1 := hd d rfl
    have h2 : d < b.tmps.size := h.size ▸ h1
    refine ⟨by simp [Act.put, h.size], fun t ht => ?_⟩
    simp at ht
    rw [Act.getD_put t h1, Act.getD_put t h2, if_neg ht.2, if_neg ht.2]
    exact h.tmps t ht.1
theorem Good.out {s : St} {D : List Nat} {a b : Act} {w wa : World} (h : Good s b w wa) (ho : SameOut D a b) : Good (s.del D) a w wa := by
  refine ⟨⟨fun t x hx => ?_, fun t k off hx => ?_, fun t k n hx => ?_, h.ag.lok, h.ag.dok⟩, h.dirty, h.clean⟩
  · obtain ⟨h1, h2⟩ := St.del_some hx
    rw [ho.tmps t h2]; exact h.ag.v _ _ h1
  · obtain ⟨h1, h2⟩ := St.del_some hx
    rw [ho.tmps t h2]; exact h.ag.loc _ _ _ h1
  · obtain ⟨h1, h2⟩ := St.del_some hx
    rw [ho.tmps t h2]; exact h.ag.lsl _ _ _ h1

theorem takes_sound {dr : Bool} {ns B : List Nat} {N : Nat} {ds : List Nat} {g : Nat} {want b : Bool} (hs : Region.noSelect ops = true) (hQ : ∀ c a d v w, (∀ t, d = some t → t ∈ ds) → Q (.panic c) (Act.put a d v) w → Q (.panic c) a w) {wa : World}
    {k : Nat → Array Bool → Bool} {KB : St → World → Prop} {a0 : Act} {s0 : St} {D0 : List Nat}
    (cont : ∀ fuel listed D a at' s w, k fuel listed = true → Cl dr ops listed → Good s at' w wa → SameOut D a at' → (b = want → a = at') → a.tmps[g]? = some (.bool b) → Fr ds a0 a → LFr s0 s → KB s w → (∀ t, t ∈ D → t ∈ D0) →
      G r dr P ops Q ns B fuel listed a wa) :
    ∀ (n i fuel : Nat) (listed : Array Bool) (D : List Nat) (a at' : Act) (s : St) (w : World), takesOk dr P ops ns N ds g want i n fuel listed k = true → Cl dr ops listed → Good s at' w wa → SameOut D a at' →
      (b = want → a = at') → a.tmps[g]? = some (.bool b) → a.tmps.size = N → Fr ds a0 a → LFr s0 s → (∀ t, t ∈ D → t ∈ D0) → (∀ t, t ∈ dstsOf ops i n → t ∈ D0) → vcBlock P ops i n s w KB → G r dr P ops Q ns B fuel listed a wa
  | 0, i, fuel, listed, D, a, at', s, w, hok, hc, hg, ho, hab, hgv, hN, hfr, hlf, hD, _, h => cont _ _ _ _ _ _ _ hok hc hg ho hab hgv hfr hlf h hD
  | n + 1, i, fuel, listed, D, a, at', s, w, hok, hc, hg, ho, hab, hgv, hN, hfr, hlf, hD, hD2, h => by
    simp only [takesOk, Bool.and_eq_true] at hok
    obtain ⟨⟨htk, hgd⟩, hrest⟩ := hok
    simp only [vcBlock] at h
    split at h <;> try exact h.elim
    rename_i o hi
    split at h <;> try exact h.elim
    rename_i ins hins
    simp only [hi] at hgd
    obtain ⟨v, e, s1, w1, hr, hg1, he, hlf1, hk⟩ := light_sound hins hg h
    cases fuel with
    | zero => cases hrest
    | succ fuel =>
      simp only at hrest
      have htk0 := htk
      simp only [takeOk, hi, Bool.and_eq_true] at htk
      have hdst := dstOk_spec htk.1.1 hN
      have hdst' : ∀ t, o.dst = some t → t < at'.tmps.size := fun t ht => ho.size ▸ (hdst t ht).2
      have hwant : Region.wanted o (yielded ops a.tmps) = (b == want) := by
        simp only [Bool.and_eq_true] at hgd
        unfold Region.wanted
        cases hgu : o.guard with
        | none => rw [hgu] at hgd; simp at hgd
        | some jw =>
          obtain ⟨j, wt⟩ := jw
          rw [hgu] at hgd
          simp only [Bool.and_eq_true] at hgd
          have hwt : wt = want := by simpa using hgd.1.2
          have hj := hgd.1.1
          cases hb : (ops[j]?).bind (·.dst) with
          | none => rw [hb] at hj; cases hj
          | some t =>
            rw [hb] at hj
            have ht := Nat.eq_of_beq_eq_true hj
            subst ht
            simp [yielded, hb, hgv, hwt]
      have hne : ∀ t, o.dst = some t → t ≠ g := by
        intro t ht e
        simp only [Bool.and_eq_true, ht] at hgd
        rw [e] at hgd
        simp at hgd
      have hgput : ∀ u, (a.put o.dst u).tmps[g]? = some (.bool b) := by
        intro u
        cases hd : o.dst with
        | none => exact hgv
        | some d => simp only [Act.put]; rw [Array.getElem?_setIfInBounds_ne (hne d hd)]; exact hgv
      have hDt : ∀ t, o.dst = some t → t ∈ dstsOf ops i (n + 1) := by
        intro t ht; simp [dstsOf, hi, ht]
      have hDr : ∀ t, t ∈ dstsOf ops (i + 1) n → t ∈ dstsOf ops i (n + 1) := by
        intro t ht
        simp only [dstsOf, hi]
        cases hd : o.dst <;> simp [hd, ht]
      have hDo : ∀ t, t ∈ D ++ o.dst.toList → t ∈ D0 := by
        intro t ht
        rcases List.mem_append.1 ht with h1 | h1
        · exact hD t h1
        · exact hD2 t (hDt t (by simpa using h1))
      have hgood' : Good (s1.put o.dst e) (at'.put o.dst v) w1 wa := hg1.put (fun t ht => hdst' t ht) he
      by_cases hbw : b = want
      · have haa := hab hbw
        subst haa
        have hy : YieldsK P ops B false wa o v a := .inl ⟨by rw [hwant]; simp [hbw], fun wx hwx => hr wx (hwx.imp id fun h => h.elim id fun h => by cases h.1)⟩
        refine (G_take hs hQ hi htk0 hc hy ?_).1
        exact takes_sound hs hQ cont n (i + 1) fuel (upd dr listed i) (D ++ o.dst.toList) (a.put o.dst v) (a.put o.dst v) (s1.put o.dst e) w1 hrest (Cl_upd htk0 hc) hgood' ⟨rfl, fun _ _ => rfl⟩ (fun _ => rfl) (hgput v)
          (by have := (Fr.put (ds := ds) v hdst).size; rw [this]; exact hN) (hfr.trans (Fr.put v hdst)) (hlf.trans (hlf1.trans (LFr.put _ _ _))) hDo (fun t ht => hD2 t (hDr t ht)) hk
      · have hy : YieldsK P ops B false wa o undef a := .inr ⟨by rw [hwant]; cases b <;> cases want <;> simp_all, rfl⟩
        refine (G_take hs hQ hi htk0 hc hy ?_).1
        exact takes_sound hs hQ cont n (i + 1) fuel (upd dr listed i) (D ++ o.dst.toList) (a.put o.dst undef) (at'.put o.dst v) (s1.put o.dst e) w1 hrest (Cl_upd htk0 hc) hgood' (ho.put (fun t ht => (hdst t ht).2)) (fun hb => absurd hb hbw) (hgput undef)
          (by have := (Fr.put (ds := ds) undef hdst).size; rw [this]; exact hN) (hfr.trans (Fr.put undef hdst)) (hlf.trans (hlf1.trans (LFr.put _ _ _))) hDo (fun t ht => hD2 t (hDr t ht)) hk
end
end Go.Vc

namespace Go.Vc
open Go.RowKit
set_option linter.unusedVariables false
set_option linter.unusedSimpArgs false
section
variable {r : Option Nat} {P : Program} {ops : Array Oper} {Q : Exit → Act → World → Prop} {X : List PanicEntry → World → Prop}

theorem SameOut.mono {D E : List Nat} {a b : Act} (h : SameOut D a b) (hs : ∀ t, t ∈ D → t ∈ E) : SameOut E a b := ⟨h.size, fun t ht => h.tmps t (fun hm => ht (hs t hm))⟩
theorem eval_constB {x : Operand} {b : Bool} (h : constB x b = true) (a : Act) : a.eval x = .bool b := by
  unfold constB at h
  split at h
  · rename_i c
    have : c = b := by simpa using h
    subst this; rfl
  · cases h
theorem tmp_bool {a : Act} {t : Nat} {b : Bool} (h : a.tmps.getD t undef = .bool b) : a.tmps[t]? = some (.bool b) := by
  rw [Array.getD_eq_getD_getElem?] at h
  cases hx : a.tmps[t]? with
  | none => rw [hx] at h; simp [undef] at h
  | some y => rw [hx] at h; simpa using h

theorem Good.set_same {s : St} {a : Act} {w wa : World} {t : Nat} {x : Value} (h : Good s a w wa) (hx : a.tmps.getD t undef = x) : Good (s.set t (some (.v x))) a w wa := by
  have key : ∀ u y, (s.set t (some (.v x))).ρ u = some y → (u = t ∧ y = .v x) ∨ s.ρ u = some y := by
    intro u y hu
    simp only [St.set, beqN] at hu
    by_cases hut : u = t
    · simp only [hut, decide_true, cond_true] at hu; cases hu; exact .inl ⟨hut, rfl⟩
    · simp only [hut, decide_false, cond_false] at hu; exact .inr hu
  refine ⟨⟨fun u y hu => ?_, fun u k off hu => ?_, fun u k n hu => ?_, h.ag.lok, h.ag.dok⟩, h.dirty, h.clean⟩
  · rcases key _ _ hu with ⟨h1, h2⟩ | h1
    · cases h2; rw [h1]; exact hx
    · exact h.ag.v _ _ h1
  · rcases key _ _ hu with ⟨h1, h2⟩ | h1
    · cases h2
    · exact h.ag.loc _ _ _ h1
  · rcases key _ _ hu with ⟨h1, h2⟩ | h1
    · cases h2
    · exact h.ag.lsl _ _ _ h1

theorem cell_block {w : World} {b off : Nat} {cs : List Value} {e : TypeId} {fr : Nat × Nat} (h : w.heap[b]? = some (.cells cs.toArray e fr)) : w.cell? ⟨b, off, none⟩ = cs[off]? := by
  simp [World.cell?, h]
/-- a step keeps the cells of the locals of 'ro' -/
theorem keepL_of {B : List Nat} {s0 s s' : St} {a a' : Act} {w wa w' wa' : World} (hB' : ∀ b, b ∈ B → ∃ k cs, k ∈ s0.ro ∧ (k, b, cs) ∈ s0.l) (h0 : LFr s0 s) (hg : Good s a w wa) (h1 : LFr s s') (hg' : Good s' a' w' wa') : KeepL B wa wa' := by
  intro b hb off v hv
  obtain ⟨k, cs0, hk, hm0⟩ := hB' b hb
  obtain ⟨cs1, hm1, _⟩ := h0.2 k b cs0 hm0
  obtain ⟨cs2, hm2, he⟩ := h1.2 k b cs1 hm1
  have he := he (by rw [h0.1.1]; exact hk)
  subst he
  obtain ⟨_, e1, hb1⟩ := hg.ag.lok.at_ _ _ _ hm1
  obtain ⟨_, e2, hb2⟩ := hg'.ag.lok.at_ _ _ _ hm2
  rw [cell_block hb1] at hv
  rw [cell_block hb2]; exact hv

theorem plan_sound {dr : Bool} {ns B rl : List Nat} {N : Nat} {ds : List Nat} (hs : Region.noSelect ops = true) (hQ : ∀ c a d v w, (∀ t, d = some t → t ∈ ds) → Q (.panic c) (Act.put a d v) w → Q (.panic c) a w)
    {a0 : Act} {s0 : St} {K : St → World → Prop} (hX : ∀ ch w a, Fr ds a0 a → KpAt s0.kp w → X ch w → Q (.panic ch) a w) (hfin : ∀ s a w wa, Fr ds a0 a → Good s a w wa → LFr s0 s → K s w → Q .normal a wa)
    (hB : ∀ k, k ∈ rl → ∃ b cs, (k, b, cs) ∈ s0.l ∧ b ∈ B) (hB' : ∀ b, b ∈ B → ∃ k cs, k ∈ s0.ro ∧ (k, b, cs) ∈ s0.l) :
    ∀ (p : Plan) (fuel : Nat) (listed : Array Bool) (a : Act) (s : St) (w wa : World), Cl dr ops listed → Good s a w wa → Fr ds a0 a → LFr s0 s → a.tmps.size = N → vcPlan P X ops rl p s w K →
      (okPlan dr P ops ns N ds false p fuel listed = true → G r dr P ops Q ns B fuel listed a wa) ∧
      (okPlan dr P ops ns N ds true p fuel listed = true → dr = true → ∀ i ∈ heads p, i ∈ Region.ready .any ops listed → 0 < fuel ∧
        wpOpR r P ops Q i (fun a' w' => (i ∉ ns → Keeps wa w') ∧ KeepL B wa w' ∧ wpK r P .any ops Q ns B (fuel - 1) (listed.setIfInBounds i true) a' w') a wa)
  | .done, fuel, listed, a, s, w, wa, hc, hg, hfr, hlf, hN, h => by
    refine ⟨fun hok => ?_, fun hok => by simp [okPlan] at hok⟩
    have hq := hfin s a w wa hfr hg hlf h
    simp only [okPlan, Bool.not_false, Bool.true_and] at hok
    cases dr with
    | true =>
      simp only at hok
      have hr : Region.ready .any ops listed = [] := by
        split at hok
        · assumption
        · cases hok
      cases fuel with
      | zero => exact ⟨hr, hq⟩
      | succ f => exact ⟨fun _ => hq, by rw [hr]; simp⟩
    | false =>
      have := Nat.eq_of_beq_eq_true hok
      subst this
      simpa [G, wpOpsR] using hq
  | .op i loc pn fl p, fuel, listed, a, s, w, wa, hc, hg, hfr, hlf, hN, h => by
    simp only [vcPlan] at h
    split at h <;> try exact h.elim
    rename_i o hi
    have run : ∀ sub f, fuel = f + 1 → okPlan dr P ops ns N ds sub (.op i loc pn fl p) fuel listed = true → Cl dr ops (upd dr listed i) →
        (dr = true → (kpOf P loc fl o = true ∨ i ∈ ns)) →
        wpOpR r P ops Q i (fun a' w' => (dr = true → i ∉ ns → Keeps wa w') ∧ KeepL B wa w' ∧ G r dr P ops Q ns B f (upd dr listed i) a' w') a wa := by
      intro sub f hf hok hc' hkp
      subst hf
      simp only [okPlan, hi, Bool.and_eq_true] at hok
      have hdst := dstOk_spec hok.1.1 hN
      refine wpOpR_mono (fun a' w' h2 => ?_) (step_sound (Q := Q) hi hg (fun ch w hd hx => hX ch w a hfr (hlf.1.2 ▸ hd) hx) h)
      obtain ⟨hk, v, e, s', w'', rfl, hg', he, hl', hK⟩ := h2
      refine ⟨fun hd hns => ?_, ?_⟩
      · rcases hkp hd with h3 | h3
        · exact hk h3
        · exact absurd h3 hns
      · have hput := Fr.put (ds := ds) (a := a) v hdst
        refine ⟨keepL_of hB' hlf hg hl' hg', ?_⟩
        exact (plan_sound hs hQ hX hfin hB hB' p f (upd dr listed i) _ _ _ _ hc' (hg'.put (fun t ht => (hdst t ht).2) he) (hfr.trans hput) (hlf.trans (hl'.trans (LFr.put _ _ _))) (by rw [hput.size]; exact hN) hK).1 hok.2
    constructor
    · intro hok
      cases fuel with
      | zero => simp [okPlan] at hok
      | succ f =>
        have hok0 := hok
        simp only [okPlan, hi, Bool.and_eq_true] at hok
        have hdst := dstOk_spec hok.1.1 hN
        cases dr with
        | false =>
          simp only [Bool.and_eq_true] at hok
          have e := Nat.eq_of_beq_eq_true hok.1.2.2
          have := run false f rfl hok0 trivial (fun hd => by cases hd)
          simp only [G] at this ⊢
          rw [List.range'_succ, wpOpsR_cons, show ops.size - (f + 1) = i by omega, show i + 1 = ops.size - f by omega]
          exact wpOpR_mono (fun a' w' h2 => h2.2.2) this
        | true =>
          simp only [Bool.and_eq_true, Bool.or_eq_true] at hok
          have hr : i ∈ Region.ready .any ops listed := hasN_spec hok.1.2.1.1
          have hc' : Cl true ops (upd true listed i) := Closed.set hc hr
          rcases hok.1.2.2 with (h1 | h1) | h1
          · cases h1
          · have h1 := isOne_spec h1
            have := run false f rfl hok0 hc' (fun _ => hok.1.2.1.2.elim (fun h2 => .inr (hasN_spec h2)) .inl)
            refine ⟨fun h0 => (by rw [h1] at h0; cases h0), fun j hj => ?_⟩
            rw [h1] at hj
            obtain rfl : j = i := by simpa using hj
            exact wpOpR_mono (fun a' w' h2 => ⟨fun hns => h2.1 rfl hns, h2.2⟩) this
          · obtain ⟨v, e, s', w', hy, hg', he, hl', hK⟩ := take_sound hg h1.1 h
            have htk : takeOk true P ops ns N ds (f + 1) listed i = true := by
              simp only [takeOk, hi, Bool.and_eq_true]
              exact ⟨⟨hok.1.1, h1.1⟩, hok.1.2.1.1, h1.2⟩
            refine (G_take hs hQ hi htk hc hy ?_).1
            have hput := Fr.put (ds := ds) (a := a) v hdst
            exact (plan_sound hs hQ hX hfin hB hB' p f (upd true listed i) _ _ _ _ hc' (hg'.put (fun t ht => (hdst t ht).2) he) (hfr.trans hput) (hlf.trans (hl'.trans (LFr.put _ _ _))) (by rw [hput.size]; exact hN) hK).1 hok.2
    · intro hok hd j hj hr
      subst hd
      simp only [heads, List.mem_singleton] at hj
      subst hj
      cases fuel with
      | zero => simp [okPlan] at hok
      | succ f =>
        have hok0 := hok
        simp only [okPlan, hi, Bool.and_eq_true, Bool.or_eq_true] at hok
        have hc' : Cl true ops (upd true listed j) := Closed.set hc hr
        refine ⟨by omega, ?_⟩
        have := run true f rfl hok0 hc' (fun _ => hok.1.2.1.2.elim (fun h2 => .inr (hasN_spec h2)) .inl)
        exact wpOpR_mono (fun a' w' h2 => ⟨fun hns => h2.1 rfl hns, h2.2⟩) this
  | .split t p, fuel, listed, a, s, w, wa, hc, hg, hfr, hlf, hN, h => by
    refine ⟨fun hok => ?_, fun hok => by simp [okPlan] at hok⟩
    simp only [okPlan, Bool.not_false, Bool.true_and] at hok
    simp only [vcPlan] at h
    split at h <;> try exact h.elim
    case h_2 => exact (plan_sound hs hQ hX hfin hB hB' p fuel listed a _ w wa hc hg hfr hlf hN h).1 hok
    rename_i b hb
    have hv := hg.ag.v _ _ hb
    rcases brB_elim h with ⟨rfl, h⟩ | ⟨rfl, h⟩
    · exact (plan_sound hs hQ hX hfin hB hB' p fuel listed a _ w wa hc (hg.set_same hv) hfr (hlf.trans (LFr.set _ _ _)) hN h).1 hok
    · exact (plan_sound hs hQ hX hfin hB hB' p fuel listed a _ w wa hc (hg.set_same hv) hfr (hlf.trans (LFr.set _ _ _)) hN h).1 hok
  | .gand g want i n p, fuel, listed, a, s, w, wa, hc, hg, hfr, hlf, hN, h => by
    refine ⟨fun hok => ?_, fun hok => by simp [okPlan] at hok⟩
    simp only [vcPlan] at h
    split at h <;> try exact h.elim
    rename_i o hi
    split at h <;> try exact h.elim
    rename_i c x y hop
    split at h <;> try exact h.elim
    rename_i b hb
    simp only [okPlan, Bool.not_false, Bool.true_and, Bool.and_eq_true] at hok
    obtain ⟨hpk, htk⟩ := hok
    simp only [pickOk, hi, hop, Bool.and_eq_true] at hpk
    obtain ⟨hpg, hpk⟩ := hpk
    have hgn : o.guard = none := by
      cases hgu : o.guard with
      | none => rfl
      | some _ => rw [hgu] at hpg; cases hpg
    have hgv := tmp_bool (hg.ag.v _ _ hb)
    refine takes_sound (dr := dr) (N := N) (g := g) (want := want) (b := b) (D0 := dstsOf ops i n) hs hQ (a0 := a0) (s0 := s0) (KB := _) ?_ n i fuel listed [] a a s w htk hc hg ⟨rfl, fun _ _ => rfl⟩ (fun _ => rfl) hgv hN hfr hlf (fun t ht => by cases ht) (fun t ht => ht) h
    intro fuel listed D a' at' s' w' hk hc' hg' ho' hab hgv' hfr' hlf' hKB hD
    simp only [Bool.and_eq_true] at hk
    obtain ⟨htk2, hrest⟩ := hk
    split at hKB <;> try exact hKB.elim
    rename_i v hv
    cases fuel with
    | zero => cases hrest
    | succ f =>
      simp only at hrest
      have hN' : a'.tmps.size = N := by rw [hfr'.size, ← hfr.size]; exact hN
      have htk3 := htk2
      simp only [takeOk, hi, Bool.and_eq_true] at htk3
      have hdst := dstOk_spec htk3.1.1 hN'
      have hval : a'.eval c = .bool b ∧ (if b then a'.eval x else a'.eval y) = .bool (andV want b v) := by
        cases c with
        | tmp ct =>
          simp only [Bool.and_eq_true] at hpk
          have hct := Nat.eq_of_beq_eq_true hpk.1
          subst hct
          refine ⟨by simp [Act.eval, hgv'], ?_⟩
          cases want with
          | true =>
            cases b with
            | true => rw [hab rfl]; simpa [andV] using hg'.ag.ev hv
            | false => simpa [andV] using eval_constB hpk.2 a'
          | false =>
            cases b with
            | true => simpa [andV] using eval_constB hpk.2 a'
            | false => rw [hab rfl]; simpa [andV] using hg'.ag.ev hv
        | const _ => simp at hpk
        | global _ => simp at hpk
        | func _ => simp at hpk
      have hy : YieldsK P ops B false wa o (.bool (andV want b v)) a' := by
        refine .inl ⟨by simp [Region.wanted, hgn], fun wx _ => ?_⟩
        simp only [execOp, hop, hval.1, asBool, Sem.run_bind, Sem.run_pure, Result.andThen_ok]
        rw [← hval.2]
      refine (G_take hs hQ hi htk2 hc' hy ?_).1
      have hgo : Good (s'.del (dstsOf ops i n)) a' w' wa := hg'.out (ho'.mono hD)
      have hput := Fr.put (ds := ds) (a := a') (.bool (andV want b v)) hdst
      exact (plan_sound hs hQ hX hfin hB hB' p f (upd dr listed (i + n)) _ _ _ _ (Cl_upd htk2 hc') (hgo.put (fun t ht => (hdst t ht).2) (e := some (.v (.bool (andV want b v)))) rfl) (hfr'.trans hput) (hlf'.trans ((LFr.del _ _).trans (LFr.put _ _ _))) (by rw [hput.size]; exact hN') hKB).1 hrest
  | .alt p q, fuel, listed, a, s, w, wa, hc, hg, hfr, hlf, hN, h => by
    have sub : okPlan dr P ops ns N ds true p fuel listed = true → okPlan dr P ops ns N ds true q fuel listed = true → dr = true → ∀ i ∈ heads (.alt p q), i ∈ Region.ready .any ops listed → 0 < fuel ∧
        wpOpR r P ops Q i (fun a' w' => (i ∉ ns → Keeps wa w') ∧ KeepL B wa w' ∧ wpK r P .any ops Q ns B (fuel - 1) (listed.setIfInBounds i true) a' w') a wa := by
      intro h1 h2 hd i hi hr
      simp only [heads, List.mem_append] at hi
      rcases hi with hi | hi
      · exact (plan_sound hs hQ hX hfin hB hB' p fuel listed a s w wa hc hg hfr hlf hN h.1).2 h1 hd i hi hr
      · exact (plan_sound hs hQ hX hfin hB hB' q fuel listed a s w wa hc hg hfr hlf hN h.2).2 h2 hd i hi hr
    constructor
    · intro hok
      simp only [okPlan, Bool.and_eq_true, Bool.false_or] at hok
      obtain ⟨⟨⟨hd, hall, hne0⟩, h1⟩, h2⟩ := hok
      subst hd
      have hne : Region.ready .any ops listed ≠ [] := by
        intro h0
        rw [h0] at hne0; cases hne0
      have hm : ∀ i ∈ Region.ready .any ops listed, i ∈ heads (.alt p q) := fun i hi => hasN_spec (List.all_eq_true.1 hall i hi)
      cases hr : Region.ready .any ops listed with
      | nil => exact absurd hr hne
      | cons j js =>
        obtain ⟨hf, _⟩ := sub h1 h2 rfl j (hm j (by rw [hr]; simp)) (by rw [hr]; simp)
        cases fuel with
        | zero => omega
        | succ f =>
          refine ⟨fun h0 => absurd h0 hne, fun i hi => ?_⟩
          have := (sub h1 h2 rfl i (hm i hi) hi).2
          simpa using this
    · intro hok hd i hi hr
      simp only [okPlan, Bool.and_eq_true] at hok
      exact sub hok.1.2 hok.2 hd i hi hr
  | .ldl i p, fuel, listed, a, s, w, wa, hc, hg, hfr, hlf, hN, h => by
    refine ⟨fun hok => ?_, fun hok => (by
      simp only [okPlan] at hok
      split at hok
      · simp at hok
      · cases hok)⟩
    simp only [vcPlan] at h
    split at h <;> try exact h.elim
    rename_i o hi
    split at h <;> try exact h.elim
    rename_i k hk
    split at h <;> try exact h.elim
    rename_i hrl
    cases fuel with
    | zero => simp [okPlan] at hok
    | succ f =>
      simp only [okPlan, hi, Bool.not_false, Bool.true_and, Bool.and_eq_true] at hok
      obtain ⟨⟨⟨⟨⟨hdr, hd⟩, hcomp⟩, hrd⟩, hfree⟩, hrest⟩ := hok
      subst hdr
      have hdst := dstOk_spec hd hN
      have hBk : ∀ b cs, (k, b, cs) ∈ s.l → b ∈ B := by
        intro b cs hm
        obtain ⟨b0, cs0, hm0, hb0⟩ := hB k (hasN_spec hrl)
        obtain ⟨cs1, hm1, _⟩ := hlf.2 k b0 cs0 hm0
        have e1 := look_of_mem hg.ag.lok.keys hm1
        have e2 := look_of_mem hg.ag.lok.keys hm
        rw [e1] at e2
        cases e2
        exact hb0
      obtain ⟨v, e, s', w', hy, hg', he, hl', hK⟩ := takeL_sound (B := B) hg hk hcomp hBk h
      have hr := hasN_spec hrd
      have hput := Fr.put (ds := ds) (a := a) v hdst
      refine wpK_first hi (Region.noSelect_spec hs) (fun c a w => hQ c _ _ _ w (dstOk_mem hd)) f listed a wa hc (freeK_spec hi hfree) hr hy ?_
      have hc' : Cl true ops (upd true listed i) := Closed.set hc hr
      exact (plan_sound hs hQ hX hfin hB hB' p f (upd true listed i) _ _ _ _ hc' (hg'.put (fun t ht => (hdst t ht).2) he) (hfr.trans hput) (hlf.trans (hl'.trans (LFr.put _ _ _))) (by rw [hput.size]; exact hN) hK).1 hrest
end
end Go.Vc

