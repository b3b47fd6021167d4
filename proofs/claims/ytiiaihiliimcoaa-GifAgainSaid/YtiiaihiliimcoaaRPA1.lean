/- A calculus of conditions over codes, part 1: worlds, states, light instructions and why they are right. -/
import Derived.Orders
import Derived.Below
import Derived.KernelRfl
import Derived.WalkKit
import Derived.Laws.StructEq
import Derived.OrdersIn
import Derived.ControlIn
import Derived.RangeFuncKeeps
import Derived.RangeFuncLeaves
import Derived.MapKept
set_option linter.unusedVariables false
set_option linter.unusedSimpArgs false
namespace Go.Vc
open Go.RowKit
abbrev Ext (w w' : World) : Prop := Below w.heap.size w w'
def Keep (bs : List Nat) (w w' : World) : Prop := ∀ b, b ∈ bs → b < w.heap.size → b < w'.heap.size ∧ w'.heap[b]? = w.heap[b]?
theorem Ext.keep {w w' : World} (h : Ext w w') (bs : List Nat) : Keep bs w w' :=
 fun b _ hlt => ⟨Nat.lt_of_lt_of_le hlt h.size, h.block b hlt⟩
theorem Ext.refl (w : World) : Ext w w := Below.refl _ w
theorem Ext.trans {a b c : World} (h : Ext a b) (k : Ext b c) : Ext a c := Below.trans h (Below.mono k h.size)
theorem Ext.drew {a b : World} (h : Ext a b) : Ext a b.drew := Below.drew h
theorem Ext.alloc {a b : World} (h : Ext a b) (o : Obj) : Ext a (b.alloc o) := Below.alloc h h.size o
theorem Ext.cell {w w' : World} (h : Ext w w') {a : Addr} {v : Value} (hc : w.cell? a = some v) : w'.cell? a = some v := by
 have hb := World.block_lt_of_cell? w a hc
 rw [Below.cell h hb]; exact hc
def New (w : World) (o : Obj) (b : Nat) (w' : World) : Prop := b = w.heap.size ∧ w' = w.alloc o
inductive Sc where | int (k : IntKind) | bool | str | ptr | slice | map | fn | any
def Sc.ex : Sc → (Value → Prop) → Prop
 | .int k, K => ∃ n : Int, K (.int k n)
 | .bool, K => ∃ b : Bool, K (.bool b)
 | .str, K => ∃ s : ByteArray, K (.string s)
 | .ptr, K => ∃ p : Option Addr, K (.pointer p)
 | .slice, K => ∃ (a : Option Addr) (l c : Nat), K (.slice a l c)
 | .map, K => ∃ r : Option Nat, K (.map r)
 | .fn, K => ∃ (f : FuncId) (a c : Array Value), K (.func (.func f) a c)
 | .any, K => ∃ v : Value, K v
def Sc.all : Sc → (Value → Prop) → Prop
 | .int k, K => ∀ n : Int, K (.int k n)
 | .bool, K => ∀ b : Bool, K (.bool b)
 | .str, K => ∀ s : ByteArray, K (.string s)
 | .ptr, K => ∀ p : Option Addr, K (.pointer p)
 | .slice, K => ∀ (a : Option Addr) (l c : Nat), K (.slice a l c)
 | .map, K => ∀ r : Option Nat, K (.map r)
 | .fn, K => ∀ (f : FuncId) (a c : Array Value), K (.func (.func f) a c)
 | .any, K => ∀ v : Value, K v
def exL : List Sc → (List Value → Prop) → Prop
 | [], K => K []
 | s :: l, K => s.ex fun v => exL l fun vs => K (v :: vs)
inductive Sh where | sc (s : Sc) | agg (l : List Sc) | row (n : Nat)
def Sh.ex : Sh → (Value → Prop) → Prop
 | .sc s, K => s.ex K
 | .agg l, K => exL l fun vs => K (.agg vs.toArray)
 | .row n, K => ∃ vs : List Value, vs.length = n ∧ K (.agg vs.toArray)
def exT : List Sh → (List Value → Prop) → Prop
 | [], K => K []
 | s :: l, K => s.ex fun v => exT l fun vs => K (v :: vs)
def exR : List Sh → (Value → Prop) → Prop
 | [s], K => s.ex K
 | l, K => exT l fun vs => K (.tuple vs.toArray)
theorem Sc.ex_some {s : Sc} {K : Value → Prop} (h : s.ex K) : ∃ v, K v := by
 cases s <;> simp only [Sc.ex] at h
 ·obtain ⟨n, h⟩ := h; exact ⟨_, h⟩
 ·obtain ⟨n, h⟩ := h; exact ⟨_, h⟩
 ·obtain ⟨n, h⟩ := h; exact ⟨_, h⟩
 ·obtain ⟨n, h⟩ := h; exact ⟨_, h⟩
 ·obtain ⟨a, l, c, h⟩ := h; exact ⟨_, h⟩
 ·obtain ⟨n, h⟩ := h; exact ⟨_, h⟩
 ·obtain ⟨a, l, c, h⟩ := h; exact ⟨_, h⟩
 ·obtain ⟨n, h⟩ := h; exact ⟨_, h⟩
theorem exL_some : ∀ {l : List Sc} {K : List Value → Prop}, exL l K → ∃ vs, vs.length = l.length ∧ K vs
 | [], _, h => ⟨[], rfl, h⟩
 | s :: l, K, h => by
  obtain ⟨v, hv⟩ := Sc.ex_some h
  obtain ⟨vs, hl, hk⟩ := exL_some hv
  exact ⟨v :: vs, by simp [hl], hk⟩
theorem Sh.ex_some {s : Sh} {K : Value → Prop} (h : s.ex K) : ∃ v, K v := by
 cases s with
 | sc s => exact Sc.ex_some h
 | agg l => obtain ⟨vs, _, h⟩ := exL_some h; exact ⟨_, h⟩
 | row n => obtain ⟨vs, _, h⟩ := h; exact ⟨_, h⟩
theorem exT_some : ∀ {l : List Sh} {K : List Value → Prop}, exT l K → ∃ vs, K vs
 | [], _, h => ⟨[], h⟩
 | s :: l, K, h => by
  obtain ⟨v, hv⟩ := Sh.ex_some h
  obtain ⟨vs, hk⟩ := exT_some hv
  exact ⟨v :: vs, hk⟩
theorem exR_some {l : List Sh} {K : Value → Prop} (h : exR l K) : ∃ v, K v := by
 unfold exR at h
 split at h
 ·exact Sh.ex_some h
 ·obtain ⟨vs, h⟩ := exT_some h; exact ⟨_, h⟩
inductive EV where
 | v (x : Value)
 | loc (s off : Nat)
 | lsl (s n : Nat)
structure St where
 ρ : Nat → Option EV
 l : List (Nat × Nat × List Value)
 dirty : Bool
 ro : List Nat
 kp : List (Nat × Obj)
def St.set (s : St) (d : Nat) (e : Option EV) : St :=
 { ρ := fun t => bif Nat.beq t d then e else s.ρ t, l := s.l, dirty := s.dirty, ro := s.ro, kp := s.kp }
def St.put (s : St) (d : Option Nat) (e : Option EV) : St :=
 match d with
 | some d => s.set d e
 | none => s
def St.del (s : St) (ds : List Nat) : St := { s with ρ := fun t => bif ds.any (Nat.beq t) then none else s.ρ t }
def St.ev (s : St) : Operand → Option Value
 | .tmp t => match s.ρ t with | some (.v x) => some x | _ => none
 | .const v => some v
 | .global g => some (.pointer (some ⟨g, 0, none⟩))
 | .func f => some (.func (.func f) #[] #[])
def St.evs (s : St) : List Operand → Option (List Value)
 | [] => some []
 | x :: xs => match s.ev x, s.evs xs with | some v, some vs => some (v :: vs) | _, _ => none
def look : Nat → List (Nat × Nat × List Value) → Option (Nat × List Value)
 | _, [] => none
 | k, (k', b, cs) :: r => bif Nat.beq k k' then some (b, cs) else look k r
def change (k : Nat) (f : List Value → List Value) : List (Nat × Nat × List Value) → List (Nat × Nat × List Value)
 | [] => []
 | (k', b, cs) :: r => bif Nat.beq k k' then (k', b, f cs) :: r else (k', b, cs) :: change k f r
def blocks (l : List (Nat × Nat × List Value)) : List Nat := l.map (·.2.1)
structure LOk (l : List (Nat × Nat × List Value)) (w : World) : Prop where
 at_ : ∀ k b cs, (k, b, cs) ∈ l → b < w.heap.size ∧ ∃ e, w.heap[b]? = some (.cells cs.toArray e (0, 0))
 keys : (l.map (·.1)).Nodup
 blks : (blocks l).Nodup
def kpObj : Obj → Bool
 | .deferred _ => true
 | .loop _ => true
 | _ => false
def KpK (w w' : World) : Prop := ∀ (k : Nat) (o : Obj), w.heap[k]? = some o → kpObj o = true → w'.heap[k]? = some o
structure KpAt (kp : List (Nat × Obj)) (w : World) : Prop where
 at_ : ∀ D o, (D, o) ∈ kp → w.heap[D]? = some o ∧ kpObj o = true
 nd : (kp.map (·.1)).Nodup
theorem KpK.refl (w : World) : KpK w w := fun _ _ h _ => h
theorem KpK.trans {a b c : World} (h : KpK a b) (k : KpK b c) : KpK a c := fun x o hx ho => k x o (h x o hx ho) ho
theorem KpAt.kpk {kp : List (Nat × Obj)} {w w' : World} (h : KpAt kp w) (k : KpK w w') : KpAt kp w' := ⟨fun D o hm => ⟨k D o (h.at_ D o hm).1 (h.at_ D o hm).2, (h.at_ D o hm).2⟩, h.nd⟩
theorem Ext.kpk {w w' : World} (h : Ext w w') : KpK w w' := fun k o hk _ => by rw [h.block k (Array.getElem?_eq_some_iff.1 hk).1]; exact hk
structure Agree (s : St) (a : Act) (w : World) : Prop where
 v : ∀ t x, s.ρ t = some (.v x) → a.tmps.getD t undef = x
 loc : ∀ t k off, s.ρ t = some (.loc k off) → ∃ b cs, (k, b, cs) ∈ s.l ∧ a.tmps.getD t undef = .pointer (some ⟨b, off, none⟩)
 lsl : ∀ t k n, s.ρ t = some (.lsl k n) → ∃ b cs, (k, b, cs) ∈ s.l ∧ a.tmps.getD t undef = .slice (some ⟨b, 0, none⟩) n n
 lok : LOk s.l w
 dok : KpAt s.kp w
theorem Agree.ev {s : St} {a : Act} {w : World} (h : Agree s a w) {x : Operand} {v : Value} (hx : s.ev x = some v) : a.eval x = v := by
 cases x with
 | tmp t =>
  simp only [St.ev] at hx
  split at hx
  ·rename_i y hy; cases hx; exact h.v _ _ hy
  ·cases hx
 | const c => simpa [St.ev, Act.eval] using hx
 | global g => simpa [St.ev, Act.eval] using hx
 | func f => simpa [St.ev, Act.eval] using hx
theorem Agree.evs {s : St} {a : Act} {w : World} (h : Agree s a w) : ∀ {xs : List Operand} {vs : List Value}, s.evs xs = some vs → xs.map a.eval = vs
 | [], vs, hx => by simpa [St.evs] using hx
 | x :: xs, vs, hx => by
  simp only [St.evs] at hx
  split at hx
  ·rename_i v vs' h1 h2
   cases hx
   simp [h.ev h1, h.evs h2]
  ·cases hx
theorem LOk.keep {l : List (Nat × Nat × List Value)} {w w' : World} (h : LOk l w) (hk : Keep (blocks l) w w') : LOk l w' :=
 ⟨fun k b cs hm => by
  obtain ⟨hlt, e, he⟩ := h.at_ k b cs hm
  obtain ⟨hlt', heq⟩ := hk b (List.mem_map.2 ⟨(k, b, cs), hm, rfl⟩) hlt
  exact ⟨hlt', e, by rw [heq]; exact he⟩, h.keys, h.blks⟩
theorem Agree.keep {s : St} {a : Act} {w w' : World} (h : Agree s a w) (hk : Keep (blocks s.l) w w') (hd : KpK w w') : Agree s a w' :=
 ⟨h.v, h.loc, h.lsl, h.lok.keep hk, h.dok.kpk hd⟩
theorem Agree.ext {s : St} {a : Act} {w w' : World} (h : Agree s a w) (hk : Ext w w') : Agree s a w' := h.keep (hk.keep _) hk.kpk
theorem beqN {a b : Nat} : Nat.beq a b = decide (a = b) := by
 by_cases h : a = b
 ·subst h; simp
 ·simp only [h, decide_false]
  cases hb : Nat.beq a b
  ·rfl
  ·exact absurd (Nat.eq_of_beq_eq_true hb) h
theorem Act.getD_put {a : Act} {d : Nat} {v : Value} (t : Nat) (hd : d < a.tmps.size) :
  (a.put (some d) v).tmps.getD t undef = if t = d then v else a.tmps.getD t undef := by
 simp only [Act.put]
 by_cases h : t = d
 ·subst h; simp [hd]
 ·simp [h, Array.getElem?_setIfInBounds_ne (Ne.symm h)]
def EVOk (s : St) (e : Option EV) (v : Value) : Prop :=
 match e with
 | none => True
 | some (.v x) => v = x
 | some (.loc k off) => ∃ b cs, (k, b, cs) ∈ s.l ∧ v = .pointer (some ⟨b, off, none⟩)
 | some (.lsl k n) => ∃ b cs, (k, b, cs) ∈ s.l ∧ v = .slice (some ⟨b, 0, none⟩) n n
theorem Agree.set {s : St} {a : Act} {w : World} (h : Agree s a w) {d : Nat} {e : Option EV} {v : Value} (hd : d < a.tmps.size) (he : EVOk s e v) :
  Agree (s.set d e) (a.put (some d) v) w := by
 have key : ∀ t x, (s.set d e).ρ t = some x → (t = d ∧ e = some x) ∨ (t ≠ d ∧ s.ρ t = some x) := by
  intro t x hx
  simp only [St.set, beqN] at hx
  by_cases ht : t = d
  ·simp only [ht, decide_true, cond_true] at hx; exact .inl ⟨ht, hx⟩
  ·simp only [ht, decide_false, cond_false] at hx; exact .inr ⟨ht, hx⟩
 refine ⟨fun t x hx => ?_, fun t k off hx => ?_, fun t k n hx => ?_, h.lok, h.dok⟩ <;> rw [Act.getD_put t hd] <;> rcases key _ _ hx with ⟨h1, h2⟩ | ⟨h1, h2⟩
 ·subst h2; rw [if_pos h1]; exact he
 ·rw [if_neg h1]; exact h.v _ _ h2
 ·subst h2; rw [if_pos h1]; exact he
 ·rw [if_neg h1]; exact h.loc _ _ _ h2
 ·subst h2; rw [if_pos h1]; exact he
 ·rw [if_neg h1]; exact h.lsl _ _ _ h2
theorem Agree.put {s : St} {a : Act} {w : World} (h : Agree s a w) {d : Option Nat} {e : Option EV} {v : Value} (hd : ∀ t, d = some t → t < a.tmps.size) (he : EVOk s e v) :
  Agree (s.put d e) (a.put d v) w := by
 cases d with
 | none => exact h
 | some d => exact h.set (hd d rfl) he
theorem St.del_some {s : St} {ds : List Nat} {t : Nat} {x : EV} (h : (s.del ds).ρ t = some x) : s.ρ t = some x ∧ t ∉ ds := by
 simp only [St.del] at h
 cases hb : ds.any (Nat.beq t)
 ·simp only [hb, cond_false] at h
  refine ⟨h, fun hm => ?_⟩
  have := List.any_eq_false.1 hb t hm
  simp at this
 ·simp [hb] at h
theorem look_mem : ∀ {l : List (Nat × Nat × List Value)} {k b cs}, look k l = some (b, cs) → (k, b, cs) ∈ l
 | [], _, _, _, h => by simp [look] at h
 | (k', b', cs') :: r, k, b, cs, h => by
  simp only [look, beqN] at h
  by_cases hk : k = k'
  ·subst hk; simp at h; simp [h]
  ·simp [hk] at h; exact List.mem_cons_of_mem _ (look_mem h)
theorem look_of_mem : ∀ {l : List (Nat × Nat × List Value)} {k b cs}, (l.map (·.1)).Nodup → (k, b, cs) ∈ l → look k l = some (b, cs)
 | [], _, _, _, _, h => by cases h
 | (k', b', cs') :: r, k, b, cs, hn, h => by
  simp only [look, beqN]
  simp only [List.map_cons, List.nodup_cons] at hn
  rcases List.mem_cons.1 h with h1 | h1
  ·cases h1; simp
  ·have : k ≠ k' := fun e => hn.1 (List.mem_map.2 ⟨(k, b, cs), h1, e⟩)
   simp [this]; exact look_of_mem hn.2 h1
structure Locl (bs : List Nat) (w w' : World) : Prop where
 os : w'.os = w.os
 tape : w'.tape = w.tape
 output : w'.output = w.output
 size : w.heap.size ≤ w'.heap.size
 block : ∀ k, k < w.heap.size → k ∉ bs → w'.heap[k]? = w.heap[k]?
 there : ∀ b, b ∈ bs → b < w'.heap.size
theorem Locl.below {bs : List Nat} {w w' : World} (h : Locl bs w w') {B : Nat} (hB : B ≤ w.heap.size) (hb : ∀ b ∈ bs, B ≤ b) : Below B w w' :=
 ⟨h.os, h.tape, h.output, h.size, fun k hk => h.block k (by omega) (fun hm => by have := hb k hm; omega)⟩
def sync (s : St) (w : World) (F : World → Prop) : Prop := bif s.dirty then ∀ w', Locl (blocks s.l) w w' → F w' else F w
def St.clean (s : St) : St := { s with dirty := false }
structure Good (s : St) (a : Act) (w wa : World) : Prop where
 ag : Agree s a wa
 dirty : s.dirty = true → Locl (blocks s.l) w wa
 clean : s.dirty = false → wa = w
theorem Good.sync {s : St} {a : Act} {w wa : World} (h : Good s a w wa) {F : World → Prop} (hF : sync s w F) : F wa := by
 unfold Vc.sync at hF
 cases hd : s.dirty
 ·simp only [hd, cond_false] at hF; rw [h.clean hd]; exact hF
 ·simp only [hd, cond_true] at hF; exact hF wa (h.dirty hd)
def LFr (s s' : St) : Prop := (s'.ro = s.ro ∧ s'.kp = s.kp) ∧ ∀ k b cs, (k, b, cs) ∈ s.l → ∃ cs', (k, b, cs') ∈ s'.l ∧ (k ∈ s.ro → cs' = cs)
theorem LFr.refl (s : St) : LFr s s := ⟨⟨rfl, rfl⟩, fun k b cs h => ⟨cs, h, fun _ => rfl⟩⟩
theorem LFr.trans {s t u : St} (h : LFr s t) (k : LFr t u) : LFr s u :=
 ⟨⟨k.1.1.trans h.1.1, k.1.2.trans h.1.2⟩, fun x b cs hm => by
  obtain ⟨c1, h1, e1⟩ := h.2 x b cs hm
  obtain ⟨c2, h2, e2⟩ := k.2 x b c1 h1
  exact ⟨c2, h2, fun hr => (e2 (h.1.1 ▸ hr)).trans (e1 hr)⟩⟩
theorem LFr.of_eq {s s' : St} (h1 : s'.l = s.l) (h2 : s'.ro = s.ro) (h3 : s'.kp = s.kp := by rfl) : LFr s s' := ⟨⟨h2, h3⟩, fun k b cs h => ⟨cs, h1 ▸ h, fun _ => rfl⟩⟩
theorem Agree.clean {s : St} {a : Act} {w : World} (h : Agree s a w) : Agree s.clean a w := ⟨h.v, h.loc, h.lsl, h.lok, h.dok⟩
theorem Agree.good {s : St} {a : Act} {w : World} (h : Agree s a w) : Good s.clean a w w := ⟨h.clean, fun h => (by cases h), fun _ => rfl⟩
theorem Good.put {s : St} {a : Act} {w wa : World} (h : Good s a w wa) {d : Option Nat} {e : Option EV} {v : Value} (hd : ∀ t, d = some t → t < a.tmps.size) (he : EVOk s e v) :
  Good (s.put d e) (a.put d v) w wa := by
 refine ⟨h.ag.put hd he, fun hx => ?_, fun hx => ?_⟩
 ·cases d <;> exact h.dirty hx
 ·cases d <;> exact h.clean hx
end Go.Vc
namespace Go.Vc
open Go.RowKit
def Keeps (w w' : World) : Prop := ∀ a v, w.cell? a = some v → w'.cell? a = some v
inductive Pur
 | seq (ne : Bool)
 | aeq (ne : Bool) (n : Nat)
 | fnil (ne : Bool)
 | aix (sc : Sc) (n : Nat)
 | six
 | mki (t : TypeId)
 | inil (ne : Bool)
 | tas (t : TypeId) (z : Value) (sh : Sh)
def isIfV : Value → Bool
 | .nilIface => true
 | .iface _ _ => true
 | _ => false
def isNilI : Value → Bool
 | .nilIface => true
 | _ => false
def isFnV : Value → Bool
 | .nilFunc => true
 | .func _ _ _ => true
 | _ => false
def isNilF : Value → Bool
 | .nilFunc => true
 | _ => false
def aeqL : List Value → List Value → Option Bool
 | [], [] => some true
 | .int k a :: xs, .int k' b :: ys => match decide (k = k'), aeqL xs ys with
  | true, some r => some (decide (a = b) && r)
  | _, _ => none
 | _, _ => none
def sixAt (b : ByteArray) (i : Nat) : Int := match b[i]? with | some x => (x.toNat : Int) | none => 0
def purG (p : Pur) (vs : List Value) (F : Value → Prop) : Prop :=
 match p, vs with
 | .seq ne, [.string a, .string b] => match ne with | true => F (.bool (!(decide (a = b)))) | false => F (.bool (decide (a = b)))
 | .aeq ne n, [.agg xs, .agg ys] => match Nat.beq xs.toList.length n, aeqL xs.toList ys.toList with
  | true, some r => (match ne with | true => F (.bool (!r)) | false => F (.bool r))
  | _, _ => False
 | .fnil ne, [v, .nilFunc] => isFnV v = true ∧ (match ne with | true => F (.bool (!isNilF v)) | false => F (.bool (isNilF v)))
 | .aix sc n, [.agg xs, .int _ i] => 0 ≤ i ∧ i < n ∧ sc.ex fun v => xs.toList[i.toNat]? = some v ∧ F v
 | .six, [.string b, .int _ i] => 0 ≤ i ∧ i < b.size ∧ F (.int .u8 (sixAt b i.toNat))
 | .mki t, [v] => F (.iface t v)
 | .inil ne, [v, .nilIface] => isIfV v = true ∧ (match ne with | true => F (.bool (!isNilI v)) | false => F (.bool (isNilI v)))
 | .tas t z sh, [v] => (sh.ex fun x => v = .iface t x ∧ F (.tuple #[x, .bool true])) ∨ (isIfV v = true ∧ (∀ x, v ≠ .iface t x) ∧ F (.tuple #[z, .bool false]))
 | _, _ => False
/-- kinds of keys: integers, texts, structs of integers -/
inductive Kd
 | int (k : IntKind)
 | str
 | agg (ks : List IntKind)
inductive Ins
 | mv (x : Operand)
 | pick (c a b : Operand)
 | arith (op : BinOp) (x y : Operand)
 | bits (op : BinOp) (x y : Operand)
 | cmp (op : BinOp) (x y : Operand)
 | div (op : BinOp) (c : Bool) (x y : Operand)
 | shift (op : BinOp) (c : Bool) (x y : Operand)
 | beq (ne : Bool) (x y : Operand)
 | pnil (ne : Bool) (x : Operand)
 | snil (ne : Bool) (x : Operand)
 | not (x : Operand)
 | neg (x : Operand)
 | conv (k : IntKind) (x : Operand)
 | nilck (x : Operand)
 | faddr (x : Operand) (off : Nat)
 | iaddr (x ix : Operand) (sz : Nat)
 | aaddr (x ix : Operand) (n sz : Nat)
 | ld (x : Operand) (sh : Sh)
 | slc (x : Operand) (lo hi : Option Operand) (sz : Nat)
 | slca (x : Operand) (lo hi : Option Operand) (n sz : Nat)
 | slc3 (x : Operand) (lo : Option Operand) (hi mx : Operand) (sz : Nat)
 | len (x : Operand)
 | lens (x : Operand)
 | mm (mx : Bool) (x y : Operand)
 | extract (x : Operand) (i : Nat)
 | mkfn (fn : Fn) (caps : List Operand)
 | build (zero : List Value) (parts : List (Nat × Nat × Operand))
 | pur (p : Pur) (xs : List Operand)
 | st (x v : Operand) (n : Nat)
 | boxV (elem : TypeId) (zero : List Value) (x : Option Operand)
 | boxL (k : Nat) (elem : TypeId) (zero : List Value) (x : Option Operand)
 | bslV (elem sz n : Nat) (zero : List Value) (parts : List (Nat × Operand))
 | bslL (k : Nat) (elem sz n : Nat) (zero : List Value) (parts : List (Nat × Operand))
 | mksl (elem bytes : Nat) (zero : List Value) (l c : Operand)
 | app (elem sz bytes : Nat) (zero : List Value) (x y : Operand)
 | appz (elem sz bytes : Nat) (zero : List Value) (x y : Operand)
 | cpy (elem sz : Nat) (x y : Operand)
 | call (f : Operand) (args : List Operand) (sh : List Sh)
 | mkmp
 | mget (kd : Kd) (ok : Bool) (zero : Value) (sh : List Sh) (x ix : Operand)
 | mset (kd : Kd) (x ix v : Operand)
 | mark (x : Operand)
 | bstr (x : Operand)
 | clr (zero : List Value) (x : Operand)
 | pan (x : Operand)
def arithZ : BinOp → Int → Int → Int
 | .add, a, b => a + b
 | .sub, a, b => a - b
 | _, a, b => a * b
def cmpZ : BinOp → Int → Int → Bool
 | .eql, a, b => a == b
 | .neq, a, b => a != b
 | .lss, a, b => decide (a < b)
 | .leq, a, b => decide (a ≤ b)
 | .gtr, a, b => decide (a > b)
 | _, a, b => decide (a ≥ b)
def bitsZ (op : BinOp) (k : IntKind) (a b : Int) : Int :=
 let x := BitVec.ofInt k.bits a
 let y := BitVec.ofInt k.bits b
 match op with
 | .and => (x &&& y).toNat
 | .or => (x ||| y).toNat
 | .xor => (x ^^^ y).toNat
 | _ => (x &&& ~~~y).toNat
def divZ (op : BinOp) (k : IntKind) (a b : Int) : Int := match op with | .quo => k.wrap (a.tdiv b) | _ => a.tmod b
def shiftZ (op : BinOp) (k : IntKind) (a b : Int) : Int :=
 match op with | .shl => k.wrap (a * 2 ^ (min b.toNat k.bits)) | _ => a.fdiv (2 ^ (min b.toNat k.bits))
def nn (p : Option Addr) (F : Addr → Prop) : Prop := match p with | some a => F a | none => False
def brB (b : Bool) (A B : Prop) : Prop := match b with | true => A | false => B
def andC (c : Bool) (A B : Prop) : Prop := match c with | true => B | false => A ∧ B
def cellsAt (w : World) (a : Addr) : List Value → Nat → Prop → Prop
 | [], _, K => K
 | v :: vs, i, K => w.cell? (a.add i) = some v ∧ cellsAt w a vs (i + 1) K
def CellsAt (w : World) (a : Addr) (vs : List Value) : Prop := ∀ j v, vs[j]? = some v → w.cell? (a.add j) = some v
def idx (base : Option Addr) (len : Nat) (i : Int) (sz : Nat) (F : Addr → Prop) : Prop :=
 0 ≤ i ∧ i < len ∧ ∃ a, base = some a ∧ F (a.add (i.toNat * sz))
def slcBase (base : Option Addr) (lo cap sz : Nat) : Option Addr := if cap = lo then base else base.map (·.add (lo * sz))
def slcc (base : Option Addr) (cap : Nat) (lo hi : Int) (sz : Nat) (F : Option Addr → Nat → Nat → Prop) : Prop :=
 0 ≤ lo ∧ lo ≤ hi ∧ hi ≤ cap ∧ F (slcBase base lo.toNat cap sz) (hi.toNat - lo.toNat) (cap - lo.toNat)
def asPtr (s : St) (x : Operand) (F : Addr → Prop) : Prop := match s.ev x with | some (.pointer p) => nn p F | _ => False
def int? : Option Value → Option (IntKind × Int)
 | some (.int k n) => some (k, n)
 | _ => none
def bool? : Option Value → Option Bool
 | some (.bool b) => some b
 | _ => none
def St.evE (s : St) : Operand → Option EV
 | .tmp t => s.ρ t
 | x => (s.ev x).map EV.v
def St.evOr (s : St) (d : Value) : Option Operand → Option Value
 | none => some d
 | some o => s.ev o
def fillL (zero : List Value) : List (Nat × List Value) → List Value
 | [] => zero
 | (off, vs) :: r => fillL (zero.take off ++ vs ++ zero.drop (off + vs.length)) r
def fillOk (n : Nat) : List (Nat × List Value) → Bool
 | [] => true
 | (off, vs) :: r => Nat.ble (off + vs.length) n && fillOk n r
def St.places (s : St) : List (Nat × Nat × Operand) → Option (List (Nat × List Value))
 | [] => some []
 | (off, n, x) :: r => match s.ev x, s.places r with
  | some v, some ps => match Nat.beq v.cells.toList.length n with | true => some ((off, v.cells.toList) :: ps) | false => none
  | _, _ => none
def vcLight (i : Ins) (s : St) (w : World) (K : Option EV → St → World → Prop) : Prop :=
 match i with
 | .mv x => match s.evE x with | some e => K (some e) s w | none => False
 | .pick c a b => match s.ev c, s.ev a, s.ev b with
  | some (.bool t), va, vb => brB t (match va with | some v => K (some (.v v)) s w | none => False) (match vb with | some v => K (some (.v v)) s w | none => False)
  | _, _, _ => False
 | .arith op x y => match s.ev x, s.ev y with
  | some (.int k a), some (.int k' b) => match decide (k = k') with | true => K (some (.v (.int k (k.wrap (arithZ op a b))))) s w | false => False
  | _, _ => False
 | .bits op x y => match s.ev x, s.ev y with
  | some (.int k a), some (.int k' b) => match decide (k = k') with | true => K (some (.v (.int k (k.wrap (bitsZ op k a b))))) s w | false => False
  | _, _ => False
 | .cmp op x y => match s.ev x, s.ev y with
  | some (.int k a), some (.int k' b) => match decide (k = k') with | true => K (some (.v (.bool (cmpZ op a b)))) s w | false => False
  | _, _ => False
 | .div op c x y => match s.ev x, s.ev y with
  | some (.int k a), some (.int k' b) => match decide (k = k') with | true => andC c (b ≠ 0) (K (some (.v (.int k (divZ op k a b)))) s w) | false => False
  | _, _ => False
 | .shift op c x y => match s.ev x, s.ev y with
  | some (.int k a), some (.int _ b) => andC c (0 ≤ b) (K (some (.v (.int k (shiftZ op k a b)))) s w)
  | _, _ => False
 | .beq ne x y => match s.ev x, s.ev y with
  | some (.bool a), some (.bool b) => match ne with | true => K (some (.v (.bool (!(a == b))))) s w | false => K (some (.v (.bool (a == b)))) s w
  | _, _ => False
 | .pnil ne x => match s.ev x with
  | some (.pointer p) => match ne with | true => K (some (.v (.bool (!p.isNone)))) s w | false => K (some (.v (.bool p.isNone))) s w
  | _ => False
 | .snil ne x => match s.ev x with
  | some (.slice p _ _) => match ne with | true => K (some (.v (.bool (!p.isNone)))) s w | false => K (some (.v (.bool p.isNone))) s w
  | _ => False
 | .not x => match s.ev x with
  | some (.bool b) => K (some (.v (.bool (!b)))) s w
  | _ => False
 | .neg x => match s.ev x with
  | some (.int k n) => K (some (.v (.int k (k.wrap (0 - n))))) s w
  | _ => False
 | .conv k x => match s.ev x with
  | some (.int _ n) => K (some (.v (.int k (k.wrap n)))) s w
  | _ => False
 | .nilck x => match s.evE x with
  | some (.v (.pointer p)) => nn p fun a => K (some (.v (.pointer (some a)))) s w
  | some (.v (.func fn f c)) => match fn with | .func _ => K (some (.v (.func fn f c))) s w | .yield _ => K (some (.v (.func fn f c))) s w | _ => False
  | some (.loc k off) => K (some (.loc k off)) s w
  | _ => False
 | .faddr x off => match s.evE x with
  | some (.v (.pointer p)) => nn p fun a => K (some (.v (.pointer (some (a.add off))))) s w
  | some (.loc k o) => K (some (.loc k (o + off))) s w
  | _ => False
 | .iaddr x ix sz => match s.ev x, s.ev ix with
  | some (.slice base len _), some (.int _ i) => idx base len i sz fun a => K (some (.v (.pointer (some a)))) s w
  | _, _ => False
 | .aaddr x ix n sz => match s.ev x, s.ev ix with
  | some (.pointer p), some (.int _ i) => nn p fun a => 0 ≤ i ∧ i < n ∧ K (some (.v (.pointer (some (a.add (i.toNat * sz)))))) s w
  | _, _ => False
 | .ld x sh => match s.evE x with
  | some (.v (.pointer p)) => nn p fun a => sync s w fun w => match sh with
   | .sc sc => sc.ex fun v => w.cell? a = some v ∧ K (some (.v v)) s.clean w
   | .agg l => exL l fun vs => cellsAt w a vs 0 (K (some (.v (.agg vs.toArray))) s.clean w)
   | .row n => ∃ vs : List Value, vs.length = n ∧ CellsAt w a vs ∧ K (some (.v (.agg vs.toArray))) s.clean w
  | some (.loc k off) => match look k s.l with
   | some (_, cs) => match sh with
    | .sc _ => match cs[off]? with | some v => K (some (.v v)) s w | none => False
    | .agg l => match Nat.ble (off + l.length) cs.length with | true => K (some (.v (.agg ((cs.drop off).take l.length).toArray))) s w | false => False
    | .row _ => False
   | none => False
  | _ => False
 | .slc x lo hi sz => match s.ev x with
  | some (.slice base len cap) =>
   match s.evOr (.int .i64 0) lo, s.evOr (.int .i64 len) hi with
   | some (.int _ l), some (.int _ h) => slcc base cap l h sz fun b n c => K (some (.v (.slice b n c))) s w
   | _, _ => False
  | _ => False
 | .slca x lo hi n sz => match s.ev x with
  | some (.pointer p) => nn p fun a =>
   match s.evOr (.int .i64 0) lo, s.evOr (.int .i64 n) hi with
   | some (.int _ l), some (.int _ h) => slcc (some a) n l h sz fun b m c => K (some (.v (.slice b m c))) s w
   | _, _ => False
  | _ => False
 | .slc3 x lo hi mx sz => match s.ev x with
  | some (.slice base _ cap) =>
   match s.evOr (.int .i64 0) lo, s.ev hi, s.ev mx with
   | some (.int _ l), some (.int _ h), some (.int _ m) => 0 ≤ m ∧ m ≤ (cap : Int) ∧ slcc base m.toNat l h sz fun b n c => K (some (.v (.slice b n c))) s w
   | _, _, _ => False
  | _ => False
 | .len x => match s.ev x with
  | some (.slice _ n _) => K (some (.v (.int .i64 n))) s w
  | _ => False
 | .lens x => match s.ev x with
  | some (.string b) => K (some (.v (.int .i64 b.size))) s w
  | _ => False
 | .mm mx x y => match s.ev x, s.ev y with
  | some (.int k a), some (.int _ b) => match mx with | true => K (some (.v (.int k (max a b)))) s w | false => K (some (.v (.int k (min a b)))) s w
  | _, _ => False
 | .extract x i => match s.ev x with
  | some (.tuple vs) => match vs.toList[i]? with | some v => K (some (.v v)) s w | none => False
  | _ => False
 | .mkfn fn caps => match s.evs caps with
  | some vs => K (some (.v (.func fn #[] vs.toArray))) s w
  | none => False
 | .build zero parts => match s.places parts with
  | some ps => match fillOk zero.length ps with | true => K (some (.v (.agg (fillL zero ps).toArray))) s w | false => False
  | none => False
 | .pur p xs => match s.evs xs with
  | some vs => purG p vs fun v => K (some (.v v)) s w
  | none => False
 | _ => False
def scOf : Value → Sc
 | .int k _ => .int k
 | .bool _ => .bool
 | .string _ => .str
 | .pointer _ => .ptr
 | .slice _ _ _ => .slice
 | .map _ => .map
 | .nilFunc => .fn
 | _ => .any
def scIn : Value → Sc
 | .nilFunc => .any
 | v => scOf v
def aggSh (cs : Array Value) : Sh := match Nat.ble cs.size 24 with | true => .agg (cs.toList.map scIn) | false => .row cs.size
theorem aggSh_cases (cs : Array Value) : aggSh cs = .agg (cs.toList.map scIn) ∨ aggSh cs = .row cs.size := by
 unfold aggSh; split
 ·exact .inl rfl
 ·exact .inr rfl
def shOf : Value → Sh
 | .agg cs => aggSh cs
 | v => .sc (scOf v)
def shsOf : Value → List Sh
 | .tuple vs => vs.toList.map shOf
 | v => [shOf v]
def aggT (P : Program) (t : TypeId) : Option Bool :=
 match P.underlying t with
 | some (.struct _) | some (.array _ _) => some true
 | some _ => some false
 | none => none
def szT (P : Program) (t : TypeId) : Option Nat := (P.info? t).map (·.size)
def zeroT (P : Program) (t : TypeId) : Option Value := (P.info? t).bind (·.zero)
def cellsT (P : Program) (t : TypeId) : Option (List Value) := (zeroT P t).map (·.cells.toList)
def isNilP : Operand → Bool
 | .const (.pointer none) => true
 | _ => false
def isNilO : Operand → Bool
 | .const .nilIface => true
 | _ => false
def isNilS : Operand → Bool
 | .const (.slice none _ _) => true
 | _ => false
def constInt : Operand → Option Int
 | .const (.int _ n) => some n
 | _ => none
def intFields (P : Program) : List Field → Nat → Bool
 | [], _ => true
 | f :: r, i => Nat.beq f.offset i && f.name != "_" && (match P.underlying f.type with | some (.int _) => true | _ => false) && intFields P r (i + 1)
def compileBin (P : Program) (op : BinOp) (t : TypeId) (x y : Operand) : Option Ins :=
 match op with
 | .add | .sub | .mul => match P.underlying t with | some (.int _) => some (.arith op x y) | _ => none
 | .and | .or | .xor | .andNot => some (.bits op x y)
 | .quo | .rem => some (.div op (match constInt y with | some n => decide (n ≠ 0) | none => false) x y)
 | .shl | .shr => some (.shift op (match constInt y with | some n => decide (0 ≤ n) | none => false) x y)
 | .lss | .leq | .gtr | .geq => match P.underlying t with | some (.int _) => some (.cmp op x y) | _ => none
 | .eql | .neq => match P.underlying t with
  | some (.int _) => some (.cmp op x y)
  | some .bool => some (.beq (decide (op = .neq)) x y)
  | some (.pointer _) => match isNilP y with
   | true => some (.pnil (decide (op = .neq)) x)
   | false => match isNilP x with
    | true => some (.pnil (decide (op = .neq)) y)
    | false => none
  | some (.slice _) => match isNilS y with
   | true => some (.snil (decide (op = .neq)) x)
   | false => match isNilS x with
    | true => some (.snil (decide (op = .neq)) y)
    | false => none
  | some .string => some (.pur (.seq (decide (op = .neq))) [x, y])
  | some (.struct fs) => match intFields P fs.toList 0 && !P.stoodInHeld t && !P.eqGuardType P.depth t with
   | true => some (.pur (.aeq (decide (op = .neq)) fs.toList.length) [x, y])
   | false => none
  | some (.func _ _ _) => some (.pur (.fnil (decide (op = .neq))) [x, y])
  | some (.interface _) => match isNilO y with
   | true => some (.pur (.inil (decide (op = .neq))) [x, y])
   | false => none
  | _ => none
def fieldsAt (P : Program) (fs : Array Field) : List (Nat × Operand) → Option (List (Nat × Nat × Operand))
 | [] => some []
 | (i, x) :: r => match fs[i]?, fieldsAt P fs r with
  | some f, some ps => (szT P f.type).map fun n => (f.offset, n, x) :: ps
  | _, _ => none
def partsAt (sz : Nat) : List (Nat × Operand) → List (Nat × Nat × Operand)
 | [] => []
 | (i, x) :: r => (i * sz, sz, x) :: partsAt sz r
def isIfD : TypeDesc → Bool
 | .interface _ => true
 | _ => false
def compileLight (P : Program) (op : Op) : Option Ins :=
 match op with
 | .move x | .assign x => some (.mv x)
 | .pick c a b => some (.pick c a b)
 | .binOp op t x y _ => compileBin P op t x y
 | .unOp .not _ x => some (.not x)
 | .unOp .neg _ x => some (.neg x)
 | .convert src dst x => match P.underlying src, P.underlying dst with
  | some (.int _), some (.int k) => some (.conv k x)
  | _, _ => none
 | .nilCheck x => some (.nilck x)
 | .fieldAddr s x f => match P.underlying s with
  | some (.struct fs) => match fs[f]? with
   | some fd => match szT P fd.type with
    | some n => match Nat.beq n 0 with | true => none | false => some (.faddr x fd.offset)
    | none => none
   | none => none
  | _ => none
 | .indexAddr t x ix => match P.underlying t with
  | some (.slice e) => (szT P e).map (.iaddr x ix ·)
  | some (.array n e) => match Nat.ble n 1 with | true => none | false => (szT P e).map (.aaddr x ix n ·)
  | _ => none
 | .load t x => match aggT P t, szT P t, zeroT P t with
  | some false, _, some z => some (.ld x (.sc (scOf z)))
  | some true, some n, some (.agg cs) => match Nat.beq n cs.size with | true => some (.ld x (aggSh cs)) | false => none
  | _, _, _ => none
 | .slice t x lo hi none => match P.underlying t with
  | some (.slice e) => (szT P e).map (.slc x lo hi ·)
  | some (.array n e) => (szT P e).map (.slca x lo hi n ·)
  | _ => none
 | .extract x i => some (.extract x i)
 | .build t parts => match P.underlying t, cellsT P t with
  | some (.struct fs), some z => match fs.toList.all fun f => (szT P f.type).isSome with
   | true => (fieldsAt P fs parts.toList).map (.build z ·)
   | false => none
  | some (.array _ e), some z => (szT P e).map fun sz => .build z (partsAt sz parts.toList)
  | _, _ => none
 | .makeInterface t x => match P.underlying t with
  | some (.interface _) => none
  | some _ => some (.pur (.mki t) [x])
  | none => none
 | .typeAssert x _ t ok => match ok, P.underlying t, zeroT P t with
  | true, some d, some z => match isIfD d with | true => none | false => some (.pur (.tas t z (shOf z)) [x])
  | _, _, _ => none
 | .makeFunc fn first caps => match first.toList with
  | [] => some (.mkfn fn caps.toList)
  | _ => none
 | .call c => match c.callee with
  | .builtin .len => match c.args.toList, c.argTypes.toList with
   | [x], [t] => match P.underlying t with
    | some (.slice _) => some (.len x)
    | some .string => some (.lens x)
    | _ => none
   | _, _ => none
  | .builtin .min => match c.args.toList with
   | [x, y] => some (.mm false x y)
   | _ => none
  | .builtin .max => match c.args.toList with
   | [x, y] => some (.mm true x y)
   | _ => none
  | _ => none
 | .slice t x lo (some hi) (some mx) => match P.underlying t with
  | some (.slice e) => (szT P e).map (.slc3 x lo hi mx ·)
  | _ => none
 | .index t x ix => match P.underlying t with
  | some (.array n e) => match aggT P e, szT P e, zeroT P e with
   | some false, some 1, some z => some (.pur (.aix (scOf z) n) [x, ix])
   | _, _, _ => none
  | some .string => some (.pur .six [x, ix])
  | _ => none
 | _ => none
end Go.Vc
namespace Go.Vc
open Go.RowKit
theorem Keeps.refl (w : World) : Keeps w w := fun _ _ h => h
theorem Keeps.trans {a b c : World} (h : Keeps a b) (k : Keeps b c) : Keeps a c := fun x v hx => k x v (h x v hx)
theorem Ext.keeps {w w' : World} (h : Ext w w') : Keeps w w' := fun _ _ hc => h.cell hc
theorem Keeps.alloc (w : World) (o : Obj) : Keeps w (w.alloc o) := ((Ext.refl w).alloc o).keeps
def indep : Op → Bool
 | .load _ _ => false
 | _ => true
abbrev Runs (P : Program) (o : Oper) (ρ : Operand → Value) (wa : World) (v : Value) : Prop :=
 ∀ wx, (indep o.op = true ∨ Keeps wa wx) → (execOp ρ o).run P wx = .ok (.value v) wx
theorem Agree.evE {s : St} {a : Act} {w : World} (h : Agree s a w) {x : Operand} {e : EV} (hx : s.evE x = some e) : EVOk s (some e) (a.eval x) := by
 cases x with
 | tmp t =>
  simp only [St.evE] at hx
  cases e with
  | v y => exact h.v _ _ hx
  | loc k off => exact h.loc _ _ _ hx
  | lsl k n => exact h.lsl _ _ _ hx
 | const c => simp [St.evE, St.ev] at hx; subst hx; rfl
 | global g => simp [St.evE, St.ev] at hx; subst hx; rfl
 | func f => simp [St.evE, St.ev] at hx; subst hx; rfl
def LightOk (P : Program) (o : Oper) (a : Act) (s : St) (wa : World) (K : Option EV → St → World → Prop) : Prop :=
 ∃ v e s' w', Runs P o a.eval wa v ∧ Good s' a w' wa ∧ EVOk s' e v ∧ LFr s s' ∧ K e s' w'
theorem lightOk_v {P : Program} {o : Oper} {a : Act} {s : St} {w wa : World} {K : Option EV → St → World → Prop} {v : Value} (hg : Good s a w wa)
  (hk : K (some (.v v)) s w) (hr : ∀ wx, (execOp a.eval o).run P wx = .ok (.value v) wx) : LightOk P o a s wa K :=
 ⟨v, some (.v v), s, w, fun wx _ => hr wx, hg, rfl, LFr.refl s, hk⟩
theorem run_und {P : Program} {t : TypeId} {d : TypeDesc} (h : P.underlying t = some d) (w : World) : (underlying t).run P w = .ok d w := by
 simp [underlying, h]
theorem run_sz {P : Program} {t : TypeId} {n : Nat} (h : szT P t = some n) (w : World) : (sizeOf t).run P w = .ok n w := by
 unfold szT at h
 cases hi : P.info? t with
 | none => rw [hi] at h; cases h
 | some i =>
  rw [hi] at h; cases h
  simp [sizeOf, typeInfo, hi]
theorem run_agg {P : Program} {t : TypeId} {b : Bool} (h : aggT P t = some b) (w : World) : (isAgg t).run P w = .ok b w := by
 unfold aggT at h
 split at h
 ·rename_i fs hu; cases h; simp [isAgg, run_und hu]
 ·rename_i fs n hu; cases h; simp [isAgg, run_und hu]
 ·rename_i d hn1 hn2 hu; cases h
  simp only [isAgg, Sem.run_bind, run_und hu, Result.andThen_ok]
  cases d <;> first | rfl | (exfalso; exact hn1 _ rfl) | (exfalso; exact hn2 _ _ rfl)
 ·cases h
theorem cellsAt_spec {w : World} {a : Addr} : ∀ {vs : List Value} {i : Nat} {K : Prop}, cellsAt w a vs i K → (∀ j v, vs[j]? = some v → w.cell? (a.add (i + j)) = some v) ∧ K
 | [], _, _, h => ⟨fun j v hv => by simp at hv, h⟩
 | v :: vs, i, K, h => by
  obtain ⟨h1, h2⟩ := cellsAt_spec h.2
  refine ⟨fun j u hu => ?_, h2⟩
  cases j with
  | zero => simp at hu; subst hu; simpa using h.1
  | succ j => simp at hu; have := h1 j u hu; rwa [show i + (j + 1) = i + 1 + j by omega]
theorem run_loadVar_sc {P : Program} {t : TypeId} (h : aggT P t = some false) {w : World} {a : Addr} {v : Value} (hc : w.cell? a = some v) :
  (loadVar t a).run P w = .ok v w := by
 simp [loadVar, run_agg h, hc]
theorem run_loadVar_agg {P : Program} {t : TypeId} (h : aggT P t = some true) {w : World} {a : Addr} {vs : List Value} (hs : szT P t = some vs.length)
  (hc : ∀ j v, vs[j]? = some v → w.cell? (a.add j) = some v) : (loadVar t a).run P w = .ok (.agg vs.toArray) w := by
 simp only [loadVar, Sem.run_bind, run_agg h, Result.andThen_ok, if_true, run_sz hs]
 rw [run_loadCells_list w a vs hc]
 simp
theorem cell_of_block {w : World} {b : Nat} {cs : List Value} {e : TypeId} (h : w.heap[b]? = some (.cells cs.toArray e (0, 0))) {off : Nat} {v : Value}
  (hv : cs[off]? = some v) : w.cell? ⟨b, off, none⟩ = some v := by
 simp [World.cell?, h, hv]
theorem binOp_int {P : Program} {op : BinOp} {t : TypeId} {k : IntKind} {a b : Int} (w : World)
  (hop : op = .add ∨ op = .sub ∨ op = .mul) : (binOp op t (.int k a) (.int k b)).run P w = .ok (.int k (k.wrap (arithZ op a b))) w := by
 rcases hop with rfl | rfl | rfl <;> simp [binOp, Op.intArith, arithZ]
theorem binOp_bits {P : Program} {op : BinOp} {t : TypeId} {k : IntKind} {a b : Int} (w : World)
  (hop : op = .and ∨ op = .or ∨ op = .xor ∨ op = .andNot) : (binOp op t (.int k a) (.int k b)).run P w = .ok (.int k (k.wrap (bitsZ op k a b))) w := by
 rcases hop with rfl | rfl | rfl | rfl <;> simp [binOp, Op.intBits, bitsZ]
theorem binOp_cmp {P : Program} {op : BinOp} {t : TypeId} {k : IntKind} {a b : Int} (w : World)
  (hop : op = .eql ∨ op = .neq ∨ op = .lss ∨ op = .leq ∨ op = .gtr ∨ op = .geq) : (binOp op t (.int k a) (.int k b)).run P w = .ok (.bool (cmpZ op a b)) w := by
 rcases hop with rfl | rfl | rfl | rfl | rfl | rfl <;> simp [binOp, Op.intCmp, cmpZ]
theorem binOp_div {P : Program} {op : BinOp} {t : TypeId} {k : IntKind} {a b : Int} (w : World)
  (hop : op = .quo ∨ op = .rem) (hb : b ≠ 0) : (binOp op t (.int k a) (.int k b)).run P w = .ok (.int k (divZ op k a b)) w := by
 rcases hop with rfl | rfl <;> simp [binOp, Op.intDiv, divZ, hb]
theorem binOp_shift {P : Program} {op : BinOp} {t : TypeId} {k k' : IntKind} {a b : Int} (w : World)
  (hop : op = .shl ∨ op = .shr) (hb : 0 ≤ b) : (binOp op t (.int k a) (.int k' b)).run P w = .ok (.int k (shiftZ op k a b)) w := by
 have hb' : ¬ b < 0 := by omega
 rcases hop with rfl | rfl <;> simp [binOp, Op.shift, shiftZ, hb']
theorem eqGuard_ok {P : Program} {op : BinOp} {t : TypeId} {x y : Operand} {u v : Value} (w : World)
  (h : (u ≠ .nilIface ∧ ∀ c, u ≠ .agg c) ∨ (v ≠ .nilIface ∧ ∀ c, v ≠ .agg c)) : (eqGuard op t x y u v).run P w = .ok () w := by
 unfold eqGuard
 cases op <;> simp <;> (cases u <;> cases v <;> simp_all)
theorem eqIn_bool {P : Program} {t : TypeId} (ht : P.underlying t = some .bool) (w : World) (d : Nat) (a b : Bool) :
  (Op.equalIn (d + 1) t (.bool a) (.bool b)).run P w = .ok (a == b) w := by simp [Op.equalIn, run_und ht]
theorem eqIn_ptr {P : Program} {t e : TypeId} (ht : P.underlying t = some (.pointer e)) (w : World) (d : Nat) (p : Option Addr) :
  (Op.equalIn (d + 1) t (.pointer p) (.pointer none)).run P w = .ok p.isNone w ∧ (Op.equalIn (d + 1) t (.pointer none) (.pointer p)).run P w = .ok p.isNone w := by
 cases p <;> simp [Op.equalIn, run_und ht]
theorem eqIn_slice {P : Program} {t e : TypeId} (ht : P.underlying t = some (.slice e)) (w : World) (d : Nat) (p : Option Addr) (l c l' c' : Nat) :
  (Op.equalIn (d + 1) t (.slice p l c) (.slice none l' c')).run P w = .ok p.isNone w ∧ (Op.equalIn (d + 1) t (.slice none l' c') (.slice p l c)).run P w = .ok p.isNone w := by
 cases p <;> simp [Op.equalIn, run_und ht]
theorem equal_succ (t : TypeId) (x y : Value) : Op.equal t x y = Op.equalIn (9999 + 1) t x y := rfl
theorem binOp_bool {P : Program} {t : TypeId} (ht : P.underlying t = some .bool) (w : World) (a b : Bool) :
  (binOp .eql t (.bool a) (.bool b)).run P w = .ok (.bool (a == b)) w ∧ (binOp .neq t (.bool a) (.bool b)).run P w = .ok (.bool (!(a == b))) w := by
 constructor <;> simp only [binOp, equal_succ, Sem.run_bind, eqIn_bool ht, Result.andThen_ok, Sem.run_pure]
theorem binOp_ptr {P : Program} {t e : TypeId} (ht : P.underlying t = some (.pointer e)) (w : World) (p : Option Addr) :
  ((binOp .eql t (.pointer p) (.pointer none)).run P w = .ok (.bool p.isNone) w ∧ (binOp .neq t (.pointer p) (.pointer none)).run P w = .ok (.bool (!p.isNone)) w) ∧
  (binOp .eql t (.pointer none) (.pointer p)).run P w = .ok (.bool p.isNone) w ∧ (binOp .neq t (.pointer none) (.pointer p)).run P w = .ok (.bool (!p.isNone)) w := by
 refine ⟨⟨?_, ?_⟩, ?_, ?_⟩ <;> simp only [binOp, equal_succ, Sem.run_bind, (eqIn_ptr ht _ _ _).1, (eqIn_ptr ht _ _ _).2, Result.andThen_ok, Sem.run_pure]
theorem binOp_slice {P : Program} {t e : TypeId} (ht : P.underlying t = some (.slice e)) (w : World) (p : Option Addr) (l c l' c' : Nat) :
  ((binOp .eql t (.slice p l c) (.slice none l' c')).run P w = .ok (.bool p.isNone) w ∧ (binOp .neq t (.slice p l c) (.slice none l' c')).run P w = .ok (.bool (!p.isNone)) w) ∧
  (binOp .eql t (.slice none l' c') (.slice p l c)).run P w = .ok (.bool p.isNone) w ∧ (binOp .neq t (.slice none l' c') (.slice p l c)).run P w = .ok (.bool (!p.isNone)) w := by
 refine ⟨⟨?_, ?_⟩, ?_, ?_⟩ <;> simp only [binOp, equal_succ, Sem.run_bind, (eqIn_slice ht _ _ _ _ _ _ _).1, (eqIn_slice ht _ _ _ _ _ _ _).2, Result.andThen_ok, Sem.run_pure]
theorem eqIn_ifc {P : Program} {t : TypeId} {ms : Array (String × TypeId)} (ht : P.underlying t = some (.interface ms)) (w : World) (d : Nat) {v : Value} (hv : isIfV v = true) :
  (Op.equalIn (d + 1) t v .nilIface).run P w = .ok (isNilI v) w := by
 unfold isIfV at hv
 split at hv
 ·simp [Op.equalIn, run_und ht, isNilI]
 ·simp [Op.equalIn, run_und ht, isNilI]
 ·cases hv
theorem binOp_ifc {P : Program} {t : TypeId} {ms : Array (String × TypeId)} (ht : P.underlying t = some (.interface ms)) (w : World) {v : Value} (hv : isIfV v = true) :
  (binOp .eql t v .nilIface).run P w = .ok (.bool (isNilI v)) w ∧ (binOp .neq t v .nilIface).run P w = .ok (.bool (!isNilI v)) w := by
 have h := fun d => eqIn_ifc ht w d hv
 unfold isIfV at hv
 split at hv
 ·constructor <;> simp only [binOp, equal_succ, Sem.run_bind, h, Result.andThen_ok, Sem.run_pure]
 ·constructor <;> simp only [binOp, equal_succ, Sem.run_bind, h, Result.andThen_ok, Sem.run_pure]
 ·cases hv
theorem eqGuard_ifc {P : Program} {op : BinOp} {t : TypeId} {x y : Operand} {v : Value} (w : World) (hy : isNilO y = true) : (eqGuard op t x y v .nilIface).run P w = .ok () w := by
 unfold isNilO at hy
 split at hy
 ·unfold eqGuard
  cases op <;> simp <;> (cases v <;> simp)
 ·cases hy
theorem eqIn_fn {P : Program} {t : TypeId} {ps rs : Array TypeId} {b : Bool} (ht : P.underlying t = some (.func ps rs b)) (w : World) (d : Nat) {v : Value} (hv : isFnV v = true) :
  (Op.equalIn (d + 1) t v .nilFunc).run P w = .ok (isNilF v) w := by
 unfold isFnV at hv
 split at hv
 ·simp [Op.equalIn, run_und ht, isNilF]
 ·simp [Op.equalIn, run_und ht, isNilF]
 ·cases hv
theorem binOp_fn {P : Program} {t : TypeId} {ps rs : Array TypeId} {b : Bool} (ht : P.underlying t = some (.func ps rs b)) (w : World) {v : Value} (hv : isFnV v = true) :
  (binOp .eql t v .nilFunc).run P w = .ok (.bool (isNilF v)) w ∧ (binOp .neq t v .nilFunc).run P w = .ok (.bool (!isNilF v)) w := by
 have h := fun d => eqIn_fn ht w d hv
 unfold isFnV at hv
 split at hv
 ·constructor <;> simp only [binOp, equal_succ, Sem.run_bind, h, Result.andThen_ok, Sem.run_pure]
 ·constructor <;> simp only [binOp, equal_succ, Sem.run_bind, h, Result.andThen_ok, Sem.run_pure]
 ·cases hv
end Go.Vc
namespace Go.Vc
open Go.RowKit
theorem nn_some {p : Option Addr} {F : Addr → Prop} (h : nn p F) : ∃ a, p = some a ∧ F a := by
 cases p with
 | none => exact h.elim
 | some a => exact ⟨a, rfl, h⟩
theorem andC_elim {c : Bool} {A B : Prop} (h : andC c A B) (hc : c = true → A) : A ∧ B := by
 cases c
 ·exact h
 ·exact ⟨hc rfl, h⟩
theorem brB_elim {b : Bool} {A B : Prop} (h : brB b A B) : (b = true ∧ A) ∨ (b = false ∧ B) := by
 cases b
 ·exact .inr ⟨rfl, h⟩
 ·exact .inl ⟨rfl, h⟩
section
variable {P : Program} {o : Oper} {s : St} {a : Act} {w wa : World} {K : Option EV → St → World → Prop}
theorem ev_isNilP {x : Operand} (h : isNilP x = true) (a : Act) : a.eval x = .pointer none := by
 unfold isNilP at h
 split at h
 ·rfl
 ·cases h
theorem ev_isNilS {x : Operand} (h : isNilS x = true) (a : Act) : ∃ l c, a.eval x = .slice none l c := by
 unfold isNilS at h
 split at h
 ·exact ⟨_, _, rfl⟩
 ·cases h
theorem evs_two {s : St} {x y : Operand} {vs : List Value} (h : s.evs [x, y] = some vs) : ∃ u v, s.ev x = some u ∧ s.ev y = some v ∧ vs = [u, v] := by
 simp only [St.evs] at h
 cases h1 : s.ev x with
 | none => simp [h1] at h
 | some u =>
  cases h2 : s.ev y with
  | none => simp [h1, h2] at h
  | some v => simp [h1, h2] at h; exact ⟨u, v, rfl, rfl, h.symm⟩
theorem bytes_beq (p q : ByteArray) : (p.toList == q.toList) = decide (p = q) := by
 rw [Bool.eq_iff_iff]
 simp only [ByteArray.toList_eq, beq_iff_eq, decide_eq_true_eq]
 constructor
 ·intro h
  obtain ⟨⟨x⟩⟩ := p
  obtain ⟨⟨y⟩⟩ := q
  simp at h; rw [h]
 ·intro h; rw [h]
theorem binOp_str {t : TypeId} (w : World) (p q : ByteArray) :
  (binOp .eql t (.string p) (.string q)).run P w = .ok (.bool (decide (p = q))) w ∧ (binOp .neq t (.string p) (.string q)).run P w = .ok (.bool (!decide (p = q))) w := by
 constructor <;> simp only [binOp, Op.stringOp, bytes_beq, Sem.run_pure]
theorem eqFields_ints {d : Nat} : ∀ {fs : List Field} {i : Nat} {xs ys : List Value} {r : Bool} {X Y : Array Value}, intFields P fs i = true → X.toList.drop i = xs → Y.toList.drop i = ys → xs.length = fs.length →
  aeqL xs ys = some r → ∀ w : World, (Op.eqFields (d + 1) X Y fs).run P w = .ok r w
 | [], i, xs, ys, r, X, Y, _, hx, hy, hl, hr, w => by
  have : xs = [] := List.length_eq_zero_iff.1 hl
  rw [this] at hr
  cases ys with
  | nil => simp only [aeqL, Option.some.injEq] at hr; subst hr; simp [Op.eqFields]
  | cons y ys => simp [aeqL] at hr
 | f :: fs, i, xs, ys, r, X, Y, hi, hx, hy, hl, hr, w => by
  simp only [intFields, Bool.and_eq_true] at hi
  obtain ⟨⟨⟨ho, hn⟩, hu⟩, hrest⟩ := hi
  have ho := Nat.eq_of_beq_eq_true ho
  have hn : f.name ≠ "_" := by simpa using hn
  split at hu <;> try cases hu
  rename_i k0 hu
  cases xs with
  | nil => simp at hl
  | cons u xs =>
   cases ys with
   | nil => cases u <;> simp [aeqL] at hr
   | cons v ys =>
    unfold aeqL at hr
    split at hr <;> try cases hr
    ·rename_i h1 h2; cases h1
    rename_i k a xs' k' b ys' h1 h2
    cases h1; cases h2
    split at hr <;> cases hr
    rename_i r' hk hr'
    obtain rfl : k = k' := of_decide_eq_true hk
    have hX : X[f.offset]? = some (.int k a) := by
     rw [ho, ← Array.getElem?_toList, ← List.head?_drop, hx]; rfl
    have hY : Y[f.offset]? = some (.int k b) := by
     rw [ho, ← Array.getElem?_toList, ← List.head?_drop, hy]; rfl
    have hag : aggT P f.type = some false := by simp [aggT, hu]
    have ih := eqFields_ints (d := d) (X := X) (Y := Y) hrest (by rw [← List.drop_drop, hx]; rfl) (by rw [← List.drop_drop, hy]; rfl) (by simpa using hl) hr' w
    simp only [Op.eqFields, hn, ne_eq, not_false_eq_true, if_true, Sem.run_bind, part, run_agg hag, Result.andThen_ok, Bool.false_eq_true, if_false, hX, hY, Sem.run_pure, Op.equalIn, run_und hu]
    by_cases hab : a = b
    ·subst hab; simp [ih]
    ·simp [hab]
theorem binOp_agg {t : TypeId} {fs : Array Field} {xs ys : Array Value} {r : Bool} (ht : P.underlying t = some (.struct fs)) (hf : intFields P fs.toList 0 = true) (hp : P.stoodInHeld t = false)
  (hn : xs.toList.length = fs.toList.length) (hr : aeqL xs.toList ys.toList = some r) (w : World) :
  (binOp .eql t (.agg xs) (.agg ys)).run P w = .ok (.bool r) w ∧ (binOp .neq t (.agg xs) (.agg ys)).run P w = .ok (.bool (!r)) w := by
 have hfs : P.fieldsOf t = fs := by simp [Program.fieldsOf, ht]
 have h1 : (Op.equal t (.agg xs) (.agg ys)).run P w = .ok r w := by
  rw [equal_succ, run_equalIn_struct w 9999 t xs ys (by rw [hfs]; exact ht) hp, hfs]
  exact eqFields_ints (d := 9998) hf (by simp) (by simp) hn hr w
 constructor <;> simp only [binOp, Sem.run_bind, h1, Result.andThen_ok, Sem.run_pure]
theorem run_agg2 {op : BinOp} {t : TypeId} {x y : Operand} {yt : TypeId} (ho : o.op = .binOp op t x y yt) {xs ys : Array Value} {r : Value} (hx : a.eval x = .agg xs) (hy : a.eval y = .agg ys)
  (hg : P.eqGuardType P.depth t = false) (hr : ∀ wx, (binOp op t (.agg xs) (.agg ys)).run P wx = .ok r wx) : ∀ wx, (execOp a.eval o).run P wx = .ok (.value r) wx := by
 intro wx
 have hguard : (eqGuard op t x y (.agg xs) (.agg ys)).run P wx = .ok () wx := by
  cases op <;> simp [eqGuard, hg]
 simp only [execOp, ho, Sem.run_bind, hx, hy, hguard, Result.andThen_ok, hr, Sem.run_pure]
theorem bin_sound {i : Ins} {op : BinOp} {t : TypeId} {x y : Operand} {yt : TypeId} (ho : o.op = .binOp op t x y yt) (hc : compileBin P op t x y = some i)
  (hg : Good s a w wa) (h : vcLight i s w K) : LightOk P o a s wa K := by
 have hx : ∀ v, s.ev x = some v → a.eval x = v := fun v hv => hg.ag.ev hv
 have hy : ∀ v, s.ev y = some v → a.eval y = v := fun v hv => hg.ag.ev hv
 have run : ∀ (u v r : Value), a.eval x = u → a.eval y = v → ((u ≠ .nilIface ∧ ∀ c, u ≠ .agg c) ∨ (v ≠ .nilIface ∧ ∀ c, v ≠ .agg c)) →
   (∀ wx, (binOp op t u v).run P wx = .ok r wx) → ∀ wx, (execOp a.eval o).run P wx = .ok (.value r) wx := by
  intro u v r hu hv hne hr wx
  simp only [execOp, ho, Sem.run_bind, hu, hv, eqGuard_ok _ hne, Result.andThen_ok, hr, Sem.run_pure]
 have intint : ∀ (k : IntKind) (m n : Int), (∀ r, (∀ wx, (binOp op t (.int k m) (.int k n)).run P wx = .ok r wx) → s.ev x = some (.int k m) → s.ev y = some (.int k n) → K (some (.v r)) s w → LightOk P o a s wa K) :=
  fun k m n r hr h1 h2 hk => lightOk_v hg hk (run _ _ r (hx _ h1) (hy _ h2) (.inl ⟨by simp, by simp⟩) hr)
 unfold compileBin at hc
 split at hc
 case h_1 | h_2 | h_3 =>
  split at hc <;> cases hc
  simp only [vcLight] at h
  split at h <;> try exact h.elim
  rename_i k m k' n h1 h2
  split at h <;> try exact h.elim
  rename_i hk
  obtain rfl : k = k' := of_decide_eq_true hk
  exact intint _ _ _ _ (fun wx => binOp_int wx (by simp)) h1 h2 h
 case h_4 | h_5 | h_6 | h_7 =>
  cases hc
  simp only [vcLight] at h
  split at h <;> try exact h.elim
  rename_i k m k' n h1 h2
  split at h <;> try exact h.elim
  rename_i hk
  obtain rfl : k = k' := of_decide_eq_true hk
  exact intint _ _ _ _ (fun wx => binOp_bits wx (by simp)) h1 h2 h
 case h_8 | h_9 =>
  cases hc
  simp only [vcLight] at h
  split at h <;> try exact h.elim
  rename_i k m k' n h1 h2
  split at h <;> try exact h.elim
  rename_i hk
  obtain rfl : k = k' := of_decide_eq_true hk
  obtain ⟨hn, h⟩ := andC_elim h (by
   intro hcc
   split at hcc
   ·rename_i n' hci
    have : s.ev y = some (.int k n) := h2
    unfold constInt at hci
    split at hci
    ·cases hci
     simp [St.ev] at h2
     obtain ⟨_, rfl⟩ := h2
     simpa using hcc
    ·cases hci
   ·cases hcc)
  exact intint _ _ _ _ (fun wx => binOp_div wx (by simp) hn) h1 h2 h
 case h_10 | h_11 =>
  cases hc
  simp only [vcLight] at h
  split at h <;> try exact h.elim
  rename_i k m k' n h1 h2
  obtain ⟨hn, h⟩ := andC_elim h (by
   intro hcc
   split at hcc
   ·rename_i n' hci
    unfold constInt at hci
    split at hci
    ·cases hci
     simp [St.ev] at h2
     obtain ⟨_, rfl⟩ := h2
     simpa using hcc
    ·cases hci
   ·cases hcc)
  exact lightOk_v hg h (run _ _ _ (hx _ h1) (hy _ h2) (.inl ⟨by simp, by simp⟩) (fun wx => binOp_shift wx (by simp) hn))
 case h_12 | h_13 | h_14 | h_15 =>
  split at hc <;> cases hc
  simp only [vcLight] at h
  split at h <;> try exact h.elim
  rename_i k m k' n h1 h2
  split at h <;> try exact h.elim
  rename_i hk
  obtain rfl : k = k' := of_decide_eq_true hk
  exact intint _ _ _ _ (fun wx => binOp_cmp wx (by simp)) h1 h2 h
 case h_16 | h_17 =>
  split at hc
  ·cases hc
   simp only [vcLight] at h
   split at h <;> try exact h.elim
   rename_i k m k' n h1 h2
   split at h <;> try exact h.elim
   rename_i hk
   obtain rfl : k = k' := of_decide_eq_true hk
   exact intint _ _ _ _ (fun wx => binOp_cmp wx (by simp)) h1 h2 h
  ·rename_i ht
   cases hc
   simp only [vcLight] at h
   split at h <;> try exact h.elim
   rename_i m n h1 h2
   simp at h
   first
    | exact lightOk_v hg h (run _ _ _ (hx _ h1) (hy _ h2) (.inl ⟨by simp, by simp⟩) (fun wx => (binOp_bool ht wx _ _).1))
    | exact lightOk_v hg h (run _ _ _ (hx _ h1) (hy _ h2) (.inl ⟨by simp, by simp⟩) (fun wx => by simpa using (binOp_bool ht wx _ _).2))
  ·rename_i e ht
   split at hc
   ·rename_i hn
    cases hc
    simp only [vcLight] at h
    split at h <;> try exact h.elim
    rename_i p h1
    simp at h
    first
     | exact lightOk_v hg h (run _ _ _ (hx _ h1) (ev_isNilP hn a) (.inl ⟨by simp, by simp⟩) (fun wx => by simpa using (binOp_ptr ht wx p).1.1))
     | exact lightOk_v hg h (run _ _ _ (hx _ h1) (ev_isNilP hn a) (.inl ⟨by simp, by simp⟩) (fun wx => by simpa using (binOp_ptr ht wx p).1.2))
   ·split at hc
    ·rename_i hn
     cases hc
     simp only [vcLight] at h
     split at h <;> try exact h.elim
     rename_i p h1
     simp at h
     first
      | exact lightOk_v hg h (run _ _ _ (ev_isNilP hn a) (hy _ h1) (.inl ⟨by simp, by simp⟩) (fun wx => by simpa using (binOp_ptr ht wx p).2.1))
      | exact lightOk_v hg h (run _ _ _ (ev_isNilP hn a) (hy _ h1) (.inl ⟨by simp, by simp⟩) (fun wx => by simpa using (binOp_ptr ht wx p).2.2))
    ·cases hc
  ·rename_i e ht
   split at hc
   ·rename_i hn
    cases hc
    simp only [vcLight] at h
    split at h <;> try exact h.elim
    rename_i p l c h1
    simp at h
    obtain ⟨l', c', hn'⟩ := ev_isNilS hn a
    first
     | exact lightOk_v hg h (run _ _ _ (hx _ h1) hn' (.inl ⟨by simp, by simp⟩) (fun wx => by simpa using (binOp_slice ht wx p l c l' c').1.1))
     | exact lightOk_v hg h (run _ _ _ (hx _ h1) hn' (.inl ⟨by simp, by simp⟩) (fun wx => by simpa using (binOp_slice ht wx p l c l' c').1.2))
   ·split at hc
    ·rename_i hn
     cases hc
     simp only [vcLight] at h
     split at h <;> try exact h.elim
     rename_i p l c h1
     simp at h
     obtain ⟨l', c', hn'⟩ := ev_isNilS hn a
     first
      | exact lightOk_v hg h (run _ _ _ hn' (hy _ h1) (.inl ⟨by simp, by simp⟩) (fun wx => by simpa using (binOp_slice ht wx p l c l' c').2.1))
      | exact lightOk_v hg h (run _ _ _ hn' (hy _ h1) (.inl ⟨by simp, by simp⟩) (fun wx => by simpa using (binOp_slice ht wx p l c l' c').2.2))
    ·cases hc
  ·rename_i ht
   cases hc
   simp only [vcLight] at h
   split at h <;> try exact h.elim
   rename_i vs hvs
   obtain ⟨u, v, h1, h2, rfl⟩ := evs_two hvs
   unfold purG at h
   split at h <;> try exact h.elim
   ·rename_i ne p q e1 e2
    cases e1; cases e2
    simp at h
    first
     | exact lightOk_v hg h (run _ _ _ (hx _ h1) (hy _ h2) (.inl ⟨by simp, by simp⟩) (fun wx => by simpa using (binOp_str wx p q).1))
     | exact lightOk_v hg h (run _ _ _ (hx _ h1) (hy _ h2) (.inl ⟨by simp, by simp⟩) (fun wx => by simpa using (binOp_str wx p q).2))
   ·rename_i e1 e2; cases e1
   ·rename_i e1 e2; cases e1
   ·rename_i e1 e2; cases e1
   ·rename_i e1 e2; cases e1
   ·rename_i e1 e2; cases e1
   ·rename_i e1 e2; cases e1
   ·rename_i e1 e2; cases e1
  ·rename_i fs ht
   split at hc <;> cases hc
   rename_i hstat
   simp only [Bool.and_eq_true, Bool.not_eq_true'] at hstat
   simp only [vcLight] at h
   split at h <;> try exact h.elim
   rename_i vs hvs
   obtain ⟨u, v, h1, h2, rfl⟩ := evs_two hvs
   unfold purG at h
   split at h <;> try exact h.elim
   ·rename_i e1 e2; cases e1
   ·rename_i ne n p q e1 e2
    cases e1; cases e2
    split at h <;> try exact h.elim
    rename_i r hn hr
    have hn := Nat.eq_of_beq_eq_true hn
    simp at h
    first
     | exact lightOk_v hg h (run_agg2 ho (hx _ h1) (hy _ h2) hstat.2 (fun wx => by simpa using (binOp_agg ht hstat.1.1 hstat.1.2 hn hr wx).1))
     | exact lightOk_v hg h (run_agg2 ho (hx _ h1) (hy _ h2) hstat.2 (fun wx => by simpa using (binOp_agg ht hstat.1.1 hstat.1.2 hn hr wx).2))
   ·rename_i e1 e2; cases e1
   ·rename_i e1 e2; cases e1
   ·rename_i e1 e2; cases e1
   ·rename_i e1 e2; cases e1
   ·rename_i e1 e2; cases e1
   ·rename_i e1 e2; cases e1
  ·rename_i ps rs b ht
   cases hc
   simp only [vcLight] at h
   split at h <;> try exact h.elim
   rename_i vs hvs
   obtain ⟨u, v, h1, h2, rfl⟩ := evs_two hvs
   unfold purG at h
   split at h <;> try exact h.elim
   ·rename_i e1 e2; cases e1
   ·rename_i e1 e2; cases e1
   ·rename_i ne p e1 e2
    cases e1; cases e2
    obtain ⟨hfn, h⟩ := h
    simp at h
    first
     | exact lightOk_v hg h (run _ _ _ (hx _ h1) (hy _ h2) (.inr ⟨by simp, by simp⟩) (fun wx => by simpa using (binOp_fn ht wx hfn).1))
     | exact lightOk_v hg h (run _ _ _ (hx _ h1) (hy _ h2) (.inr ⟨by simp, by simp⟩) (fun wx => by simpa using (binOp_fn ht wx hfn).2))
   ·rename_i e1 e2; cases e1
   ·rename_i e1 e2; cases e1
   ·rename_i e1 e2; cases e1
   ·rename_i e1 e2; cases e1
   ·rename_i e1 e2; cases e1
  ·rename_i ms ht
   split at hc <;> cases hc
   rename_i hny
   simp only [vcLight] at h
   split at h <;> try exact h.elim
   rename_i vs hvs
   obtain ⟨u, v, h1, h2, rfl⟩ := evs_two hvs
   unfold purG at h
   split at h <;> try exact h.elim
   all_goals first | (rename_i e1 e2; cases e1; done) | skip
   rename_i ne p e1 e2
   cases e1; cases e2
   obtain ⟨hfn, h⟩ := h
   simp at h
   have run2 : ∀ op' r, o.op = .binOp op' t x y yt → (∀ wx, (binOp op' t u .nilIface).run P wx = .ok r wx) → ∀ wx, (execOp a.eval o).run P wx = .ok (.value r) wx := fun op' r ho hr wx => by
    simp only [execOp, ho, Sem.run_bind, hx _ h1, hy _ h2, eqGuard_ifc _ hny, Result.andThen_ok, hr, Sem.run_pure]
   first
    | exact lightOk_v hg h (run2 _ _ ho fun wx => by simpa using (binOp_ifc ht wx hfn).1)
    | exact lightOk_v hg h (run2 _ _ ho fun wx => by simpa using (binOp_ifc ht wx hfn).2)
  ·cases hc
theorem fieldPlace_run {P : Program} {x : Addr} {f : Field} {n : Nat} (hn : szT P f.type = some n) (h0 : Nat.beq n 0 = false) (wx : World) :
  (fieldPlace x f).run P wx = .ok (x.add f.offset) wx := by
 have h0' : n ≠ 0 := fun e => by subst e; simp at h0
 simp [fieldPlace, run_sz hn, h0']
theorem add_add (x : Addr) (hx : x.spot = none) (m n : Nat) : (x.add m).add n = x.add (m + n) := by
 unfold Addr.add
 by_cases hm : m = 0
 ·subst hm; simp
 ·by_cases hn : n = 0
  ·subst hn; simp [hm]
  ·simp [hm, hn]; omega
theorem loc_add (b off n : Nat) : (⟨b, off, none⟩ : Addr).add n = ⟨b, off + n, none⟩ := by
 unfold Addr.add
 split
 ·rename_i h; subst h; rfl
 ·rfl
theorem zero_run {P : Program} {t : TypeId} {z : Value} (h : zeroT P t = some z) (wx : World) : (zeroValue t).run P wx = .ok z wx := by
 unfold zeroT at h
 cases hi : P.info? t with
 | none => rw [hi] at h; cases h
 | some i =>
  rw [hi] at h
  have hz : i.zero = some z := h
  simp [zeroValue, typeInfo, hi, hz]
theorem splice_fold : ∀ (vs : List Value) (off k : Nat) (cells : Array Value), off + k + vs.length ≤ cells.size →
  (vs.zipIdx k).foldl (fun cs (x : Value × Nat) => cs.setIfInBounds (off + x.2) x.1) cells = (cells.toList.take (off + k) ++ vs ++ cells.toList.drop (off + k + vs.length)).toArray
 | [], off, k, cells, h => by simp
 | v :: vs, off, k, cells, h => by
  simp only [List.zipIdx_cons, List.foldl_cons]
  simp only [List.length_cons] at h
  rw [splice_fold vs off (k + 1) _ (by simp; omega)]
  have hlt : off + k < cells.size := by omega
  congr 1
  apply List.ext_getElem?
  intro j
  simp only [Array.toList_setIfInBounds, List.getElem?_append, List.length_append, List.length_take, List.length_set, List.length_cons, List.getElem?_take, List.getElem?_drop, List.getElem?_set, List.getElem?_cons, Array.length_toList]
  rcases Nat.lt_trichotomy j (off + k) with hj | hj | hj
  ·have h1 : min (off + (k + 1)) cells.size = off + k + 1 := by omega
   have h2 : min (off + k) cells.size = off + k := by omega
   simp [h1, h2, show j < off + k + 1 + vs.length by omega, show j < off + k + (vs.length + 1) by omega, show j < off + k + 1 by omega, hj, show j < off + (k + 1) by omega, show ¬ off + k = j by omega]
  ·subst hj
   have h1 : min (off + (k + 1)) cells.size = off + k + 1 := by omega
   have h2 : min (off + k) cells.size = off + k := by omega
   simp [h1, h2, hlt, show off + k < off + k + 1 + vs.length by omega, show off + k < off + (k + 1) by omega]
  ·have h1 : min (off + (k + 1)) cells.size = off + k + 1 := by omega
   have h2 : min (off + k) cells.size = off + k := by omega
   by_cases hj2 : j < off + k + 1 + vs.length
   ·simp [h1, h2, hj2, show j < off + k + (vs.length + 1) by omega, show ¬ j < off + k + 1 by omega, show ¬ j < off + k by omega, show j - (off + k) ≠ 0 by omega]
    rw [show j - (off + k) = j - (off + k + 1) + 1 by omega]; simp
   ·simp [h1, h2, hj2, show ¬ j < off + k + (vs.length + 1) by omega, show ¬ off + k = off + (k + 1) + vs.length + (j - (off + k + 1 + vs.length)) by omega]
    congr 1 <;> omega
theorem places_cons {s : St} {off n : Nat} {x : Operand} {r : List (Nat × Nat × Operand)} {qs : List (Nat × List Value)} (h : s.places ((off, n, x) :: r) = some qs) :
  ∃ v rs, s.ev x = some v ∧ v.cells.toList.length = n ∧ s.places r = some rs ∧ qs = (off, v.cells.toList) :: rs := by
 simp only [St.places] at h
 split at h <;> try cases h
 rename_i v rs hv hr
 split at h <;> cases h
 rename_i hn
 exact ⟨v, rs, hv, Nat.eq_of_beq_eq_true hn, hr, rfl⟩
theorem fill_spec {P : Program} {fs : Array Field} {ps' : Array (Nat × Nat)} (hp : ∀ (i : Nat) (f : Field) (n : Nat), fs[i]? = some f → szT P f.type = some n → ps'[i]? = some (f.offset, n)) {s : St} {a : Act}
  (hev : ∀ x v, s.ev x = some v → a.eval x = v) : ∀ (parts : List (Nat × Operand)) (ps : List (Nat × Nat × Operand)) (qs : List (Nat × List Value)) (z : List Value),
  fieldsAt P fs parts = some ps → s.places ps = some qs → fillOk z.length qs = true →
  Instr.fill (ps'[·]?) z.toArray (parts.map fun (i, x) => (i, a.eval x)) = some (fillL z qs).toArray
 | [], ps, qs, z, h1, h2, _ => by
  simp [fieldsAt] at h1; subst h1
  simp [St.places] at h2; subst h2
  simp [Instr.fill, fillL]
 | (i, x) :: r, ps, qs, z, h1, h2, h3 => by
  simp only [fieldsAt] at h1
  split at h1 <;> try cases h1
  rename_i f ps1 hf hr
  cases hs : szT P f.type with
  | none => rw [hs] at h1; cases h1
  | some n =>
   rw [hs] at h1
   simp only [Option.map_some, Option.some.injEq] at h1
   subst h1
   obtain ⟨v, rs, hv, hn, hrs, rfl⟩ := places_cons h2
   simp only [fillOk, Bool.and_eq_true] at h3
   have hle := Nat.le_of_ble_eq_true h3.1
   simp only [List.map_cons, Instr.fill, hp i f n hf hs, hev x v hv]
   have hsz : v.cells.size = n := by simpa using hn
   rw [if_neg (by simp [hsz] at hle ⊢; omega)]
   rw [← Array.foldl_toList]
   have := splice_fold v.cells.toList f.offset 0 z.toArray (by simpa using hle)
   simp only [Array.toList_zipIdx]
   rw [this]
   simp only [fillL, Nat.add_zero]
   exact fill_spec hp hev r ps1 rs _ hr hrs (by
    have : (List.take f.offset z ++ v.cells.toList ++ List.drop (f.offset + v.cells.toList.length) z).length = z.length := by
     simp at hle ⊢; omega
    rw [this]; exact h3.2)
theorem mapM_places {P : Program} {wx : World} : ∀ (l : List Field), (∀ f ∈ l, ∃ n, szT P f.type = some n) → ∃ r : List (Nat × Nat), (l.mapM fun f => (do pure (f.offset, ← sizeOf f.type) : Sem (Nat × Nat))).run P wx = .ok r wx ∧ ∀ (i : Nat) (f : Field) (n : Nat), l[i]? = some f → szT P f.type = some n → r[i]? = some (f.offset, n)
 | [], _ => ⟨[], rfl, fun i f n h => by simp at h⟩
 | f :: l, h => by
  obtain ⟨n, hn⟩ := h f (by simp)
  obtain ⟨r, hr, hs⟩ := mapM_places l (fun g hg => h g (by simp [hg]))
  refine ⟨(f.offset, n) :: r, ?_, ?_⟩
  ·simp only [List.mapM_cons, Sem.run_bind, run_sz hn, Result.andThen_ok, Sem.run_pure]
   rw [hr]; rfl
  ·intro i g m hg hm
   cases i with
   | zero => simp at hg; subst hg; rw [hn] at hm; cases hm; rfl
   | succ i => simp at hg; simpa using hs i g m hg hm
theorem run_build {P : Program} {t : TypeId} {fs : Array Field} {z : List Value} {parts : Array (Nat × Operand)} {ps : List (Nat × Nat × Operand)} {s : St} {a : Act} {qs : List (Nat × List Value)}
  (hu : P.underlying t = some (.struct fs)) (hz : cellsT P t = some z) (hf : fieldsAt P fs parts.toList = some ps) (hev : ∀ x v, s.ev x = some v → a.eval x = v)
  (hq : s.places ps = some qs) (hok : fillOk z.length qs = true) (wx : World) (hall : ∀ f ∈ fs.toList, ∃ n, szT P f.type = some n) :
  (Instr.build t (parts.map fun (i, x) => (i, a.eval x))).run P wx = .ok (.agg (fillL z qs).toArray) wx := by
 cases hzz : zeroT P t with
 | none => simp [cellsT, hzz] at hz
 | some zv =>
  have hzc : zv.cells.toList = z := by simpa [cellsT, hzz] using hz
  obtain ⟨r, hr, hs⟩ := mapM_places (P := P) (wx := wx) fs.toList hall
  simp only [Instr.build, Sem.run_bind, zero_run hzz, Result.andThen_ok, run_und hu]
  rw [Array.mapM_eq_mapM_toList]
  simp only [Sem.run_map, hr, Result.andThen_ok]
  have hfill := fill_spec (ps' := r.toArray) (P := P) (fs := fs) (fun i f n h1 h2 => by simpa using hs i f n (by simpa using h1) h2) hev parts.toList ps qs z hf hq hok
  have hzv : zv.cells = z.toArray := by rw [← hzc]
  have hparts : (parts.map fun (i, x) => (i, a.eval x)).toList = parts.toList.map fun (i, x) => (i, a.eval x) := by simp
  rw [hparts, hzv, hfill]
  rfl
theorem fill_specA {s : St} {a : Act} {sz : Nat} (hev : ∀ x v, s.ev x = some v → a.eval x = v) : ∀ (parts : List (Nat × Operand)) (qs : List (Nat × List Value)) (z : List Value),
  s.places (partsAt sz parts) = some qs → fillOk z.length qs = true →
  Instr.fill (fun i => some (i * sz, sz)) z.toArray (parts.map fun (i, x) => (i, a.eval x)) = some (fillL z qs).toArray
 | [], qs, z, h2, _ => by
  simp [St.places, partsAt] at h2; subst h2
  simp [Instr.fill, fillL]
 | (i, x) :: r, qs, z, h2, h3 => by
  rw [partsAt] at h2
  obtain ⟨v, rs, hv, hn, hrs, rfl⟩ := places_cons h2
  simp only [fillOk, Bool.and_eq_true] at h3
  have hle := Nat.le_of_ble_eq_true h3.1
  simp only [List.map_cons, Instr.fill, hev x v hv]
  have hsz : v.cells.size = sz := by simpa using hn
  rw [if_neg (by simp [hsz] at hle ⊢; omega)]
  rw [← Array.foldl_toList]
  have := splice_fold v.cells.toList (i * sz) 0 z.toArray (by simpa using hle)
  simp only [Array.toList_zipIdx]
  rw [this]
  simp only [fillL, Nat.add_zero]
  exact fill_specA hev r rs _ hrs (by
   have : (List.take (i * sz) z ++ v.cells.toList ++ List.drop (i * sz + v.cells.toList.length) z).length = z.length := by
    simp at hle ⊢; omega
   rw [this]; exact h3.2)
theorem run_buildA {P : Program} {t e : TypeId} {m sz : Nat} {z : List Value} {parts : Array (Nat × Operand)} {s : St} {a : Act} {qs : List (Nat × List Value)}
  (hu : P.underlying t = some (.array m e)) (hz : cellsT P t = some z) (hs : szT P e = some sz) (hev : ∀ x v, s.ev x = some v → a.eval x = v)
  (hq : s.places (partsAt sz parts.toList) = some qs) (hok : fillOk z.length qs = true) (wx : World) :
  (Instr.build t (parts.map fun (i, x) => (i, a.eval x))).run P wx = .ok (.agg (fillL z qs).toArray) wx := by
 cases hzz : zeroT P t with
 | none => simp [cellsT, hzz] at hz
 | some zv =>
  have hzc : zv.cells.toList = z := by simpa [cellsT, hzz] using hz
  simp only [Instr.build, Sem.run_bind, zero_run hzz, Result.andThen_ok, run_und hu, run_sz hs]
  have hfill := fill_specA (a := a) hev parts.toList qs z hq hok
  have hzv : zv.cells = z.toArray := by rw [← hzc]
  have hparts : (parts.map fun (i, x) => (i, a.eval x)).toList = parts.toList.map fun (i, x) => (i, a.eval x) := by simp
  rw [hparts, hzv, hfill]
  rfl
theorem keeps_of_load {t : TypeId} {x : Operand} {wx : World} (ho : o.op = .load t x) (h : indep o.op = true ∨ Keeps wa wx) : Keeps wa wx := by
 rcases h with h | h
 ·rw [ho] at h; cases h
 ·exact h
theorem light_sound {i : Ins} (hc : compileLight P o.op = some i) (hg : Good s a w wa) (h : vcLight i s w K) : LightOk P o a s wa K := by
 have hev : ∀ {x v}, s.ev x = some v → a.eval x = v := fun hv => hg.ag.ev hv
 have hevE : ∀ {x e}, s.evE x = some e → EVOk s (some e) (a.eval x) := fun hv => hg.ag.evE hv
 have lv : ∀ {v}, K (some (.v v)) s w → (∀ wx, (execOp a.eval o).run P wx = .ok (.value v) wx) → LightOk P o a s wa K := fun hk hr => lightOk_v hg hk hr
 unfold compileLight at hc
 split at hc
 case h_1 x ho | h_2 x ho =>
  cases hc
  simp only [vcLight] at h
  split at h <;> try exact h.elim
  rename_i e he
  exact ⟨a.eval x, some e, s, w, fun wx _ => by simp [execOp, ho], hg, hevE he, LFr.refl s, h⟩
 case h_3 c x y ho =>
  cases hc
  simp only [vcLight] at h
  split at h <;> try exact h.elim
  rename_i t h1
  rcases brB_elim h with ⟨ht, h⟩ | ⟨ht, h⟩
  ·split at h <;> try exact h.elim
   rename_i v hv
   exact lv h fun wx => by simp [execOp, ho, hev h1, ht, hev hv, asBool]
  ·split at h <;> try exact h.elim
   rename_i v hv
   exact lv h fun wx => by simp [execOp, ho, hev h1, ht, hev hv, asBool]
 case h_4 op t x y yt ho => exact bin_sound ho hc hg h
 case h_5 t x ho =>
  cases hc
  simp only [vcLight] at h
  split at h <;> try exact h.elim
  rename_i b h1
  exact lv h fun wx => by simp [execOp, ho, hev h1, Op.unary]
 case h_6 t x ho =>
  cases hc
  simp only [vcLight] at h
  split at h <;> try exact h.elim
  rename_i k n h1
  exact lv h fun wx => by simp [execOp, ho, hev h1, Op.unary, Op.intArith]
 case h_7 src dst x ho =>
  split at hc <;> try cases hc
  rename_i ks kd hs hd
  simp only [vcLight] at h
  split at h <;> try exact h.elim
  rename_i k n h1
  refine lv h fun wx => ?_
  simp [execOp, ho, hev h1, convert, run_und hs, run_und hd, Conv.intToInt]
 case h_8 x ho =>
  cases hc
  simp only [vcLight] at h
  split at h <;> try exact h.elim
  ·rename_i p h1
   obtain ⟨b, rfl, h⟩ := nn_some h
   have := hevE h1
   exact lv h fun wx => by simp [execOp, ho, show a.eval x = _ from this]
  ·rename_i fn f c h1
   have := hevE h1
   split at h <;> try exact h.elim
   ·exact lv h fun wx => by simp [execOp, ho, show a.eval x = _ from this]
   ·exact lv h fun wx => by simp [execOp, ho, show a.eval x = _ from this]
  ·rename_i k off h1
   obtain ⟨b, cs, hm, he⟩ := hevE h1
   exact ⟨.pointer (some ⟨b, off, none⟩), some (.loc k off), s, w, fun wx _ => by simp [execOp, ho, he], hg, ⟨b, cs, hm, rfl⟩, LFr.refl s, h⟩
 case h_9 t x f ho =>
  split at hc <;> try cases hc
  rename_i fs hu
  split at hc <;> try cases hc
  rename_i fd hf
  split at hc <;> try cases hc
  rename_i n hn
  split at hc <;> cases hc
  rename_i h0
  simp only [vcLight] at h
  have run : ∀ y wx, a.eval x = .pointer (some y) → (execOp a.eval o).run P wx = .ok (.value (.pointer (some (y.add fd.offset)))) wx := by
   intro y wx he
   simp [execOp, ho, Instr.fieldAt, run_und hu, hf, he, Instr.sureAddr, fieldPlace_run hn h0]
  split at h <;> try exact h.elim
  ·rename_i p h1
   obtain ⟨b, rfl, h⟩ := nn_some h
   exact lv h fun wx => run _ wx (hevE h1)
  ·rename_i k off h1
   obtain ⟨b, cs, hm, he⟩ := hevE h1
   exact ⟨_, some (.loc k (off + fd.offset)), s, w, fun wx _ => run _ wx he, hg, ⟨b, cs, hm, by rw [loc_add]⟩, LFr.refl s, h⟩
 case h_10 t x ix ho =>
  split at hc <;> try cases hc
  ·rename_i e hu
   cases hz : szT P e with
   | none => rw [hz] at hc; cases hc
   | some sz =>
    rw [hz] at hc; cases hc
    simp only [vcLight] at h
    split at h <;> try exact h.elim
    rename_i base len cap ki i h1 h2
    obtain ⟨h0, hlt, y, rfl, h⟩ := h
    exact lv h fun wx => by simp [execOp, ho, Instr.indexAt, hev h1, hev h2, asIntOf, run_und hu, run_sz hz, h0, hlt]
  ·rename_i n e hu
   split at hc <;> try cases hc
   rename_i hn1
   cases hz : szT P e with
   | none => rw [hz] at hc; cases hc
   | some sz =>
    rw [hz] at hc; cases hc
    simp only [vcLight] at h
    split at h <;> try exact h.elim
    rename_i p ki i h1 h2
    obtain ⟨y, rfl, h0, hlt, h⟩ := nn_some h
    exact lv h fun wx => by simp [execOp, ho, Instr.indexAt, hev h1, hev h2, asIntOf, run_und hu, run_sz hz, h0, hlt, Instr.sureAddr]
 case h_11 t x ho =>
  split at hc <;> try cases hc
  ·rename_i z hagg hz
   simp only [vcLight] at h
   split at h <;> try exact h.elim
   ·rename_i p h1
    obtain ⟨y, rfl, h⟩ := nn_some h
    have h := hg.sync h
    obtain ⟨v, hcell, hk⟩ := Sc.ex_some h
    refine ⟨v, some (.v v), s.clean, wa, fun wx hwx0 => ?_, hg.ag.good, rfl, LFr.of_eq rfl rfl, hk⟩
    have hwx := keeps_of_load ho hwx0
    have := hevE h1
    simp only [execOp, ho, show a.eval x = _ from this, Instr.loadAt, Instr.sureAddr, Sem.run_bind, Sem.run_pure, Result.andThen_ok, run_loadVar_sc hagg (hwx _ _ hcell)]
   ·rename_i k off h1
    obtain ⟨b, cs, hm, he⟩ := hevE h1
    split at h <;> try exact h.elim
    rename_i b' cs' hl
    rw [look_of_mem hg.ag.lok.keys hm] at hl
    cases hl
    split at h <;> try exact h.elim
    rename_i v hv
    obtain ⟨hlt, e, hb⟩ := hg.ag.lok.at_ _ _ _ hm
    refine ⟨v, some (.v v), s, w, fun wx hwx0 => ?_, hg, rfl, LFr.refl s, h⟩
    have hwx := keeps_of_load ho hwx0
    simp only [execOp, ho, he, Instr.loadAt, Instr.sureAddr, Sem.run_bind, Sem.run_pure, Result.andThen_ok, run_loadVar_sc hagg (hwx _ _ (cell_of_block hb hv))]
  ·rename_i n cs hagg hsz hz
   split at hc <;> try cases hc
   rename_i hn
   have hn' : n = cs.toList.length := by simpa using Nat.eq_of_beq_eq_true hn
   rcases aggSh_cases cs with hsh | hsh <;> rw [hsh] at h <;> simp only [vcLight] at h
   rotate_left
   ·split at h <;> try exact h.elim
    ·rename_i p h1
     obtain ⟨y, rfl, h⟩ := nn_some h
     have h := hg.sync h
     obtain ⟨vs, hlen, hcell, hk⟩ := h
     refine ⟨.agg vs.toArray, some (.v (.agg vs.toArray)), s.clean, wa, fun wx hwx0 => ?_, hg.ag.good, rfl, LFr.of_eq rfl rfl, hk⟩
     have hwx := keeps_of_load ho hwx0
     have := hevE h1
     simp only [execOp, ho, show a.eval x = _ from this, Instr.loadAt, Instr.sureAddr, Sem.run_bind, Sem.run_pure, Result.andThen_ok]
     rw [run_loadVar_agg hagg (by rw [hsz, hn', hlen]; simp) (fun j v hj => hwx _ _ (hcell j v hj))]
     rfl
    ·split at h <;> exact h.elim
   split at h <;> try exact h.elim
   ·rename_i p h1
    obtain ⟨y, rfl, h⟩ := nn_some h
    have h := hg.sync h
    obtain ⟨vs, hlen, h⟩ := exL_some h
    obtain ⟨hcell, hk⟩ := cellsAt_spec h
    refine ⟨.agg vs.toArray, some (.v (.agg vs.toArray)), s.clean, wa, fun wx hwx0 => ?_, hg.ag.good, rfl, LFr.of_eq rfl rfl, hk⟩
    have hwx := keeps_of_load ho hwx0
    have := hevE h1
    simp only [execOp, ho, show a.eval x = _ from this, Instr.loadAt, Instr.sureAddr, Sem.run_bind, Sem.run_pure, Result.andThen_ok]
    rw [run_loadVar_agg hagg (by rw [hsz, hn', hlen]; simp) (fun j v hj => hwx _ _ (by simpa using hcell j v hj))]
    rfl
   ·rename_i k off h1
    obtain ⟨b, ls, hm, he⟩ := hevE h1
    split at h <;> try exact h.elim
    rename_i b' cs' hl
    rw [look_of_mem hg.ag.lok.keys hm] at hl
    cases hl
    split at h <;> try exact h.elim
    rename_i hle
    have hle := Nat.le_of_ble_eq_true hle
    obtain ⟨hlt, e, hb⟩ := hg.ag.lok.at_ _ _ _ hm
    refine ⟨_, some (.v (.agg ((ls.drop off).take (cs.toList.map scIn).length).toArray)), s, w, fun wx hwx0 => ?_, hg, rfl, LFr.refl s, h⟩
    have hwx := keeps_of_load ho hwx0
    simp only [execOp, ho, he, Instr.loadAt, Instr.sureAddr, Sem.run_bind, Sem.run_pure, Result.andThen_ok]
    rw [run_loadVar_agg (vs := (ls.drop off).take (cs.toList.map scIn).length) hagg (by rw [hsz, hn']; simp at hle ⊢; omega) (fun j v hj => hwx _ _ (by
     rw [loc_add]
     refine cell_of_block hb ?_
     rw [List.getElem?_take] at hj
     split at hj
     ·rw [List.getElem?_drop] at hj; exact hj
     ·cases hj))]
    rfl
 case h_12 t x lo hi ho =>
  split at hc <;> try cases hc
  ·rename_i e hu
   cases hz : szT P e with
   | none => rw [hz] at hc; cases hc
   | some sz =>
    rw [hz] at hc; cases hc
    simp only [vcLight] at h
    split at h <;> try exact h.elim
    rename_i base len cap h1
    split at h <;> try exact h.elim
    rename_i kl l kh hh e1 e2
    obtain ⟨h0, h1', h2', h⟩ := h
    refine lv h fun wx => ?_
    have hlo : ∀ v, s.evOr (.int .i64 0) lo = some v → (lo.map a.eval = none ∧ v = .int .i64 0) ∨ lo.map a.eval = some v := by
     intro v hv; cases lo with
     | none => simp [St.evOr] at hv; exact .inl ⟨rfl, hv.symm⟩
     | some o => simp [St.evOr] at hv; exact .inr (by simp [hev hv])
    have hhi : ∀ v, s.evOr (.int .i64 len) hi = some v → (hi.map a.eval = none ∧ v = .int .i64 len) ∨ hi.map a.eval = some v := by
     intro v hv; cases hi with
     | none => simp [St.evOr] at hv; exact .inl ⟨rfl, hv.symm⟩
     | some o => simp [St.evOr] at hv; exact .inr (by simp [hev hv])
    have sb : ∀ (k : IntKind) (i : Int) (y : Nat) (code : BoundsCode) (wx : World), 0 ≤ i → i ≤ y → (Instr.sliceBound (.int k i) y code).run P wx = .ok i.toNat wx := by
     intro k i y code wx h0 h1
     simp [Instr.sliceBound, asIntOf, h0, h1]
    simp only [execOp, ho, Option.map_none, hev h1, Instr.sliceAt, Sem.run_bind, run_und hu, Result.andThen_ok, Instr.slice, Instr.sliceBounds, Sem.run_pure]
    rcases hlo _ e1 with ⟨e1', ev1⟩ | e1' <;> rcases hhi _ e2 with ⟨e2', ev2⟩ | e2'
    ·cases ev1; cases ev2
     simp [e1', e2', run_sz hz, slcBase]
    ·cases ev1
     simp [e1', e2', run_sz hz, slcBase, sb _ _ _ _ _ h1' h2']
    ·cases ev2
     simp [e1', e2', run_sz hz, slcBase, sb _ _ _ _ _ h0 h1']
    ·simp [e1', e2', slcBase, sb _ _ _ _ _ (Int.le_trans h0 h1') h2']
     rw [sb _ _ _ _ _ h0 (by omega)]
     simp [run_sz hz]
  ·rename_i n e hu
   cases hz : szT P e with
   | none => rw [hz] at hc; cases hc
   | some sz =>
    rw [hz] at hc; cases hc
    simp only [vcLight] at h
    split at h <;> try exact h.elim
    rename_i p h1
    obtain ⟨y, rfl, h⟩ := nn_some h
    split at h <;> try exact h.elim
    rename_i kl l kh hh e1 e2
    obtain ⟨h0, h1', h2', h⟩ := h
    refine lv h fun wx => ?_
    have hlo : ∀ v, s.evOr (.int .i64 0) lo = some v → (lo.map a.eval = none ∧ v = .int .i64 0) ∨ lo.map a.eval = some v := by
     intro v hv; cases lo with
     | none => simp [St.evOr] at hv; exact .inl ⟨rfl, hv.symm⟩
     | some o => simp [St.evOr] at hv; exact .inr (by simp [hev hv])
    have hhi : ∀ v, s.evOr (.int .i64 n) hi = some v → (hi.map a.eval = none ∧ v = .int .i64 n) ∨ hi.map a.eval = some v := by
     intro v hv; cases hi with
     | none => simp [St.evOr] at hv; exact .inl ⟨rfl, hv.symm⟩
     | some o => simp [St.evOr] at hv; exact .inr (by simp [hev hv])
    have sb : ∀ (k : IntKind) (i : Int) (y : Nat) (code : BoundsCode) (wx : World), 0 ≤ i → i ≤ y → (Instr.sliceBound (.int k i) y code).run P wx = .ok i.toNat wx := by
     intro k i y code wx h0 h1
     simp [Instr.sliceBound, asIntOf, h0, h1]
    simp only [execOp, ho, Option.map_none, hev h1, Instr.sliceAt, Sem.run_bind, run_und hu, Result.andThen_ok, Instr.sureAddr, Instr.sliceBounds, Sem.run_pure]
    rcases hlo _ e1 with ⟨e1', ev1⟩ | e1' <;> rcases hhi _ e2 with ⟨e2', ev2⟩ | e2'
    ·cases ev1; cases ev2
     simp [e1', e2', run_sz hz, slcBase]
     split <;> rfl
    ·cases ev1
     simp [e1', e2', run_sz hz, slcBase, sb _ _ _ _ _ h1' h2']
     split <;> rfl
    ·cases ev2
     simp [e1', e2', run_sz hz, slcBase, sb _ _ _ _ _ h0 h1']
     split <;> rfl
    ·simp [e1', e2', slcBase, sb _ _ _ _ _ (Int.le_trans h0 h1') h2']
     rw [sb _ _ _ _ _ h0 (by omega)]
     simp [run_sz hz]
     split <;> rfl
 case h_13 x i ho =>
  cases hc
  simp only [vcLight] at h
  split at h <;> try exact h.elim
  rename_i vs h1
  split at h <;> try exact h.elim
  rename_i v hv
  exact lv h fun wx => by
   have : vs[i]? = some v := by simpa using hv
   simp [execOp, ho, hev h1, Instr.extract, this]
 case h_14 t parts ho =>
  split at hc <;> try cases hc
  rename_i fs z hu hz
  split at hc <;> try cases hc
  rename_i hall
  cases hf : fieldsAt P fs parts.toList with
  | none => rw [hf] at hc; cases hc
  | some ps =>
   rw [hf] at hc; cases hc
   simp only [vcLight] at h
   split at h <;> try exact h.elim
   rename_i qs hq
   split at h <;> try exact h.elim
   rename_i hok
   refine lv h fun wx => ?_
   rw [show (execOp a.eval o).run P wx = _ from by simp only [execOp, ho]; rfl]
   simp only [Sem.run_bind, Sem.run_pure]
   rw [run_build hu hz hf (fun x v => hev) hq hok wx (fun f hf => by simpa [Option.isSome_iff_exists] using List.all_eq_true.1 hall f hf)]
   rfl
  rename_i m e z hu hz
  cases hs : szT P e with
  | none => rw [hs] at hc; cases hc
  | some sz =>
   rw [hs] at hc; cases hc
   simp only [vcLight] at h
   split at h <;> try exact h.elim
   rename_i qs hq
   split at h <;> try exact h.elim
   rename_i hok
   refine lv h fun wx => ?_
   rw [show (execOp a.eval o).run P wx = _ from by simp only [execOp, ho]; rfl]
   simp only [Sem.run_bind, Sem.run_pure]
   rw [run_buildA hu hz hs (fun x v => hev) hq hok wx]
   rfl
 case h_15 t x ho =>
  split at hc <;> try cases hc
  rename_i d hne hu
  simp only [vcLight, St.evs] at h
  split at h <;> try exact h.elim
  rename_i vs hvs
  split at hvs <;> try cases hvs
  rename_i v1 vs1 h1 h2
  cases h2
  simp only [purG] at h
  refine lv h fun wx => ?_
  simp only [execOp, ho, Instr.makeInterface, hev h1, Sem.run_bind, run_und hu, Result.andThen_ok]
  cases d <;> first | rfl | exact (hne _ rfl).elim
 case h_16 x xt t ok ho =>
  split at hc <;> try cases hc
  rename_i d z hu hz
  split at hc <;> try cases hc
  rename_i hif
  simp only [vcLight, St.evs] at h
  split at h <;> try exact h.elim
  rename_i vs hvs
  split at hvs <;> try cases hvs
  rename_i v1 vs1 h1 h2
  cases h2
  simp only [purG] at h
  have hne : ∀ ms, d ≠ .interface ms := fun ms e => by subst e; cases hif
  rcases h with h | ⟨hi1, hi2, h⟩
  ·obtain ⟨y, he, hk⟩ := Sh.ex_some h
   subst he
   refine lv hk fun wx => ?_
   simp only [execOp, ho, Instr.typeAssert, hev h1, Sem.run_bind, run_und hu, Result.andThen_ok]
   cases d <;> first | (simp; done) | exact absurd rfl (hne _)
  ·refine lv h fun wx => ?_
   simp only [execOp, ho, Instr.typeAssert, hev h1, Sem.run_bind, run_und hu, Result.andThen_ok]
   unfold isIfV at hi1
   split at hi1
   ·cases d <;> first | (simp [zero_run hz]; done) | exact absurd rfl (hne _)
   ·rename_i t' v'
    have hte : t' ≠ t := fun e => hi2 v' (by rw [e])
    cases d <;> first | (simp [zero_run hz, hte]; done) | exact absurd rfl (hne _)
   ·cases hi1
 case h_17 fn first caps ho =>
  split at hc <;> try cases hc
  rename_i hf
  simp only [vcLight] at h
  split at h <;> try exact h.elim
  rename_i vs hvs
  have h1 := hg.ag.evs hvs
  refine lv h fun wx => ?_
  have hfirst : first = #[] := by cases first; simpa using hf
  have : caps.map a.eval = vs.toArray := by rw [← h1]; cases caps; simp
  simp [execOp, ho, Instr.makeFunc, hfirst, this]
 case h_18 c ho =>
  have hb : ∀ b, c.callee = .builtin b → ∀ wx, (execOp a.eval o).run P wx = (builtin b c.argTypes o.type (c.args.map fun | .const _ => true | _ => false) (c.args.map a.eval)).run P wx := by
   intro b hb wx
   simp [execOp, ho, resolve, hb, invoke]
   rfl
  have hargs : ∀ l, c.args.toList = l → c.args = l.toArray := fun l hl => by cases c with | mk x y z => cases y; simp_all
  have htys : ∀ l, c.argTypes.toList = l → c.argTypes = l.toArray := fun l hl => by cases c with | mk x y z => cases z; simp_all
  split at hc
  case h_1 hcal =>
   split at hc <;> try cases hc
   rename_i x t hx ht
   split at hc <;> cases hc
   ·rename_i e hu
    simp only [vcLight] at h
    split at h <;> try exact h.elim
    ·rename_i p n cp h1
     refine lv h fun wx => ?_
     rw [hb _ hcal]
     simp [builtin, Builtin.len_, hargs _ hx, htys _ ht, hev h1, run_und hu, goInt]
   ·rename_i hu
    simp only [vcLight] at h
    split at h <;> try exact h.elim
    ·rename_i b h1
     refine lv h fun wx => ?_
     rw [hb _ hcal]
     simp [builtin, Builtin.len_, hargs _ hx, htys _ ht, hev h1, run_und hu, goInt]
  case h_2 hcal =>
   split at hc <;> cases hc
   rename_i x y hx
   simp only [vcLight] at h
   split at h <;> try exact h.elim
   rename_i k m k' n h1 h2
   refine lv h fun wx => ?_
   rw [hb _ hcal]
   have : (if n < m then n else m) = min m n := by split <;> omega
   simp [builtin, Builtin.min_, Builtin.min2, hargs _ hx, hev h1, hev h2, this]
  case h_3 hcal =>
   split at hc <;> cases hc
   rename_i x y hx
   simp only [vcLight] at h
   split at h <;> try exact h.elim
   rename_i k m k' n h1 h2
   refine lv h fun wx => ?_
   rw [hb _ hcal]
   have : (if m < n then n else m) = max m n := by split <;> omega
   simp [builtin, Builtin.max_, Builtin.max2, hargs _ hx, hev h1, hev h2, this]
  case h_4 => cases hc
 case h_19 t x lo hi mx ho =>
  split at hc <;> try cases hc
  rename_i e hu
  cases hz : szT P e with
  | none => rw [hz] at hc; cases hc
  | some sz =>
   rw [hz] at hc; cases hc
   simp only [vcLight] at h
   split at h <;> try exact h.elim
   rename_i base len cap h1
   split at h <;> try exact h.elim
   rename_i kl l kh hh km m e1 e2 e3
   obtain ⟨m0, m1, h0, h1', h2', h⟩ := h
   refine lv h fun wx => ?_
   have hlo : ∀ v, s.evOr (.int .i64 0) lo = some v → (lo.map a.eval = none ∧ v = .int .i64 0) ∨ lo.map a.eval = some v := by
    intro v hv; cases lo with
    | none => simp [St.evOr] at hv; exact .inl ⟨rfl, hv.symm⟩
    | some o => simp [St.evOr] at hv; exact .inr (by simp [hev hv])
   have sb : ∀ (k : IntKind) (i : Int) (y : Nat) (code : BoundsCode) (wx : World), 0 ≤ i → i ≤ y → (Instr.sliceBound (.int k i) y code).run P wx = .ok i.toNat wx := by
    intro k i y code wx h0 h1
    simp [Instr.sliceBound, asIntOf, h0, h1]
   simp only [execOp, ho, Option.map_some, hev h1, hev e2, hev e3, Instr.sliceAt, Sem.run_bind, run_und hu, Result.andThen_ok, Instr.slice, Instr.sliceBounds, Sem.run_pure]
   rcases hlo _ e1 with ⟨e1', ev1⟩ | e1'
   ·cases ev1
    simp [e1', run_sz hz, slcBase, sb _ _ _ _ _ m0 m1, sb _ _ _ _ _ (Int.le_trans h0 h1') h2']
   ·simp [e1', slcBase, sb _ _ _ _ _ m0 m1, sb _ _ _ _ _ (Int.le_trans h0 h1') h2']
    rw [sb _ _ _ _ _ h0 (by omega)]
    simp [run_sz hz]
 case h_20 t x ix ho =>
  split at hc <;> try cases hc
  ·rename_i n e hu
   split at hc <;> try cases hc
   rename_i z hagg hsz hz
   simp only [vcLight, St.evs] at h
   split at h <;> try exact h.elim
   rename_i vs hvs
   split at hvs <;> try cases hvs
   rename_i v1 vs1 h1 h2
   split at h2 <;> try cases h2
   rename_i v2 vs2 h3 h4
   cases h4
   simp only [purG] at h
   split at h <;> try exact h.elim
   all_goals first | (rename_i hp _; cases hp; done) | skip
   rename_i sc m xs ki i hp hv
   cases hp
   cases hv
   obtain ⟨h0, h1', h⟩ := h
   obtain ⟨v, hget, hk⟩ := Sc.ex_some h
   refine lv hk fun wx => ?_
   have hget' : xs[i.toNat]? = some v := by simpa using hget
   simp [execOp, ho, Instr.index, hev h1, hev h3, asIntOf, run_und hu, h0, h1', part, run_agg hagg, run_sz hsz, hget']
  ·rename_i hu
   simp only [vcLight, St.evs] at h
   split at h <;> try exact h.elim
   rename_i vs hvs
   split at hvs <;> try cases hvs
   rename_i v1 vs1 h1 h2
   split at h2 <;> try cases h2
   rename_i v2 vs2 h3 h4
   cases h4
   simp only [purG] at h
   split at h <;> try exact h.elim
   all_goals first | (rename_i hp _; cases hp; done) | skip
   rename_i b ki i hp hv
   cases hv
   obtain ⟨h0, h1', h⟩ := h
   refine lv h fun wx => ?_
   have hlt : i.toNat < b.size := by omega
   have hget : b[i.toNat]? = some b[i.toNat] := by simp [hlt]
   simp [execOp, ho, Instr.index, hev h1, hev h3, asIntOf, run_und hu, h0, sixAt, hget]
 case h_21 => cases hc
end
end Go.Vc
