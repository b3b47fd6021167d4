/- A calculus of conditions over codes, part 2: heavy instructions (memory, calls) and why they are right. -/
import Derived.Laws.BytesString
import Derived.Test.YtiiaihiliimcoaaRPA1
set_option linter.unusedVariables false
set_option linter.unusedSimpArgs false
namespace Go.Vc
open Go.RowKit
/-- these blocks, if there are any, are az they were -/
def keepB (bs : List Nat) (w w' : World) (K : Prop) : Prop :=
 match bs with
 | [] => K
 | _ => Keep bs w w' ∧ K
structure Put (D : Nat) (w w' : World) : Prop where
 os : w'.os = w.os
 tape : w'.tape = w.tape
 output : w'.output = w.output
 size : w'.heap.size = w.heap.size
 block : ∀ k, k ≠ D → w'.heap[k]? = w.heap[k]?
def shutW : List Nat → World → (World → Prop) → Prop
 | [], w, F => F w
 | D :: r, w, F => ∀ w', Put D w w' → shutW r w' F
def notIn (l : List (Nat × Nat × List Value)) (b : Nat) (K : Prop) : Prop :=
 match l with
 | [] => K
 | _ => b ∉ blocks l ∧ K
def setCells : World → Addr → List Value → Nat → World
 | w, _, [], _ => w
 | w, a, v :: vs, i => setCells (w.setCell (a.add i) v) a vs (i + 1)
def canSet (w : World) (a : Addr) : List Value → Nat → Prop → Prop
 | [], _, K => K
 | v :: vs, i, K => (∃ u, w.cell? (a.add i) = some u) ∧ w.frozen? (a.add i) = false ∧ canSet w a vs (i + 1) K
def CanSet (w : World) (a : Addr) (n : Nat) : Prop := ∀ j, j < n → (∃ u, w.cell? (a.add j) = some u) ∧ w.frozen? (a.add j) = false
def canSetN (n : Nat) (w : World) (a : Addr) (vs : List Value) (K : Prop) : Prop := match Nat.ble n 24 with | true => canSet w a vs 0 K | false => CanSet w a n ∧ K
def CellsAre (w : World) (base : Option Addr) (vs : List Value) : Prop := ∀ j v, vs[j]? = some v → ∃ a, base = some a ∧ w.cell? (a.add j) = some v
def mkCells (zero : List Value) (c : Nat) : Array Value := (Array.range (c * zero.length)).map fun i => zero.toArray[i % zero.toArray.size]!
def oneAll (vs : List Value) : Bool := vs.all Value.oneCell'
def flAnd (fl : Bool) (w w' : World) (K : Prop) : Prop := match fl with | true => Keeps w w' ∧ K | false => K
def noFl (fl : Bool) (K : Prop) : Prop := match fl with | true => False | false => K
def appVC (w : World) (l : List (Nat × Nat × List Value)) (base : Option Addr) (len cap n sz bytes : Nat) (elem : TypeId) (zero fs : List Value) (F : Option Addr → Nat → Nat → World → Prop) : Prop :=
 (len + n ≤ cap → (fs = [] ∧ F base (len + n) cap w) ∨
  ∃ a, base = some a ∧ CanSet w (a.add (len * sz)) fs.length ∧ notIn l a.block (F base (len + n) cap (setCells w (a.add (len * sz)) fs 0))) ∧
 (cap < len + n → (len + n) * bytes ≤ 2 ^ 47 ∧ len + n < 2 ^ 62 ∧ ∃ old, old.length = len * sz ∧ CellsAre w base old ∧
  ∀ cap' b w', len + n ≤ cap' → New w.drew (.cells (old ++ fs ++ (mkCells zero (cap' - (len + n))).toList).toArray elem (0, 0)) b w' → F (some ⟨b, 0, none⟩) (len + n) cap' w')
def FnOk (P : Program) (f : FuncId) : Bool :=
 match P.funcs[f]? with
 | some fn => !(fn.name == "runtime.NumGoroutine") && fn.body.isSome
 | none => false
def callF (P : Program) (fv : Value) (vs : List Value) (w : World) (R : Ending → World → Prop) : Prop :=
 match fv with
 | .func fn first caps => match fn with
  | .func f => match FnOk P f with
   | true => Calls P f (first.toList ++ vs ++ caps.toList).toArray w R
   | false => False
  | _ => False
 | _ => False
def callV (P : Program) (fv : Value) (vs : List Value) (w : World) (R : Ending → World → Prop) : Prop :=
 match fv with
 | .func fn first caps => match fn with
  | .func f => match FnOk P f with
   | true => Calls P f (first.toList ++ vs ++ caps.toList).toArray w R
   | false => False
  | .yield l => YieldAt Fence.wide 0 P l (first.toList ++ vs).toArray w R
  | _ => False
 | _ => False
def rets (sh : List Sh) (pn : Bool) (X : List PanicEntry → World → Prop) (K : Value → World → Prop) (e : Ending) (w' : World) : Prop :=
 match pn with
 | false => exR sh fun v => e = .returned v ∧ K v w'
 | true => (exR sh fun v => e = .returned v ∧ K v w') ∨ ∃ ch, e = .panicked ch ∧ X ch w'
def opt0 (zero : List Value) (s : St) : Option Operand → Option (List Value)
 | none => some zero
 | some x => (s.ev x).map (·.cells.toList)
def partsOf (s : St) (sz : Nat) : List (Nat × Operand) → Option (List (Nat × Value))
 | [] => some []
 | (i, x) :: r => match s.ev x, partsOf s sz r with | some v, some vs => some ((i, v) :: vs) | _, _ => none
def lay (sz : Nat) (cells : List Value) : List (Nat × Value) → List Value
 | [] => cells
 | (i, v) :: r => lay sz (cells.take (i * sz) ++ v.cells.toList ++ cells.drop (i * sz + sz)) r
def layOk (sz n : Nat) : List (Nat × Value) → Bool
 | [] => true
 | (i, v) :: r => Nat.beq v.cells.toList.length sz && Nat.ble (i * sz + sz) n && layOk sz n r
def rep (n : Nat) (zero : List Value) : List Value := match n with | 0 => [] | n + 1 => zero ++ rep n zero
def fitK : List IntKind → List Value → Bool
 | [], [] => true
 | k :: ks, .int k' _ :: vs => decide (k = k') && fitK ks vs
 | _, _ => false
def keyOk (kd : Kd) (v : Value) : Bool :=
 match kd, v with
 | .int k, .int k' _ => decide (k = k')
 | .str, .string _ => true
 | .agg ks, .agg xs => fitK ks xs.toList
 | _, _ => false
def keyEq (u v : Value) : Bool :=
 match u, v with
 | .int _ a, .int _ b => decide (a = b)
 | .string a, .string b => decide (a = b)
 | .agg xs, .agg ys => match aeqL xs.toList ys.toList with | some r => r | none => false
 | _, _ => false
def mfind (key : Value) : List (Value × Value) → Option Value
 | [] => none
 | (k, v) :: r => match keyEq key k with | true => some v | false => mfind key r
def mput (key val : Value) : List (Value × Value) → List (Value × Value)
 | [] => [(key, val)]
 | (k, v) :: r => match keyEq key k with | true => (key, val) :: r | false => (k, v) :: mput key val r
def mgot (kvs : List (Value × Value)) (key zero : Value) : Value × Bool := match mfind key kvs with | some v => (v, true) | none => (zero, false)
def kv (e : MapEntry) : Value × Value := (e.key, e.val)
def Mp (kd : Kd) (w : World) (b : Nat) (kvs : List (Value × Value)) : Prop :=
 (∃ es clock, w.heap[b]? = some (.map es clock) ∧ es.toList.map kv = kvs) ∧ ∀ x ∈ kvs, keyOk kd x.1 = true
def mapIn (kd : Kd) (w : World) (m : Value) (G : List (Value × Value) → Prop) : Prop :=
 match m with
 | .map none => G []
 | .map (some b) => ∃ kvs, Mp kd w b kvs ∧ G kvs
 | _ => False
def mapTo (kd : Kd) (w : World) (m : Value) (G : Nat → List (Value × Value) → Prop) : Prop :=
 match m with
 | .map (some b) => ∃ kvs, Mp kd w b kvs ∧ G b kvs
 | _ => False
def kindsOf (P : Program) : List Field → Option (List IntKind)
 | [] => some []
 | f :: r => match P.underlying f.type, kindsOf P r with
  | some (.int k), some ks => some (k :: ks)
  | _, _ => none
def kdOf (P : Program) (kt : TypeId) : Option Kd :=
 match P.underlying kt with
 | some (.int k) => some (.int k)
 | some .string => some .str
 | some (.struct fs) => match intFields P fs.toList 0 && !P.stoodInHeld kt with
  | true => (kindsOf P fs.toList).map .agg
  | false => none
 | _ => none
def exZ (z : Value) (sh : List Sh) (F : Value → Prop) : Prop := match z with
 | .nilFunc => F .nilFunc ∨ ∃ (f : FuncId) (a c : Array Value), F (.func (.func f) a c)
 | _ => exR sh F
theorem exZ_some {z : Value} {sh : List Sh} {F : Value → Prop} (h : exZ z sh F) : ∃ v, F v := by
 unfold exZ at h
 split at h
 ·rcases h with h | ⟨f, a, c, h⟩
  ·exact ⟨_, h⟩
  ·exact ⟨_, h⟩
 ·exact exR_some h
structure Mk (D : Nat) (w w' : World) : Prop where
 put : Put D w w'
 cell : ∀ a, w'.cell? a = w.cell? a
def bstrOf (xs : List Int) : ByteArray := xs.foldl (fun r n => r.push (UInt8.ofNat n.toNat)) ByteArray.empty
def vcHeavy (P : Program) (pn fl : Bool) (X : List PanicEntry → World → Prop) (i : Ins) (s : St) (w : World) (K : Option EV → St → World → Prop) : Prop :=
 match i with
 | .st x v n => noFl fl <| match s.ev v with
  | some val => brB (oneAll val.cells.toList && Nat.beq val.cells.toList.length n)
   (match s.evE x with
    | some (.v (.pointer p)) => nn p fun a => sync s w fun w => canSetN n w a val.cells.toList (notIn s.l a.block (K none s.clean (setCells w a val.cells.toList 0)))
    | some (.loc k off) => match look k s.l with
     | some (_, cs) => match Nat.ble (off + val.cells.toList.length) cs.length && !s.ro.any (Nat.beq k) with
      | true => K none { s with l := change k (fun cs => cs.take off ++ val.cells.toList ++ cs.drop (off + val.cells.toList.length)) s.l, dirty := true } w
      | false => False
     | none => False
    | _ => False) False
  | none => False
 | .boxV elem zero x => match opt0 zero s x with
  | some vs => sync s w fun w => ∀ b w', New w (.cells vs.toArray elem (0, 0)) b w' → K (some (.v (.pointer (some ⟨b, 0, none⟩)))) s.clean w'
  | none => False
 | .boxL k elem zero x => match opt0 zero s x, look k s.l with
  | some vs, none => ∀ b, w.heap.size ≤ b → K (some (.loc k 0)) { s with l := (k, b, vs) :: s.l, dirty := true } w
  | _, _ => False
 | .bslV elem sz n zero parts => match partsOf s sz parts with
  | some ps => match layOk sz (n * sz) ps && Nat.beq zero.length sz with
   | true => sync s w fun w => ∀ b w', New w (.cells (lay sz (rep n zero) ps).toArray elem (0, 0)) b w' → K (some (.v (.slice (some ⟨b, 0, none⟩) n n))) s.clean w'
   | false => False
  | none => False
 | .bslL k elem sz n zero parts => match partsOf s sz parts, look k s.l with
  | some ps, none => match layOk sz (n * sz) ps && Nat.beq zero.length sz with
   | true => ∀ b, w.heap.size ≤ b → K (some (.lsl k n)) { s with l := (k, b, lay sz (rep n zero) ps) :: s.l, dirty := true } w
   | false => False
  | _, _ => False
 | .mksl elem bytes zero l c => match s.ev l, s.ev c with
  | some (.int _ l), some (.int _ c) => sync s w fun w => 0 ≤ l ∧ l ≤ c ∧ c * bytes ≤ 2 ^ 48 ∧ c < 2 ^ 62 ∧
   ∀ b w', New w (.cells (mkCells zero c.toNat) elem (0, 0)) b w' → K (some (.v (.slice (some ⟨b, 0, none⟩) l.toNat c.toNat))) s.clean w'
  | _, _ => False
 | .app elem sz bytes zero x y => match s.ev x with
  | some (.slice base len cap) => match s.evE y with
   | some (.lsl k n) => match look k s.l with
    | some (_, fs) => brB (oneAll fs && Nat.beq fs.length (n * sz))
     (sync s w fun w => appVC w s.l base len cap n sz bytes elem zero fs fun b n c w' => flAnd fl w w' (K (some (.v (.slice b n c))) s.clean w'))
     False
    | none => False
   | some (.v (.slice base2 n _)) => sync s w fun w => ∃ fs, fs.length = n * sz ∧ oneAll fs = true ∧ CellsAre w base2 fs ∧
     appVC w s.l base len cap n sz bytes elem zero fs fun b n c w' => flAnd fl w w' (K (some (.v (.slice b n c))) s.clean w')
   | _ => False
  | _ => False
 | .appz elem sz bytes zero x y => match s.ev x, s.ev y with
  | some (.slice base len cap), some (.int _ n) => sync s w fun w => 0 ≤ n ∧ n * bytes ≤ 2 ^ 48 ∧ n < 2 ^ 62 ∧
    appVC w s.l base len cap n.toNat sz bytes elem zero (rep n.toNat zero) fun b m c w' => flAnd fl w w' (K (some (.v (.slice b m c))) s.clean w')
  | _, _ => False
 | .cpy elem sz x y => noFl fl <| match s.ev x, s.ev y with
  | some (.slice base dlen _), some (.slice base2 slen _) => sync s w fun w => ∃ fs, fs.length = min slen dlen * sz ∧ oneAll fs = true ∧ CellsAre w base2 fs ∧
   ((fs = [] ∧ K (some (.v (.int .i64 (min slen dlen : Nat)))) s.clean w) ∨
    ∃ a, base = some a ∧ CanSet w a fs.length ∧ notIn s.l a.block (K (some (.v (.int .i64 (min slen dlen : Nat)))) s.clean (setCells w a fs 0)))
  | _, _ => False
 | .call f args sh => match s.ev f, s.evs args with
  | some fv, some vs => sync s w fun w => callV P fv vs w (rets sh pn (fun ch w' => keepB (s.kp.map (·.1)) w w' (X ch w')) fun v w' => keepB (s.kp.map (·.1) ++ blocks s.l) w w' (flAnd fl w w' (K (some (.v v)) s.clean w')))
  | _, _ => False
 | .mkmp => sync s w fun w => ∀ b w', New w (.map #[] 0) b w' → K (some (.v (.map (some b)))) s.clean w'
 | .mget kd ok z sh x ix => match s.ev x, s.ev ix with
  | some m, some key => match keyOk kd key with
   | true => sync s w fun w => mapIn kd w m fun kvs => exZ z sh fun v => ∃ c : Bool, mgot kvs key z = (v, c) ∧ K (some (.v (match ok with | true => .tuple #[v, .bool c] | false => v))) s.clean w
   | false => False
  | _, _ => False
 | .mset kd x ix v => noFl fl <| match s.ev x, s.ev ix, s.ev v with
  | some m, some key, some val => match keyOk kd key with
   | true => sync s w fun w => mapTo kd w m fun b kvs => ∀ w', Put b w w' → Mp kd w' b (mput key val kvs) → K none s.clean w'
   | false => False
  | _, _, _ => False
 | .clr zero x => noFl fl <| match s.ev x with
  | some (.slice base n _) => sync s w fun w => (n = 0 ∧ K (some (.v (.tuple #[]))) s.clean w) ∨
   (n ≠ 0 ∧ ∃ a, base = some a ∧ CanSet w a (rep n zero).length ∧ notIn s.l a.block (K (some (.v (.tuple #[]))) s.clean (setCells w a (rep n zero) 0)))
  | _ => False
 | .mark x => match s.ev x with
  | some (.slice (some a) n c) => sync s w fun w => ∃ C : Array Value, ∃ e : TypeId, w.heap[a.block]? = some (.cells C e (0, 0)) ∧ notIn s.l a.block (∀ w', Mk a.block w w' → K (some (.v (.slice (some a) n c))) s.clean w')
  | _ => False
 | .bstr x => match s.ev x with
  | some (.slice base n _) => sync s w fun w => ∃ xs : List Int, xs.length = n ∧ CellsAre w base (xs.map (.int .u8)) ∧ K (some (.v (.string (bstrOf xs)))) s.clean w
  | _ => False
 | .pan x => match s.ev x with
  | some v => (∃ t u, v = .iface t u) ∧ sync s w fun w => X [{ v := v, recovered := false }] w
  | none => False
 | i => vcLight i s w K
def Ins.kp (fl : Bool) : Ins → Bool
 | .st .. | .cpy .. | .mset .. | .clr .. => false
 | .call .. | .app .. | .appz .. => fl
 | _ => true
def compileHeavy (P : Program) (loc : Bool) (dst : Option Tmp) (type : TypeId) (op : Op) : Option Ins :=
 match op with
 | .store t x v => match szT P t with
  | some n => some (.st x v n)
  | none => none
 | .alloc e => match cellsT P e, loc, dst with
  | some z, false, _ => some (.boxV e z none)
  | some z, true, some k => some (.boxL k e z none)
  | _, _, _ => none
 | .box e v => match loc, dst with
  | false, _ => some (.boxV e [] (some v))
  | true, some k => some (.boxL k e [] (some v))
  | _, _ => none
 | .buildSlice t n parts => match P.underlying t with
  | some (.slice e) => match szT P e, cellsT P e, loc, dst with
   | some sz, some z, false, _ => match Nat.ble (n * sz) 4096 with | true => some (.bslV e sz n z parts.toList) | false => none
   | some sz, some z, true, some k => match Nat.ble (n * sz) 4096 with | true => some (.bslL k e sz n z parts.toList) | false => none
   | _, _, _, _ => none
  | _ => none
 | .makeSlice t l c => match P.underlying t with
  | some (.slice e) => match P.info? e, cellsT P e with
   | some i, some z => match Nat.beq i.size z.length with
    | true => some (.mksl e i.bytes z l c)
    | false => none
   | _, _ => none
  | _ => none
 | .call c => match c.callee with
  | .value f => match P.info? type with
   | some i => match i.zero with
    | some z => some (.call f c.args.toList (shsOf z))
    | none => none
   | none => none
  | .builtin .append => match c.args.toList, c.argTypes.toList with
   | [x, y], [t, u] => match P.underlying t, P.underlying u with
    | some (.slice e), some (.slice _) => match P.info? e, cellsT P e with
     | some i, some z => match Nat.beq i.size z.length with
      | true => some (.app e i.size i.bytes z x y)
      | false => none
     | _, _ => none
    | some (.slice e), some (.int _) => match P.info? e, cellsT P e with
     | some i, some z => match Nat.beq i.size z.length && oneAll z with
      | true => some (.appz e i.size i.bytes z x y)
      | false => none
     | _, _ => none
    | _, _ => none
   | _, _ => none
  | .builtin .copy => match c.args.toList, c.argTypes.toList with
   | [x, y], [t, _] => match P.underlying t with
    | some (.slice e) => (szT P e).map (.cpy e · x y)
    | _ => none
   | _, _ => none
  | .builtin .clear => match c.args.toList, c.argTypes.toList with
   | [x], [t] => match P.underlying t with
    | some (.slice e) => match cellsT P e with
     | some z => match oneAll z with
      | true => some (.clr z x)
      | false => none
     | none => none
    | _ => none
   | _, _ => none
  | _ => compileLight P op
 | .makeMap _ none => some .mkmp
 | .lookup t x ix ok => match P.underlying t with
  | some (.map kt et) => match kdOf P kt, zeroT P et with
   | some kd, some z => some (.mget kd ok z (shsOf z) x ix)
   | _, _ => none
  | _ => none
 | .mapUpdate t m k v => match P.underlying t with
  | some (.map kt _) => match kdOf P kt with
   | some kd => some (.mset kd m k v)
   | none => none
  | _ => none
 | .insert t m k v => match P.underlying t with
  | some (.map kt _) => match kdOf P kt with
   | some kd => some (.mset kd m k v)
   | none => none
  | _ => none
 | .convert src dst x => match P.underlying src, P.underlying dst with
  | some (.slice e), some .string => match P.underlying e with
   | some (.int .u8) => some (.bstr x)
   | _ => none
  | some (.slice _), some (.slice e) => match Nat.beq src dst, P.underlying e with
   | true, some (.int .u8) => some (.mark x)
   | _, _ => none
  | _, _ => compileLight P op
 | .panic x => some (.pan x)
 | op => compileLight P op
end Go.Vc
namespace Go.Vc
open Go.RowKit
theorem heap_setCell_ne (w : World) (a : Addr) (v : Value) (k : Nat) (h : k ≠ a.block) : (w.setCell a v).heap[k]? = w.heap[k]? := Below.heap_setCell w a v k h
theorem add_block (a : Addr) (n : Nat) : (a.add n).block = a.block := by unfold Addr.add; split <;> rfl
structure SameBut (b : Nat) (w w' : World) : Prop where
 os : w'.os = w.os
 tape : w'.tape = w.tape
 output : w'.output = w.output
 size : w'.heap.size = w.heap.size
 block : ∀ k, k ≠ b → w'.heap[k]? = w.heap[k]?
theorem SameBut.refl (b : Nat) (w : World) : SameBut b w w := ⟨rfl, rfl, rfl, rfl, fun _ _ => rfl⟩
theorem SameBut.trans {b : Nat} {x y z : World} (h : SameBut b x y) (k : SameBut b y z) : SameBut b x z :=
 ⟨k.os.trans h.os, k.tape.trans h.tape, k.output.trans h.output, k.size.trans h.size, fun i hi => (k.block i hi).trans (h.block i hi)⟩
theorem SameBut.setCell (w : World) (a : Addr) (v : Value) : SameBut a.block w (w.setCell a v) :=
 ⟨rfl, rfl, rfl, by simp, fun k hk => heap_setCell_ne w a v k hk⟩
theorem setCells_same : ∀ (vs : List Value) (w : World) (a : Addr) (i : Nat), SameBut a.block w (setCells w a vs i)
 | [], w, a, i => SameBut.refl _ w
 | v :: vs, w, a, i => by
  have h1 := SameBut.setCell w (a.add i) v
  rw [add_block] at h1
  exact h1.trans (setCells_same vs _ a (i + 1))
theorem kpObj_cells {o : Obj} (h : kpObj o = true) : o.isCells = false := by cases o <;> simp_all [kpObj, Obj.isCells]
theorem KpK.setCell (w : World) (a : Addr) (v : Value) : KpK w (w.setCell a v) := fun D o hD ho => (KeepsOthers.setCell w a v).same D o hD (kpObj_cells ho)
theorem KpK.setCells : ∀ (vs : List Value) (w : World) (a : Addr) (i : Nat), KpK w (setCells w a vs i)
 | [], w, a, i => KpK.refl w
 | v :: vs, w, a, i => (KpK.setCell w (a.add i) v).trans (KpK.setCells vs _ a (i + 1))
theorem cell_setCell_isSome {w : World} {a b : Addr} {v u : Value} (h : w.cell? b = some u) : ∃ u', (w.setCell a v).cell? b = some u' := by
 by_cases hab : a = b
 ·subst hab; exact ⟨v, World.cell?_setCell_same w a v h⟩
 ·exact ⟨u, by rw [World.cell?_setCell_other (w := w) (v := v) (h := hab)]; exact h⟩
theorem canSet_setCell {b : Addr} {v : Value} : ∀ {vs : List Value} {w : World} {a : Addr} {i : Nat}, canSet w a vs i True → canSet (w.setCell b v) a vs i True
 | [], _, _, _, h => h
 | u :: vs, w, a, i, h => by
  obtain ⟨⟨x, hx⟩, hf, hr⟩ := h
  refine ⟨cell_setCell_isSome hx, by rw [World.frozen?_setCell]; exact hf, canSet_setCell hr⟩
theorem canSet_split : ∀ {vs : List Value} {w : World} {a : Addr} {i : Nat} {K : Prop}, canSet w a vs i K → canSet w a vs i True ∧ K
 | [], _, _, _, _, h => ⟨trivial, h⟩
 | v :: vs, w, a, i, K, h => by
  obtain ⟨h1, h2⟩ := canSet_split h.2.2
  exact ⟨⟨h.1, h.2.1, h1⟩, h2⟩
theorem canSet_of {w : World} {a : Addr} : ∀ {vs : List Value} {i : Nat}, (∀ j, i ≤ j → j < i + vs.length → (∃ u, w.cell? (a.add j) = some u) ∧ w.frozen? (a.add j) = false) → canSet w a vs i True
 | [], _, _ => trivial
 | v :: vs, i, h => by
  obtain ⟨h1, h2⟩ := h i (Nat.le_refl _) (by simp)
  exact ⟨h1, h2, canSet_of fun j hj hlt => h j (by omega) (by simp; omega)⟩
theorem run_storeCells {P : Program} : ∀ {vs : List Value} {w : World} {a : Addr} {i : Nat}, vs.all Value.oneCell' = true → canSet w a vs i True →
  (storeCells a vs i).run P w = .ok () (setCells w a vs i)
 | [], w, a, i, _, _ => by simp [storeCells, setCells]
 | v :: vs, w, a, i, ho, h => by
  obtain ⟨⟨u, hu⟩, hf, hr⟩ := h
  simp only [List.all_cons, Bool.and_eq_true] at ho
  simp only [storeCells, Sem.run_bind, run_store _ _ _ _ _ ho.1, hu, hf, Bool.false_eq_true, if_false, Result.andThen_ok, setCells]
  exact run_storeCells ho.2 (canSet_setCell hr)
theorem setCell_block {w : World} {b off : Nat} {cs : List Value} {e : TypeId} {fr : Nat × Nat} {v : Value} (h : w.heap[b]? = some (.cells cs.toArray e fr)) :
  (w.setCell ⟨b, off, none⟩ v).heap[b]? = some (.cells (cs.set off v).toArray e fr) := by
 simp only [World.setCell, Array.getElem?_modify, if_true, h, Option.map_some]
 simp
theorem setCells_block {b off : Nat} {e : TypeId} {fr : Nat × Nat} : ∀ {vs cs : List Value} {w : World} {i : Nat}, w.heap[b]? = some (.cells cs.toArray e fr) → off + i + vs.length ≤ cs.length →
  (setCells w ⟨b, off, none⟩ vs i).heap[b]? = some (.cells (cs.take (off + i) ++ vs ++ cs.drop (off + i + vs.length)).toArray e fr)
 | [], cs, w, i, h, _ => by simpa [setCells] using h
 | v :: vs, cs, w, i, h, hl => by
  simp only [setCells, loc_add]
  simp only [List.length_cons] at hl
  rw [setCells_block (setCell_block h) (by simp; omega)]
  have e1 := splice_fold [v] (off + i) 0 cs.toArray (by simp; omega)
  simp at e1
  have e2 : cs.set (off + i) v = cs.take (off + i) ++ v :: cs.drop (off + i + 1) := by simpa using e1
  have hlen : (cs.take (off + i)).length = off + i := by simp; omega
  have e3 : (cs.set (off + i) v).take (off + (i + 1)) ++ vs ++ (cs.set (off + i) v).drop (off + (i + 1) + vs.length) =
    cs.take (off + i) ++ v :: vs ++ cs.drop (off + i + (vs.length + 1)) := by
   rw [e2, show off + (i + 1) = (off + i) + 1 by omega]
   generalize hA : List.take (off + i) cs = A at *
   generalize hB : List.drop (off + i + 1) cs = B at *
   have hB2 : cs.drop (off + i + (vs.length + 1)) = B.drop vs.length := by rw [← hB, List.drop_drop]; congr 1; omega
   rw [hB2, List.take_append, List.drop_append]
   simp only [hlen]
   rw [List.take_of_length_le (l := A) (by omega), List.drop_eq_nil_of_le (as := A) (by omega)]
   simp only [show off + i + 1 - (off + i) = 1 by omega, show off + i + 1 + vs.length - (off + i) = vs.length + 1 by omega, List.take_succ_cons, List.take_zero, List.drop_succ_cons]
   simp
  rw [e3]
  rfl
theorem fitK_eq : ∀ {ks : List IntKind} {xs ys : List Value}, fitK ks xs = true → fitK ks ys = true → ∃ r, aeqL xs ys = some r ∧ (r = true ↔ xs = ys)
 | [], [], [], _, _ => ⟨true, rfl, by simp⟩
 | [], _ :: _, _, h, _ => by simp [fitK] at h
 | [], [], _ :: _, _, h => by simp [fitK] at h
 | k :: ks, [], _, h, _ => by simp [fitK] at h
 | k :: ks, x :: xs, [], _, h => by simp [fitK] at h
 | k :: ks, x :: xs, y :: ys, hx, hy => by
  cases x <;> simp [fitK] at hx
  cases y <;> simp [fitK] at hy
  obtain ⟨rfl, hx⟩ := hx
  obtain ⟨rfl, hy⟩ := hy
  obtain ⟨r, hr, hi⟩ := fitK_eq hx hy
  rename_i a b
  refine ⟨decide (a = b) && r, by simp [aeqL, hr], ?_⟩
  simp [hi]
theorem keyEq_iff {kd : Kd} {u v : Value} (hu : keyOk kd u = true) (hv : keyOk kd v = true) : keyEq u v = true ↔ u = v := by
 cases kd <;> cases u <;> simp [keyOk] at hu <;> cases v <;> simp [keyOk] at hv
 ·subst hu; subst hv; simp [keyEq]
 ·simp [keyEq]
 ·rename_i xs ys
  obtain ⟨r, hr, hi⟩ := fitK_eq hu hv
  simp only [keyEq, hr, hi]
  constructor
  ·intro h; congr 1; exact Array.toList_inj.1 h
  ·intro h; cases h; rfl
theorem fitK_length {P : Program} : ∀ {fs : List Field} {ks : List IntKind} {xs : List Value}, kindsOf P fs = some ks → fitK ks xs = true → xs.length = fs.length
 | [], ks, xs, hk, hf => by
  simp only [kindsOf, Option.some.injEq] at hk
  subst hk
  cases xs with
  | nil => rfl
  | cons => simp [fitK] at hf
 | f :: fs, ks, xs, hk, hf => by
  unfold kindsOf at hk
  split at hk <;> cases hk
  rename_i k ks' hu hks
  cases xs with
  | nil => simp [fitK] at hf
  | cons x xs =>
   cases x <;> simp [fitK] at hf
   simp [fitK_length hks hf.2]
section
variable {P : Program}
theorem checkInt {em : Bool} {n : Nat} {t : TypeId} {k : IntKind} {v : Value} (hu : P.underlying t = some (.int k)) (w : World) : (Instr.checkKey em (n + 1) t v).run P w = .ok () w := by
 unfold Instr.checkKey
 simp only [Sem.run_bind, run_und hu, Result.andThen_ok]
 cases v <;> rfl
theorem checkStr {em : Bool} {n : Nat} {t : TypeId} {v : Value} (hu : P.underlying t = some .string) (w : World) : (Instr.checkKey em (n + 1) t v).run P w = .ok () w := by
 unfold Instr.checkKey
 simp only [Sem.run_bind, run_und hu, Result.andThen_ok]
 cases v <;> rfl
theorem run_check {kt : TypeId} {kd : Kd} {key : Value} (hk : kdOf P kt = some kd) (ho : keyOk kd key = true) (em : Bool) (w : World) : (Instr.checkKey em 10000 kt key).run P w = .ok () w := by
 unfold kdOf at hk
 split at hk <;> try cases hk
 ·rename_i k hu; exact checkInt hu w
 ·rename_i hu; exact checkStr hu w
 ·rename_i fs hu
  split at hk <;> try cases hk
  rename_i hok
  simp only [Bool.and_eq_true, Bool.not_eq_true'] at hok
  obtain ⟨ks, hks, rfl⟩ := Option.map_eq_some_iff.1 hk
  cases key <;> simp [keyOk] at ho
  rename_i X
  rw [show (10000 : Nat) = 9999 + 1 from rfl, Instr.checkKey]
  simp only [Sem.run_bind, run_und hu, Result.andThen_ok]
  rw [← Array.forIn_toList]
  have key : ∀ (L : List Field) (i : Nat) (xs : List Value) (ks : List IntKind), intFields P L i = true → X.toList.drop i = xs → kindsOf P L = some ks → fitK ks xs = true →
    (forIn L PUnit.unit fun (f : Field) (r : PUnit) => (if f.name ≠ "_" then do Instr.checkKey em 9999 f.type (← part f.type X f.offset); pure (ForInStep.yield PUnit.unit) else do pure PUnit.unit; pure (ForInStep.yield PUnit.unit) : Sem (ForInStep PUnit))).run P w = .ok () w := by
   intro L
   induction L with
   | nil => intros; simp
   | cons f L ih =>
    intro i xs ks hi hx hk hf
    simp only [intFields, Bool.and_eq_true] at hi
    obtain ⟨⟨⟨hof, hn⟩, hui⟩, hrest⟩ := hi
    have hof := Nat.eq_of_beq_eq_true hof
    have hn : f.name ≠ "_" := by simpa using hn
    unfold kindsOf at hk
    split at hk <;> cases hk
    rename_i k ks' hu hks
    cases xs with
    | nil => simp [fitK] at hf
    | cons x xs =>
     cases x <;> simp [fitK] at hf
     rename_i k1 n1
     have hX : X[f.offset]? = some (.int k1 n1) := by
      rw [hof, ← Array.getElem?_toList, ← List.head?_drop, hx]; rfl
     have hag : aggT P f.type = some false := by simp [aggT, hu]
     simp only [List.forIn_cons, Sem.run_bind, hn, ne_eq, not_false_eq_true, if_true, part, run_agg hag, Result.andThen_ok, Bool.false_eq_true, if_false, hX, Sem.run_pure, checkInt (n := 9998) hu]
     exact ih (i + 1) xs ks' hrest (by rw [← List.drop_drop, hx]; rfl) hks hf.2
  have := key fs.toList 0 X.toList ks hok.1 (by simp) hks ho
  simp at this ⊢
  rw [this]; rfl
def ffind (key : Value) : List MapEntry → Nat → Option (Nat × Value)
 | [], _ => none
 | e :: es, i => match keyEq key e.key with | true => some (i, e.val) | false => ffind key es (i + 1)
theorem find_int {k : IntKind} {key : Value} (ho : keyOk (.int k) key = true) : ∀ {es : List MapEntry} {i : Nat}, (∀ e ∈ es, keyOk (.int k) e.key = true) → Instr.findNow (.int k) key es i = some (ffind key es i)
 | [], _, _ => rfl
 | e :: es, i, h => by
  have h1 := h e (by simp)
  have ih := find_int ho (es := es) (i := i + 1) fun e he => h e (by simp [he])
  unfold Instr.findNow ffind
  cases key <;> simp [keyOk] at ho
  cases hk : e.key <;> rw [hk] at h1 <;> simp [keyOk] at h1
  subst ho; subst h1
  rename_i a b
  by_cases hab : a = b
  ·simp [Instr.sameNow, keyEq, hab]
  ·have : (a == b) = false := by simpa using hab
   simp [Instr.sameNow, keyEq, hab, ih, this]
theorem mbytes (a b : ByteArray) : (a == b) = decide (a = b) := by
 rw [Bool.eq_iff_iff, decide_eq_true_iff]
 constructor
 ·intro h
  obtain ⟨x⟩ := a
  obtain ⟨y⟩ := b
  have h : (x == y) = true := h
  rw [beq_iff_eq.1 h]
 ·intro h; subst h
  obtain ⟨x⟩ := a
  show (x == x) = true
  exact beq_iff_eq.2 rfl
theorem find_str {key : Value} (ho : keyOk .str key = true) : ∀ {es : List MapEntry} {i : Nat}, (∀ e ∈ es, keyOk .str e.key = true) → Instr.findNow .string key es i = some (ffind key es i)
 | [], _, _ => rfl
 | e :: es, i, h => by
  have h1 := h e (by simp)
  have ih := find_str ho (es := es) (i := i + 1) fun e he => h e (by simp [he])
  unfold Instr.findNow ffind
  cases key <;> simp [keyOk] at ho
  cases hk : e.key <;> rw [hk] at h1 <;> simp [keyOk] at h1
  rename_i a b
  by_cases hab : a = b
  ·subst hab
   have : (a == a) = true := by rw [mbytes]; simp
   simp only [Instr.sameNow, keyEq, this, decide_true]
  ·have : (a == b) = false := by rw [mbytes]; simp [hab]
   simp only [Instr.sameNow, keyEq, hab, this, ih, decide_false]
theorem find_agg {kt : TypeId} {fs : Array Field} {ks : List IntKind} {key : Value} (hu : P.underlying kt = some (.struct fs)) (hi : intFields P fs.toList 0 = true) (hp : P.stoodInHeld kt = false) (hks : kindsOf P fs.toList = some ks)
  (ho : keyOk (.agg ks) key = true) (w : World) : ∀ {es : List MapEntry} {i : Nat}, (∀ e ∈ es, keyOk (.agg ks) e.key = true) → (Instr.findAsking kt key es i).run P w = .ok (ffind key es i) w
 | [], _, _ => rfl
 | e :: es, i, h => by
  have h1 := h e (by simp)
  have ih := find_agg hu hi hp hks ho w (es := es) (i := i + 1) fun e he => h e (by simp [he])
  cases key <;> simp [keyOk] at ho
  rename_i xs
  cases hk : e.key <;> rw [hk] at h1 <;> simp [keyOk] at h1
  rename_i ys
  obtain ⟨r, hr, _⟩ := fitK_eq ho h1
  have hfs : P.fieldsOf kt = fs := by simp [Program.fieldsOf, hu]
  have heq : (Op.equal kt (.agg xs) (.agg ys)).run P w = .ok r w := by
   rw [equal_succ, run_equalIn_struct w 9999 kt xs ys (by rw [hfs]; exact hu) hp, hfs]
   exact eqFields_ints (d := 9998) hi (by simp) (by simp) (fitK_length hks ho) hr w
  unfold Instr.findAsking ffind
  simp only [hk, Sem.run_bind, heq, Result.andThen_ok, keyEq, hr]
  cases r
  ·simpa using ih
  ·simp
theorem run_find {kt : TypeId} {kd : Kd} {key : Value} (hk : kdOf P kt = some kd) (ho : keyOk kd key = true) (w : World) {es : List MapEntry} (h : ∀ e ∈ es, keyOk kd e.key = true) :
  (Instr.findKey kt key es).run P w = .ok (ffind key es 0) w := by
 unfold kdOf at hk
 split at hk <;> try cases hk
 ·rename_i k hu; simp only [Instr.findKey, Sem.run_bind, run_und hu, Result.andThen_ok, find_int ho h, Sem.run_pure]
 ·rename_i hu; simp only [Instr.findKey, Sem.run_bind, run_und hu, Result.andThen_ok, find_str ho h, Sem.run_pure]
 ·rename_i fs hu
  split at hk <;> try cases hk
  rename_i hok
  simp only [Bool.and_eq_true, Bool.not_eq_true'] at hok
  obtain ⟨ks, hks, rfl⟩ := Option.map_eq_some_iff.1 hk
  simp only [Instr.findKey, Sem.run_bind, run_und hu, Result.andThen_ok]
  cases es with
  | nil => rfl
  | cons e es =>
   have : Instr.findNow (.struct fs) key (e :: es) 0 = none := by
    unfold Instr.findNow
    have : Instr.sameNow (.struct fs) key e.key = none := by cases key <;> cases e.key <;> rfl
    rw [this]
   rw [this]
   exact find_agg hu hok.1 hok.2 hks ho w h
theorem ffind_mfind {key : Value} : ∀ {es : List MapEntry} {i : Nat}, (ffind key es i).map (·.2) = mfind key (es.map kv)
 | [], _ => rfl
 | e :: es, i => by
  simp only [ffind, List.map_cons, kv, mfind]
  cases keyEq key e.key
  ·exact ffind_mfind
  ·rfl
theorem ffind_none {key val : Value} : ∀ {es : List MapEntry} {i : Nat}, ffind key es i = none → mput key val (es.map kv) = es.map kv ++ [(key, val)]
 | [], _, _ => rfl
 | e :: es, i, h => by
  simp only [ffind] at h
  simp only [List.map_cons, kv, mput, List.cons_append]
  cases hk : keyEq key e.key <;> rw [hk] at h
  ·exact congrArg _ (ffind_none h)
  ·cases h
theorem ffind_some {key val v : Value} : ∀ {es : List MapEntry} {i j : Nat}, ffind key es i = some (j, v) → ∃ m e, j = i + m ∧ es[m]? = some e ∧ keyEq key e.key = true ∧
  (es.modify m fun e => { e with key := key, val := val }).map kv = mput key val (es.map kv)
 | [], _, _, h => by cases h
 | e :: es, i, j, h => by
  simp only [ffind] at h
  simp only [List.map_cons, kv, mput]
  cases hk : keyEq key e.key <;> rw [hk] at h
  ·obtain ⟨m, e', h1, h2, h3, h4⟩ := ffind_some (val := val) h
   refine ⟨m + 1, e', by omega, h2, h3, ?_⟩
   simp only [List.modify_succ_cons, List.map_cons]
   exact congrArg _ h4
  ·cases h
   exact ⟨0, e, by omega, rfl, hk, by simp [kv]⟩
theorem look_run {t kt et : TypeId} {kd : Kd} {z key m : Value} {w : World} {G : List (Value × Value) → Prop} (ht : P.underlying t = some (.map kt et)) (hk : kdOf P kt = some kd) (hz : zeroT P et = some z) (ho : keyOk kd key = true) (h : mapIn kd w m G) (ok : Bool) :
  ∃ kvs, G kvs ∧ ∀ v c, mgot kvs key z = (v, c) → (Instr.lookup t m key ok).run P w = .ok (if ok then .tuple #[v, .bool c] else v) w := by
 unfold mapIn at h
 split at h <;> try exact h.elim
 ·refine ⟨[], h, fun v c hg => ?_⟩
  simp only [mgot, mfind, Prod.mk.injEq] at hg
  obtain ⟨rfl, rfl⟩ := hg
  simp only [Instr.lookup, Sem.run_bind, run_und ht, Result.andThen_ok, Sem.run_pure, run_check hk ho]
  rw [run_find hk ho w (es := []) (by simp)]
  simp only [ffind, Result.andThen_ok, Sem.run_bind, zero_run hz, Sem.run_pure]
 ·rename_i b
  obtain ⟨kvs, ⟨⟨es, clock, hb, rfl⟩, hks⟩, hG⟩ := h
  refine ⟨_, hG, fun v c hg => ?_⟩
  have hes : ∀ e ∈ es.toList, keyOk kd e.key = true := fun e he => hks (kv e) (List.mem_map_of_mem he)
  simp only [Instr.lookup, Sem.run_bind, run_und ht, Result.andThen_ok, Sem.run_pure, MapKept.run_getObj_map hb, run_check hk ho, run_find hk ho w hes]
  have hm := ffind_mfind (key := key) (es := es.toList) (i := 0)
  cases hf : ffind key es.toList 0 with
  | none =>
   rw [hf] at hm
   simp only [mgot, ← hm, Option.map_none, Prod.mk.injEq] at hg
   obtain ⟨rfl, rfl⟩ := hg
   simp only [Result.andThen_ok, Sem.run_bind, zero_run hz, Sem.run_pure]
  | some x =>
   rw [hf] at hm
   simp only [mgot, ← hm, Option.map_some, Prod.mk.injEq] at hg
   obtain ⟨rfl, rfl⟩ := hg
   simp only [Result.andThen_ok, Sem.run_bind, Sem.run_pure]
theorem sameBits_ok {kd : Kd} {v : Value} (h : keyOk kd v = true) : Instr.sameBits 10000 v v = true := by
 cases kd <;> cases v <;> simp [keyOk] at h
 ·simp [Instr.sameBits]
 ·simp only [Instr.sameBits]; rw [mbytes]; simp
 ·rename_i ks xs
  rw [show (10000 : Nat) = 9999 + 1 from rfl, Instr.sameBits]
  simp only [beq_self_eq_true, Bool.true_and]
  have : ∀ (l : List Value) (ks : List IntKind), fitK ks l = true → (l.zip l).all (fun (x, y) => Instr.sameBits 9999 x y) = true := by
   intro l
   induction l with
   | nil => intros; rfl
   | cons x l ih =>
    intro ks hf
    cases ks with
    | nil => simp [fitK] at hf
    | cons k ks =>
     cases x <;> simp [fitK] at hf
     simp only [List.zip_cons_cons, List.all_cons, Bool.and_eq_true]
     exact ⟨by simp [Instr.sameBits], ih ks hf.2⟩
  exact this _ _ h
theorem mset_run {t kt et : TypeId} {kd : Kd} {key val : Value} {b : Nat} {kvs : List (Value × Value)} {w : World} (ht : P.underlying t = some (.map kt et)) (hk : kdOf P kt = some kd) (ho : keyOk kd key = true) (h : Mp kd w b kvs) :
  ∃ w', (Instr.mapUpdate t (.map (some b)) key val).run P w = .ok () w' ∧ Put b w w' ∧ Mp kd w' b (mput key val kvs) ∧ ∃ es c, w.heap[b]? = some (.map es c) := by
 obtain ⟨⟨es, clock, hb, rfl⟩, hks⟩ := h
 have hes : ∀ e ∈ es.toList, keyOk kd e.key = true := fun e he => hks (kv e) (List.mem_map_of_mem he)
 have hput : ∀ o : Obj, Put b w { w with heap := w.heap.setIfInBounds b o } := fun o => ⟨rfl, rfl, rfl, by simp, (MapKept.heap_set hb).2⟩
 have hks' : ∀ {l : List (Value × Value)}, (∀ x ∈ l, keyOk kd x.1 = true) → ∀ x ∈ mput key val l, keyOk kd x.1 = true := by
  intro l
  induction l with
  | nil => intro _ x hx; simp only [mput, List.mem_singleton] at hx; subst hx; exact ho
  | cons y l ih =>
   intro hl x hx
   obtain ⟨k, v⟩ := y
   simp only [mput] at hx
   cases hq : keyEq key k <;> rw [hq] at hx
   ·rcases List.mem_cons.1 hx with rfl | hx
    ·exact hl _ (by simp)
    ·exact ih (fun x hx => hl x (by simp [hx])) x hx
   ·rcases List.mem_cons.1 hx with rfl | hx
    ·exact ho
    ·exact hl x (by simp [hx])
 cases hf : ffind key es.toList 0 with
 | none =>
  refine ⟨_, ?_, hput (.map (es.push { key := key, val := val, born := clock }) (clock + 1)), ⟨⟨_, _, (MapKept.heap_set hb).1, ?_⟩, hks' hks⟩, _, _, hb⟩
  ·simp only [Instr.mapUpdate, Sem.run_bind, run_und ht, Result.andThen_ok, MapKept.run_getObj_map hb, run_check hk ho, run_find hk ho w hes, hf, MapKept.run_setObj_map _ hb]
  ·rw [ffind_none hf]; simp [kv]
 | some x =>
  obtain ⟨j, v⟩ := x
  obtain ⟨m, e, rfl, he, heq, hmod⟩ := ffind_some (val := val) hf
  have hee : key = e.key := (keyEq_iff ho (hes e (List.mem_of_getElem? he))).1 heq
  have hget : es[0 + m]? = some e := by rw [Nat.zero_add, ← Array.getElem?_toList]; exact he
  refine ⟨_, ?_, hput (.map (es.modify (0 + m) fun e => { e with key := key, val := val }) clock), ⟨⟨_, _, (MapKept.heap_set hb).1, ?_⟩, hks' hks⟩, _, _, hb⟩
  ·have hst : (Instr.keyThatStays (((es[0 + m]?).map (·.key)).getD key) key).run P w = .ok key w := by
    rw [hget]
    simp only [Option.map_some, Option.getD_some, ← hee, Instr.keyThatStays, sameBits_ok ho, if_true, Sem.run_pure]
   simp only [Instr.mapUpdate, Sem.run_bind, run_und ht, Result.andThen_ok, MapKept.run_getObj_map hb, run_check hk ho, run_find hk ho w hes, hf, hst, MapKept.run_setObj_map _ hb]
  ·rw [← hmod, Nat.zero_add, Array.toList_modify]
end
end Go.Vc
namespace Go.Vc
open Go.RowKit
variable {r : Option Nat}
abbrev fR (r : Option Nat) : Fence := { Fence.wide with round := r }
def wpR (r : Option Nat) (P : Program) (o : Oper) (a : Act) (w : World) (next : Act → World → Prop) (Q : Exit → Act → World → Prop) : Prop :=
 o.uponIn (fR r) 0 P a next Q ((execOp a.eval o).run P w)
def wpOpR (r : Option Nat) (P : Program) (ops : Array Oper) (Q : Exit → Act → World → Prop) (i : Nat) (K : Act → World → Prop) (a : Act) (w : World) : Prop :=
 match ops[i]? with
 | none => K a w
 | some o => if Region.wanted o (yielded ops a.tmps) then wpR r P o a w K Q else K (a.put o.dst undef) w
def wpOpsR (r : Option Nat) (P : Program) (ops : Array Oper) (Q : Exit → Act → World → Prop) : List Nat → Act → World → Prop
 | [], a, w => Q .normal a w
 | i :: rest, a, w => wpOpR r P ops Q i (wpOpsR r P ops Q rest) a w
def wpAnyR (r : Option Nat) (P : Program) (md : Region.Mode) (ops : Array Oper) (Q : Exit → Act → World → Prop) : Nat → Array Bool → Act → World → Prop
 | 0, listed, a, w => Region.ready md ops listed = [] ∧ Q .normal a w
 | fuel + 1, listed, a, w =>
  (Region.ready md ops listed = [] → Q .normal a w) ∧
  ∀ i ∈ Region.ready md ops listed, wpOpR r P ops Q i (wpAnyR r P md ops Q fuel (listed.setIfInBounds i true)) a w
theorem wpR_mono {P : Program} {Q : Exit → Act → World → Prop} {o : Oper} {a : Act} {w : World} {K K' : Act → World → Prop} (h : ∀ a w, K a w → K' a w) (hh : wpR r P o a w K Q) : wpR r P o a w K' Q := by
 unfold wpR at *
 generalize (execOp a.eval o).run P w = x at *
 cases x with
 | ok x w' =>
  cases x <;> simp only [Oper.uponIn] at hh ⊢ <;>
   first
    | exact h _ _ hh
    | exact ⟨hh.1, CallsIn.mono hh.2 (fun e w'' he => by cases e <;> first | exact h _ _ he | exact he)⟩
    | exact ⟨hh.1, RowsIn.mono hh.2 (fun _ _ he => h _ _ he)⟩
    | exact ⟨hh.1, RoundIn.mono hh.2 (fun e w'' he => by cases e <;> first | exact h _ _ he | exact he)⟩
 | halt x w' => cases x <;> simp only [Oper.uponIn] at hh ⊢ <;> exact hh
theorem wpOpR_mono {P : Program} {ops : Array Oper} {Q : Exit → Act → World → Prop} {i : Nat} {a : Act} {w : World} {K K' : Act → World → Prop} (h : ∀ a w, K a w → K' a w) (hh : wpOpR r P ops Q i K a w) : wpOpR r P ops Q i K' a w := by
 unfold wpOpR at *
 split
 ·exact h _ _ (by simpa [*] using hh)
 ·rename_i o ho
  simp only [ho] at hh
  split
  ·rename_i hw; simp only [hw, if_true] at hh; exact wpR_mono h hh
  ·rename_i hw; simp only [hw] at hh; exact h _ _ hh
def NoDefer (ops : Array Oper) : Prop := ∀ (i : Nat) (o : Oper), ops[i]? = some o → ∀ c, o.op ≠ .defer c
theorem wpOpR_in {P : Program} {ops : Array Oper} {Q : Exit → Act → World → Prop} (hd : NoDefer ops) {i : Nat} {a : Act} {w : World} {K : Act → World → Prop} (h : wpOpR r P ops Q i K a w) : wpOpIn (fR r) 0 P ops Q i K a w := by
 unfold wpOpR at h
 unfold wpOpIn
 split
 ·rename_i ho; simpa [ho] using h
 ·rename_i o ho
  simp only [ho] at h
  split
  ·rename_i hw
   simp only [hw, if_true] at h
   refine ⟨fun _ _ => trivial, ?_⟩
   rw [Oper.semAt_eq _ _ _ (hd i o ho)]
   exact h
  ·rename_i hw
   simp only [hw] at h
   exact ⟨fun _ _ => trivial, h⟩
theorem wpOpsR_in {P : Program} {ops : Array Oper} {Q : Exit → Act → World → Prop} (hd : NoDefer ops) : ∀ (l : List Nat) (a : Act) (w : World), wpOpsR r P ops Q l a w → wpOpsIn (fR r) 0 P ops Q l a w
 | [], _, _, h => h
 | i :: rest, a, w, h => by
  rw [wpOpsIn_cons]
  exact wpOpR_in hd (wpOpR_mono (fun a w h => wpOpsR_in hd rest a w h) h)
theorem wpAnyR_in {P : Program} {md : Region.Mode} {ops : Array Oper} {Q : Exit → Act → World → Prop} (hd : NoDefer ops) : ∀ (fuel : Nat) (listed : Array Bool) (a : Act) (w : World), wpAnyR r P md ops Q fuel listed a w → wpAnyIn (fR r) 0 P md ops Q fuel listed a w
 | 0, _, _, _, h => h
 | fuel + 1, listed, a, w, h => ⟨h.1, fun i hi => wpOpR_in hd (wpOpR_mono (fun a w h => wpAnyR_in hd fuel _ a w h) (h.2 i hi))⟩
theorem wpOpsR_cons {P : Program} {ops : Array Oper} {Q : Exit → Act → World → Prop} (i : Nat) (rest : List Nat) (a : Act) (w : World) : wpOpsR r P ops Q (i :: rest) a w = wpOpR r P ops Q i (wpOpsR r P ops Q rest) a w := rfl
def HeavyOk (r : Option Nat) (P : Program) (kp : Bool) (o : Oper) (a : Act) (s : St) (wa : World) (K : Option EV → St → World → Prop) (Q : Exit → Act → World → Prop) : Prop :=
 wpR r P o a wa (fun a' wa' => (kp = true → Keeps wa wa') ∧ ∃ v e s' w', a' = a.put o.dst v ∧ Good s' a w' wa' ∧ EVOk s' e v ∧ LFr s s' ∧ K e s' w') Q
theorem LightOk.heavy {P : Program} {kp : Bool} {o : Oper} {a : Act} {s : St} {wa : World} {K : Option EV → St → World → Prop} {Q : Exit → Act → World → Prop} (h : LightOk P o a s wa K) : HeavyOk r P kp o a s wa K Q := by
 obtain ⟨v, e, s', w', hr, hg, he, hl, hk⟩ := h
 unfold HeavyOk wpR
 rw [hr wa (.inr (Keeps.refl wa))]
 exact ⟨fun _ => Keeps.refl wa, v, e, s', w', rfl, hg, he, hl, hk⟩
theorem Agree.mono {s : St} {a : Act} {w w' : World} (h : Agree s a w) (hl : LOk s.l w') (hd : KpK w w') : Agree s a w' := ⟨h.v, h.loc, h.lsl, hl, h.dok.kpk hd⟩
theorem LOk.alloc {l : List (Nat × Nat × List Value)} {w : World} (h : LOk l w) (o : Obj) : LOk l (w.alloc o) := h.keep (((Ext.refl w).alloc o).keep _)
theorem good_alloc {s : St} {a : Act} {w wa : World} (h : Good s a w wa) (o : Obj) : Good s.clean a (wa.alloc o) (wa.alloc o) :=
 (h.ag.mono (h.ag.lok.alloc o) ((Ext.refl wa).alloc o).kpk).good
theorem Good.locl {s : St} {a : Act} {w wa : World} (h : Good s a w wa) : Locl (blocks s.l) w wa := by
 cases hd : s.dirty
 ·have := h.clean hd; subst this
  refine ⟨rfl, rfl, rfl, Nat.le_refl _, fun _ _ _ => rfl, fun b hb => ?_⟩
  obtain ⟨x, hx, rfl⟩ := List.mem_map.1 hb
  exact (h.ag.lok.at_ x.1 x.2.1 x.2.2 hx).1
 ·exact h.dirty hd
theorem cells_alloc_new (w : World) (o : Obj) : (w.alloc o).heap[w.heap.size]? = some o := by
 show (w.heap.push o)[w.heap.size]? = some o
 simp
theorem good_local {s : St} {a : Act} {w wa : World} (h : Good s a w wa) {k : Nat} {elem : TypeId} {vs : List Value} (hk : look k s.l = none) :
  Good { s with l := (k, wa.heap.size, vs) :: s.l, dirty := true } a w (wa.alloc (.cells vs.toArray elem (0, 0))) := by
 have hlo := h.locl
 have hkeys : ∀ b cs, (k, b, cs) ∉ s.l := fun b cs hm => by rw [look_of_mem h.ag.lok.keys hm] at hk; cases hk
 refine ⟨⟨h.ag.v, fun t k' off ht => ?_, fun t k' n ht => ?_, ⟨fun k' b cs hm => ?_, ?_, ?_⟩, h.ag.dok.kpk ((Ext.refl wa).alloc _).kpk⟩, fun _ => ⟨?_, ?_, ?_, ?_, ?_, ?_⟩, fun hd => by cases hd⟩
 ·obtain ⟨b, cs, hm, he⟩ := h.ag.loc t k' off ht; exact ⟨b, cs, List.mem_cons_of_mem _ hm, he⟩
 ·obtain ⟨b, cs, hm, he⟩ := h.ag.lsl t k' n ht; exact ⟨b, cs, List.mem_cons_of_mem _ hm, he⟩
 ·rcases List.mem_cons.1 hm with h1 | h1
  ·cases h1; exact ⟨by simp, elem, cells_alloc_new _ _⟩
  ·exact (h.ag.lok.alloc _).at_ k' b cs h1
 ·simp only [List.map_cons, List.nodup_cons]
  refine ⟨fun hm => ?_, h.ag.lok.keys⟩
  obtain ⟨⟨k', b, cs⟩, hx, he⟩ := List.mem_map.1 hm
  simp only at he; subst he
  exact hkeys _ _ hx
 ·simp only [blocks, List.map_cons, List.nodup_cons]
  refine ⟨fun hm => ?_, h.ag.lok.blks⟩
  obtain ⟨⟨k', b, cs⟩, hx, he⟩ := List.mem_map.1 hm
  have := (h.ag.lok.at_ _ _ _ hx).1
  simp only at he; omega
 ·exact hlo.os
 ·exact hlo.tape
 ·exact hlo.output
 ·simp; have := hlo.size; omega
 ·intro i hi hn
  have hs := hlo.size
  rw [show (wa.alloc (.cells vs.toArray elem (0, 0))).heap[i]? = wa.heap[i]? from Below.heap_alloc _ _ _ (by omega)]
  refine hlo.block i hi (fun hm => hn ?_)
  simp [blocks] at hm ⊢; exact .inr hm
 ·intro b hb
  simp only [blocks, List.map_cons, List.mem_cons] at hb
  rcases hb with rfl | hb
  ·simp
  ·have := hlo.there b hb; simp; omega
theorem mem_change : ∀ {l : List (Nat × Nat × List Value)} {k : Nat} {f : List Value → List Value}, (l.map (·.1)).Nodup → ∀ {k' b cs}, (k', b, cs) ∈ change k f l →
  (k' ≠ k ∧ (k', b, cs) ∈ l) ∨ (k' = k ∧ ∃ cs0, (k, b, cs0) ∈ l ∧ cs = f cs0)
 | [], _, _, _, _, _, _, h => by cases h
 | (k0, b0, c0) :: r, k, f, hn, k', b, cs, h => by
  simp only [List.map_cons, List.nodup_cons] at hn
  simp only [change, beqN] at h
  by_cases hk : k = k0
  ·subst hk
   simp only [decide_true, cond_true] at h
   rcases List.mem_cons.1 h with h1 | h1
   ·cases h1; exact .inr ⟨rfl, c0, by simp, rfl⟩
   ·refine .inl ⟨fun e => hn.1 (List.mem_map.2 ⟨(k', b, cs), h1, e⟩), List.mem_cons_of_mem _ h1⟩
  ·simp only [hk, decide_false, cond_false] at h
   rcases List.mem_cons.1 h with h1 | h1
   ·cases h1; exact .inl ⟨fun e => hk e.symm, by simp⟩
   ·rcases mem_change hn.2 h1 with ⟨h2, h3⟩ | ⟨h2, x, h3, h4⟩
    ·exact .inl ⟨h2, List.mem_cons_of_mem _ h3⟩
    ·exact .inr ⟨h2, x, List.mem_cons_of_mem _ h3, h4⟩
theorem change_keys : ∀ (l : List (Nat × Nat × List Value)) (k : Nat) (f : List Value → List Value), (change k f l).map (·.1) = l.map (·.1) ∧ blocks (change k f l) = blocks l
 | [], _, _ => ⟨rfl, rfl⟩
 | (k0, b0, c0) :: r, k, f => by
  obtain ⟨h1, h2⟩ := change_keys r k f
  simp only [change, beqN]
  cases hd : decide (k = k0)
  ·constructor <;> simp [h1, blocks] at h2 ⊢; exact h2
  ·constructor <;> simp [blocks]
theorem change_mem : ∀ {l : List (Nat × Nat × List Value)} {k : Nat} {f : List Value → List Value} {k' b cs}, (k', b, cs) ∈ l → ∃ cs', (k', b, cs') ∈ change k f l
 | (k0, b0, c0) :: r, k, f, k', b, cs, h => by
  simp only [change, beqN]
  cases hd : decide (k = k0)
  ·rcases List.mem_cons.1 h with h1 | h1
   ·cases h1; exact ⟨c0, List.mem_cons_self ..⟩
   ·obtain ⟨x, hx⟩ := change_mem (k := k) (f := f) h1; exact ⟨x, List.mem_cons_of_mem _ hx⟩
  ·rcases List.mem_cons.1 h with h1 | h1
   ·cases h1; exact ⟨f c0, List.mem_cons_self ..⟩
   ·exact ⟨cs, List.mem_cons_of_mem _ h1⟩
theorem inj_of_nodup : ∀ {l : List (Nat × Nat × List Value)} {x y}, (blocks l).Nodup → x ∈ l → y ∈ l → x.2.1 = y.2.1 → x = y
 | z :: l, x, y, hn, hx, hy, he => by
  simp only [blocks, List.map_cons, List.nodup_cons] at hn
  rcases List.mem_cons.1 hx with h1 | h1 <;> rcases List.mem_cons.1 hy with h2 | h2
  ·rw [h1, h2]
  ·subst h1; exact absurd (List.mem_map.2 ⟨y, h2, he.symm⟩) hn.1
  ·subst h2; exact absurd (List.mem_map.2 ⟨x, h1, he⟩) hn.1
  ·exact inj_of_nodup hn.2 h1 h2 he
theorem inj_of_nodup' : ∀ {l : List (Nat × Nat × List Value)} {x y}, (l.map (·.1)).Nodup → x ∈ l → y ∈ l → x.1 = y.1 → x = y
 | z :: l, x, y, hn, hx, hy, he => by
  simp only [List.map_cons, List.nodup_cons] at hn
  rcases List.mem_cons.1 hx with h1 | h1 <;> rcases List.mem_cons.1 hy with h2 | h2
  ·rw [h1, h2]
  ·subst h1; exact absurd (List.mem_map.2 ⟨y, h2, he.symm⟩) hn.1
  ·subst h2; exact absurd (List.mem_map.2 ⟨x, h1, he⟩) hn.1
  ·exact inj_of_nodup' hn.2 h1 h2 he
theorem change_mem' : ∀ {l : List (Nat × Nat × List Value)} {k : Nat} {f : List Value → List Value} {k' b cs}, (k', b, cs) ∈ l → ∃ cs', (k', b, cs') ∈ change k f l ∧ (k' ≠ k → cs' = cs)
 | (k0, b0, c0) :: r, k, f, k', b, cs, h => by
  simp only [change, beqN]
  cases hd : decide (k = k0)
  ·rcases List.mem_cons.1 h with h1 | h1
   ·cases h1; exact ⟨c0, List.mem_cons_self .., fun _ => rfl⟩
   ·obtain ⟨x, hx, hx2⟩ := change_mem' (k := k) (f := f) h1; exact ⟨x, List.mem_cons_of_mem _ hx, hx2⟩
  ·have hd := of_decide_eq_true hd
   rcases List.mem_cons.1 h with h1 | h1
   ·cases h1; exact ⟨f c0, List.mem_cons_self .., fun hne => absurd hd.symm hne⟩
   ·exact ⟨cs, List.mem_cons_of_mem _ h1, fun _ => rfl⟩
theorem good_stLocal {s : St} {a : Act} {w wa : World} (h : Good s a w wa) {k b off : Nat} {cs vs : List Value} (hm : (k, b, cs) ∈ s.l) (hlen : off + vs.length ≤ cs.length) :
  Good { s with l := change k (fun cs => cs.take off ++ vs ++ cs.drop (off + vs.length)) s.l, dirty := true } a w (setCells wa ⟨b, off, none⟩ vs 0) := by
 have hlo := h.locl
 have hsb := setCells_same vs wa ⟨b, off, none⟩ 0
 obtain ⟨hblt, e0, hb0⟩ := h.ag.lok.at_ _ _ _ hm
 obtain ⟨hk1, hk2⟩ := change_keys s.l k (fun cs => cs.take off ++ vs ++ cs.drop (off + vs.length))
 refine ⟨⟨h.ag.v, fun t k' o ht => ?_, fun t k' n ht => ?_, ⟨fun k' b' cs' hm' => ?_, ?_, ?_⟩, h.ag.dok.kpk (KpK.setCells vs wa ⟨b, off, none⟩ 0)⟩, fun _ => ⟨?_, ?_, ?_, ?_, ?_, ?_⟩, fun hd => by cases hd⟩
 ·obtain ⟨b', cs', hm', he⟩ := h.ag.loc t k' o ht
  obtain ⟨c2, h2⟩ := change_mem (k := k) (f := fun cs => cs.take off ++ vs ++ cs.drop (off + vs.length)) hm'
  exact ⟨b', c2, h2, he⟩
 ·obtain ⟨b', cs', hm', he⟩ := h.ag.lsl t k' n ht
  obtain ⟨c2, h2⟩ := change_mem (k := k) (f := fun cs => cs.take off ++ vs ++ cs.drop (off + vs.length)) hm'
  exact ⟨b', c2, h2, he⟩
 ·rcases mem_change h.ag.lok.keys hm' with ⟨hne, h1⟩ | ⟨rfl, c0, h1, rfl⟩
  ·obtain ⟨hlt, e, hb⟩ := h.ag.lok.at_ _ _ _ h1
   have hbb : b' ≠ b := by
    intro heq
    subst heq
    have hn := h.ag.lok.blks
    have : (k', b', cs') = (k, b', cs) := by
     exact inj_of_nodup hn h1 hm rfl
    cases this; exact hne rfl
   exact ⟨by rw [hsb.size]; exact hlt, e, by rw [hsb.block _ hbb]; exact hb⟩
  ·have : (k', b', c0) = (k', b, cs) := inj_of_nodup' h.ag.lok.keys h1 hm rfl
   cases this
   refine ⟨by rw [hsb.size]; exact hblt, e0, ?_⟩
   have := setCells_block (vs := vs) (off := off) (i := 0) hb0 (by simpa using hlen)
   simpa using this
 ·rw [hk1]; exact h.ag.lok.keys
 ·rw [hk2]; exact h.ag.lok.blks
 ·exact hsb.os.trans hlo.os
 ·exact hsb.tape.trans hlo.tape
 ·exact hsb.output.trans hlo.output
 ·rw [hsb.size]; exact hlo.size
 ·intro i hi hn
  simp only [hk2] at hn
  rw [hsb.block i (fun he => hn (he ▸ List.mem_map.2 ⟨_, hm, rfl⟩))]
  exact hlo.block i hi hn
 ·intro b' hb'
  simp only [hk2] at hb'
  rw [hsb.size]; exact hlo.there b' hb'
end Go.Vc
namespace Go.Vc
open Go.RowKit
theorem fill_lay {sz : Nat} : ∀ {ps : List (Nat × Value)} {n : Nat} {cells : List Value}, layOk sz n ps = true → cells.length = n →
  Instr.fill (fun i => some (i * sz, sz)) cells.toArray ps = some (lay sz cells ps).toArray
 | [], _, _, _, _ => rfl
 | (i, v) :: r, n, cells, h, hl => by
  have h0 := h
  simp only [layOk, Bool.and_eq_true] at h
  obtain ⟨⟨h1, h2⟩, h3⟩ := h
  have h1 := Nat.eq_of_beq_eq_true h1
  have h2 := Nat.le_of_ble_eq_true h2
  have hs : v.cells.size = sz := by simpa using h1
  simp only [Instr.fill]
  rw [if_neg (by simp [hs]; omega), ← Array.foldl_toList]
  simp only [Array.toList_zipIdx]
  rw [splice_fold v.cells.toList (i * sz) 0 cells.toArray (by simp [hs]; omega)]
  have e : v.cells.toList.length = sz := h1
  simp only [Nat.add_zero, e, lay]
  exact fill_lay h3 (by simp [hs]; omega)
theorem rep_length (zero : List Value) : ∀ n, (rep n zero).length = n * zero.length
 | 0 => by simp [rep]
 | n + 1 => by simp [rep, rep_length zero n, Nat.add_mul]; omega
theorem rep_get (zero : List Value) (hz : 0 < zero.length) : ∀ (n i : Nat), i < n * zero.length → (rep n zero)[i]? = zero[i % zero.length]?
 | 0, i, h => by simp at h
 | n + 1, i, h => by
  simp only [rep]
  by_cases hi : i < zero.length
  ·rw [List.getElem?_append_left hi, Nat.mod_eq_of_lt hi]
  ·rw [List.getElem?_append_right (by omega), rep_get zero hz n (i - zero.length) (by rw [Nat.add_mul] at h; omega)]
   congr 1
   exact (Nat.mod_eq_sub_mod (by omega)).symm
theorem mkCells_rep (zero : List Value) (n : Nat) : mkCells zero n = (rep n zero).toArray := by
 apply Array.ext'
 apply List.ext_getElem?
 intro i
 unfold mkCells
 by_cases hi : i < n * zero.length
 ·have hz : 0 < zero.length := by
   rcases Nat.eq_zero_or_pos zero.length with h | h
   ·rw [h] at hi; simp at hi
   ·exact h
  rw [rep_get zero hz n i hi]
  simp [hi]
  have hm : i % zero.length < zero.length := Nat.mod_lt _ hz
  rw [List.getElem?_eq_getElem hm]; simp
 ·rw [List.getElem?_eq_none (l := (rep n zero).toArray.toList) (by have := rep_length zero n; simp; omega), List.getElem?_eq_none (by simp; omega)]
theorem partsOf_spec {s : St} {a : Act} (hev : ∀ x v, s.ev x = some v → a.eval x = v) (sz : Nat) : ∀ {parts : List (Nat × Operand)} {ps : List (Nat × Value)}, partsOf s sz parts = some ps →
  parts.map (fun (i, x) => (i, a.eval x)) = ps
 | [], ps, h => by simp [partsOf] at h; simp [h]
 | (i, x) :: r, ps, h => by
  simp only [partsOf] at h
  split at h <;> cases h
  rename_i v vs h1 h2
  simp [hev x v h1, partsOf_spec hev sz h2]
theorem cells_zero {P : Program} {e : TypeId} {z : List Value} (h : cellsT P e = some z) : ∃ zv, zeroT P e = some zv ∧ zv.cells.toList = z := by
 unfold cellsT at h
 cases hz : zeroT P e with
 | none => rw [hz] at h; cases h
 | some zv => rw [hz] at h; exact ⟨zv, rfl, by simpa using h⟩
theorem opt0_spec {s : St} {a : Act} {w : World} (h : Agree s a w) {x : Operand} {vs : List Value} (hx : opt0 [] s (some x) = some vs) : (a.eval x).cells.toList = vs := by
 simp only [opt0] at hx
 cases hv : s.ev x with
 | none => rw [hv] at hx; cases hx
 | some v => rw [hv] at hx; rw [h.ev hv]; simpa using hx
theorem notIn_elim {l : List (Nat × Nat × List Value)} {b : Nat} {K : Prop} (h : notIn l b K) : b ∉ blocks l ∧ K := by
 unfold notIn at h
 split at h
 ·exact ⟨by simp [blocks], h⟩
 ·exact h
theorem keepB_elim {bs : List Nat} {w w' : World} {K : Prop} (h : keepB bs w w' K) : Keep bs w w' ∧ K := by
 unfold keepB at h
 split at h
 ·exact ⟨(fun b hb => by cases hb), h⟩
 ·exact h
theorem dok_keep {kp : List (Nat × Obj)} {bs : List Nat} {w w' : World} (h : Keep (kp.map (·.1) ++ bs) w w') (hd : KpAt kp w) : KpAt kp w' := ⟨fun D o hm => by
 obtain ⟨h1, h2⟩ := hd.at_ D o hm
 have := (h D (List.mem_append_left _ (List.mem_map.2 ⟨(D, o), hm, rfl⟩)) (Array.getElem?_eq_some_iff.1 h1).1).2
 exact ⟨this.trans h1, h2⟩, hd.nd⟩
theorem Keep.right {kp bs : List Nat} {w w' : World} (h : Keep (kp ++ bs) w w') : Keep bs w w' := fun b hb => h b (by simp [hb])
theorem flAnd_elim {fl : Bool} {w w' : World} {K : Prop} (h : flAnd fl w w' K) : (fl = true → Keeps w w') ∧ K := by
 cases fl
 ·exact ⟨fun h => (by cases h), h⟩
 ·exact ⟨fun _ => h.1, h.2⟩
theorem noFl_elim {fl : Bool} {K : Prop} (h : noFl fl K) : K := by
 cases fl
 ·exact h
 ·exact h.elim
theorem SameBut.keep {b : Nat} {w w' : World} (h : SameBut b w w') {bs : List Nat} (hb : b ∉ bs) : Keep bs w w' :=
 fun k hk hlt => ⟨by rw [h.size]; exact hlt, h.block k (fun e => hb (e ▸ hk))⟩
section
variable {r : Option Nat} {P : Program} {o : Oper} {s : St} {a : Act} {w wa : World} {K : Option EV → St → World → Prop} {Q : Exit → Act → World → Prop} {X : List PanicEntry → World → Prop} {pn fl kp : Bool}
theorem heavy_val {v : Value} {e : Option EV} {s' : St} {w' wa' : World} (hr : (execOp a.eval o).run P wa = .ok (.value v) wa') (hkp : kp = true → Keeps wa wa') (hg : Good s' a w' wa') (he : EVOk s' e v) (hk : K e s' w') (hl : LFr s s' := by exact LFr.of_eq rfl rfl) :
  HeavyOk r P kp o a s wa K Q := by
 unfold HeavyOk wpR
 rw [hr]
 exact ⟨hkp, v, e, s', w', rfl, hg, he, hl, hk⟩
theorem heavy_skip {e : Option EV} {s' : St} {w' wa' : World} (hr : (execOp a.eval o).run P wa = .ok .skip wa') (hkp : kp = true → Keeps wa wa') (hg : Good s' a w' wa') (he : EVOk s' e undef) (hk : K e s' w') (hl : LFr s s' := by exact LFr.of_eq rfl rfl) :
  HeavyOk r P kp o a s wa K Q := by
 unfold HeavyOk wpR
 rw [hr]
 exact ⟨hkp, undef, e, s', w', rfl, hg, he, hl, hk⟩
theorem callV_cases {fv : Value} {vs : List Value} {R : Ending → World → Prop} (h : callV P fv vs w R) : (∃ f first caps, fv = .func (.func f) first caps) ∨ ∃ l first caps, fv = .func (.yield l) first caps := by
 cases fv with
 | func fn first caps => cases fn with
  | func f => exact .inl ⟨f, first, caps, rfl⟩
  | yield l => exact .inr ⟨l, first, caps, rfl⟩
  | _ => exact h.elim
 | _ => exact h.elim
theorem callF_cases {fv : Value} {vs : List Value} {R : Ending → World → Prop} (h : callF P fv vs w R) : ∃ f first caps, fv = .func (.func f) first caps := by
 cases fv with
 | func fn first caps => cases fn with
  | func f => exact ⟨f, first, caps, rfl⟩
  | _ => exact h.elim
 | _ => exact h.elim
theorem call_sound {c : Call} {f : Operand} {sh : List Sh} (ho : o.op = .call c) (hf : c.callee = .value f) (hg : Good s a w wa) (hX : ∀ ch w, KpAt s.kp w → X ch w → Q (.panic ch) a w)
  (h : vcHeavy P pn fl X (.call f c.args.toList sh) s w K) : HeavyOk r P fl o a s wa K Q := by
 simp only [vcHeavy] at h
 split at h <;> try exact h.elim
 rename_i fv vs h1 h2
 replace h := hg.sync h
 have e1 := hg.ag.ev h1
 have e2 := hg.ag.evs h2
 have hargs : c.args.map a.eval = vs.toArray := by rw [← e2]; cases c with | mk x y z => cases y; simp
 let next : Act → World → Prop := fun a' wa' => (fl = true → Keeps wa wa') ∧ ∃ v e s' w', a' = a.put o.dst v ∧ Good s' a w' wa' ∧ EVOk s' e v ∧ LFr s s' ∧ K e s' w'
 have fin : ∀ e w', rets sh pn (fun ch w' => keepB (s.kp.map (·.1)) wa w' (X ch w')) (fun v w' => keepB (s.kp.map (·.1) ++ blocks s.l) wa w' (flAnd fl wa w' (K (some (.v v)) s.clean w'))) e w' →
   (match e, w' with | .returned v, w' => next (a.put o.dst v) w' | .panicked ch, w' => Q (.panic ch) a w' | .outgrown, _ => LetsOut Q) := by
  intro e w' hw
  unfold rets at hw
  have ret : (exR sh fun v => e = .returned v ∧ keepB (s.kp.map (·.1) ++ blocks s.l) wa w' (flAnd fl wa w' (K (some (.v v)) s.clean w'))) → ∃ v, e = .returned v ∧ next (a.put o.dst v) w' := by
   intro hx
   obtain ⟨v, he, hk⟩ := exR_some hx
   obtain ⟨hkeep, hk⟩ := keepB_elim hk
   obtain ⟨hfl, hk⟩ := flAnd_elim hk
   have hag : Agree s a w' := ⟨hg.ag.v, hg.ag.loc, hg.ag.lsl, hg.ag.lok.keep hkeep.right, dok_keep hkeep hg.ag.dok⟩
   exact ⟨v, he, hfl, v, some (.v v), s.clean, w', rfl, hag.good, rfl, LFr.of_eq rfl rfl, hk⟩
  cases pn
  ·obtain ⟨v, rfl, hn⟩ := ret hw
   exact hn
  ·rcases hw with hw | ⟨ch, rfl, hx⟩
   ·obtain ⟨v, rfl, hn⟩ := ret hw
    exact hn
   ·obtain ⟨hkeep, hx⟩ := keepB_elim hx
    exact hX ch w' (dok_keep (bs := []) (by simpa using hkeep) hg.ag.dok) hx
 rcases callV_cases h with ⟨fid, first, caps, rfl⟩ | ⟨l, first, caps, rfl⟩
 ·simp only [callV] at h
  split at h <;> try exact h.elim
  rename_i hok
  have hcall : (callFunc fid (first ++ vs.toArray ++ caps)).run P wa = .ok (.enter fid (first.toList ++ vs ++ caps.toList).toArray) wa := by
   unfold FnOk at hok
   split at hok <;> try cases hok
   rename_i fn hfn
   simp only [Bool.and_eq_true, Bool.not_eq_true'] at hok
   have hb : fn.body.isNone = false := by cases hb : fn.body <;> simp_all
   have : first ++ vs.toArray ++ caps = (first.toList ++ vs ++ caps.toList).toArray := by simp
   have hb' : fn.body ≠ none := by intro e; rw [e] at hb; cases hb
   have hn' : fn.name ≠ "runtime.NumGoroutine" := by intro e; rw [e] at hok; simp at hok
   simp [callFunc, hfn, hn', hb', this]
  have hr : (execOp a.eval o).run P wa = .ok (.enter fid (first.toList ++ vs ++ caps.toList).toArray) wa := by
   simp only [execOp, ho, resolve, hf, e1, Deferred.ofValue, hargs, Sem.run_bind, Sem.run_pure, Result.andThen_ok, invoke]
   exact hcall
  unfold HeavyOk wpR
  rw [hr]
  refine ⟨fun hd => (by cases hd), (callsIn_wide.2 (h.mono fun e w' hw => ?_) :)⟩
  have := fin e w' hw
  cases e <;> exact this
 ·simp only [callV] at h
  obtain ⟨fn, tmps, assign, body, hy, hround⟩ := h
  have hr : (execOp a.eval o).run P wa = .ok (.round l fn tmps assign body) wa := by
   simp only [execOp, ho, resolve, hf, e1, Deferred.ofValue, hargs, Sem.run_bind, Sem.run_pure, Result.andThen_ok, invoke]
   have : first ++ vs.toArray = (first.toList ++ vs).toArray := by simp
   rw [this]; exact hy
  unfold HeavyOk wpR
  rw [hr]
  refine ⟨fun hd => (by cases hd), (RoundIn.mono hround fun e w' hw => ?_ :)⟩
  have := fin e w' hw
  cases e <;> exact this
theorem firstCells_run {P : Program} {w : World} {base : Option Addr} {n sz len cap : Nat} {fs : List Value} (hl : fs.length = n * sz) (h : CellsAre w base fs) :
  (Builtin.firstCells sz n (.slice base len cap)).run P w = .ok fs.toArray w := by
 cases base with
 | none =>
  have : fs = [] := by
   cases fs with
   | nil => rfl
   | cons v vs => obtain ⟨a, ha, _⟩ := h 0 v rfl; cases ha
  subst this
  simp [Builtin.firstCells]
 | some a =>
  simp only [Builtin.firstCells]
  rw [← hl]
  refine run_loadCells_list w a fs fun j v hj => ?_
  obtain ⟨a', ha', hc⟩ := h j v hj
  cases ha'; exact hc
theorem app_run {c : Call} {x y : Operand} {t u e e2 : TypeId} {info : TypeInfo} {z fs : List Value} {base : Option Addr} {len cap n : Nat} {yv : Value} {F : Option Addr → Nat → Nat → World → Prop}
  (ho : o.op = .call c) (hf : c.callee = .builtin .append) (hx : c.args.toList = [x, y]) (ht : c.argTypes.toList = [t, u]) (hut : P.underlying t = some (.slice e)) (huu : P.underlying u = some (.slice e2))
  (hi : P.info? e = some info) (hz : cellsT P e = some z) (hsz : info.size = z.length) (h1 : a.eval x = .slice base len cap) (h2 : a.eval y = yv)
  (hlen : ∀ wx, (Builtin.lenOf yv).run P wx = .ok n wx) (l : List (Nat × Nat × List Value))
  (hfs : fs.length = n * info.size) (hone : oneAll fs = true) (hread : ∀ wx, wx.heap = wa.heap → (Builtin.firstCells info.size n yv).run P wx = .ok fs.toArray wx)
  (h : appVC wa l base len cap n info.size info.bytes e z fs F) :
  ∃ b' c' w', (execOp a.eval o).run P wa = .ok (.value (.slice b' (len + n) c')) w' ∧ F b' (len + n) c' w' ∧ Keep (blocks l) wa w' ∧ KpK wa w' := by
 have hargs : c.args = #[x, y] := by cases c with | mk p q r => cases q; simp_all
 have htys : c.argTypes = #[t, u] := by cases c with | mk p q r => cases r; simp_all
 have hs : szT P e = some info.size := by simp [szT, hi]
 have hti : ∀ wx, (typeInfo e).run P wx = .ok info wx := fun wx => by simp [typeInfo, hi]
 obtain ⟨zv, hzv, hzc⟩ := cells_zero hz
 have hb : (execOp a.eval o).run P wa = ((Builtin.append_ #[t, u] o.type #[.slice base len cap, yv]).run P wa).andThen fun v w' => .ok (.value v) w' := by
  simp only [execOp, ho, resolve, hf, Sem.run_bind, Sem.run_pure, Result.andThen_ok, invoke, hargs, htys, builtin]
  simp [h1, h2]
 obtain ⟨hin, hout⟩ := h
 by_cases hroom : len + n ≤ cap
 ·have hrd := hread wa rfl
  rcases hin hroom with ⟨rfl, hk⟩ | ⟨a0, rfl, hcan, hni⟩
  ·refine ⟨base, cap, wa, ?_, hk, (Ext.refl _).keep _, KpK.refl _⟩
   rw [hb]
   cases base with
   | none => simp [Builtin.append_, run_und hut, run_und huu, run_sz hs, hlen, hroom, hrd]
   | some a0 => simp [Builtin.append_, run_und hut, run_und huu, run_sz hs, hlen, hroom, hrd, storeCells]
  ·obtain ⟨hnb, hk⟩ := notIn_elim hni
   have hst := run_storeCells (P := P) (w := wa) (a := a0.add (len * info.size)) (i := 0) hone (canSet_of fun j _ hj => hcan j (by omega))
   refine ⟨some a0, cap, _, ?_, hk, ?_, KpK.setCells _ _ _ _⟩
   ·rw [hb]
    simp [Builtin.append_, run_und hut, run_und huu, run_sz hs, hlen, hroom, hrd, hst]
   ·have := setCells_same fs wa (a0.add (len * info.size)) 0
    rw [add_block] at this
    exact this.keep hnb
 ·obtain ⟨hb1, hb2, old, hol, hoc, hk⟩ := hout (by omega)
  have hgf := growslice_fits (need := len + n) (old := cap) (bytes := info.bytes) (by omega) hb1
  have hcutge : len + n ≤ Question.cut (.appendCap (len + n) cap e) (wa.tape wa.drawn (.appendCap (len + n) cap e)) := by simp [Question.cut]
  generalize hcut : Question.cut (.appendCap (len + n) cap e) (wa.tape wa.drawn (.appendCap (len + n) cap e)) = cap' at hcutge
  have hrd := hread wa.drew rfl
  have hold : (Builtin.firstCells info.size len (.slice base len cap)).run P wa.drew = .ok old.toArray wa.drew := firstCells_run hol hoc
  have hzero : Builtin.zeroCells zv.cells (cap' - (len + n)) = mkCells z (cap' - (len + n)) := by
   unfold Builtin.zeroCells mkCells
   rw [← hzc]; simp
  refine ⟨some ⟨wa.heap.size, 0, none⟩, cap', wa.drew.alloc (.cells (old ++ fs ++ (mkCells z (cap' - (len + n))).toList).toArray e (0, 0)), ?_, hk cap' _ _ hcutge ⟨rfl, rfl⟩, ?_, ((Ext.refl wa).drew.alloc _).kpk⟩
  ·rw [hb]
   have hmax : ¬ (((len + n : Nat) : Int) > IntKind.i64.max ∧ (False ∨ info.bytes = 0)) := by
    rintro ⟨h1, _⟩
    have : IntKind.i64.max = 9223372036854775807 := by decide
    omega
   have hch : (choose (.appendCap (len + n) cap e)).run P wa = .ok cap' wa.drew := by
    rw [run_choose, hcut]
    simp [Question.forced]
   have hbig : ¬ (2 ^ 48 < Builtin.nextslicecap (len + n) cap * info.bytes) := by omega
   have hforced : (Question.appendCap (len + n) cap e).forced = false := rfl
   have hn1 : ¬ ((9223372036854775807 : Int) < (len : Int) + n ∧ info.bytes = 0) := by rintro ⟨h1, _⟩; omega
   have hbig' : ¬ 281474976710656 < Builtin.nextslicecap (len + n) cap * info.bytes := by omega
   simp only [Builtin.append_, List.getElem?_toArray, List.getElem?_cons_zero, List.getElem?_cons_succ]
   simp [run_und hut, run_und huu, run_sz hs, hlen, hroom, hti, hch, hold, hrd, zero_run hzv, hzero, newRow, hn1, hbig', hforced, hcut]
   congr 2
   apply Array.ext'
   simp
  ·exact ((Ext.refl wa).drew.alloc _).keep _
theorem rep_oneAll {z : List Value} (h : oneAll z = true) : ∀ n, oneAll (rep n z) = true
 | 0 => rfl
 | n + 1 => by
  have ih := rep_oneAll h n
  simp only [rep, oneAll, List.all_append, Bool.and_eq_true] at ih h ⊢
  exact ⟨h, ih⟩
theorem appz_run {c : Call} {x y : Operand} {t u e : TypeId} {ku k' : IntKind} {info : TypeInfo} {z : List Value} {base : Option Addr} {len cap : Nat} {n : Int} {F : Option Addr → Nat → Nat → World → Prop}
  (ho : o.op = .call c) (hf : c.callee = .builtin .append) (hx : c.args.toList = [x, y]) (ht : c.argTypes.toList = [t, u]) (hut : P.underlying t = some (.slice e)) (huu : P.underlying u = some (.int ku))
  (hi : P.info? e = some info) (hz : cellsT P e = some z) (hsz : info.size = z.length) (h1 : a.eval x = .slice base len cap) (h2 : a.eval y = .int k' n)
  (h0 : 0 ≤ n) (hb48 : n * info.bytes ≤ 2 ^ 48) (h62 : n < 2 ^ 62) (l : List (Nat × Nat × List Value)) (hone : oneAll z = true)
  (h : appVC wa l base len cap n.toNat info.size info.bytes e z (rep n.toNat z) F) :
  ∃ b' c' w', (execOp a.eval o).run P wa = .ok (.value (.slice b' (len + n.toNat) c')) w' ∧ F b' (len + n.toNat) c' w' ∧ Keep (blocks l) wa w' ∧ KpK wa w' := by
 have hargs : c.args = #[x, y] := by cases c with | mk p q r => cases q; simp_all
 have htys : c.argTypes = #[t, u] := by cases c with | mk p q r => cases r; simp_all
 have hs : szT P e = some info.size := by simp [szT, hi]
 have hti : ∀ wx, (typeInfo e).run P wx = .ok info wx := fun wx => by simp [typeInfo, hi]
 obtain ⟨zv, hzv, hzc⟩ := cells_zero hz
 have hw : IntKind.i64.wrap n = n := by
  have e1 : n % 2 ^ 64 = n := Int.emod_eq_of_lt h0 (by omega)
  simp [IntKind.wrap, IntKind.bits, IntKind.signed] at e1 ⊢
  rw [e1]; omega
 have hb : (execOp a.eval o).run P wa = ((Builtin.append_ #[t, u] o.type #[.slice base len cap, .int k' n]).run P wa).andThen fun v w' => .ok (.value v) w' := by
  simp only [execOp, ho, resolve, hf, Sem.run_bind, Sem.run_pure, Result.andThen_ok, invoke, hargs, htys, builtin]
  simp [h1, h2]
 have hneg : ¬ n < 0 := by omega
 have hbig0 : ¬ (281474976710656 : Int) < n * info.bytes := by omega
 obtain ⟨m, rfl⟩ := Int.eq_ofNat_of_zero_le h0
 simp only [Int.toNat_natCast] at h ⊢
 have hzeros : ∀ k, Builtin.zeroCells zv.cells k = mkCells z k := fun k => by
  unfold Builtin.zeroCells mkCells
  rw [← hzc]; simp
 have hmk : (mkCells z m).toList = rep m z := by rw [mkCells_rep]
 have hnilm : m * info.size = 0 → rep m z = [] := fun he => List.length_eq_zero_iff.1 (by rw [rep_length, ← hsz, he])
 obtain ⟨hin, hout⟩ := h
 by_cases hroom : len + m ≤ cap
 ·rcases hin hroom with ⟨hnil, hk⟩ | ⟨a0, rfl, hcan, hni⟩
  ·refine ⟨base, cap, wa, ?_, hk, (Ext.refl _).keep _, KpK.refl _⟩
   rw [hb]
   have hmk0 : mkCells z m = #[] := by apply Array.ext'; rw [hmk, hnil]
   by_cases hms : m * info.size = 0
   ·cases base with
    | none => simp [Builtin.append_, run_und hut, run_und huu, run_sz hs, asInt, asIntOf, hw, hneg, hti, hbig0, hroom, hms]
    | some a0 => simp [Builtin.append_, run_und hut, run_und huu, run_sz hs, asInt, asIntOf, hw, hneg, hti, hbig0, hroom, hms, storeCells]
   ·cases base with
    | none => simp [Builtin.append_, run_und hut, run_und huu, run_sz hs, asInt, asIntOf, hw, hneg, hti, hbig0, hroom, hms, zero_run hzv, hzeros]
    | some a0 => simp [Builtin.append_, run_und hut, run_und huu, run_sz hs, asInt, asIntOf, hw, hneg, hti, hbig0, hroom, hms, zero_run hzv, hzeros, hmk0, storeCells]
  ·obtain ⟨hnb, hk⟩ := notIn_elim hni
   have hst := run_storeCells (P := P) (w := wa) (a := a0.add (len * info.size)) (i := 0) (rep_oneAll hone m) (canSet_of fun j _ hj => hcan j (by omega))
   refine ⟨some a0, cap, _, ?_, hk, ?_, KpK.setCells _ _ _ _⟩
   ·rw [hb]
    by_cases hms : m * info.size = 0
    ·rw [hnilm hms] at hst ⊢
     simp [Builtin.append_, run_und hut, run_und huu, run_sz hs, asInt, asIntOf, hw, hneg, hti, hbig0, hroom, hms, hst]
    ·simp [Builtin.append_, run_und hut, run_und huu, run_sz hs, asInt, asIntOf, hw, hneg, hti, hbig0, hroom, hms, zero_run hzv, hzeros, hmk, hst]
   ·have := setCells_same (rep m z) wa (a0.add (len * info.size)) 0
    rw [add_block] at this
    exact this.keep hnb
 ·obtain ⟨hb1, hb2, old, hol, hoc, hk⟩ := hout (by omega)
  have hgf := growslice_fits (need := len + m) (old := cap) (bytes := info.bytes) (by omega) hb1
  have hcutge : len + m ≤ Question.cut (.appendCap (len + m) cap e) (wa.tape wa.drawn (.appendCap (len + m) cap e)) := by simp [Question.cut]
  generalize hcut : Question.cut (.appendCap (len + m) cap e) (wa.tape wa.drawn (.appendCap (len + m) cap e)) = cap' at hcutge
  have hold : (Builtin.firstCells info.size len (.slice base len cap)).run P wa.drew = .ok old.toArray wa.drew := firstCells_run hol hoc
  refine ⟨some ⟨wa.heap.size, 0, none⟩, cap', wa.drew.alloc (.cells (old ++ rep m z ++ (mkCells z (cap' - (len + m))).toList).toArray e (0, 0)), ?_, hk cap' _ _ hcutge ⟨rfl, rfl⟩, ?_, ((Ext.refl wa).drew.alloc _).kpk⟩
  ·rw [hb]
   have hforced : (Question.appendCap (len + m) cap e).forced = false := rfl
   have hn1 : ¬ ((9223372036854775807 : Int) < (len : Int) + m) := by omega
   have hbig' : ¬ 281474976710656 < Builtin.nextslicecap (len + m) cap * info.bytes := by omega
   have hch : (choose (.appendCap (len + m) cap e)).run P wa = .ok cap' wa.drew := by
    rw [run_choose, hcut]
    simp [Question.forced]
   simp only [Builtin.append_, List.getElem?_toArray, List.getElem?_cons_zero, List.getElem?_cons_succ]
   by_cases hms : m * info.size = 0
   ·rw [hnilm hms]
    simp [run_und hut, run_und huu, run_sz hs, asInt, asIntOf, hw, hneg, hbig0, hroom, hti, hch, hold, zero_run hzv, hzeros, newRow, hn1, hbig', hforced, hcut, hms]
    congr 2
    apply Array.ext'
    simp
   ·simp [run_und hut, run_und huu, run_sz hs, asInt, asIntOf, hw, hneg, hbig0, hroom, hti, hch, hold, zero_run hzv, hzeros, newRow, hn1, hbig', hforced, hcut, hms]
    congr 2
    apply Array.ext'
    simp [hmk]
  ·exact ((Ext.refl wa).drew.alloc _).keep _
theorem bsl_run {t e : TypeId} {n sz : Nat} {parts : Array (Nat × Operand)} {z : List Value} {ps : List (Nat × Value)} (ho : o.op = .buildSlice t n parts) (hu : P.underlying t = some (.slice e))
  (hs : szT P e = some sz) (hz : cellsT P e = some z) (hle : Nat.ble (n * sz) 4096 = true) (hev : ∀ x v, s.ev x = some v → a.eval x = v) (hp : partsOf s sz parts.toList = some ps)
  (hok : (layOk sz (n * sz) ps && Nat.beq z.length sz) = true) :
  (execOp a.eval o).run P wa = .ok (.value (.slice (some ⟨wa.heap.size, 0, none⟩) n n)) (wa.alloc (.cells (lay sz (rep n z) ps).toArray e (0, 0))) := by
 simp only [Bool.and_eq_true] at hok
 have hzl := Nat.eq_of_beq_eq_true hok.2
 have hle := Nat.le_of_ble_eq_true hle
 obtain ⟨zv, hzv, hzc⟩ := cells_zero hz
 have hps : (parts.map fun (i, x) => (i, a.eval x)).toList = ps := by rw [← partsOf_spec hev sz hp]; simp
 have hrep : (rep n z).length = n * sz := by rw [rep_length, hzl]
 have hfill := fill_lay hok.1 hrep
 have hbig : ¬ n * sz > 2 ^ 24 := by omega
 have hzs : zv.cells.size = sz := by rw [← hzl, ← hzc]; simp
 simp only [execOp, ho, Instr.buildSlice, Sem.run_bind, run_und hu, Result.andThen_ok, run_sz hs, hps]
 by_cases h0 : n * sz = 0
 ·have hre : rep n z = [] := by
   cases hr : rep n z with
   | nil => rfl
   | cons v vs => rw [hr] at hrep; simp at hrep; omega
  rw [hre] at hfill
  have hr0 : (Array.map (fun _ => (default : Value)) (Array.range 0)) = [].toArray := by simp
  simp [h0, newRow, hre]
  rw [hr0, hfill]
  simp
 ·have hmk : (Array.range (n * sz)).map (fun i => zv.cells[i % zv.cells.size]!) = (rep n z).toArray := by
   rw [← mkCells_rep]
   unfold mkCells
   rw [hzl, ← hzc]
  simp [h0, hbig, zero_run hzv, hmk, hfill, newRow]
theorem mksl_run {t e : TypeId} {info : TypeInfo} {z : List Value} {l c : Operand} {k k' : IntKind} {ln cn : Int} (ho : o.op = .makeSlice t l c) (hu : P.underlying t = some (.slice e))
  (hi : P.info? e = some info) (hz : cellsT P e = some z) (hsz : info.size = z.length) (h1 : a.eval l = .int k ln) (h2 : a.eval c = .int k' cn)
  (h0 : 0 ≤ ln) (hlc : ln ≤ cn) (hb : cn * info.bytes ≤ 2 ^ 48) (hc : cn < 2 ^ 62) :
  (execOp a.eval o).run P wa = .ok (.value (.slice (some ⟨wa.heap.size, 0, none⟩) ln.toNat cn.toNat)) (wa.alloc (.cells (mkCells z cn.toNat) e (0, 0))) := by
 have hs : szT P e = some info.size := by simp [szT, hi]
 have hti : ∀ wx, (typeInfo e).run P wx = .ok info wx := fun wx => by simp [typeInfo, hi]
 obtain ⟨zv, hzv, hzc⟩ := cells_zero hz
 have wrap : ∀ x : Int, 0 ≤ x → x < 2 ^ 62 → IntKind.i64.wrap x = x := by
  intro x hx0 hx1
  have e1 : x % 2 ^ 64 = x := Int.emod_eq_of_lt hx0 (by omega)
  simp [IntKind.wrap, IntKind.bits, IntKind.signed] at e1 ⊢
  rw [e1]; omega
 have w1 := wrap ln h0 (by omega)
 have w2 := wrap cn (by omega) hc
 have hmul : info.bytes * cn ≤ 2 ^ 48 := by rw [Int.mul_comm]; exact hb
 have hmul' : ¬ (281474976710656 : Int) < info.bytes * cn := by omega
 have hcn : ¬ cn < 0 := by omega
 have hln : ¬ ln < 0 := by omega
 have hlc' : ¬ cn < ln := by omega
 simp only [execOp, ho, Instr.makeSlice, Sem.run_bind, run_und hu, Result.andThen_ok, h1, h2, asInt, asIntOf, Sem.run_pure, hti, w1, w2]
 by_cases hn0 : cn.toNat * info.size = 0
 ·have : mkCells z cn.toNat = #[] := by
   rw [mkCells_rep]
   have := rep_length z cn.toNat
   rw [← hsz, hn0] at this
   rw [List.eq_nil_of_length_eq_zero this]
  have hr0 : (Array.map (fun _ => (default : Value)) (Array.range 0)) = #[] := by simp
  simp [hcn, hln, hlc', hmul', run_sz hs, hn0, newRow, this]
  rw [hr0]
 ·have : (Array.range (cn.toNat * info.size)).map (fun i => zv.cells[i % zv.cells.size]!) = mkCells z cn.toNat := by
   unfold mkCells
   rw [hsz, ← hzc]
   try simp
  simp [hcn, hln, hlc', hmul', run_sz hs, hn0, newRow, zero_run hzv, this]
theorem cpy_run {c : Call} {x y : Operand} {t u e : TypeId} {sz dlen slen dc sc : Nat} {fs : List Value} {base base2 : Option Addr} {F : World → Prop}
  (ho : o.op = .call c) (hf : c.callee = .builtin .copy) (hx : c.args.toList = [x, y]) (ht : c.argTypes.toList = [t, u]) (hut : P.underlying t = some (.slice e)) (hs : szT P e = some sz)
  (h1 : a.eval x = .slice base dlen dc) (h2 : a.eval y = .slice base2 slen sc) (l : List (Nat × Nat × List Value)) (hl : fs.length = min slen dlen * sz) (hone : oneAll fs = true) (hread : CellsAre wa base2 fs)
  (h : (fs = [] ∧ F wa) ∨ ∃ a, base = some a ∧ CanSet wa a fs.length ∧ notIn l a.block (F (setCells wa a fs 0))) :
  ∃ w', (execOp a.eval o).run P wa = .ok (.value (.int .i64 (min slen dlen : Nat))) w' ∧ F w' ∧ Keep (blocks l) wa w' ∧ KpK wa w' := by
 have hargs : c.args = #[x, y] := by cases c with | mk p q r => cases q; simp_all
 have htys : c.argTypes = #[t, u] := by cases c with | mk p q r => cases r; simp_all
 have hb : (execOp a.eval o).run P wa = ((Builtin.copy_ #[t, u] o.type #[.slice base dlen dc, .slice base2 slen sc]).run P wa).andThen fun v w' => .ok (.value v) w' := by
  simp only [execOp, ho, resolve, hf, Sem.run_bind, Sem.run_pure, Result.andThen_ok, invoke, hargs, htys, builtin]
  simp [h1, h2]
 have hrd : (Builtin.firstCells sz (min slen dlen) (.slice base2 slen sc)).run P wa = .ok fs.toArray wa := firstCells_run hl hread
 have hmin : Nat.min slen dlen = min slen dlen := rfl
 rcases h with ⟨rfl, hk⟩ | ⟨a0, rfl, hcan, hni⟩
 ·refine ⟨wa, ?_, hk, (Ext.refl _).keep _, KpK.refl _⟩
  rw [hb]
  cases base with
  | none => simp [Builtin.copy_, run_und hut, run_sz hs, Builtin.lenOf, hmin, hrd, goInt]
  | some a0 => simp [Builtin.copy_, run_und hut, run_sz hs, Builtin.lenOf, hmin, hrd, goInt, storeCells]
 ·obtain ⟨hnb, hk⟩ := notIn_elim hni
  have hst := run_storeCells (P := P) (w := wa) (a := a0) (i := 0) hone (canSet_of fun j _ hj => hcan j (by omega))
  refine ⟨_, ?_, hk, (setCells_same fs wa a0 0).keep hnb, KpK.setCells _ _ _ _⟩
  rw [hb]
  simp [Builtin.copy_, run_und hut, run_sz hs, Builtin.lenOf, hmin, hrd, goInt, hst]
theorem clr_run {c : Call} {x : Operand} {t e : TypeId} {n cap : Nat} {z : List Value} {base : Option Addr} {F : World → Prop}
  (ho : o.op = .call c) (hf : c.callee = .builtin .clear) (hx : c.args.toList = [x]) (ht : c.argTypes.toList = [t]) (hut : P.underlying t = some (.slice e)) (hz : cellsT P e = some z) (hone : oneAll z = true)
  (h1 : a.eval x = .slice base n cap) (l : List (Nat × Nat × List Value))
  (h : (n = 0 ∧ F wa) ∨ (n ≠ 0 ∧ ∃ a, base = some a ∧ CanSet wa a (rep n z).length ∧ notIn l a.block (F (setCells wa a (rep n z) 0)))) :
  ∃ w', (execOp a.eval o).run P wa = .ok (.value (.tuple #[])) w' ∧ F w' ∧ Keep (blocks l) wa w' ∧ KpK wa w' := by
 have hargs : c.args = #[x] := by cases c with | mk p q r => cases q; simp_all
 have htys : c.argTypes = #[t] := by cases c with | mk p q r => cases r; simp_all
 have hb : (execOp a.eval o).run P wa = ((Builtin.clear_ #[t] o.type #[.slice base n cap]).run P wa).andThen fun v w' => .ok (.value v) w' := by
  simp only [execOp, ho, resolve, hf, Sem.run_bind, Sem.run_pure, Result.andThen_ok, invoke, hargs, htys, builtin]
  simp [h1]
 obtain ⟨zv, hzv, hzc⟩ := cells_zero hz
 rcases h with ⟨rfl, hk⟩ | ⟨hn, a0, rfl, hcan, hni⟩
 ·refine ⟨wa, ?_, hk, (Ext.refl _).keep _, KpK.refl _⟩
  rw [hb]
  cases base with
  | none => simp [Builtin.clear_, run_und hut]
  | some a0 => simp [Builtin.clear_, run_und hut]
 ·obtain ⟨hnb, hk⟩ := notIn_elim hni
  have hst := run_storeCells (P := P) (w := wa) (a := a0) (i := 0) (rep_oneAll hone n) (canSet_of fun j _ hj => hcan j (by omega))
  refine ⟨_, ?_, hk, (setCells_same (rep n z) wa a0 0).keep hnb, KpK.setCells _ _ _ _⟩
  have hfill : (Builtin.zeroCells zv.cells n).toList = rep n z := by
   have h1 : Builtin.zeroCells zv.cells n = mkCells z n := by
    unfold Builtin.zeroCells mkCells
    have : zv.cells = z.toArray := by rw [← hzc]
    rw [this]; simp
   rw [h1, mkCells_rep]
  rw [hb]
  obtain ⟨m, rfl⟩ : ∃ m, n = m + 1 := ⟨n - 1, by omega⟩
  simp [Builtin.clear_, run_und hut, zero_run hzv, hfill, hst]
theorem mark_run {t e e0 : TypeId} {a0 : Addr} {n c : Nat} {C : Array Value} {w : World} (ht : P.underlying t = some (.slice e)) (he : P.underlying e = some (.int .u8)) (hb : w.heap[a0.block]? = some (.cells C e0 (0, 0))) :
  ∃ w', (convert t t (.slice (some a0) n c)).run P w = .ok (.slice (some a0) n c) w' ∧ Mk a0.block w w' := by
 have hsh : w.shape? a0.block = some (e0, C.size) := by
  unfold World.shape?
  rw [hb]
 have hlt : a0.block < w.heap.size := by
  rcases Nat.lt_or_ge a0.block w.heap.size with h' | h'
  ·exact h'
  ·rw [Array.getElem?_eq_none h'] at hb; cases hb
 refine ⟨w.freeze ⟨a0.block, C.size, none⟩ 1, ?_, ⟨⟨rfl, rfl, rfl, ?_, fun k hk => ?_⟩, fun x => ?_⟩⟩
 ·simp [convert, run_und ht, run_und he, markStringish, hsh]
 ·simp [World.freeze]
 ·unfold World.freeze
  rw [if_neg (by decide)]
  show (w.heap.modify a0.block _)[k]? = _
  rw [Array.getElem?_modify, if_neg (fun e => hk e.symm)]
 ·have hheap : ∀ k, (w.freeze ⟨a0.block, C.size, none⟩ 1).heap[k]? = if k = a0.block then some (.cells C e0 (C.size, C.size + 1)) else w.heap[k]? := fun k => by
   unfold World.freeze
   rw [if_neg (by decide)]
   show (w.heap.modify a0.block _)[k]? = _
   rw [Array.getElem?_modify]
   split
   ·rename_i e
    subst e
    rw [hb, if_pos rfl]; rfl
   ·rename_i e
    rw [if_neg (fun e' => e e'.symm)]
  unfold World.cell?
  rw [hheap]
  by_cases e : x.block = a0.block
  ·rw [if_pos e, e, hb]
  ·rw [if_neg e]
def Ins.light : Ins → Bool
 | .st .. | .boxV .. | .boxL .. | .bslV .. | .bslL .. | .mksl .. | .app .. | .appz .. | .cpy .. | .call .. | .mkmp | .mget .. | .mset .. | .mark .. | .bstr .. | .clr .. | .pan .. => false
 | _ => true
theorem vcHeavy_eq {i : Ins} (hl : i.light = true) : vcHeavy P pn fl X i s w K = vcLight i s w K := by
 cases i <;> first | rfl | (simp [Ins.light] at hl)
theorem compileBin_light {op : BinOp} {t : TypeId} {x y : Operand} {i : Ins} (h : compileBin P op t x y = some i) : i.light = true := by
 unfold compileBin at h
 (repeat' split at h) <;> first | (cases h; rfl) | cases h
theorem compileLight_light {op : Op} {i : Ins} (h : compileLight P op = some i) : i.light = true := by
 unfold compileLight at h
 split at h
 case h_4 => exact compileBin_light h
 all_goals
  (repeat' split at h) <;> first
   | (cases h; rfl)
   | (cases h; done)
   | (obtain ⟨_, _, rfl⟩ := Option.map_eq_some_iff.1 h; rfl)
theorem vcHeavy_light {op : Op} {i : Ins} (hl : compileLight P op = some i) (h : vcHeavy P pn fl X i s w K) : vcLight i s w K := by
 rw [← vcHeavy_eq (compileLight_light hl)]; exact h
theorem lfr_cons (s : St) (x : Nat × Nat × List Value) (d : Bool) : LFr s { s with l := x :: s.l, dirty := d } :=
 ⟨⟨rfl, rfl⟩, fun k b cs hm => ⟨cs, List.mem_cons_of_mem _ hm, fun _ => rfl⟩⟩
theorem heavy_sound {loc : Bool} {i : Ins} (hc : compileHeavy P loc o.dst o.type o.op = some i) (hg : Good s a w wa) (hX : ∀ ch w, KpAt s.kp w → X ch w → Q (.panic ch) a w)
  (h : vcHeavy P pn fl X i s w K) : HeavyOk r P (i.kp fl) o a s wa K Q := by
 have hev : ∀ {x v}, s.ev x = some v → a.eval x = v := fun hv => hg.ag.ev hv
 have hevE : ∀ {x e}, s.evE x = some e → EVOk s (some e) (a.eval x) := fun hv => hg.ag.evE hv
 unfold compileHeavy at hc
 split at hc
 case h_1 t x v ho =>
  split at hc <;> cases hc
  rename_i n hn
  simp only [vcHeavy] at h
  have h := noFl_elim h
  split at h <;> try exact h.elim
  rename_i val hv
  rcases brB_elim h with ⟨hok, h⟩ | ⟨_, h⟩
  case inr => exact h.elim
  simp only [Bool.and_eq_true] at hok
  have hlen := Nat.eq_of_beq_eq_true hok.2
  have run : ∀ y, a.eval x = .pointer (some y) → canSet wa y val.cells.toList 0 True → (execOp a.eval o).run P wa = .ok .skip (setCells wa y val.cells.toList 0) := by
   intro y hy hcan
   have hsz : val.cells.size = n := by simpa using hlen
   simp only [execOp, ho, hy, hev hv, Instr.storeAt, Instr.sureAddr, storeVar, Sem.run_bind, Sem.run_pure, Result.andThen_ok, run_sz hn, hsz, ne_eq, not_true_eq_false, if_false]
   simp [run_storeCells hok.1 hcan]
  split at h <;> try exact h.elim
  ·rename_i p hp
   obtain ⟨y, rfl, h⟩ := nn_some h
   have h := hg.sync h
   obtain ⟨hcan, h⟩ : canSet wa y val.cells.toList 0 True ∧ notIn s.l y.block (K none s.clean (setCells wa y val.cells.toList 0)) := by
    unfold canSetN at h
    split at h
    ·exact canSet_split h
    ·exact ⟨canSet_of fun j hj hjl => h.1 j (by omega), h.2⟩
   obtain ⟨hnb, hk⟩ := notIn_elim h
   exact heavy_skip (run y (hevE hp) hcan) (fun h => by simp [Ins.kp] at h) ((hg.ag.keep ((setCells_same _ _ _ _).keep hnb) (KpK.setCells _ _ _ _)).good) (e := none) trivial hk
  ·rename_i k off hp
   obtain ⟨b, cs, hm, he⟩ := hevE hp
   split at h <;> try exact h.elim
   rename_i b' cs' hl
   rw [look_of_mem hg.ag.lok.keys hm] at hl
   cases hl
   split at h <;> try exact h.elim
   rename_i hle
   simp only [Bool.and_eq_true] at hle
   have hro : k ∉ s.ro := fun hm => by
    have := hle.2
    simp only [Bool.not_eq_true'] at this
    have := List.any_eq_false.1 this k hm
    simp at this
   have hle := Nat.le_of_ble_eq_true hle.1
   obtain ⟨hlt, e, hb⟩ := hg.ag.lok.at_ _ _ _ hm
   have hlf : LFr s { s with l := change k (fun cs => cs.take off ++ val.cells.toList ++ cs.drop (off + val.cells.toList.length)) s.l, dirty := true } :=
    ⟨⟨rfl, rfl⟩, fun k' b' cs' hm' => by
     obtain ⟨c2, h2, h3⟩ := change_mem' (k := k) (f := fun cs => cs.take off ++ val.cells.toList ++ cs.drop (off + val.cells.toList.length)) hm'
     exact ⟨c2, h2, fun hr => h3 (fun e => hro (e ▸ hr))⟩⟩
   refine heavy_skip (hl := hlf) (run _ he (canSet_of fun j hj hjl => ?_)) (fun h => by simp [Ins.kp] at h) (good_stLocal hg hm hle) (e := none) trivial h
   rw [loc_add]
   refine ⟨⟨cs[off + j]'(by omega), cell_of_block hb (List.getElem?_eq_getElem _)⟩, ?_⟩
   simp [World.frozen?, hb]
 case h_2 e ho =>
  have run : ∀ z, cellsT P e = some z → (execOp a.eval o).run P wa = .ok (.value (.pointer (some ⟨wa.heap.size, 0, none⟩))) (wa.alloc (.cells z.toArray e (0, 0))) := by
   intro z hz
   obtain ⟨zv, hzv, hzc⟩ := cells_zero hz
   have : zv.cells = z.toArray := by rw [← hzc]
   simp [execOp, ho, Instr.alloc, zero_run hzv, newVar, newRow, this]
  split at hc <;> cases hc
  ·rename_i z hz
   simp only [vcHeavy, opt0] at h
   have h := hg.sync h
   exact heavy_val (run z hz) (fun _ => Keeps.alloc _ _) (good_alloc hg _) (e := some (.v _)) rfl (h _ _ ⟨rfl, rfl⟩)
  ·rename_i z k hz hd
   simp only [vcHeavy, opt0] at h
   split at h <;> try exact h.elim
   rename_i vs hvs hl
   simp only [Option.some.injEq] at hvs
   subst hvs
   exact heavy_val (run _ hz) (fun _ => Keeps.alloc _ _) (good_local hg hl) (e := some (.loc k 0)) ⟨_, _, List.mem_cons_self .., rfl⟩ (h _ hg.locl.size) (hl := lfr_cons s _ _)
 case h_3 e v ho =>
  have run : (execOp a.eval o).run P wa = .ok (.value (.pointer (some ⟨wa.heap.size, 0, none⟩))) (wa.alloc (.cells (a.eval v).cells e (0, 0))) := by
   simp [execOp, ho, Instr.box, newVar, newRow]
  split at hc <;> cases hc
  ·simp only [vcHeavy] at h
   split at h <;> try exact h.elim
   rename_i vs hvs
   have := opt0_spec hg.ag hvs
   have h := hg.sync h
   refine heavy_val run (fun _ => Keeps.alloc _ _) (good_alloc hg _) (e := some (.v _)) rfl (h _ _ ⟨rfl, ?_⟩)
   rw [← this]
  ·rename_i k hd
   simp only [vcHeavy] at h
   split at h <;> try exact h.elim
   rename_i vs hvs hl
   have := opt0_spec hg.ag hvs
   have e1 : (a.eval v).cells = vs.toArray := by rw [← this]
   rw [e1] at run
   exact heavy_val run (fun _ => Keeps.alloc _ _) (good_local hg hl) (e := some (.loc k 0)) ⟨_, _, List.mem_cons_self .., rfl⟩ (h _ hg.locl.size) (hl := lfr_cons s _ _)
 case h_4 t n parts ho =>
  split at hc <;> try cases hc
  rename_i e hu
  split at hc <;> try cases hc
  ·rename_i sz z hs hz
   split at hc <;> cases hc
   rename_i hle
   simp only [vcHeavy] at h
   split at h <;> try exact h.elim
   rename_i ps hps
   split at h <;> try exact h.elim
   rename_i hok
   have h := hg.sync h
   exact heavy_val (bsl_run ho hu hs hz hle (fun x v => hev) hps hok) (fun _ => Keeps.alloc _ _) (good_alloc hg _) (e := some (.v _)) rfl (h _ _ ⟨rfl, rfl⟩)
  ·rename_i sz z k hs hz hd
   split at hc <;> cases hc
   rename_i hle
   simp only [vcHeavy] at h
   split at h <;> try exact h.elim
   rename_i ps hps hl
   split at h <;> try exact h.elim
   rename_i hok
   exact heavy_val (bsl_run ho hu hs hz hle (fun x v => hev) hps hok) (fun _ => Keeps.alloc _ _) (good_local hg hl) (e := some (.lsl k n)) ⟨_, _, List.mem_cons_self .., rfl⟩ (h _ hg.locl.size) (hl := lfr_cons s _ _)
 case h_5 t l c ho =>
  split at hc <;> try cases hc
  rename_i e hu
  split at hc <;> try cases hc
  rename_i info z hi hz
  split at hc <;> cases hc
  rename_i hsz
  simp only [vcHeavy] at h
  split at h <;> try exact h.elim
  rename_i k ln k' cn h1 h2
  obtain ⟨h0, hlc, hb, hcn, h⟩ := hg.sync h
  exact heavy_val (mksl_run ho hu hi hz (Nat.eq_of_beq_eq_true hsz) (hev h1) (hev h2) h0 hlc hb hcn) (fun _ => Keeps.alloc _ _) (good_alloc hg _) (e := some (.v _)) rfl (h _ _ ⟨rfl, rfl⟩)
 case h_6 c ho =>
  split at hc
  ·rename_i f hcal
   split at hc <;> try cases hc
   split at hc <;> cases hc
   exact call_sound ho hcal hg hX h
  ·rename_i hcal
   split at hc <;> try cases hc
   rename_i x y t u hx ht
   split at hc <;> try cases hc
   ·rename_i e e2 hut huu
    split at hc <;> try cases hc
    rename_i info z hi hz
    split at hc <;> cases hc
    rename_i hsz
    simp only [vcHeavy] at h
    split at h <;> try exact h.elim
    rename_i base len cap h1
    split at h <;> try exact h.elim
    ·rename_i k n h2
     obtain ⟨b, cs, hm, he⟩ := hevE h2
     split at h <;> try exact h.elim
     rename_i b' fs hl
     rw [look_of_mem hg.ag.lok.keys hm] at hl
     cases hl
     rcases brB_elim h with ⟨hok, h⟩ | ⟨_, h⟩
     case inr => exact h.elim
     simp only [Bool.and_eq_true] at hok
     have hlen := Nat.eq_of_beq_eq_true hok.2
     have h := hg.sync h
     obtain ⟨hlt, e0, hb⟩ := hg.ag.lok.at_ _ _ _ hm
     obtain ⟨b1, c1, w1, hr, hk, hkeep, hdk⟩ := app_run (l := s.l) ho hcal hx ht hut huu hi hz (Nat.eq_of_beq_eq_true hsz) (hev h1) he (fun wx => by simp [Builtin.lenOf]) hlen hok.1
      (fun wx hwx => firstCells_run hlen (fun j v hj => ⟨⟨b, 0, none⟩, rfl, by rw [loc_add]; exact cell_of_block (w := wx) (by rw [hwx]; exact hb) (by simpa using hj)⟩)) h
     obtain ⟨hfl, hk⟩ := flAnd_elim hk
     exact heavy_val hr hfl ((hg.ag.keep hkeep hdk).good) (e := some (.v _)) rfl hk
    ·rename_i base2 n c2 h2
     obtain ⟨fs, hlen, hone, hrd, h⟩ := hg.sync h
     obtain ⟨b1, c1, w1, hr, hk, hkeep, hdk⟩ := app_run (l := s.l) ho hcal hx ht hut huu hi hz (Nat.eq_of_beq_eq_true hsz) (hev h1) (hevE h2) (fun wx => by simp [Builtin.lenOf]) hlen hone
      (fun wx hwx => firstCells_run hlen (fun j v hj => by
       obtain ⟨x, hx, hcell⟩ := hrd j v hj
       refine ⟨x, hx, ?_⟩
       simpa [World.cell?, hwx] using hcell)) h
     obtain ⟨hfl, hk⟩ := flAnd_elim hk
     exact heavy_val hr hfl ((hg.ag.keep hkeep hdk).good) (e := some (.v _)) rfl hk
   ·rename_i e ku hut huu
    split at hc <;> try cases hc
    rename_i info z hi hz
    split at hc <;> cases hc
    rename_i hsz
    simp only [Bool.and_eq_true] at hsz
    simp only [vcHeavy] at h
    split at h <;> try exact h.elim
    rename_i base len cap k' n h1 h2
    obtain ⟨h0, hb48, h62, h⟩ := hg.sync h
    obtain ⟨b1, c1, w1, hr, hk, hkeep, hdk⟩ := appz_run (l := s.l) ho hcal hx ht hut huu hi hz (Nat.eq_of_beq_eq_true hsz.1) (hev h1) (hev h2) h0 hb48 h62 hsz.2 h
    obtain ⟨hfl, hk⟩ := flAnd_elim hk
    exact heavy_val hr hfl ((hg.ag.keep hkeep hdk).good) (e := some (.v _)) rfl hk
  ·rename_i hcal
   split at hc <;> try cases hc
   rename_i x y t u hx ht
   split at hc <;> try cases hc
   rename_i e hut
   cases hs : szT P e with
   | none => rw [hs] at hc; cases hc
   | some sz =>
    rw [hs] at hc; cases hc
    simp only [vcHeavy] at h
    have h := noFl_elim h
    split at h <;> try exact h.elim
    rename_i base dlen dc base2 slen sc h1 h2
    obtain ⟨fs, hlen, hone, hrd, h⟩ := hg.sync h
    obtain ⟨w1, hr, hk, hkeep, hdk⟩ := cpy_run (l := s.l) ho hcal hx ht hut hs (hev h1) (hev h2) hlen hone hrd h
    exact heavy_val hr (fun h => by simp [Ins.kp] at h) ((hg.ag.keep hkeep hdk).good) (e := some (.v _)) rfl hk
  ·rename_i hcal
   split at hc <;> try cases hc
   rename_i x t hx ht
   split at hc <;> try cases hc
   rename_i e hut
   split at hc <;> try cases hc
   rename_i z hz
   split at hc <;> cases hc
   rename_i hone
   simp only [vcHeavy] at h
   have h := noFl_elim h
   split at h <;> try exact h.elim
   rename_i base n cap h1
   have h := hg.sync h
   obtain ⟨w1, hr, hk, hkeep, hdk⟩ := clr_run (l := s.l) ho hcal hx ht hut hz hone (hev h1) h
   exact heavy_val hr (fun h => by simp [Ins.kp] at h) ((hg.ag.keep hkeep hdk).good) (e := some (.v _)) rfl hk
  ·exact (light_sound hc hg (vcHeavy_light hc h)).heavy
 case h_7 t ho =>
  cases hc
  have run : (execOp a.eval o).run P wa = .ok (.value (.map (some wa.heap.size))) (wa.alloc (.map #[] 0)) := by
   simp [execOp, ho, Instr.makeMap]
  simp only [vcHeavy] at h
  have h := hg.sync h
  exact heavy_val run (fun _ => Keeps.alloc _ _) (good_alloc hg _) (e := some (.v _)) rfl (h _ _ ⟨rfl, rfl⟩)
 case h_8 t x ix ok ho =>
  split at hc <;> try cases hc
  rename_i kt et ht
  split at hc <;> cases hc
  rename_i kd z hk hz
  simp only [vcHeavy] at h
  split at h <;> try exact h.elim
  rename_i m key h1 h2
  split at h <;> try exact h.elim
  rename_i hok
  have h := hg.sync h
  obtain ⟨kvs, hG, hrun⟩ := look_run ht hk hz hok h ok
  obtain ⟨v, c, hgot, hK⟩ := exZ_some hG
  have run : (execOp a.eval o).run P wa = .ok (.value (if ok then .tuple #[v, .bool c] else v)) wa := by
   simp only [execOp, ho, Sem.run_bind, hev h1, hev h2, hrun v c hgot, Result.andThen_ok, Sem.run_pure]
  refine heavy_val run (fun _ _ _ h => h) hg.ag.good (e := some (.v _)) rfl ?_
  cases ok <;> exact hK
 case h_9 t m k v ho | h_10 t m k v ho =>
  split at hc <;> try cases hc
  rename_i kt et ht
  split at hc <;> cases hc
  rename_i kd hk
  simp only [vcHeavy] at h
  have h := noFl_elim h
  split at h <;> try exact h.elim
  rename_i mv key val h1 h2 h3
  split at h <;> try exact h.elim
  rename_i hok
  replace h := hg.sync h
  unfold mapTo at h
  split at h <;> try exact h.elim
  rename_i b
  obtain ⟨kvs, hmp, hK⟩ := h
  obtain ⟨w', hrun, hput, hmp', es, c, hb⟩ := mset_run (val := val) ht hk hok hmp
  have run : (execOp a.eval o).run P wa = .ok .skip w' := by
   simp only [execOp, ho, Sem.run_bind, hev h1, hev h2, hev h3, hrun, Result.andThen_ok, Sem.run_pure]
  have hkp : KpK wa w' := fun D o hD ho => by
   have : D ≠ b := fun e => by subst e; rw [hb] at hD; cases hD; simp [kpObj] at ho
   rw [hput.block D this]; exact hD
  have hkeep : Keep (blocks s.l) wa w' := fun D hm hlt => by
   obtain ⟨y, hy, rfl⟩ := List.mem_map.1 hm
   obtain ⟨_, e0, hcs⟩ := hg.ag.lok.at_ y.1 y.2.1 y.2.2 hy
   have : y.2.1 ≠ b := fun e => by rw [e, hb] at hcs; cases hcs
   exact ⟨by rw [hput.size]; exact hlt, hput.block _ this⟩
  exact heavy_skip run (fun h => by simp [Ins.kp] at h) ((hg.ag.keep hkeep hkp).good) (e := none) trivial (hK w' hput hmp')
 case h_11 src dst x ho =>
  split at hc
  ·rename_i e hs hd
   split at hc <;> cases hc
   rename_i he
   simp only [vcHeavy] at h
   split at h <;> try exact h.elim
   rename_i base n c h1
   obtain ⟨xs, hl, hcs, hK⟩ := hg.sync h
   have run : (execOp a.eval o).run P wa = .ok (.value (.string (bstrOf xs))) wa := by
    simp only [execOp, ho, Sem.run_bind, hev h1, run_convert_bytes_string wa src dst e base n c hs he hd]
    cases base with
    | none =>
     have : xs = [] := by
      cases xs with
      | nil => rfl
      | cons v vs => obtain ⟨a, ha, _⟩ := hcs 0 _ rfl; cases ha
     subst this
     simp [Conv.bytesToString, bstrOf]
    | some a0 =>
     rw [run_bytesToString wa a0 n c xs (by
      rw [← hl, ← List.length_map (f := Value.int .u8)]
      refine run_loadCells_list wa a0 _ fun j v hj => ?_
      obtain ⟨a', ha', hc⟩ := hcs j v hj
      cases ha'; exact hc)]
     simp [bstrOf]
   exact heavy_val run (fun _ _ _ h => h) hg.ag.good (e := some (.v _)) rfl hK
  ·rename_i e2 e hs hd
   split at hc <;> cases hc
   rename_i hsd he
   have hsd := Nat.eq_of_beq_eq_true hsd
   subst hsd
   simp only [vcHeavy] at h
   split at h <;> try exact h.elim
   rename_i a0 n c h1
   obtain ⟨C, e0, hb, h⟩ := hg.sync h
   obtain ⟨hnb, hK⟩ := notIn_elim h
   obtain ⟨w', hrun, hmk⟩ := mark_run (P := P) (n := n) (c := c) hd he hb
   have run : (execOp a.eval o).run P wa = .ok (.value (.slice (some a0) n c)) w' := by
    simp only [execOp, ho, Sem.run_bind, hev h1, hrun, Result.andThen_ok, Sem.run_pure]
   have hkp : KpK wa w' := fun D o hD ho => by
    have : D ≠ a0.block := fun e => by subst e; rw [hb] at hD; cases hD; simp [kpObj] at ho
    rw [hmk.put.block D this]; exact hD
   have hkeep : Keep (blocks s.l) wa w' := fun D hm hlt => by
    have : D ≠ a0.block := fun e => hnb (e ▸ hm)
    exact ⟨by rw [hmk.put.size]; exact hlt, hmk.put.block _ this⟩
   exact heavy_val run (fun _ b v hv => by rw [hmk.cell]; exact hv) ((hg.ag.keep hkeep hkp).good) (e := some (.v _)) rfl (hK w' hmk)
  ·exact (light_sound hc hg (vcHeavy_light hc h)).heavy
 case h_12 x ho =>
  cases hc
  simp only [vcHeavy] at h
  split at h <;> try exact h.elim
  rename_i v hv
  obtain ⟨⟨t, u, rfl⟩, hx⟩ := h
  have hx := hg.sync hx
  have run : (execOp a.eval o).run P wa = .halt (.panic (.iface t u)) wa := by
   simp only [execOp, ho, Sem.run_bind, hev hv]
   rfl
  unfold HeavyOk wpR
  rw [run]
  exact hX _ _ hg.ag.dok hx
 case h_13 =>
  exact (light_sound hc hg (vcHeavy_light hc h)).heavy
end
end Go.Vc
namespace Go.Vc
open Go.RowKit
inductive Plan
 | done
 | op (i : Nat) (loc pn fl : Bool) (p : Plan)
 | split (t : Nat) (p : Plan)
 | gand (g : Nat) (want : Bool) (i n : Nat) (p : Plan)
 | alt (p q : Plan)
 | ldl (i : Nat) (p : Plan)
def Plan.run (i n : Nat) (p : Plan) : Plan := match n with | 0 => p | n + 1 => .op i false false false (Plan.run (i + 1) n p)
def vcOp (P : Program) (X : List PanicEntry → World → Prop) (loc pn fl : Bool) (o : Oper) (s : St) (w : World) (K : Option EV → St → World → Prop) : Prop :=
 match compileHeavy P loc o.dst o.type o.op with
 | some i => vcHeavy P pn fl X i s w K
 | none => False
def gval (ops : Array Oper) (s : St) (j : Nat) (want : Bool) : Option Bool :=
 match ops[j]? with
 | some o => match o.dst with
  | some t => match s.ρ t with
   | some (.v (.bool b)) => match b, want with
    | true, true => some true
    | false, false => some true
    | true, false => some false
    | false, true => some false
   | some (.v (.tuple _)) => some false
   | _ => none
  | none => none
 | none => none
def vcG (P : Program) (X : List PanicEntry → World → Prop) (ops : Array Oper) (loc pn fl : Bool) (o : Oper) (s : St) (w : World) (K : Option EV → St → World → Prop) : Prop :=
 match o.guard with
 | none => vcOp P X loc pn fl o s w K
 | some (j, want) => match gval ops s j want with
  | some true => vcOp P X loc pn fl o s w K
  | some false => K (some (.v undef)) s w
  | none => False
def vcBlock (P : Program) (ops : Array Oper) : Nat → Nat → St → World → (St → World → Prop) → Prop
 | _, 0, s, w, K => K s w
 | i, n + 1, s, w, K => match ops[i]? with
  | some o => match compileLight P o.op with
   | some ins => vcLight ins s w fun e s' w' => vcBlock P ops (i + 1) n (s'.put o.dst e) w' K
   | none => False
  | none => False
def dstsOf (ops : Array Oper) : Nat → Nat → List Nat
 | _, 0 => []
 | i, n + 1 => match (ops[i]?).bind (·.dst) with
  | some d => d :: dstsOf ops (i + 1) n
  | none => dstsOf ops (i + 1) n
def andV (want b v : Bool) : Bool := match want with | true => b && v | false => b || v
def locOf (s : St) (o : Oper) : Option Nat :=
 match o.op with
 | .load _ x => match s.evE x with
  | some (.loc k _) => some k
  | _ => none
 | _ => none
def vcPlan (P : Program) (X : List PanicEntry → World → Prop) (ops : Array Oper) (rl : List Nat) : Plan → St → World → (St → World → Prop) → Prop
 | .done, s, w, K => K s w
 | .op i loc pn fl p, s, w, K => match ops[i]? with
  | some o => vcG P X ops loc pn fl o s w fun e s' w' => vcPlan P X ops rl p (s'.put o.dst e) w' K
  | none => False
 | .split t p, s, w, K => match s.ρ t with
  | some (.v (.bool b)) => brB b (vcPlan P X ops rl p (s.set t (some (.v (.bool true)))) w K) (vcPlan P X ops rl p (s.set t (some (.v (.bool false)))) w K)
  | some (.v (.tuple _)) => vcPlan P X ops rl p s w K
  | _ => False
 | .gand g want i n p, s, w, K => match ops[i + n]? with
  | some o => match o.op with
   | .pick c x y => match s.ρ g with
    | some (.v (.bool b)) => vcBlock P ops i n s w fun s' w' => match s'.ev (match want with | true => x | false => y) with
     | some (.bool v) => vcPlan P X ops rl p ((s'.del (dstsOf ops i n)).put o.dst (some (.v (.bool (andV want b v))))) w' K
     | _ => False
    | _ => False
   | _ => False
  | none => False
 | .alt p q, s, w, K => vcPlan P X ops rl p s w K ∧ vcPlan P X ops rl q s w K
 | .ldl i p, s, w, K => match ops[i]? with
  | some o => match locOf s o with
   | some k => match rl.any (Nat.beq k) with
    | true => vcG P X ops false false false o s w fun e s' w' => vcPlan P X ops rl p (s'.put o.dst e) w' K
    | false => False
   | none => False
  | none => False
section
variable {r : Option Nat} {P : Program} {ops : Array Oper} {Q : Exit → Act → World → Prop} {md : Region.Mode}
def afterMask (md : Region.Mode) (o : Oper) : Nat := o.after.toList.foldl (fun m e => bif Region.binds md e then Nat.lor m (Nat.shiftLeft 1 e.on) else m) 0
def reachMask (md : Region.Mode) : List Oper → Nat → Nat → Nat
 | [], _, m => m
 | o :: r, j, m => reachMask md r (j + 1) (match Nat.beq (Nat.land (afterMask md o) m) 0 with | true => m | false => Nat.lor m (Nat.shiftLeft 1 j))
def reachB (m j : Nat) : Bool := !Nat.beq (Nat.land m (Nat.shiftLeft 1 j)) 0
def Closed (md : Region.Mode) (ops : Array Oper) (listed : Array Bool) : Prop :=
 ∀ j o, listed.getD j false = true → ops[j]? = some o → ∀ e ∈ o.after, Region.binds md e = true → listed.getD e.on false = true
theorem testBit_one (j k : Nat) : (Nat.shiftLeft 1 j).testBit k = decide (k = j) := by
 show (1 <<< j).testBit k = _
 rw [Nat.testBit_shiftLeft]
 by_cases h : k = j
 ·subst h; simp
 ·by_cases h2 : k ≥ j
  ·have : k - j ≠ 0 := by omega
   have h1 : Nat.testBit 1 (k - j) = false := by
    obtain ⟨d, hd⟩ : ∃ d, k - j = d + 1 := ⟨k - j - 1, by omega⟩
    rw [hd, Nat.testBit_succ]; simp
   simp [h, h2, h1]
  ·simp [h, h2]
theorem testBit_lor (a b k : Nat) : (Nat.lor a b).testBit k = (a.testBit k || b.testBit k) := Nat.testBit_or a b k
theorem testBit_land (a b k : Nat) : (Nat.land a b).testBit k = (a.testBit k && b.testBit k) := Nat.testBit_and a b k
theorem land_bit {a b : Nat} (h : Nat.beq (Nat.land a b) 0 = false) : ∃ k, a.testBit k = true ∧ b.testBit k = true := by
 have hne : Nat.land a b ≠ 0 := fun e => by rw [e] at h; cases h
 obtain ⟨k, hk⟩ := Nat.exists_testBit_of_ne_zero hne
 rw [testBit_land, Bool.and_eq_true] at hk
 exact ⟨k, hk⟩
theorem afterMask_bit {o : Oper} {k : Nat} (h : (afterMask md o).testBit k = true) : ∃ e, e ∈ o.after ∧ Region.binds md e = true ∧ e.on = k := by
 have key : ∀ (l : List Edge) (m : Nat), (l.foldl (fun m e => bif Region.binds md e then Nat.lor m (Nat.shiftLeft 1 e.on) else m) m).testBit k = true → m.testBit k = true ∨ ∃ e, e ∈ l ∧ Region.binds md e = true ∧ e.on = k := by
  intro l
  induction l with
  | nil => intro m h; exact .inl h
  | cons e l ih =>
   intro m h
   rcases ih _ h with h1 | ⟨e', h1, h2⟩
   ·simp only at h1
    cases hb : Region.binds md e
    ·rw [hb] at h1; exact .inl h1
    ·rw [hb] at h1
     simp only [cond_true, testBit_lor, testBit_one, Bool.or_eq_true, decide_eq_true_eq] at h1
     rcases h1 with h1 | h1
     ·exact .inl h1
     ·exact .inr ⟨e, by simp, hb, h1.symm⟩
   ·exact .inr ⟨e', by simp [h1], h2⟩
 rcases key _ _ h with h1 | ⟨e, h1, h2⟩
 ·simp at h1
 ·exact ⟨e, by simpa using h1, h2⟩
def Waits (md : Region.Mode) (ops : Array Oper) (i j : Nat) : Prop := ∀ listed, Closed md ops listed → ((listed.getD j false = true → listed.getD i false = true) ∧ (j ≠ i → j ∈ Region.ready md ops listed → listed.getD i false = true))
theorem reachMask_waits {i : Nat} : ∀ (l : List Oper) (j m : Nat), (∀ k o, l[k]? = some o → ops[j + k]? = some o) → (∀ k, m.testBit k = true → Waits md ops i k) → ∀ k, (reachMask md l j m).testBit k = true → Waits md ops i k
 | [], _, _, _, hm, k, h => hm k h
 | o :: l, j, m, hl, hm, k, h => by
  refine reachMask_waits l (j + 1) _ (fun k o hk => by rw [show j + 1 + k = j + (k + 1) by omega]; exact hl (k + 1) o (by simpa using hk)) (fun x hx => ?_) k h
  cases hb : Nat.beq (Nat.land (afterMask md o) m) 0
  ·rw [hb] at hx
   simp only [testBit_lor, testBit_one, Bool.or_eq_true, decide_eq_true_eq] at hx
   rcases hx with hx | rfl
   ·exact hm x hx
   ·obtain ⟨y, h1, h2⟩ := land_bit hb
    obtain ⟨e, he, hbd, rfl⟩ := afterMask_bit h1
    have ho : ops[x]? = some o := hl 0 o rfl
    refine fun listed hc => ⟨fun hj => (hm _ h2 listed hc).1 (hc x o hj ho e he hbd), fun _ hr => ?_⟩
    obtain ⟨_, o', ho', hall⟩ := mem_ready.1 hr
    rw [ho] at ho'; cases ho'
    exact (hm _ h2 listed hc).1 (hall e he hbd)
  ·rw [hb] at hx; exact hm x hx
def reachOf (md : Region.Mode) (ops : Array Oper) (i j : Nat) : Bool := reachB (reachMask md ops.toList 0 (Nat.shiftLeft 1 i)) j
theorem reach_ready {listed : Array Bool} (hc : Closed md ops listed) {j i : Nat} (hji : j ≠ i) (hj : j ∈ Region.ready md ops listed) (h : reachOf md ops i j = true) : listed.getD i false = true := by
 unfold reachOf reachB at h
 simp only [Bool.not_eq_true'] at h
 obtain ⟨k, h1, h2⟩ := land_bit h
 rw [testBit_one, decide_eq_true_eq] at h2
 subst h2
 refine (reachMask_waits ops.toList 0 _ (fun k o hk => by rw [Nat.zero_add]; simpa using hk) (fun x hx => ?_) k h1 listed hc).2 hji hj
 rw [testBit_one, decide_eq_true_eq] at hx
 subst hx
 exact fun listed hc => ⟨id, fun hne => absurd rfl hne⟩
theorem ready_lt {listed : Array Bool} {j : Nat} (h : j ∈ Region.ready md ops listed) : j < listed.size := by
 obtain ⟨h0, _⟩ := mem_ready.1 h
 rcases Nat.lt_or_ge j listed.size with h' | h'
 ·exact h'
 ·simp [Array.getElem?_eq_none h'] at h0
theorem Closed.set {listed : Array Bool} (hc : Closed md ops listed) {i : Nat} (hi : i ∈ Region.ready md ops listed) : Closed md ops (listed.setIfInBounds i true) := by
 intro j o hj ho e he hb
 refine getD_set_true ?_
 by_cases hji : i = j
 ·subst hji
  obtain ⟨_, o', ho', hall⟩ := mem_ready.1 hi
  rw [ho] at ho'; cases ho'
  exact hall e he hb
 ·rw [getD_set_ne false hji] at hj
  exact hc j o hj ho e he hb
def KeepL (B : List Nat) (w w' : World) : Prop := ∀ b, b ∈ B → ∀ off v, w.cell? ⟨b, off, none⟩ = some v → w'.cell? ⟨b, off, none⟩ = some v
theorem KeepL.refl (B : List Nat) (w : World) : KeepL B w w := fun _ _ _ _ h => h
theorem KeepL.trans {B : List Nat} {a b c : World} (h : KeepL B a b) (k : KeepL B b c) : KeepL B a c := fun x hx o v hv => k x hx o v (h x hx o v hv)
theorem Keeps.keepL {B : List Nat} {w w' : World} (h : Keeps w w') : KeepL B w w' := fun _ _ _ _ hv => h _ _ hv
def wpK (r : Option Nat) (P : Program) (md : Region.Mode) (ops : Array Oper) (Q : Exit → Act → World → Prop) (ns B : List Nat) : Nat → Array Bool → Act → World → Prop
 | 0, listed, a, w => Region.ready md ops listed = [] ∧ Q .normal a w
 | fuel + 1, listed, a, w =>
  (Region.ready md ops listed = [] → Q .normal a w) ∧
  ∀ i ∈ Region.ready md ops listed, wpOpR r P ops Q i (fun a' w' => (i ∉ ns → Keeps w w') ∧ KeepL B w w' ∧ wpK r P md ops Q ns B fuel (listed.setIfInBounds i true) a' w') a w
theorem wpAny_of_K {ns B : List Nat} : ∀ (fuel : Nat) (listed : Array Bool) (a : Act) (w : World), wpK r P md ops Q ns B fuel listed a w → wpAnyR r P md ops Q fuel listed a w
 | 0, _, _, _, h => h
 | fuel + 1, _, _, _, h => ⟨h.1, fun i hi => wpOpR_mono (fun a' w' h' => wpAny_of_K fuel _ a' w' h'.2.2) (h.2 i hi)⟩
def YieldsK (P : Program) (ops : Array Oper) (B : List Nat) (fl : Bool) (wa : World) (o : Oper) (v : Value) (a : Act) : Prop :=
 (Region.wanted o (yielded ops a.tmps) = true ∧ ∀ wx, (indep o.op = true ∨ Keeps wa wx ∨ (fl = true ∧ KeepL B wa wx)) → (execOp a.eval o).run P wx = .ok (.value v) wx) ∨
 (Region.wanted o (yielded ops a.tmps) = false ∧ v = undef)
theorem YieldsK.wpOp {B : List Nat} {fl : Bool} {i : Nat} {o : Oper} {v : Value} {a : Act} {w : World} (hi : ops[i]? = some o) (hy : YieldsK P ops B fl w o v a) {K : Act → World → Prop} (h : K (a.put o.dst v) w) : wpOpR r P ops Q i K a w := by
 unfold wpOpR
 simp only [hi]
 rcases hy with ⟨hw, hv⟩ | ⟨hw, rfl⟩
 ·simp only [hw, if_true, wpR, hv w (.inr (.inl (Keeps.refl w))), Oper.uponIn]; exact h
 ·simp only [hw, Bool.false_eq_true, if_false]; exact h
theorem YieldsK.of_same {B : List Nat} {fl : Bool} {o : Oper} {v : Value} {a a' : Act} {w : World} (hy : YieldsK P ops B fl w o v a) (he : execOp a'.eval o = execOp a.eval o)
  (hw : Region.wanted o (yielded ops a'.tmps) = Region.wanted o (yielded ops a.tmps)) : YieldsK P ops B fl w o v a' := by
 unfold YieldsK at *
 rw [he, hw]
 exact hy
theorem YieldsK.keeps {B : List Nat} {fl : Bool} {o : Oper} {v : Value} {a : Act} {w w' : World} (hy : YieldsK P ops B fl w o v a) (hk : indep o.op = true ∨ Keeps w w' ∨ (fl = true ∧ KeepL B w w')) : YieldsK P ops B fl w' o v a :=
 hy.imp (fun ⟨h1, h2⟩ => ⟨h1, fun wx hwx => h2 wx (by
  rcases hk with hk | hk | ⟨hf, hk⟩
  ·exact .inl hk
  ·rcases hwx with hx | hx | ⟨hf, hx⟩
   ·exact .inl hx
   ·exact .inr (.inl (hk.trans hx))
   ·exact .inr (.inr ⟨hf, hk.keepL.trans hx⟩)
  ·rcases hwx with hx | hx | ⟨_, hx⟩
   ·exact .inl hx
   ·exact .inr (.inr ⟨hf, hk.trans hx.keepL⟩)
   ·exact .inr (.inr ⟨hf, hk.trans hx⟩))⟩) id
theorem wpOp_putK {B : List Nat} {fl : Bool} {j : Nat} {oi oj : Oper} {v : Value} (hj : ops[j]? = some oj) (hap : oi.apart ops oj = true)
  (hsi : ∀ cs b, oi.op ≠ .select cs b) (hsj : ∀ cs b, oj.op ≠ .select cs b)
  (hQ : ∀ c a w, Q (.panic c) (a.put oi.dst v) w → Q (.panic c) a w) {K : Act → World → Prop} {a : Act} {w0 w : World}
  (hy : YieldsK P ops B fl w0 oi v a) (h : wpOpR r P ops Q j K (a.put oi.dst v) w) :
  wpOpR r P ops Q j (fun a' w' => YieldsK P ops B fl w0 oi v a' ∧ K (a'.put oi.dst v) w') a w := by
 obtain ⟨h1, h2, h3⟩ := Oper.apart_spec hap
 have keep : ∀ (a : Act), YieldsK P ops B fl w0 oi v a → ∀ u, YieldsK P ops B fl w0 oi v (a.put oj.dst u) := fun a hy u =>
  hy.of_same (execOp_put oi hsi a oj.dst u h3) (wanted_put oi a oj.dst u h3)
 have keepD : ∀ d, YieldsK P ops B fl w0 oi v { a with defers := d :: a.defers } := fun d => hy.of_same rfl rfl
 unfold wpOpR at *
 simp only [hj] at *
 rw [wanted_put oj a oi.dst v h1] at h
 split
 ·rename_i hw
  simp only [hw, if_true] at h
  unfold wpR at *
  rw [execOp_put oj hsj a oi.dst v h1] at h
  generalize (execOp a.eval oj).run P w = r at *
  cases r with
  | ok n w' =>
   cases n <;> simp only [Oper.uponIn] at h ⊢
   case value u => exact ⟨keep a hy u, by rw [← Act.put_comm a v u h2]; exact h⟩
   case skip => exact ⟨keep a hy _, by rw [← Act.put_comm a v undef h2]; exact h⟩
   case defer d =>
    refine ⟨keep _ (keepD d) _, ?_⟩
    rw [← Act.put_comm _ v undef h2, ← Act.put_defers]
    exact h
   case enter f args =>
    refine ⟨h.1, CallsIn.mono h.2 fun e w'' he => ?_⟩
    cases e with
    | returned u => exact ⟨keep a hy u, by rw [← Act.put_comm a v u h2]; exact he⟩
    | panicked c => exact hQ _ _ _ he
    | outgrown => exact he
   case row row args => exact ⟨h.1, RowsIn.mono h.2 fun u w'' he => ⟨keep a hy u, by rw [← Act.put_comm a v u h2]; exact he⟩⟩
   case round l f tmps assign body =>
    refine ⟨h.1, RoundIn.mono h.2 fun e w'' he => ?_⟩
    cases e with
    | returned u => exact ⟨keep a hy u, by rw [← Act.put_comm a v u h2]; exact he⟩
    | panicked c => exact hQ _ _ _ he
    | outgrown => exact he
  | halt x w' =>
   cases x <;> simp only [Oper.uponIn] at h ⊢
   case panic u => exact hQ _ _ _ h
 ·rename_i hw
  simp only [hw] at h
  exact ⟨keep a hy _, by rw [← Act.put_comm a v undef h2]; exact h⟩
theorem wpK_first {ns B : List Nat} {fl : Bool} {i : Nat} {oi : Oper} {v : Value} (hi : ops[i]? = some oi) (hsel : ∀ (j : Nat) (o : Oper) cs b, ops[j]? = some o → o.op ≠ .select cs b)
  (hQ : ∀ c a w, Q (.panic c) (a.put oi.dst v) w → Q (.panic c) a w) :
  ∀ (fuel : Nat) (listed : Array Bool) (a : Act) (w : World), Closed md ops listed →
   (∀ j oj, ops[j]? = some oj → j ≠ i → listed.getD j true = false → reachOf md ops i j = false → oi.apart ops oj = true ∧ (indep oi.op = true ∨ j ∉ ns ∨ fl = true)) →
   i ∈ Region.ready md ops listed → YieldsK P ops B fl w oi v a →
   wpK r P md ops Q ns B fuel (listed.setIfInBounds i true) (a.put oi.dst v) w → wpK r P md ops Q ns B (fuel + 1) listed a w := by
 intro fuel
 induction fuel with
 | zero =>
  intro listed a w hcl _ hr hy H
  refine ⟨fun h => (by rw [h] at hr; cases hr), fun j hj => ?_⟩
  by_cases hji : j = i
  ·subst hji; exact hy.wpOp hi ⟨fun _ => Keeps.refl w, KeepL.refl B w, H⟩
  ·have := ready_mono hj hji
   rw [H.1] at this
   cases this
 | succ fuel ih =>
  intro listed a w hcl hfree hr hy H
  refine ⟨fun h => (by rw [h] at hr; cases hr), fun j hj => ?_⟩
  by_cases hji : j = i
  ·subst hji; exact hy.wpOp hi ⟨fun _ => Keeps.refl w, KeepL.refl B w, H⟩
  ·have h1 := H.2 j (ready_mono hj hji)
   obtain ⟨hjun, oj, hoj, hall⟩ := mem_ready.1 hj
   have hi0 : listed.getD i false = false := by
    have h0 := (mem_ready.1 hr).1
    have hlt := ready_lt hr
    simp [hlt] at h0 ⊢; exact h0
   have hnr : reachOf md ops i j = false := by
    cases hre : reachOf md ops i j
    ·rfl
    ·have := reach_ready hcl hji hj hre
     rw [hi0] at this; cases this
   obtain ⟨hap, hns⟩ := hfree j oj hoj hji hjun hnr
   have h2 := wpOp_putK hoj hap (fun cs b => hsel i oi cs b hi) (fun cs b => hsel j oj cs b hoj) hQ hy h1
   have hfree' : ∀ k ok, ops[k]? = some ok → k ≠ i → (listed.setIfInBounds j true).getD k true = false → reachOf md ops i k = false →
     oi.apart ops ok = true ∧ (indep oi.op = true ∨ k ∉ ns ∨ fl = true) := fun k ok hk hki hun hno => by
    refine hfree k ok hk hki ?_ hno
    by_cases hjk : j = k
    ·subst hjk; exact hjun
    ·rw [getD_set_ne true hjk] at hun; exact hun
   refine wpOpR_mono (fun a' w' h3 => ?_) h2
   have hk : indep oi.op = true ∨ Keeps w w' ∨ (fl = true ∧ KeepL B w w') := hns.imp id fun h => h.imp h3.2.1 fun h => ⟨h, h3.2.2.1⟩
   refine ⟨h3.2.1, h3.2.2.1, ih (listed.setIfInBounds j true) a' w' (hcl.set hj) hfree' (ready_mono hr (Ne.symm hji)) (h3.1.keeps hk) ?_⟩
   rw [Array.setIfInBounds_comm _ _ hji]
   exact h3.2.2.2
end
end Go.Vc
namespace Go.Vc
open Go.RowKit
structure Fr (ds : List Nat) (a a' : Act) : Prop where
 size : a'.tmps.size = a.tmps.size
 defers : a'.defers = a.defers
 tmps : ∀ t, t ∉ ds → a'.tmps.getD t undef = a.tmps.getD t undef
theorem Fr.refl (ds : List Nat) (a : Act) : Fr ds a a := ⟨rfl, rfl, fun _ _ => rfl⟩
theorem Fr.trans {ds : List Nat} {a b c : Act} (h : Fr ds a b) (k : Fr ds b c) : Fr ds a c :=
 ⟨k.size.trans h.size, k.defers.trans h.defers, fun t ht => (k.tmps t ht).trans (h.tmps t ht)⟩
theorem Fr.put {ds : List Nat} {a : Act} {d : Option Tmp} (v : Value) (hd : ∀ t, d = some t → t ∈ ds ∧ t < a.tmps.size) : Fr ds a (a.put d v) := by
 cases d with
 | none => exact Fr.refl _ _
 | some d =>
  obtain ⟨h1, h2⟩ := hd d rfl
  refine ⟨by simp [Act.put], rfl, fun t ht => ?_⟩
  rw [Act.getD_put t h2, if_neg (by rintro rfl; exact ht h1)]
theorem LFr.put (s : St) (d : Option Nat) (e : Option EV) : LFr s (s.put d e) := by cases d <;> exact LFr.of_eq rfl rfl
theorem LFr.set (s : St) (d : Nat) (e : Option EV) : LFr s (s.set d e) := LFr.of_eq rfl rfl
theorem LFr.del (s : St) (d : List Nat) : LFr s (s.del d) := LFr.of_eq rfl rfl
def dstOk (n : Nat) (ds : List Nat) (o : Oper) : Bool := match o.dst with | some t => Nat.blt t n && ds.any (Nat.beq t) | none => true
theorem dstOk_spec {n : Nat} {ds : List Nat} {o : Oper} {a : Act} (h : dstOk n ds o = true) (hn : a.tmps.size = n) : ∀ t, o.dst = some t → t ∈ ds ∧ t < a.tmps.size := by
 intro t ht
 simp only [dstOk, ht, Bool.and_eq_true] at h
 obtain ⟨h1, h2⟩ := h
 refine ⟨?_, by rw [hn]; simpa [Nat.blt_eq] using h1⟩
 obtain ⟨x, hx, he⟩ := List.any_eq_true.1 h2
 rw [Nat.eq_of_beq_eq_true he]; exact hx
theorem dstOk_mem {n : Nat} {ds : List Nat} {o : Oper} (h : dstOk n ds o = true) : ∀ t, o.dst = some t → t ∈ ds := by
 intro t ht
 simp only [dstOk, ht, Bool.and_eq_true] at h
 obtain ⟨x, hx, he⟩ := List.any_eq_true.1 h.2
 rw [Nat.eq_of_beq_eq_true he]; exact hx
section
variable {r : Option Nat} {P : Program} {ops : Array Oper} {Q : Exit → Act → World → Prop} {X : List PanicEntry → World → Prop}
theorem gval_spec {s : St} {a : Act} {w wa : World} {j : Nat} {want b : Bool} (hg : Good s a w wa) (h : gval ops s j want = some b) : (yielded ops a.tmps j == some want) = b := by
 unfold gval at h
 split at h <;> try cases h
 rename_i o ho
 split at h <;> try cases h
 rename_i t ht
 split at h <;> try cases h
 ·rename_i c hr
  have := hg.ag.v _ _ hr
  have ht' : a.tmps[t]? = some (.bool c) := by
   rw [Array.getD_eq_getD_getElem?] at this
   cases hx : a.tmps[t]? with
   | none => rw [hx] at this; simp [undef] at this
   | some y => rw [hx] at this; simpa using this
  simp only [yielded, ho, ht, ht', Option.bind_some]
  split at h <;> cases h <;> rfl
 ·rename_i vs hr
  have := hg.ag.v _ _ hr
  rw [Array.getD_eq_getD_getElem?] at this
  simp only [yielded, ho, ht, Option.bind_some]
  cases hx : a.tmps[t]? with
  | none => rfl
  | some y => rw [hx] at this; simp at this; subst this; rfl
theorem vcG_cases {loc pn fl : Bool} {o : Oper} {s : St} {a : Act} {w wa : World} {K : Option EV → St → World → Prop} (hg : Good s a w wa) (h : vcG P X ops loc pn fl o s w K) :
  (Region.wanted o (yielded ops a.tmps) = true ∧ vcOp P X loc pn fl o s w K) ∨ (Region.wanted o (yielded ops a.tmps) = false ∧ K (some (.v undef)) s w) := by
 unfold vcG at h
 unfold Region.wanted
 split at h
 ·rename_i hgd; rw [hgd]; exact .inl ⟨rfl, h⟩
 ·rename_i j want hgd
  rw [hgd]
  split at h <;> try exact h.elim
  ·rename_i hb; exact .inl ⟨gval_spec hg hb, h⟩
  ·rename_i hb; exact .inr ⟨gval_spec hg hb, h⟩
theorem light_heavy {loc : Bool} {o : Oper} {i : Ins} (h : compileLight P o.op = some i) : compileHeavy P loc o.dst o.type o.op = some i := by
 unfold compileHeavy
 split
 case h_6 c hc =>
  rw [hc] at h
  split
  ·rename_i f hf; simp [compileLight, hf] at h
  ·rename_i hf; simp [compileLight, hf] at h
  ·rename_i hf; simp [compileLight, hf] at h
  ·rename_i hf; simp [compileLight, hf] at h
  ·rw [hc]; exact h
 case h_7 hc => rw [hc] at h; simp [compileLight] at h
 case h_8 hc => rw [hc] at h; simp [compileLight] at h
 case h_9 hc => rw [hc] at h; simp [compileLight] at h
 case h_10 hc => rw [hc] at h; simp [compileLight] at h
 case h_11 src dst x hc =>
  split
  ·rename_i h1 h2; rw [hc] at h; simp [compileLight, h1, h2] at h
  ·rename_i h1 h2; rw [hc] at h; simp [compileLight, h1, h2] at h
  ·exact h
 case h_12 hc => rw [hc] at h; simp [compileLight] at h
 case h_13 => exact h
 all_goals
  rename_i hc
  rw [hc] at h
  simp [compileLight] at h
def kpOf (P : Program) (loc fl : Bool) (o : Oper) : Bool := match compileHeavy P loc o.dst o.type o.op with | some i => i.kp fl | none => true
theorem step_sound {i : Nat} {o : Oper} {loc pn fl : Bool} {s : St} {a : Act} {w wa : World} {K : Option EV → St → World → Prop} (hi : ops[i]? = some o) (hg : Good s a w wa)
  (hX : ∀ ch w, KpAt s.kp w → X ch w → Q (.panic ch) a w) (h : vcG P X ops loc pn fl o s w K) :
  wpOpR r P ops Q i (fun a' wa' => (kpOf P loc fl o = true → Keeps wa wa') ∧ ∃ v e s' w', a' = a.put o.dst v ∧ Good s' a w' wa' ∧ EVOk s' e v ∧ LFr s s' ∧ K e s' w') a wa := by
 unfold wpOpR
 simp only [hi]
 rcases vcG_cases hg h with ⟨hw, h⟩ | ⟨hw, h⟩
 ·simp only [hw, if_true]
  unfold vcOp at h
  split at h <;> try exact h.elim
  rename_i ins hc
  have := heavy_sound (r := r) hc hg hX h
  unfold kpOf
  simp only [hc]
  exact this
 ·simp only [hw, Bool.false_eq_true, if_false]
  exact ⟨fun _ => Keeps.refl wa, undef, some (.v undef), s, w, rfl, hg, rfl, LFr.refl s, h⟩
theorem take_sound {B : List Nat} {o : Oper} {loc pn fl : Bool} {s : St} {a : Act} {w wa : World} {K : Option EV → St → World → Prop} (hg : Good s a w wa) (hl : (compileLight P o.op).isSome = true)
  (h : vcG P X ops loc pn fl o s w K) : ∃ v e s' w', YieldsK P ops B false wa o v a ∧ Good s' a w' wa ∧ EVOk s' e v ∧ LFr s s' ∧ K e s' w' := by
 obtain ⟨ins, hins⟩ := Option.isSome_iff_exists.1 hl
 rcases vcG_cases hg h with ⟨hw, h⟩ | ⟨hw, h⟩
 ·unfold vcOp at h
  rw [light_heavy hins] at h
  obtain ⟨v, e, s', w', hr, hg', he, hlf, hk⟩ := light_sound hins hg (vcHeavy_light hins h)
  exact ⟨v, e, s', w', .inl ⟨hw, fun wx hwx => hr wx (hwx.imp id fun h => h.elim id fun h => by cases h.1)⟩, hg', he, hlf, hk⟩
 ·exact ⟨undef, some (.v undef), s, w, .inr ⟨hw, rfl⟩, hg, rfl, LFr.refl s, h⟩
theorem loadL {B : List Nat} {o : Oper} {s : St} {a : Act} {w wa : World} {K : Option EV → St → World → Prop} {ins : Ins} {t : TypeId} {x : Operand} {k off : Nat} (ho : o.op = .load t x) (hc : compileLight P o.op = some ins) (hg : Good s a w wa)
  (hl : s.evE x = some (.loc k off)) (hB : ∀ b cs, (k, b, cs) ∈ s.l → b ∈ B) (h : vcLight ins s w K) :
  ∃ v, (∀ wx, KeepL B wa wx → (execOp a.eval o).run P wx = .ok (.value v) wx) ∧ K (some (.v v)) s w := by
 rw [ho] at hc
 simp only [compileLight] at hc
 obtain ⟨b, ls, hm, he⟩ := hg.ag.evE hl
 obtain ⟨hlt, e, hb⟩ := hg.ag.lok.at_ _ _ _ hm
 split at hc <;> try cases hc
 ·rename_i z hagg hz
  simp only [vcLight, hl, look_of_mem hg.ag.lok.keys hm] at h
  split at h <;> try exact h.elim
  rename_i v hv
  refine ⟨v, fun wx hwx => ?_, h⟩
  have hwx := hwx b (hB _ _ hm)
  simp only [execOp, ho, he, Instr.loadAt, Instr.sureAddr, Sem.run_bind, Sem.run_pure, Result.andThen_ok, run_loadVar_sc hagg (hwx _ _ (cell_of_block hb hv))]
 ·rename_i n cs hagg hsz hz
  split at hc <;> try cases hc
  rename_i hn
  have hn' : n = cs.toList.length := by simpa using Nat.eq_of_beq_eq_true hn
  rcases aggSh_cases cs with hsh | hsh <;> rw [hsh] at h
  rotate_left
  ·simp only [vcLight, hl, look_of_mem hg.ag.lok.keys hm] at h
  simp only [vcLight, hl, look_of_mem hg.ag.lok.keys hm] at h
  split at h <;> try exact h.elim
  rename_i hle
  have hle := Nat.le_of_ble_eq_true hle
  refine ⟨_, fun wx hwx => ?_, h⟩
  have hwx := hwx b (hB _ _ hm)
  simp only [execOp, ho, he, Instr.loadAt, Instr.sureAddr, Sem.run_bind, Sem.run_pure, Result.andThen_ok]
  rw [run_loadVar_agg (vs := (ls.drop off).take (cs.toList.map scIn).length) hagg (by rw [hsz, hn']; simp at hle ⊢; omega) (fun j v hj => by
   rw [loc_add]
   refine hwx _ _ (cell_of_block hb ?_)
   rw [List.getElem?_take] at hj
   split at hj
   ·rw [List.getElem?_drop] at hj; exact hj
   ·cases hj)]
  rfl
theorem takeL_sound {B : List Nat} {o : Oper} {s : St} {a : Act} {w wa : World} {K : Option EV → St → World → Prop} {k : Nat} (hg : Good s a w wa) (hl : locOf s o = some k) (hc : (compileLight P o.op).isSome = true) (hB : ∀ b cs, (k, b, cs) ∈ s.l → b ∈ B)
  (h : vcG P X ops false false false o s w K) : ∃ v e s' w', YieldsK P ops B true wa o v a ∧ Good s' a w' wa ∧ EVOk s' e v ∧ LFr s s' ∧ K e s' w' := by
 obtain ⟨ins, hins⟩ := Option.isSome_iff_exists.1 hc
 unfold locOf at hl
 split at hl <;> try cases hl
 rename_i t x ho
 split at hl <;> cases hl
 rename_i off hev
 rcases vcG_cases hg h with ⟨hw, h⟩ | ⟨hw, h⟩
 ·unfold vcOp at h
  rw [light_heavy hins] at h
  obtain ⟨v, hr, hk⟩ := loadL ho hins hg hev hB (vcHeavy_light hins h)
  refine ⟨v, some (.v v), s, w, .inl ⟨hw, fun wx hwx => hr wx ?_⟩, hg, rfl, LFr.refl s, hk⟩
  rcases hwx with h1 | h1 | h1
  ·exact (keeps_of_load ho (.inl h1)).keepL
  ·exact h1.keepL
  ·exact h1.2
 ·exact ⟨undef, some (.v undef), s, w, .inr ⟨hw, rfl⟩, hg, rfl, LFr.refl s, h⟩
def freeK (md : Region.Mode) (ops : Array Oper) (ns : List Nat) (fl : Bool) (listed : Array Bool) (i : Nat) : Bool :=
 match ops[i]? with
 | none => false
 | some oi => (List.range ops.size).all fun j => Nat.beq j i || listed.getD j true || reachOf md ops i j || (match ops[j]? with | some oj => oi.apart ops oj | none => true) && (indep oi.op || !ns.any (Nat.beq j) || fl)
theorem freeK_spec {md : Region.Mode} {ns : List Nat} {fl : Bool} {listed : Array Bool} {i : Nat} {oi : Oper} (hi : ops[i]? = some oi) (h : freeK md ops ns fl listed i = true) :
  ∀ j oj, ops[j]? = some oj → j ≠ i → listed.getD j true = false → reachOf md ops i j = false → oi.apart ops oj = true ∧ (indep oi.op = true ∨ j ∉ ns ∨ fl = true) := by
 intro j oj hj hji hun hre
 simp only [freeK, hi, List.all_eq_true, List.mem_range] at h
 have h1 := h j (Array.getElem?_eq_some_iff.1 hj).1
 have hb : Nat.beq j i = false := by
  cases hb : Nat.beq j i
  ·rfl
  ·exact absurd (Nat.eq_of_beq_eq_true hb) hji
 simp only [hb, hun, hre, hj, Bool.false_or, Bool.and_eq_true, Bool.or_eq_true, Bool.not_eq_true'] at h1
 refine ⟨h1.1, ?_⟩
 rcases h1.2 with (h2 | h2) | h2
 ·exact .inl h2
 ·refine .inr (.inl fun hm => ?_)
  have := List.any_eq_false.1 h2 j hm
  simp at this
 ·exact .inr (.inr h2)
def hasN (l : List Nat) (i : Nat) : Bool := l.any (Nat.beq i)
theorem hasN_spec {l : List Nat} {i : Nat} (h : hasN l i = true) : i ∈ l := by
 obtain ⟨x, hx, he⟩ := List.any_eq_true.1 h
 rw [Nat.eq_of_beq_eq_true he]; exact hx
def isOne (l : List Nat) (i : Nat) : Bool := match l with | [x] => Nat.beq x i | _ => false
theorem isOne_spec {l : List Nat} {i : Nat} (h : isOne l i = true) : l = [i] := by
 unfold isOne at h
 split at h
 ·rw [Nat.eq_of_beq_eq_true h]
 ·cases h
def heads : Plan → List Nat
 | .op i _ _ _ _ => [i]
 | .alt p q => heads p ++ heads q
 | _ => []
def upd (dr : Bool) (listed : Array Bool) (i : Nat) : Array Bool := match dr with | true => listed.setIfInBounds i true | false => listed
def takeOk (dr : Bool) (P : Program) (ops : Array Oper) (ns : List Nat) (N : Nat) (ds : List Nat) (fuel : Nat) (listed : Array Bool) (i : Nat) : Bool :=
 match ops[i]? with
 | some o => dstOk N ds o && (compileLight P o.op).isSome && (match dr with
  | true => hasN (Region.ready .any ops listed) i && freeK .any ops ns false listed i
  | false => Nat.beq (i + fuel) ops.size)
 | none => false
def takesOk (dr : Bool) (P : Program) (ops : Array Oper) (ns : List Nat) (N : Nat) (ds : List Nat) (g : Nat) (want : Bool) : Nat → Nat → Nat → Array Bool → (Nat → Array Bool → Bool) → Bool
 | _, 0, fuel, listed, k => k fuel listed
 | i, n + 1, fuel, listed, k =>
  takeOk dr P ops ns N ds fuel listed i &&
  (match ops[i]? with
   | some o => (match o.guard with | some (j, wt) => (match (ops[j]?).bind (·.dst) with | some t => Nat.beq t g | none => false) && (wt == want) | none => false) &&
    (match o.dst with | some d => !Nat.beq d g | none => true)
   | none => false) &&
  (match fuel with | 0 => false | f + 1 => takesOk dr P ops ns N ds g want (i + 1) n f (upd dr listed i) k)
def constB (x : Operand) (b : Bool) : Bool := match x with | .const (.bool c) => c == b | _ => false
def pickOk (ops : Array Oper) (g : Nat) (want : Bool) (i : Nat) : Bool :=
 match ops[i]? with
 | some o => (match o.guard with | none => true | some _ => false) && (match o.op with
  | .pick (.tmp c) x y => Nat.beq c g && (match want with | true => constB y false | false => constB x true)
  | _ => false)
 | none => false
def okPlan (dr : Bool) (P : Program) (ops : Array Oper) (ns : List Nat) (N : Nat) (ds : List Nat) : Bool → Plan → Nat → Array Bool → Bool
 | sub, .done, fuel, listed => !sub && (match dr with
  | true => (match Region.ready .any ops listed with | [] => true | _ => false)
  | false => Nat.beq fuel 0)
 | sub, .op i loc pn fl p, fuel, listed => match fuel, ops[i]? with
  | fuel + 1, some o => dstOk N ds o && (match dr with
    | true => hasN (Region.ready .any ops listed) i && (hasN ns i || kpOf P loc fl o) &&
     (sub || isOne (Region.ready .any ops listed) i || ((compileLight P o.op).isSome && freeK .any ops ns false listed i))
    | false => !sub && Nat.beq (i + (fuel + 1)) ops.size) &&
    okPlan dr P ops ns N ds false p fuel (upd dr listed i)
  | _, _ => false
 | sub, .split t p, fuel, listed => !sub && okPlan dr P ops ns N ds false p fuel listed
 | sub, .gand g want i n p, fuel, listed => !sub && pickOk ops g want (i + n) &&
   takesOk dr P ops ns N ds g want i n fuel listed fun fuel listed => takeOk dr P ops ns N ds fuel listed (i + n) && (match fuel with | 0 => false | f + 1 => okPlan dr P ops ns N ds false p f (upd dr listed (i + n)))
 | sub, .alt p q, fuel, listed => dr && (sub || ((Region.ready .any ops listed).all (hasN (heads (.alt p q))) && !(Region.ready .any ops listed).isEmpty)) && okPlan dr P ops ns N ds true p fuel listed && okPlan dr P ops ns N ds true q fuel listed
 | sub, .ldl i p, fuel, listed => match fuel, ops[i]? with
  | fuel + 1, some o => !sub && dr && dstOk N ds o && (compileLight P o.op).isSome && hasN (Region.ready .any ops listed) i && freeK .any ops ns true listed i && okPlan dr P ops ns N ds false p fuel (upd dr listed i)
  | _, _ => false
/-- what is asked of the rest of the region -/
def G (r : Option Nat) (dr : Bool) (P : Program) (ops : Array Oper) (Q : Exit → Act → World → Prop) (ns B : List Nat) (fuel : Nat) (listed : Array Bool) (a : Act) (w : World) : Prop :=
 match dr with
 | true => wpK r P .any ops Q ns B fuel listed a w
 | false => wpOpsR r P ops Q (List.range' (ops.size - fuel) fuel) a w
def Cl (dr : Bool) (ops : Array Oper) (listed : Array Bool) : Prop := match dr with | true => Closed .any ops listed | false => True
theorem G_take {dr : Bool} {ns B : List Nat} {N : Nat} {ds : List Nat} {fuel : Nat} {listed : Array Bool} {i : Nat} {o : Oper} {v : Value} {a : Act} {w : World} (hs : Region.noSelect ops = true)
  (hQ : ∀ c a d v w, (∀ t, d = some t → t ∈ ds) → Q (.panic c) (Act.put a d v) w → Q (.panic c) a w) (hi : ops[i]? = some o) (hok : takeOk dr P ops ns N ds (fuel + 1) listed i = true) (hc : Cl dr ops listed) (hy : YieldsK P ops B false w o v a)
  (h : G r dr P ops Q ns B fuel (upd dr listed i) (a.put o.dst v) w) : G r dr P ops Q ns B (fuel + 1) listed a w ∧ Cl dr ops (upd dr listed i) := by
 simp only [takeOk, hi, Bool.and_eq_true] at hok
 cases dr with
 | true =>
  simp only [Bool.and_eq_true] at hok
  have hr : i ∈ Region.ready .any ops listed := hasN_spec hok.2.1
  exact ⟨wpK_first hi (Region.noSelect_spec hs) (fun c a w => hQ c _ _ _ w (dstOk_mem hok.1.1)) fuel listed a w hc (freeK_spec hi hok.2.2) hr hy h, Closed.set hc hr⟩
 | false =>
  have e := Nat.eq_of_beq_eq_true hok.2
  refine ⟨?_, trivial⟩
  simp only [G]
  rw [List.range'_succ, wpOpsR_cons, show ops.size - (fuel + 1) = i by omega, show i + 1 = ops.size - fuel by omega]
  exact hy.wpOp hi h
theorem Cl_upd {dr : Bool} {ns : List Nat} {N : Nat} {ds : List Nat} {fuel : Nat} {listed : Array Bool} {i : Nat} (hok : takeOk dr P ops ns N ds fuel listed i = true) (hc : Cl dr ops listed) : Cl dr ops (upd dr listed i) := by
 unfold takeOk at hok
 split at hok <;> try cases hok
 cases dr with
 | true =>
  simp only [Bool.and_eq_true] at hok
  exact Closed.set hc (hasN_spec hok.2.1)
 | false => trivial
structure SameOut (D : List Nat) (a b : Act) : Prop where
 size : a.tmps.size = b.tmps.size
 tmps : ∀ t, t ∉ D → a.tmps.getD t undef = b.tmps.getD t undef
theorem SameOut.put {D : List Nat} {a b : Act} (h : SameOut D a b) {d : Option Tmp} {u v : Value} (hd : ∀ t, d = some t → t < a.tmps.size) : SameOut (D ++ d.toList) (a.put d u) (b.put d v) := by
 cases d with
 | none => simpa [Act.put] using h
 | some d =>
  have h1 := hd d rfl
  have h2 : d < b.tmps.size := h.size ▸ h1
  refine ⟨by simp [Act.put, h.size], fun t ht => ?_⟩
  simp at ht
  rw [Act.getD_put t h1, Act.getD_put t h2, if_neg ht.2, if_neg ht.2]
  exact h.tmps t ht.1
theorem Good.out {s : St} {D : List Nat} {a b : Act} {w wa : World} (h : Good s b w wa) (ho : SameOut D a b) : Good (s.del D) a w wa := by
 refine ⟨⟨fun t x hx => ?_, fun t k off hx => ?_, fun t k n hx => ?_, h.ag.lok, h.ag.dok⟩, h.dirty, h.clean⟩
 ·obtain ⟨h1, h2⟩ := St.del_some hx
  rw [ho.tmps t h2]; exact h.ag.v _ _ h1
 ·obtain ⟨h1, h2⟩ := St.del_some hx
  rw [ho.tmps t h2]; exact h.ag.loc _ _ _ h1
 ·obtain ⟨h1, h2⟩ := St.del_some hx
  rw [ho.tmps t h2]; exact h.ag.lsl _ _ _ h1
theorem takes_sound {dr : Bool} {ns B : List Nat} {N : Nat} {ds : List Nat} {g : Nat} {want b : Bool} (hs : Region.noSelect ops = true) (hQ : ∀ c a d v w, (∀ t, d = some t → t ∈ ds) → Q (.panic c) (Act.put a d v) w → Q (.panic c) a w) {wa : World}
  {k : Nat → Array Bool → Bool} {KB : St → World → Prop} {a0 : Act} {s0 : St} {D0 : List Nat}
  (cont : ∀ fuel listed D a at' s w, k fuel listed = true → Cl dr ops listed → Good s at' w wa → SameOut D a at' → (b = want → a = at') → a.tmps[g]? = some (.bool b) → Fr ds a0 a → LFr s0 s → KB s w → (∀ t, t ∈ D → t ∈ D0) →
   G r dr P ops Q ns B fuel listed a wa) :
  ∀ (n i fuel : Nat) (listed : Array Bool) (D : List Nat) (a at' : Act) (s : St) (w : World), takesOk dr P ops ns N ds g want i n fuel listed k = true → Cl dr ops listed → Good s at' w wa → SameOut D a at' →
   (b = want → a = at') → a.tmps[g]? = some (.bool b) → a.tmps.size = N → Fr ds a0 a → LFr s0 s → (∀ t, t ∈ D → t ∈ D0) → (∀ t, t ∈ dstsOf ops i n → t ∈ D0) → vcBlock P ops i n s w KB → G r dr P ops Q ns B fuel listed a wa
 | 0, i, fuel, listed, D, a, at', s, w, hok, hc, hg, ho, hab, hgv, hN, hfr, hlf, hD, _, h => cont _ _ _ _ _ _ _ hok hc hg ho hab hgv hfr hlf h hD
 | n + 1, i, fuel, listed, D, a, at', s, w, hok, hc, hg, ho, hab, hgv, hN, hfr, hlf, hD, hD2, h => by
  simp only [takesOk, Bool.and_eq_true] at hok
  obtain ⟨⟨htk, hgd⟩, hrest⟩ := hok
  simp only [vcBlock] at h
  split at h <;> try exact h.elim
  rename_i o hi
  split at h <;> try exact h.elim
  rename_i ins hins
  simp only [hi] at hgd
  obtain ⟨v, e, s1, w1, hr, hg1, he, hlf1, hk⟩ := light_sound hins hg h
  cases fuel with
  | zero => cases hrest
  | succ fuel =>
   simp only at hrest
   have htk0 := htk
   simp only [takeOk, hi, Bool.and_eq_true] at htk
   have hdst := dstOk_spec htk.1.1 hN
   have hdst' : ∀ t, o.dst = some t → t < at'.tmps.size := fun t ht => ho.size ▸ (hdst t ht).2
   have hwant : Region.wanted o (yielded ops a.tmps) = (b == want) := by
    simp only [Bool.and_eq_true] at hgd
    unfold Region.wanted
    cases hgu : o.guard with
    | none => rw [hgu] at hgd; simp at hgd
    | some jw =>
     obtain ⟨j, wt⟩ := jw
     rw [hgu] at hgd
     simp only [Bool.and_eq_true] at hgd
     have hwt : wt = want := by simpa using hgd.1.2
     have hj := hgd.1.1
     cases hb : (ops[j]?).bind (·.dst) with
     | none => rw [hb] at hj; cases hj
     | some t =>
      rw [hb] at hj
      have ht := Nat.eq_of_beq_eq_true hj
      subst ht
      simp [yielded, hb, hgv, hwt]
   have hne : ∀ t, o.dst = some t → t ≠ g := by
    intro t ht e
    simp only [Bool.and_eq_true, ht] at hgd
    rw [e] at hgd
    simp at hgd
   have hgput : ∀ u, (a.put o.dst u).tmps[g]? = some (.bool b) := by
    intro u
    cases hd : o.dst with
    | none => exact hgv
    | some d => simp only [Act.put]; rw [Array.getElem?_setIfInBounds_ne (hne d hd)]; exact hgv
   have hDt : ∀ t, o.dst = some t → t ∈ dstsOf ops i (n + 1) := by
    intro t ht; simp [dstsOf, hi, ht]
   have hDr : ∀ t, t ∈ dstsOf ops (i + 1) n → t ∈ dstsOf ops i (n + 1) := by
    intro t ht
    simp only [dstsOf, hi]
    cases hd : o.dst <;> simp [hd, ht]
   have hDo : ∀ t, t ∈ D ++ o.dst.toList → t ∈ D0 := by
    intro t ht
    rcases List.mem_append.1 ht with h1 | h1
    ·exact hD t h1
    ·exact hD2 t (hDt t (by simpa using h1))
   have hgood' : Good (s1.put o.dst e) (at'.put o.dst v) w1 wa := hg1.put (fun t ht => hdst' t ht) he
   by_cases hbw : b = want
   ·have haa := hab hbw
    subst haa
    have hy : YieldsK P ops B false wa o v a := .inl ⟨by rw [hwant]; simp [hbw], fun wx hwx => hr wx (hwx.imp id fun h => h.elim id fun h => by cases h.1)⟩
    refine (G_take hs hQ hi htk0 hc hy ?_).1
    exact takes_sound hs hQ cont n (i + 1) fuel (upd dr listed i) (D ++ o.dst.toList) (a.put o.dst v) (a.put o.dst v) (s1.put o.dst e) w1 hrest (Cl_upd htk0 hc) hgood' ⟨rfl, fun _ _ => rfl⟩ (fun _ => rfl) (hgput v)
     (by have := (Fr.put (ds := ds) v hdst).size; rw [this]; exact hN) (hfr.trans (Fr.put v hdst)) (hlf.trans (hlf1.trans (LFr.put _ _ _))) hDo (fun t ht => hD2 t (hDr t ht)) hk
   ·have hy : YieldsK P ops B false wa o undef a := .inr ⟨by rw [hwant]; cases b <;> cases want <;> simp_all, rfl⟩
    refine (G_take hs hQ hi htk0 hc hy ?_).1
    exact takes_sound hs hQ cont n (i + 1) fuel (upd dr listed i) (D ++ o.dst.toList) (a.put o.dst undef) (at'.put o.dst v) (s1.put o.dst e) w1 hrest (Cl_upd htk0 hc) hgood' (ho.put (fun t ht => (hdst t ht).2)) (fun hb => absurd hb hbw) (hgput undef)
     (by have := (Fr.put (ds := ds) undef hdst).size; rw [this]; exact hN) (hfr.trans (Fr.put undef hdst)) (hlf.trans (hlf1.trans (LFr.put _ _ _))) hDo (fun t ht => hD2 t (hDr t ht)) hk
end
end Go.Vc
namespace Go.Vc
open Go.RowKit
section
variable {r : Option Nat} {P : Program} {ops : Array Oper} {Q : Exit → Act → World → Prop} {X : List PanicEntry → World → Prop}
theorem SameOut.mono {D E : List Nat} {a b : Act} (h : SameOut D a b) (hs : ∀ t, t ∈ D → t ∈ E) : SameOut E a b := ⟨h.size, fun t ht => h.tmps t (fun hm => ht (hs t hm))⟩
theorem eval_constB {x : Operand} {b : Bool} (h : constB x b = true) (a : Act) : a.eval x = .bool b := by
 unfold constB at h
 split at h
 ·rename_i c
  have : c = b := by simpa using h
  subst this; rfl
 ·cases h
theorem tmp_bool {a : Act} {t : Nat} {b : Bool} (h : a.tmps.getD t undef = .bool b) : a.tmps[t]? = some (.bool b) := by
 rw [Array.getD_eq_getD_getElem?] at h
 cases hx : a.tmps[t]? with
 | none => rw [hx] at h; simp [undef] at h
 | some y => rw [hx] at h; simpa using h
theorem Good.set_same {s : St} {a : Act} {w wa : World} {t : Nat} {x : Value} (h : Good s a w wa) (hx : a.tmps.getD t undef = x) : Good (s.set t (some (.v x))) a w wa := by
 have key : ∀ u y, (s.set t (some (.v x))).ρ u = some y → (u = t ∧ y = .v x) ∨ s.ρ u = some y := by
  intro u y hu
  simp only [St.set, beqN] at hu
  by_cases hut : u = t
  ·simp only [hut, decide_true, cond_true] at hu; cases hu; exact .inl ⟨hut, rfl⟩
  ·simp only [hut, decide_false, cond_false] at hu; exact .inr hu
 refine ⟨⟨fun u y hu => ?_, fun u k off hu => ?_, fun u k n hu => ?_, h.ag.lok, h.ag.dok⟩, h.dirty, h.clean⟩
 ·rcases key _ _ hu with ⟨h1, h2⟩ | h1
  ·cases h2; rw [h1]; exact hx
  ·exact h.ag.v _ _ h1
 ·rcases key _ _ hu with ⟨h1, h2⟩ | h1
  ·cases h2
  ·exact h.ag.loc _ _ _ h1
 ·rcases key _ _ hu with ⟨h1, h2⟩ | h1
  ·cases h2
  ·exact h.ag.lsl _ _ _ h1
theorem cell_block {w : World} {b off : Nat} {cs : List Value} {e : TypeId} {fr : Nat × Nat} (h : w.heap[b]? = some (.cells cs.toArray e fr)) : w.cell? ⟨b, off, none⟩ = cs[off]? := by
 simp [World.cell?, h]
theorem keepL_of {B : List Nat} {s0 s s' : St} {a a' : Act} {w wa w' wa' : World} (hB' : ∀ b, b ∈ B → ∃ k cs, k ∈ s0.ro ∧ (k, b, cs) ∈ s0.l) (h0 : LFr s0 s) (hg : Good s a w wa) (h1 : LFr s s') (hg' : Good s' a' w' wa') : KeepL B wa wa' := by
 intro b hb off v hv
 obtain ⟨k, cs0, hk, hm0⟩ := hB' b hb
 obtain ⟨cs1, hm1, _⟩ := h0.2 k b cs0 hm0
 obtain ⟨cs2, hm2, he⟩ := h1.2 k b cs1 hm1
 have he := he (by rw [h0.1.1]; exact hk)
 subst he
 obtain ⟨_, e1, hb1⟩ := hg.ag.lok.at_ _ _ _ hm1
 obtain ⟨_, e2, hb2⟩ := hg'.ag.lok.at_ _ _ _ hm2
 rw [cell_block hb1] at hv
 rw [cell_block hb2]; exact hv
theorem plan_sound {dr : Bool} {ns B rl : List Nat} {N : Nat} {ds : List Nat} (hs : Region.noSelect ops = true) (hQ : ∀ c a d v w, (∀ t, d = some t → t ∈ ds) → Q (.panic c) (Act.put a d v) w → Q (.panic c) a w)
  {a0 : Act} {s0 : St} {K : St → World → Prop} (hX : ∀ ch w a, Fr ds a0 a → KpAt s0.kp w → X ch w → Q (.panic ch) a w) (hfin : ∀ s a w wa, Fr ds a0 a → Good s a w wa → LFr s0 s → K s w → Q .normal a wa)
  (hB : ∀ k, k ∈ rl → ∃ b cs, (k, b, cs) ∈ s0.l ∧ b ∈ B) (hB' : ∀ b, b ∈ B → ∃ k cs, k ∈ s0.ro ∧ (k, b, cs) ∈ s0.l) :
  ∀ (p : Plan) (fuel : Nat) (listed : Array Bool) (a : Act) (s : St) (w wa : World), Cl dr ops listed → Good s a w wa → Fr ds a0 a → LFr s0 s → a.tmps.size = N → vcPlan P X ops rl p s w K →
   (okPlan dr P ops ns N ds false p fuel listed = true → G r dr P ops Q ns B fuel listed a wa) ∧
   (okPlan dr P ops ns N ds true p fuel listed = true → dr = true → ∀ i ∈ heads p, i ∈ Region.ready .any ops listed → 0 < fuel ∧
    wpOpR r P ops Q i (fun a' w' => (i ∉ ns → Keeps wa w') ∧ KeepL B wa w' ∧ wpK r P .any ops Q ns B (fuel - 1) (listed.setIfInBounds i true) a' w') a wa)
 | .done, fuel, listed, a, s, w, wa, hc, hg, hfr, hlf, hN, h => by
  refine ⟨fun hok => ?_, fun hok => by simp [okPlan] at hok⟩
  have hq := hfin s a w wa hfr hg hlf h
  simp only [okPlan, Bool.not_false, Bool.true_and] at hok
  cases dr with
  | true =>
   simp only at hok
   have hr : Region.ready .any ops listed = [] := by
    split at hok
    ·assumption
    ·cases hok
   cases fuel with
   | zero => exact ⟨hr, hq⟩
   | succ f => exact ⟨fun _ => hq, by rw [hr]; simp⟩
  | false =>
   have := Nat.eq_of_beq_eq_true hok
   subst this
   simpa [G, wpOpsR] using hq
 | .op i loc pn fl p, fuel, listed, a, s, w, wa, hc, hg, hfr, hlf, hN, h => by
  simp only [vcPlan] at h
  split at h <;> try exact h.elim
  rename_i o hi
  have run : ∀ sub f, fuel = f + 1 → okPlan dr P ops ns N ds sub (.op i loc pn fl p) fuel listed = true → Cl dr ops (upd dr listed i) →
    (dr = true → (kpOf P loc fl o = true ∨ i ∈ ns)) →
    wpOpR r P ops Q i (fun a' w' => (dr = true → i ∉ ns → Keeps wa w') ∧ KeepL B wa w' ∧ G r dr P ops Q ns B f (upd dr listed i) a' w') a wa := by
   intro sub f hf hok hc' hkp
   subst hf
   simp only [okPlan, hi, Bool.and_eq_true] at hok
   have hdst := dstOk_spec hok.1.1 hN
   refine wpOpR_mono (fun a' w' h2 => ?_) (step_sound (Q := Q) hi hg (fun ch w hd hx => hX ch w a hfr (hlf.1.2 ▸ hd) hx) h)
   obtain ⟨hk, v, e, s', w'', rfl, hg', he, hl', hK⟩ := h2
   refine ⟨fun hd hns => ?_, ?_⟩
   ·rcases hkp hd with h3 | h3
    ·exact hk h3
    ·exact absurd h3 hns
   ·have hput := Fr.put (ds := ds) (a := a) v hdst
    refine ⟨keepL_of hB' hlf hg hl' hg', ?_⟩
    exact (plan_sound hs hQ hX hfin hB hB' p f (upd dr listed i) _ _ _ _ hc' (hg'.put (fun t ht => (hdst t ht).2) he) (hfr.trans hput) (hlf.trans (hl'.trans (LFr.put _ _ _))) (by rw [hput.size]; exact hN) hK).1 hok.2
  constructor
  ·intro hok
   cases fuel with
   | zero => simp [okPlan] at hok
   | succ f =>
    have hok0 := hok
    simp only [okPlan, hi, Bool.and_eq_true] at hok
    have hdst := dstOk_spec hok.1.1 hN
    cases dr with
    | false =>
     simp only [Bool.and_eq_true] at hok
     have e := Nat.eq_of_beq_eq_true hok.1.2.2
     have := run false f rfl hok0 trivial (fun hd => by cases hd)
     simp only [G] at this ⊢
     rw [List.range'_succ, wpOpsR_cons, show ops.size - (f + 1) = i by omega, show i + 1 = ops.size - f by omega]
     exact wpOpR_mono (fun a' w' h2 => h2.2.2) this
    | true =>
     simp only [Bool.and_eq_true, Bool.or_eq_true] at hok
     have hr : i ∈ Region.ready .any ops listed := hasN_spec hok.1.2.1.1
     have hc' : Cl true ops (upd true listed i) := Closed.set hc hr
     rcases hok.1.2.2 with (h1 | h1) | h1
     ·cases h1
     ·have h1 := isOne_spec h1
      have := run false f rfl hok0 hc' (fun _ => hok.1.2.1.2.elim (fun h2 => .inr (hasN_spec h2)) .inl)
      refine ⟨fun h0 => (by rw [h1] at h0; cases h0), fun j hj => ?_⟩
      rw [h1] at hj
      obtain rfl : j = i := by simpa using hj
      exact wpOpR_mono (fun a' w' h2 => ⟨fun hns => h2.1 rfl hns, h2.2⟩) this
     ·obtain ⟨v, e, s', w', hy, hg', he, hl', hK⟩ := take_sound hg h1.1 h
      have htk : takeOk true P ops ns N ds (f + 1) listed i = true := by
       simp only [takeOk, hi, Bool.and_eq_true]
       exact ⟨⟨hok.1.1, h1.1⟩, hok.1.2.1.1, h1.2⟩
      refine (G_take hs hQ hi htk hc hy ?_).1
      have hput := Fr.put (ds := ds) (a := a) v hdst
      exact (plan_sound hs hQ hX hfin hB hB' p f (upd true listed i) _ _ _ _ hc' (hg'.put (fun t ht => (hdst t ht).2) he) (hfr.trans hput) (hlf.trans (hl'.trans (LFr.put _ _ _))) (by rw [hput.size]; exact hN) hK).1 hok.2
  ·intro hok hd j hj hr
   subst hd
   simp only [heads, List.mem_singleton] at hj
   subst hj
   cases fuel with
   | zero => simp [okPlan] at hok
   | succ f =>
    have hok0 := hok
    simp only [okPlan, hi, Bool.and_eq_true, Bool.or_eq_true] at hok
    have hc' : Cl true ops (upd true listed j) := Closed.set hc hr
    refine ⟨by omega, ?_⟩
    have := run true f rfl hok0 hc' (fun _ => hok.1.2.1.2.elim (fun h2 => .inr (hasN_spec h2)) .inl)
    exact wpOpR_mono (fun a' w' h2 => ⟨fun hns => h2.1 rfl hns, h2.2⟩) this
 | .split t p, fuel, listed, a, s, w, wa, hc, hg, hfr, hlf, hN, h => by
  refine ⟨fun hok => ?_, fun hok => by simp [okPlan] at hok⟩
  simp only [okPlan, Bool.not_false, Bool.true_and] at hok
  simp only [vcPlan] at h
  split at h <;> try exact h.elim
  case h_2 => exact (plan_sound hs hQ hX hfin hB hB' p fuel listed a _ w wa hc hg hfr hlf hN h).1 hok
  rename_i b hb
  have hv := hg.ag.v _ _ hb
  rcases brB_elim h with ⟨rfl, h⟩ | ⟨rfl, h⟩
  ·exact (plan_sound hs hQ hX hfin hB hB' p fuel listed a _ w wa hc (hg.set_same hv) hfr (hlf.trans (LFr.set _ _ _)) hN h).1 hok
  ·exact (plan_sound hs hQ hX hfin hB hB' p fuel listed a _ w wa hc (hg.set_same hv) hfr (hlf.trans (LFr.set _ _ _)) hN h).1 hok
 | .gand g want i n p, fuel, listed, a, s, w, wa, hc, hg, hfr, hlf, hN, h => by
  refine ⟨fun hok => ?_, fun hok => by simp [okPlan] at hok⟩
  simp only [vcPlan] at h
  split at h <;> try exact h.elim
  rename_i o hi
  split at h <;> try exact h.elim
  rename_i c x y hop
  split at h <;> try exact h.elim
  rename_i b hb
  simp only [okPlan, Bool.not_false, Bool.true_and, Bool.and_eq_true] at hok
  obtain ⟨hpk, htk⟩ := hok
  simp only [pickOk, hi, hop, Bool.and_eq_true] at hpk
  obtain ⟨hpg, hpk⟩ := hpk
  have hgn : o.guard = none := by
   cases hgu : o.guard with
   | none => rfl
   | some _ => rw [hgu] at hpg; cases hpg
  have hgv := tmp_bool (hg.ag.v _ _ hb)
  refine takes_sound (dr := dr) (N := N) (g := g) (want := want) (b := b) (D0 := dstsOf ops i n) hs hQ (a0 := a0) (s0 := s0) (KB := _) ?_ n i fuel listed [] a a s w htk hc hg ⟨rfl, fun _ _ => rfl⟩ (fun _ => rfl) hgv hN hfr hlf (fun t ht => by cases ht) (fun t ht => ht) h
  intro fuel listed D a' at' s' w' hk hc' hg' ho' hab hgv' hfr' hlf' hKB hD
  simp only [Bool.and_eq_true] at hk
  obtain ⟨htk2, hrest⟩ := hk
  split at hKB <;> try exact hKB.elim
  rename_i v hv
  cases fuel with
  | zero => cases hrest
  | succ f =>
   simp only at hrest
   have hN' : a'.tmps.size = N := by rw [hfr'.size, ← hfr.size]; exact hN
   have htk3 := htk2
   simp only [takeOk, hi, Bool.and_eq_true] at htk3
   have hdst := dstOk_spec htk3.1.1 hN'
   have hval : a'.eval c = .bool b ∧ (if b then a'.eval x else a'.eval y) = .bool (andV want b v) := by
    cases c with
    | tmp ct =>
     simp only [Bool.and_eq_true] at hpk
     have hct := Nat.eq_of_beq_eq_true hpk.1
     subst hct
     refine ⟨by simp [Act.eval, hgv'], ?_⟩
     cases want with
     | true =>
      cases b with
      | true => rw [hab rfl]; simpa [andV] using hg'.ag.ev hv
      | false => simpa [andV] using eval_constB hpk.2 a'
     | false =>
      cases b with
      | true => simpa [andV] using eval_constB hpk.2 a'
      | false => rw [hab rfl]; simpa [andV] using hg'.ag.ev hv
    | const _ => simp at hpk
    | global _ => simp at hpk
    | func _ => simp at hpk
   have hy : YieldsK P ops B false wa o (.bool (andV want b v)) a' := by
    refine .inl ⟨by simp [Region.wanted, hgn], fun wx _ => ?_⟩
    simp only [execOp, hop, hval.1, asBool, Sem.run_bind, Sem.run_pure, Result.andThen_ok]
    rw [← hval.2]
   refine (G_take hs hQ hi htk2 hc' hy ?_).1
   have hgo : Good (s'.del (dstsOf ops i n)) a' w' wa := hg'.out (ho'.mono hD)
   have hput := Fr.put (ds := ds) (a := a') (.bool (andV want b v)) hdst
   exact (plan_sound hs hQ hX hfin hB hB' p f (upd dr listed (i + n)) _ _ _ _ (Cl_upd htk2 hc') (hgo.put (fun t ht => (hdst t ht).2) (e := some (.v (.bool (andV want b v)))) rfl) (hfr'.trans hput) (hlf'.trans ((LFr.del _ _).trans (LFr.put _ _ _))) (by rw [hput.size]; exact hN') hKB).1 hrest
 | .alt p q, fuel, listed, a, s, w, wa, hc, hg, hfr, hlf, hN, h => by
  have sub : okPlan dr P ops ns N ds true p fuel listed = true → okPlan dr P ops ns N ds true q fuel listed = true → dr = true → ∀ i ∈ heads (.alt p q), i ∈ Region.ready .any ops listed → 0 < fuel ∧
    wpOpR r P ops Q i (fun a' w' => (i ∉ ns → Keeps wa w') ∧ KeepL B wa w' ∧ wpK r P .any ops Q ns B (fuel - 1) (listed.setIfInBounds i true) a' w') a wa := by
   intro h1 h2 hd i hi hr
   simp only [heads, List.mem_append] at hi
   rcases hi with hi | hi
   ·exact (plan_sound hs hQ hX hfin hB hB' p fuel listed a s w wa hc hg hfr hlf hN h.1).2 h1 hd i hi hr
   ·exact (plan_sound hs hQ hX hfin hB hB' q fuel listed a s w wa hc hg hfr hlf hN h.2).2 h2 hd i hi hr
  constructor
  ·intro hok
   simp only [okPlan, Bool.and_eq_true, Bool.false_or] at hok
   obtain ⟨⟨⟨hd, hall, hne0⟩, h1⟩, h2⟩ := hok
   subst hd
   have hne : Region.ready .any ops listed ≠ [] := by
    intro h0
    rw [h0] at hne0; cases hne0
   have hm : ∀ i ∈ Region.ready .any ops listed, i ∈ heads (.alt p q) := fun i hi => hasN_spec (List.all_eq_true.1 hall i hi)
   cases hr : Region.ready .any ops listed with
   | nil => exact absurd hr hne
   | cons j js =>
    obtain ⟨hf, _⟩ := sub h1 h2 rfl j (hm j (by rw [hr]; simp)) (by rw [hr]; simp)
    cases fuel with
    | zero => omega
    | succ f =>
     refine ⟨fun h0 => absurd h0 hne, fun i hi => ?_⟩
     have := (sub h1 h2 rfl i (hm i hi) hi).2
     simpa using this
  ·intro hok hd i hi hr
   simp only [okPlan, Bool.and_eq_true] at hok
   exact sub hok.1.2 hok.2 hd i hi hr
 | .ldl i p, fuel, listed, a, s, w, wa, hc, hg, hfr, hlf, hN, h => by
  refine ⟨fun hok => ?_, fun hok => (by
   simp only [okPlan] at hok
   split at hok
   ·simp at hok
   ·cases hok)⟩
  simp only [vcPlan] at h
  split at h <;> try exact h.elim
  rename_i o hi
  split at h <;> try exact h.elim
  rename_i k hk
  split at h <;> try exact h.elim
  rename_i hrl
  cases fuel with
  | zero => simp [okPlan] at hok
  | succ f =>
   simp only [okPlan, hi, Bool.not_false, Bool.true_and, Bool.and_eq_true] at hok
   obtain ⟨⟨⟨⟨⟨hdr, hd⟩, hcomp⟩, hrd⟩, hfree⟩, hrest⟩ := hok
   subst hdr
   have hdst := dstOk_spec hd hN
   have hBk : ∀ b cs, (k, b, cs) ∈ s.l → b ∈ B := by
    intro b cs hm
    obtain ⟨b0, cs0, hm0, hb0⟩ := hB k (hasN_spec hrl)
    obtain ⟨cs1, hm1, _⟩ := hlf.2 k b0 cs0 hm0
    have e1 := look_of_mem hg.ag.lok.keys hm1
    have e2 := look_of_mem hg.ag.lok.keys hm
    rw [e1] at e2
    cases e2
    exact hb0
   obtain ⟨v, e, s', w', hy, hg', he, hl', hK⟩ := takeL_sound (B := B) hg hk hcomp hBk h
   have hr := hasN_spec hrd
   have hput := Fr.put (ds := ds) (a := a) v hdst
   refine wpK_first hi (Region.noSelect_spec hs) (fun c a w => hQ c _ _ _ w (dstOk_mem hd)) f listed a wa hc (freeK_spec hi hfree) hr hy ?_
   have hc' : Cl true ops (upd true listed i) := Closed.set hc hr
   exact (plan_sound hs hQ hX hfin hB hB' p f (upd true listed i) _ _ _ _ hc' (hg'.put (fun t ht => (hdst t ht).2) he) (hfr.trans hput) (hlf.trans (hl'.trans (LFr.put _ _ _))) (by rw [hput.size]; exact hN) hK).1 hrest
end
end Go.Vc
