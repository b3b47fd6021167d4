/- The outer proof of a law: what it is handed reads as before; what an argument is. -/
import Derived.SizedLaws
import Derived.OpenShut
import Derived.ShutString
import Derived.Carry
import Derived.ChangeSlices
import Derived.Lib.SmallJoins
import Derived.Test.YthfnohbpdoklgaaVcM
set_option linter.unusedVariables false
set_option linter.unusedSimpArgs false
namespace Go.Vc
open Go.RowKit Go.ChangeShapes Go.WideShapes Go.Joins Go.Deep

/-! ## A law's outer proof: what it is handed reads as before -/
theorem trodAll_below {H : Type} {enc : TypeId × Value → H} {P : Program} (hl : laidOutB P = true) {W W' : World} (hb : Below W.heap.size W W') :
    ∀ {ts : List TypeId} {vs : List Value} {ds : List (DataW H)} {ps : List MemPlace}, (ts.all fun t => P.readableRec t && decide (t < P.types.size)) = true →
      (∀ x ∈ ps, x.block < W.heap.size) → DataW.TrodAll enc P W 0 (fun _ => true) true ts vs ds ps → DataW.TrodAll enc P W' 0 (fun b => decide (b < W.heap.size)) true ts vs ds ps
  | [], vs, ds, ps, _, _, h => by
    obtain ⟨rfl, rfl, rfl⟩ := trodAll_nil h; exact trodAll_mk0
  | t :: ts, vs, ds, ps, ht, hlt, h => by
    obtain ⟨v, vs', d, ds', p, q, rfl, rfl, rfl, h1, h2⟩ := trodAll_cons h
    simp only [List.all_cons, Bool.and_eq_true, decide_eq_true_eq] at ht
    exact trodAll_cons_mk (Below.trod hl ht.1.1 ht.1.2 h1 hb fun x hx => hlt x (by simp [hx]))
      (trodAll_below hl hb (by simpa using ht.2) (fun x hx => hlt x (by simp [hx])) h2)
theorem law_lifted {H : Type} {enc : TypeId × Value → H} {a : Assume} {C : Checked} {os : Os} {f : FuncId} {fn : Func} {s : ChangeSpec} {conds : List PathCond} {tb : TypeId}
    (own : ownKnob C.prog.godebug = none) (started : os.Started) (noInit : C.prog.inits.idxOf? f = none) (hfn : C.prog.funcs[f]? = some fn)
    (hl : laidOutB C.prog = true) (hps : (fn.params.toList.all fun t => C.prog.readableRec t && decide (t < C.prog.types.size)) = true)
    (hr : fn.resultTypes.toList = [tb]) (hb : C.prog.underlying tb = some .bool) (hv : s.vars = [])
    (hs : ∀ ds : List (DataW H), ds.length = fn.params.size → s.fn H ds = { results := [.lit (.bool true)], args := ds })
    (witness : ∃ (w : World) (tape : Tape) (i : Input), w.os = os ∧ (w.forCall tape i).Shaped C.prog ∧ i.vars = [] ∧ Input.okWide C.prog (w.forCall tape i) .any w.heap.size f i ∧
      s.pre6 enc C.prog fn conds false (w.forCall tape i).memory i.args ∧ a.holds C.prog (lone (Frame.enter C.prog f i.args .normal) [] (w.forCall tape i)))
    (contract : ∀ (W : World) (base : Nat) (args : Array Value) (ds : List (DataW H)) (p : List MemPlace),
      (∀ (j : Nat) t v, fn.params[j]? = some t → args[j]? = some v → Value.okWide C.prog W .any base t v) →
      DataW.TrodAll enc C.prog W 0 (fun _ => true) true fn.params.toList args.toList ds p →
      (DataW.weightsEach C.prog fn.params.toList ds).all (· ≤ reachBytes) = true →
      Calls C.prog f args W fun e W' => e = .returned (.bool true) ∧ Ext W W') :
    ReturnsInHanded a C os f .any (s.pre6 enc C.prog fn conds false) (s.post enc C.prog fn false true false false) := by
  refine returnsInHanded_of_change_sized own started noInit hfn witness ?_
  intro W base args ds gs before hval hW _ hsz _
  have hW' := hW
  have hlt := hW.lt
  obtain ⟨p, q, hA, hV, rfl, hfz, hnd⟩ := hW
  rw [hv] at hV
  obtain ⟨rfl, rfl⟩ := trodVars_none hV
  have hsz' : (DataW.weightsEach C.prog fn.params.toList ds).all (· ≤ reachBytes) = true := by
    have : s.plain.varTypes C.prog = [] := by simp [ChangeSpec.plain, DataSpec.varTypes, hv]
    simpa [this] using hsz
  have hlen : ds.length = fn.params.size := by
    have : ∀ {ts : List TypeId} {vs : List Value} {ds : List (DataW H)} {ps : List MemPlace}, DataW.TrodAll enc C.prog W 0 (fun _ => true) true ts vs ds ps → ds.length = ts.length := by
      intro ts
      induction ts with
      | nil => intro vs ds ps h; obtain ⟨_, rfl, _⟩ := trodAll_nil h; rfl
      | cons t ts ih => intro vs ds ps h; obtain ⟨v, vs', d, ds', p, q, rfl, rfl, rfl, h1, h2⟩ := trodAll_cons h; simp [ih h2]
    simpa using this hA
  refine (contract W base args ds p hval hA hsz').mono fun e W' ⟨he, bel⟩ => ?_
  subst he
  refine ⟨_, rfl, ds, [], _, [], p, [], hW', ?_, ?_, ?_, bel.frame _, fun h => by cases h⟩
  · have hr2 : fn.resultTypes.size = 1 := by rw [← Array.length_toList, hr]; rfl
    rw [List.append_nil, hs ds hlen, hr, hr2]
    exact trodAll_mk1 (shut_bool hb _)
  · rw [List.append_nil, hs ds hlen]
    exact trodAll_below hl bel hps (fun x hx => hlt x (by simpa using hx)) hA
  · rw [List.append_nil, hs ds hlen, hv]
    exact rfl

/-! ## What an argument is -/
theorem weights_of {H : Type} {P : Program} {ts : List TypeId} {ds : List (DataW H)} (h : (DataW.weightsEach P ts ds).all (· ≤ reachBytes) = true) {j : Nat} {t : TypeId} {d : DataW H} (ht : ts[j]? = some t) (hd : ds[j]? = some d) :
    ∀ n ∈ d.weights P t, n ≤ reachBytes := fun n hn => by simpa using List.all_eq_true.1 h n (DataW.weights_mem_each ht hd n hn)
/-- the reading of a slice of so many -/
def SlLen {H : Type} (d : DataW H) (len : Nat) : Prop := (d = .nil ∧ len = 0) ∨ ∃ els sp, d = .slice els sp ∧ els.length = len
theorem SlLen.weight {H : Type} {P : Program} {d : DataW H} {len : Nat} {t e : TypeId} (h : SlLen d len) (ht : P.underlying t = some (.slice e)) (hw : ∀ n ∈ d.weights P t, n ≤ reachBytes) : len * P.bytesOf e ≤ reachBytes := by
  rcases h with ⟨rfl, rfl⟩ | ⟨els, sp, rfl, rfl⟩
  · simp
  · have := hw ((els.length + sp.length) * P.bytesOf e) (by simp [DataW.weights, ht])
    have hle : els.length * P.bytesOf e ≤ (els.length + sp.length) * P.bytesOf e := Nat.mul_le_mul_right _ (by omega)
    omega
/-- a slice of integers, by one cell and its reading -/
theorem cell_ints {H : Type} {enc : TypeId × Value → H} {P : Program} {W : World} {t e : TypeId} {k : IntKind} {fuel : Nat} {v : Value} {x : DataW H × List MemPlace} (ht : P.underlying t = some (.slice e)) (he : P.underlying e = some (.int k)) (hc : P.cellsOf e = 1)
    (h : DataW.trod enc P W 0 (fun _ => true) true fuel t [v] = some x) :
    ∃ (base : Option Addr) (len cap : Nat) (xs : List Int), v = .slice base len cap ∧ len = xs.length ∧ len ≤ cap ∧ Sl W.heap.size W base (xs.map (Value.int k)) ∧ (∀ n ∈ xs, (Lit.int k n).wf = true) ∧ SlLen x.1 len := by
  rcases open_ints ht he hc h with ⟨hcs, rfl⟩ | ⟨a, len, cap, zs, hcs, _, hl, hm, hz, rfl, hcell, hwz⟩
  · cases hcs
    exact ⟨none, 0, 0, [], rfl, rfl, Nat.le_refl _, Sl.nil _ _ _, by simp, .inl ⟨rfl, rfl⟩⟩
  · cases hcs
    simp only [if_true] at hz
    refine ⟨some a, len, cap, zs.take len, rfl, by simp; omega, hl, fun j u hj => ?_, fun n hn => hwz n (List.mem_of_mem_take hn), .inr ⟨_, _, rfl, by simp [lits]; omega⟩⟩
    · rw [List.getElem?_map, Option.map_eq_some_iff] at hj
      obtain ⟨n, hn, rfl⟩ := hj
      rw [List.getElem?_take] at hn
      split at hn
      · have hjz : j < zs.length := by
          rcases Nat.lt_or_ge j zs.length with h' | h'
          · exact h'
          · rw [List.getElem?_eq_none h'] at hn; cases hn
        have := hcell j hjz
        rw [show zs.getD j 0 = n by simp [List.getD, hn]] at this
        have hb := World.block_lt_of_cell? W _ this
        rw [add_block] at hb
        exact ⟨a, rfl, hb, this⟩
      · cases hn
/-! ## Slices of what has many cells -/
theorem flatten_get {sz : Nat} (h0 : 0 < sz) : ∀ {xs : List (List Value)} {j : Nat}, (∀ c ∈ xs, c.length = sz) → xs.flatten[j]? = (xs[j / sz]?).bind (·[j % sz]?)
  | [], j, _ => by simp
  | c :: xs, j, h => by
    have hc : c.length = sz := h c (by simp)
    rw [List.flatten_cons]
    by_cases hj : j < sz
    · rw [List.getElem?_append_left (by omega), Nat.div_eq_of_lt hj, Nat.mod_eq_of_lt hj]; rfl
    · rw [List.getElem?_append_right (by omega), hc, flatten_get h0 (fun c hc => h c (by simp [hc]))]
      obtain ⟨k, rfl⟩ : ∃ k, j = k + sz := ⟨j - sz, by omega⟩
      rw [Nat.add_sub_cancel, Nat.add_div_right _ h0, Nat.add_mod_right]; rfl
theorem flatten_length {sz : Nat} : ∀ {xs : List (List Value)}, (∀ c ∈ xs, c.length = sz) → xs.flatten.length = xs.length * sz
  | [], _ => by simp
  | c :: xs, h => by
    rw [List.flatten_cons, List.length_append, flatten_length (fun c hc => h c (by simp [hc])), h c (by simp), List.length_cons, Nat.add_mul]; omega
theorem cell_slice {H : Type} {enc : TypeId × Value → H} {P : Program} {W : World} {t e : TypeId} {sz : Nat} {Q : List Value → Prop} {fuel : Nat} {v : Value} {x : DataW H × List MemPlace} (ht : P.underlying t = some (.slice e)) (hc : P.cellsOf e = sz) (h0 : 0 < sz)
    (hQ : ∀ fuel cs x, DataW.trod enc P W 0 (fun _ => true) true fuel e cs = some x → cs.length = sz → Q cs) (h : DataW.trod enc P W 0 (fun _ => true) true fuel t [v] = some x) :
    ∃ (base : Option Addr) (len cap : Nat) (xs : List (List Value)), v = .slice base len cap ∧ len = xs.length ∧ len ≤ cap ∧ Sl W.heap.size W base xs.flatten ∧ (∀ c ∈ xs, c.length = sz ∧ Q c) ∧ SlLen x.1 len := by
  rcases DataW.trod_slice ht h with ⟨hcs, rfl⟩ | ⟨a, len, cap, elems, rest, n, _, hcs, hx, _, hl, hm, hlen, hel, _⟩
  · cases hcs
    exact ⟨none, 0, 0, [], rfl, rfl, Nat.le_refl _, Sl.nil _ _ _, by simp, .inl ⟨rfl, rfl⟩⟩
  · simp only [List.cons.injEq, and_true] at hcs
    subst hcs
    rw [hc] at hel
    have each : ∀ i, i < len → ∃ cs y, W.cells? 0 (a.add (i * sz)) sz = some cs ∧ DataW.trod enc P W 0 (fun _ => true) true n e cs = some y := by
      intro i hi
      have := hel i hi
      rw [List.getElem?_eq_getElem (by omega), Option.bind_eq_some_iff] at this
      obtain ⟨cs, h1, h2⟩ := this
      exact ⟨cs, _, h1, h2⟩
    let xs := (List.range len).map fun i => (W.cells? 0 (a.add (i * sz)) sz).getD []
    have hxs : ∀ c ∈ xs, c.length = sz ∧ Q c := by
      intro c hc'
      simp only [xs, List.mem_map, List.mem_range] at hc'
      obtain ⟨i, hi, rfl⟩ := hc'
      obtain ⟨cs, y, h1, h2⟩ := each i hi
      rw [h1]
      obtain ⟨_, hcl, _⟩ := World.cells?_some h1
      exact ⟨hcl, hQ _ _ _ h2 hcl⟩
    refine ⟨some a, len, cap, xs, rfl, by simp [xs], hl, fun j u hj => ?_, hxs, .inr ⟨_, _, by rw [hx], by simpa using hlen⟩⟩
    · rw [flatten_get h0 (fun c hc => (hxs c hc).1), Option.bind_eq_some_iff] at hj
      obtain ⟨c, hc1, hc2⟩ := hj
      simp only [xs, List.getElem?_map, Option.map_eq_some_iff] at hc1
      obtain ⟨i, hi, rfl⟩ := hc1
      obtain ⟨hlt, hie⟩ := List.getElem?_eq_some_iff.1 hi
      simp only [List.length_range] at hlt
      simp only [List.getElem_range] at hie
      subst hie
      obtain ⟨cs, y, h1, h2⟩ := each (j / sz) hlt
      rw [h1] at hc2
      simp only [Option.getD_some] at hc2
      obtain ⟨_, hcl, hat⟩ := World.cells?_some h1
      have hjm : j % sz < sz := Nat.mod_lt _ h0
      have hcell := (hat (j % sz) hjm).trans hc2
      have hsp : a.spot = none := by
        obtain ⟨cs0, y0, g1, _⟩ := each 0 (Nat.lt_of_le_of_lt (Nat.zero_le _) hlt)
        obtain ⟨_, gl, gat⟩ := World.cells?_some g1
        have hc0 : W.cell? ((a.add (0 * sz)).add 0) = some (cs0[0]'(by omega)) := (gat 0 h0).trans (List.getElem?_eq_getElem _)
        have := World.cell?_spot hc0
        simpa [Addr.add] using this
      rw [add_add a hsp, Nat.mul_comm, Nat.div_add_mod] at hcell
      have hb := World.block_lt_of_cell? W _ hcell
      rw [add_block] at hb
      exact ⟨a, rfl, hb, hcell⟩
theorem all_map {α : Type} {f : α → List Value} {G : α → Prop} : ∀ {xs : List (List Value)}, (∀ c ∈ xs, ∃ a, c = f a ∧ G a) → ∃ as : List α, xs = as.map f ∧ ∀ a ∈ as, G a
  | [], _ => ⟨[], rfl, by simp⟩
  | c :: xs, h => by
    obtain ⟨a, rfl, hg⟩ := h c (by simp)
    obtain ⟨as, rfl, hgs⟩ := all_map (xs := xs) (fun c hc => h c (by simp [hc]))
    exact ⟨a :: as, rfl, by simp [hg]; exact hgs⟩
/-- the cells of things, each of its own -/
def cellsF {α : Type} (f : α → List Value) (as : List α) : List Value := (as.map f).flatten
theorem cellsF_length {α : Type} {f : α → List Value} {sz : Nat} (hf : ∀ a, (f a).length = sz) (as : List α) : (cellsF f as).length = as.length * sz := by
  unfold cellsF
  rw [flatten_length (sz := sz) (by simp [hf]), List.length_map]
theorem cellsF_get {α : Type} {f : α → List Value} {sz : Nat} (hf : ∀ a, (f a).length = sz) {as : List α} {i k : Nat} {a : α} (ha : as[i]? = some a) (hk : k < sz) : (cellsF f as)[i * sz + k]? = (f a)[k]? := by
  unfold cellsF
  rw [flatten_get (sz := sz) (by omega) (by simp [hf])]
  have h1 : (i * sz + k) / sz = i := by rw [Nat.add_comm, Nat.add_mul_div_right _ _ (by omega), Nat.div_eq_of_lt hk, Nat.zero_add]
  have h2 : (i * sz + k) % sz = k := by rw [Nat.add_comm, Nat.add_mul_mod_self_right, Nat.mod_eq_of_lt hk]
  rw [h1, h2, List.getElem?_map, ha]; rfl
/-- an element of many cells -/
theorem Sl.elem {α : Type} {f : α → List Value} {sz N : Nat} {w : World} {base : Option Addr} {as : List α} {i : Int} {len : Nat} {a : α} {F : Addr → Prop} (h : Sl N w base (cellsF f as)) (hf : ∀ a, (f a).length = sz) (hs : 0 < sz) (h0 : 0 ≤ i) (hl : as.length = len) (ha : as[i.toNat]? = some a)
    (hF : ∀ c : Addr, (∀ k v, (f a)[k]? = some v → w.cell? (c.add k) = some v) → F c) : idx base len i sz F := by
  have hlt : i.toNat < as.length := (List.getElem?_eq_some_iff.1 ha).1
  have key : ∀ k v, (f a)[k]? = some v → ∃ b, base = some b ∧ b.spot = none ∧ w.cell? (b.add (i.toNat * sz + k)) = some v := by
    intro k v hv
    have hk : k < sz := by rw [← hf a]; exact (List.getElem?_eq_some_iff.1 hv).1
    obtain ⟨b, h1, h2, h3⟩ := h _ _ ((cellsF_get hf ha hk).trans hv)
    subst h1
    refine ⟨b, rfl, h.spot fun e => ?_, h3⟩
    have := (cellsF_get hf ha hk).trans hv
    rw [e] at this; simp at this
  obtain ⟨b, hb, hsp, _⟩ := key 0 ((f a)[0]'(by rw [hf]; exact hs)) (List.getElem?_eq_getElem _)
  refine ⟨h0, by omega, b, hb, hF _ fun k v hv => ?_⟩
  obtain ⟨b', hb', _, h3⟩ := key k v hv
  rw [hb] at hb'; cases hb'
  rw [add_add b hsp]; exact h3
/-! ## Integers that fit -/
theorem wf64 {n : Int} (h : (Lit.int .i64 n).wf = true) : -9223372036854775808 ≤ n ∧ n ≤ 9223372036854775807 := by
  simp [Lit.wf, IntKind.min, IntKind.max, IntKind.signed, IntKind.bits] at h; exact h
theorem wfu32 {n : Int} (h : (Lit.int .u32 n).wf = true) : 0 ≤ n ∧ n < 4294967296 := by
  simp [Lit.wf, IntKind.min, IntKind.max, IntKind.signed, IntKind.bits] at h; omega
theorem wfu16 {n : Int} (h : (Lit.int .u16 n).wf = true) : 0 ≤ n ∧ n < 65536 := by
  simp [Lit.wf, IntKind.min, IntKind.max, IntKind.signed, IntKind.bits] at h; omega
theorem wfu8 {n : Int} (h : (Lit.int .u8 n).wf = true) : 0 ≤ n ∧ n ≤ 255 := by
  simp [Lit.wf, IntKind.min, IntKind.max, IntKind.signed, IntKind.bits] at h; omega
/-- a struct's cells, of fields of one cell each -/
theorem trod_fields {H : Type} {enc : TypeId × Value → H} {P : Program} {W : World} {t : TypeId} {fs : Array Field} {fuel : Nat} {cs : List Value} {x : DataW H × List MemPlace} (hs : P.underlying t = some (.struct fs)) (hone : oneCellFields P fs = true)
    (h : DataW.trod enc P W 0 (fun _ => true) true fuel t cs = some x) : ∀ (j : Nat) (f : Field) (v : Value), fs[j]? = some f → cs[j]? = some v → ∃ n y, DataW.trod enc P W 0 (fun _ => true) true n f.type [v] = some y := by
  intro j f v hf hv
  obtain ⟨xs, n, _, _, hl, hlen, hh⟩ := DataW.trod_struct hs h
  have h1 := hh j f hf
  obtain ⟨o0, k0⟩ := hone_of hone j f hf
  rw [o0, k0] at h1
  have hj := (List.getElem?_eq_some_iff.1 hv)
  obtain ⟨hjl, hje⟩ := hj
  have e : (cs.drop j).take 1 = [v] := by
    rw [List.drop_eq_getElem_cons hjl, hje]; rfl
  rw [e] at h1
  have hjx : j < xs.length := by
    have := (Array.getElem?_eq_some_iff.1 hf).1
    omega
  rw [List.getElem?_eq_getElem hjx] at h1
  exact ⟨n, _, h1⟩
theorem okWide_arr {P : Program} {W : World} {r : Reach} {b : Nat} {t e : TypeId} {n : Nat} {v : Value} (ht : P.underlying t = some (.array n e)) (h : Value.okWide P W r b t v) : ∃ cs, v = .agg cs ∧ cs.size = P.cellsOf t := by
  unfold Value.okWide at h
  rw [ht] at h
  obtain ⟨cs, h1, h2, _⟩ := h
  exact ⟨cs, h1, h2⟩
theorem trod_elems {H : Type} {enc : TypeId × Value → H} {P : Program} {W : World} {t e : TypeId} {m fuel : Nat} {cs : List Value} {x : DataW H × List MemPlace} (hs : P.underlying t = some (.array m e)) (hone : P.cellsOf e = 1)
    (h : DataW.trod enc P W 0 (fun _ => true) true fuel t cs = some x) : ∀ (j : Nat) (v : Value), j < m → cs[j]? = some v → ∃ n y, DataW.trod enc P W 0 (fun _ => true) true n e [v] = some y := by
  intro j v hj hv
  obtain ⟨xs, n, _, _, hl, hlen, hh⟩ := DataW.trod_array hs h
  have h1 := hh j hj
  rw [hone, Nat.mul_one] at h1
  obtain ⟨hjl, hje⟩ := List.getElem?_eq_some_iff.1 hv
  have e : (cs.drop j).take 1 = [v] := by
    rw [List.drop_eq_getElem_cons hjl, hje]; rfl
  rw [e, List.getElem?_eq_getElem (by omega)] at h1
  exact ⟨n, _, h1⟩
end Go.Vc

