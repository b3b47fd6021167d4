/- Lists of integers and of texts; samples; places. -/
import Derived.Test.YtdephacjcljinaaMR8
namespace Go.Proofs.Ytdephacjcljinaa
open Go Go.Vc Go.RowKit
set_option maxRecDepth 100000
set_option linter.unusedVariables false
set_option linter.unusedSimpArgs false

def strs (l : List ByteArray) : List Value := l.map Value.string
abbrev fnV (n : Nat) : Value := .func (.func n) #[] #[]
def i64s (l : List Int) : List Value := l.map i64
theorem i64s_length (l : List Int) : (i64s l).length = l.length := by simp [i64s]
theorem i64s_get {l : List Int} {i : Nat} (h : i < l.length) : (i64s l)[i]? = some (i64 (l.getD i 0)) := by simp [i64s, List.getD, h]
structure Ints (w : World) (p : Option Addr) (len : Nat) (l : List Int) : Prop where
  sl : Sl w.heap.size w p (i64s l)
  lth : len = l.length
  small : len ≤ 2 ^ 44
theorem Ints.ext {w w' : World} {p : Option Addr} {len : Nat} {l : List Int} (h : Ints w p len l) (hE : Ext w w') : Ints w' p len l := ⟨(h.sl.ext hE).up, h.lth, h.small⟩
theorem Ints.at_ {w : World} {p : Option Addr} {len : Nat} {l : List Int} (h : Ints w p len l) {i : Int} (h0 : 0 ≤ i) (h1 : i < len) {F : Addr → Prop} (hF : ∀ a : Addr, w.cell? a = some (i64 (l.getD i.toNat 0)) → F a) : idx p len i 1 F :=
  h.sl.get h0 (by rw [i64s_length]; exact h.lth.symm) (i64s_get (by have := h.lth; omega)) hF
theorem strs_length (l : List ByteArray) : (strs l).length = l.length := by simp [strs]
theorem strs_get {l : List ByteArray} {i : Nat} (h : i < l.length) : (strs l)[i]? = some (.string (l.getD i ByteArray.empty)) := by simp [strs, List.getD, h]
theorem mem_getD {l : List ByteArray} {x : ByteArray} : x ∈ l ↔ ∃ i, i < l.length ∧ l.getD i ByteArray.empty = x := by
  constructor
  · intro h
    obtain ⟨i, hi, rfl⟩ := List.getElem_of_mem h
    exact ⟨i, hi, by simp [List.getD, List.getElem?_eq_getElem hi]⟩
  · rintro ⟨i, hi, rfl⟩
    simp [List.getD, List.getElem?_eq_getElem hi]
theorem In_spec {N : Nat} {w : World} {op : ByteArray} {p : Option Addr} {len cap : Nat} {l : List ByteArray} {R : Ending → World → Prop} (h : Sl N w p (strs l)) (hl : len = l.length) (hsm : len ≤ 2 ^ 44)
    (h1 : op ∈ l → ∀ w', Ext w w' → R (.returned (.bool true)) w') (h2 : op ∉ l → ∀ w', Ext w w' → R (.returned (.bool false)) w') : Calls P F.ref20_In #[.string op, .slice p len cap] w R := by
  refine calls_ref20_In _ _ _ _ _ _ ?_
  refine ⟨fun vs u => match vs with | [.int _ k] => ∃ i : Nat, k = i ∧ i ≤ l.length ∧ Ext w u ∧ ∀ j, j < i → l.getD j ByteArray.empty ≠ op | _ => False, fun vs _ => match vs with | [.int _ k] => (l.length - k).toNat | _ => 0, ⟨0, rfl, by omega, Ext.refl w, by simp⟩, fun k w1 hI => ?_⟩
  obtain ⟨i, rfl, hi, hE, hall⟩ := hI
  refine brB_i (fun hlt => ?_) (fun hge => ?_)
  · have hlt : (i : Int) < len := by simpa using hlt
    refine (h.ext hE).get (by omega) (by rw [strs_length]; omega) (v := .string (l.getD i ByteArray.empty)) (by rw [Int.toNat_natCast, strs_get (by omega)]) fun a ha => ⟨_, ha, ?_⟩
    refine brB_i (fun hb => ?_) (fun hb => ?_)
    · have hb : l.getD i ByteArray.empty = op := by simpa using hb
      exact h1 (mem_getD.2 ⟨i, by omega, hb⟩) w1 hE
    · have hb : ¬ l.getD i ByteArray.empty = op := by simpa using hb
      rw [w64 (by omega) (by omega)]
      refine ⟨⟨i + 1, by omega, by omega, hE, fun j hj => ?_⟩, by show ((l.length : Int) - (i + 1)).toNat < ((l.length : Int) - i).toNat; omega⟩
      by_cases hji : j < i
      · exact hall j hji
      · have : j = i := by omega
        subst this; exact hb
  · have hge : ¬ (i : Int) < len := by simpa using hge
    have : op ∉ l := fun hm => by
      obtain ⟨j, hj, e⟩ := mem_getD.1 hm
      exact hall j (by omega) e
    exact h2 this w1 hE
def fitP (args bl : List Int) : Prop := 2 * args.length = bl.length ∧ ∀ i, i < args.length → bl.getD (2 * i) 0 ≤ args.getD i 0 ∧ args.getD i 0 ≤ bl.getD (2 * i + 1) 0
theorem Fit_spec {w : World} {p q : Option Addr} {len cap ln cp : Nat} {args bl : List Int} {R : Ending → World → Prop} (h : Ints w p len args) (k : Ints w q ln bl)
    (h1 : fitP args bl → ∀ w', Ext w w' → R (.returned (.bool true)) w') (h2 : ¬ fitP args bl → ∀ w', Ext w w' → R (.returned (.bool false)) w') : Calls P F.ref20_Fit #[.slice p len cap, .slice q ln cp] w R := by
  refine calls_ref20_Fit _ _ _ _ _ _ _ _ ?_
  have hl := h.lth
  have kl := k.lth
  have hs := h.small
  have ks := k.small
  rw [vc_ref20_Fit, w64 (x := 2 * (len : Int)) (by omega) (by omega)]
  refine brB_i (fun hb => ?_) (fun hb => ?_)
  · have hb : ¬ 2 * (len : Int) = ln := by simpa using hb
    exact h2 (fun hh => by have := hh.1; omega) w (Ext.refl w)
  have hb : 2 * (len : Int) = ln := by simpa using hb
  refine ⟨fun vs u => match vs with | [.int _ k] => ∃ i : Nat, k = i ∧ i ≤ args.length ∧ Ext w u ∧ ∀ j, j < i → bl.getD (2 * j) 0 ≤ args.getD j 0 ∧ args.getD j 0 ≤ bl.getD (2 * j + 1) 0 | _ => False,
    fun vs _ => match vs with | [.int _ k] => (args.length - k).toNat | _ => 0, ⟨0, rfl, by omega, Ext.refl w, by simp⟩, fun n w1 hI => ?_⟩
  obtain ⟨i, rfl, hi, hE, hall⟩ := hI
  refine brB_i (fun hlt => ?_) (fun hge => ?_)
  · have hlt : (i : Int) < len := by simpa using hlt
    have hE' := hE.drew
    rw [w64 (x := 2 * (i : Int)) (by omega) (by omega), w64 (x := 2 * (i : Int) + 1) (by omega) (by omega)]
    refine (h.ext hE').at_ (by omega) hlt fun a1 ha1 => ⟨_, ha1, (k.ext hE').at_ (by omega) (by omega) fun a2 ha2 => ⟨_, ha2, ?_⟩⟩
    rw [Int.toNat_natCast, show (2 * (i : Int)).toNat = 2 * i by omega]
    refine brB_i (fun hb2 => ?_) (fun hb2 => ?_)
    · have hb2 : args.getD i 0 < bl.getD (2 * i) 0 := by simpa using hb2
      exact h2 (fun hh => by have := hh.2 i (by omega); omega) _ hE'
    have hb2 : ¬ args.getD i 0 < bl.getD (2 * i) 0 := by simpa using hb2
    refine (h.ext hE').at_ (by omega) hlt fun a3 ha3 => ⟨_, ha3, (k.ext hE').at_ (by omega) (by omega) fun a4 ha4 => ⟨_, ha4, ?_⟩⟩
    rw [Int.toNat_natCast, show (2 * (i : Int) + 1).toNat = 2 * i + 1 by omega]
    refine brB_i (fun hb3 => ?_) (fun hb3 => ?_)
    · have hb3 : args.getD i 0 > bl.getD (2 * i + 1) 0 := by simpa using hb3
      exact h2 (fun hh => by have := hh.2 i (by omega); omega) _ hE'
    have hb3 : ¬ args.getD i 0 > bl.getD (2 * i + 1) 0 := by simpa using hb3
    rw [w64 (by omega) (by omega)]
    refine ⟨⟨i + 1, by omega, by omega, hE', fun j hj => ?_⟩, by show ((args.length : Int) - (i + 1)).toNat < ((args.length : Int) - i).toNat; omega⟩
    by_cases hji : j < i
    · exact hall j hji
    · have : j = i := by omega
      subst this; omega
  · have hge : ¬ (i : Int) < len := by simpa using hge
    exact h1 ⟨by omega, fun j hj => hall j (by omega)⟩ _ hE
/-! ## the outcome's size -/
abbrev tri (t : Int × Int × Int) : Value := .tuple #[i64 t.1, i64 t.2.1, i64 t.2.2]
theorem ints_spec {w : World} {p : Option Addr} {len cap : Nat} {l : List Int} {R : Ending → World → Prop} (h : Ints w p len l)
    (hR : ∀ q c w', Fg [] w w' 1 q len c (i64s l) → R (.returned (.slice q len c)) w') : Calls P F.law21_ints #[.slice p len cap] w R := by
  refine calls_law21_ints _ _ _ _ _ ?_
  intro k1 w1 hn
  have hsm := h.small
  refine ⟨i64s l, by rw [i64s_length]; have := h.lth; omega, by simp [oneAll, i64s, Value.oneCell'], (h.sl.ext hn.ext).cells, ?_⟩
  have hs := hn.ext.size
  refine (Ow.nil w.heap.size w1.heap.size w1 (some ⟨k1, 0, none⟩) 1).app (by simp [blocks]) hs (Nat.le_refl _) rfl (by rw [i64s_length]; have := h.lth; omega) (by omega) (by omega) fun q c w2 ho hC => ?_
  rw [Nat.zero_add] at ho ⊢
  have hE : Ext w w2 := hn.ext.step hC fun i hi => hi.1
  exact hR q c w2 (Fg.ofOw (bs := []) (w := w) (by simpa using ho) (Ext.refl w) hE (by simp))
theorem Ints.of_fg {av : List Nat} {w w' : World} {q : Option Addr} {len c : Nat} {l : List Int} (h : Fg av w w' 1 q len c (i64s l)) (hs : len ≤ 2 ^ 44) : Ints w' q len l := ⟨h.sl, by have := h.len; rwa [i64s_length] at this, hs⟩
def Sm (s : Int) : Prop := 0 ≤ s ∧ s ≤ 65535
theorem prod_range {s t : Int} (hs : Sm s) (ht : Sm t) : 0 ≤ s * t ∧ s * t ≤ 4294836225 := by
  obtain ⟨s0, s1⟩ := hs
  obtain ⟨t0, t1⟩ := ht
  refine ⟨Int.mul_nonneg s0 t0, ?_⟩
  have := Int.mul_le_mul s1 t1 t0 (by omega)
  omega
theorem quoP {a b : Int} (h0 : 0 ≤ a) (h1 : a ≤ 2 ^ 60) (hb : 1 ≤ b) : divZ .quo .i64 a b = a / b := by
  simp only [divZ]
  rw [Int.tdiv_eq_ediv_of_nonneg h0]
  have h2 : 0 ≤ a / b := Int.ediv_nonneg h0 (by omega)
  have h3 : a / b ≤ a := Int.ediv_le_self _ h0
  exact w64 (by omega) (by omega)
def CoOk (c : Co) : Prop := Sm c.1 ∧ Sm c.2.1 ∧ Sm c.2.2.1 ∧ Sm c.2.2.2
abbrev coV (c : Co) : Value := .agg #[u16 c.1, u16 c.2.1, u16 c.2.2.1, u16 c.2.2.2]
theorem Locl.exW {w u u' : World} {bs : List Nat} (hE : Ext w u) (hL : Locl bs u u') (hb : ∀ b, b ∈ bs → w.heap.size ≤ b) : Ext w u' := hE.step hL.chg hb
/-! ## a place of the outcome -/
def SmL (xs : List Int) : Prop := ∀ x ∈ xs, Sm x
theorem SmL.getD {xs : List Int} (h : SmL xs) (i : Nat) : Sm (xs.getD i 0) := by
  by_cases hi : i < xs.length
  · rw [show xs.getD i 0 = xs[i] by simp [List.getD, List.getElem?_eq_getElem hi]]
    exact h _ (List.getElem_mem hi)
  · simp [List.getD, List.getElem?_eq_none (Nat.le_of_not_lt hi), Sm]
theorem SmL.col {xs : List Int} (h : SmL xs) (k : Nat) : CoOk (colAt xs k) := ⟨h.getD _, h.getD _, h.getD _, h.getD _⟩
theorem atC_ok {V G : Int} {ys : List Int} (h : SmL ys) (x y : Int) : CoOk (atC V G ys x y) := by
  unfold atC
  split
  · exact h.col _
  · simp [zeroC, CoOk, Sm]
theorem flat_one' (c : Co) : flat [c] = coL c := by simp [flat]
theorem flat_append' (a b : List Co) : flat (a ++ b) = flat a ++ flat b := by simp [flat]
theorem divmod {x y w : Int} (x0 : 0 ≤ x) (x1 : x < w) : (y * w + x) % w = x ∧ (y * w + x) / w = y := by
  constructor
  · rw [Int.add_comm, Int.add_mul_emod_self_right]; exact Int.emod_eq_of_lt x0 x1
  · rw [Int.add_comm, Int.add_mul_ediv_right _ _ (by omega), Int.ediv_eq_zero_of_lt x0 x1]; omega
theorem cos_set {l : List Co} {q : Nat} {c : Co} {rest : List Value} (h : q < l.length) : (cos l ++ rest).take (q * 4) ++ co c ++ (cos l ++ rest).drop (q * 4 + 4) = cos (l.set q c) ++ rest := by
  have hl := cos_length l
  have e := flat_set (c := c) h
  have e2 : (cos l).take (q * 4) ++ co c ++ (cos l).drop (q * 4 + 4) = cos (l.set q c) := by
    rw [cos_px, cos_px, ← e, px_append, px_append, co_px]
    simp [px, List.map_take, List.map_drop, Nat.mul_comm]
  rw [List.take_append_of_le_length (by omega), List.drop_append_of_le_length (by omega), ← e2]
  simp
/-! ## what has become of the first places -/
def Lk (f g : Nat → Co) (n k : Nat) : List Co := (List.range k).map f ++ ((List.range n).map g).drop k
theorem Lk_zero (f g : Nat → Co) (n : Nat) : Lk f g n 0 = (List.range n).map g := by simp [Lk]
theorem Lk_end (f g : Nat → Co) (n : Nat) : Lk f g n n = (List.range n).map f := by simp [Lk]
theorem Lk_length {f g : Nat → Co} {n k : Nat} (h : k ≤ n) : (Lk f g n k).length = n := by simp [Lk]; omega
theorem Lk_get {f g : Nat → Co} {n k : Nat} (h : k < n) : (Lk f g n k).getD k zeroC = g k := by
  unfold Lk
  simp [List.getD, List.getElem?_append_right, h]
theorem Lk_succ {f g : Nat → Co} {n k : Nat} (h : k < n) : (Lk f g n k).set k (f k) = Lk f g n (k + 1) := by
  unfold Lk
  rw [List.set_append_right _ _ (by simp), List.range_succ, List.map_append, List.append_assoc]
  congr 1
  rw [List.length_map, List.length_range, Nat.sub_self, List.drop_eq_getElem_cons (by simpa using h)]
  simp
theorem Lk_same {f g : Nat → Co} {n k : Nat} (h : k < n) (e : f k = g k) : Lk f g n k = Lk f g n (k + 1) := by
  rw [← Lk_succ h, e]
  have hl : k < (Lk f g n k).length := by rw [Lk_length (by omega)]; exact h
  have := Lk_get (f := f) (g := g) h
  simp only [List.getD, List.getElem?_eq_getElem hl, Option.getD_some] at this
  rw [← this, List.set_getElem_self]
/-! ## a round of the program -/
structure Bt (w u : World) (q : Option Addr) (gb cb kb : Nat) (W H : Int) (l : List Co) (N : Nat) : Prop where
  g : GridC u q gb cb W H l
  c : Cs u kb [.pointer q]
  e : Ext w u
  n : N ≤ u.heap.size
theorem Bt.ext {w u u' : World} {q : Option Addr} {gb cb kb : Nat} {W H : Int} {l : List Co} {N : Nat} (h : Bt w u q gb cb kb W H l N) (hE : Ext u u') : Bt w u' q gb cb kb W H l N :=
  ⟨h.g.ext hE, h.c.ext hE, h.e.trans hE, Nat.le_trans h.n hE.size⟩
theorem Bt.drew {w u : World} {q : Option Addr} {gb cb kb : Nat} {W H : Int} {l : List Co} {N : Nat} (h : Bt w u q gb cb kb W H l N) : Bt w u.drew q gb cb kb W H l N := h.ext (Ext.refl u).drew
theorem Bt.locl {w u u' : World} {q : Option Addr} {gb cb kb : Nat} {W H : Int} {l : List Co} {N : Nat} {bs : List Nat} (h : Bt w u q gb cb kb W H l N) (hL : Locl bs u u') (hb : ∀ b, b ∈ bs → w.heap.size ≤ b ∧ b ≠ gb ∧ b ≠ cb ∧ b ≠ kb) : Bt w u' q gb cb kb W H l N :=
  ⟨h.g.chg hL.chg (fun hm => (hb _ hm).2.1 rfl) (fun hm => (hb _ hm).2.2.1 rfl), h.c.locl hL (fun hm => (hb _ hm).2.2.2 rfl), h.e.step hL.chg (fun b hm => (hb b hm).1), Nat.le_trans h.n hL.size⟩
theorem Bt.put {w u u' : World} {q : Option Addr} {gb cb kb : Nat} {W H : Int} {l : List Co} {N D : Nat} (h : Bt w u q gb cb kb W H l N) (hP : Put D u u') (h0 : w.heap.size ≤ D) (h1 : D ≠ gb) (h2 : D ≠ cb) (h3 : D ≠ kb) : Bt w u' q gb cb kb W H l N :=
  ⟨h.g.chg hP.chg (Ne.symm h1) (Ne.symm h2), h.c.put hP (Ne.symm h3), h.e.step hP.chg (fun b hm => by have : b = D := hm; omega), by rw [hP.size]; exact h.n⟩
theorem good_flat {W H : Int} {f : Nat → Co} (hg : gfits W H = true) : good W H (flat ((List.range (W * H).toNat).map f)) = true := by
  obtain ⟨g1, g2, g3, g4, g5⟩ := gfits_iff.1 hg
  have : 0 ≤ W * H := Int.mul_nonneg (by omega) (by omega)
  rw [good_iff]
  exact ⟨hg, by rw [flat_length]; simp; omega⟩
theorem colAt_flat : ∀ {l : List Co} {k : Nat}, k < l.length → colAt (flat l) k = l.getD k zeroC
  | [], k, h => by simp at h
  | c :: l, 0, _ => by simp [colAt, flat_cons]
  | c :: l, k + 1, h => by
    have ih := colAt_flat (l := l) (k := k) (by simpa using h)
    rw [flat_cons]
    unfold colAt at ih ⊢
    rw [show 4 * (k + 1) = 4 * k + 1 + 1 + 1 + 1 by omega]
    simpa using ih
theorem fillX_flat {n : Nat} {c : Co} : fillX n c = flat ((List.range n).map fun _ => c) := by
  unfold fillX
  congr 1
  exact List.ext_getElem (by simp) (by simp)
theorem Img.of_fg {av : List Nat} {w w' : World} {q : Option Addr} {len c : Nat} {l : List Int} (h : Fg av w w' 1 q len c (px l)) : Img w' q len l := ⟨h.sl, by have := h.len; rwa [px_length] at this⟩
theorem Fg.leC {av : List Nat} {w w' : World} {p : Option Addr} {len c : Nat} {vs : List Value} (h : Fg av w w' 1 p len c vs) : len ≤ c := by
  obtain ⟨S, h1, _, h2⟩ := h.own
  obtain ⟨h3, h4, _⟩ := h2.own
  exact h4
theorem mp_lt {kd : Kd} {w : World} {b : Nat} {kvs : List (Value × Value)} (h : Mp kd w b kvs) : b < w.heap.size := by
  obtain ⟨⟨es, cl, h1, _⟩, _⟩ := h
  exact (Array.getElem?_eq_some_iff.1 h1).1
theorem Ints.atE {w : World} {p : Option Addr} {len : Nat} {l : List Int} (h : Ints w p len l) {i : Int} (h0 : 0 ≤ i) (h1 : i < len) {F : Addr → Prop} (hF : ∀ a : Addr, (∀ u, Ext w u → u.cell? a = some (i64 (l.getD i.toNat 0))) → F a) : idx p len i 1 F := by
  have hl := h.lth
  obtain ⟨a, e1, e2, e3⟩ := h.sl i.toNat _ (i64s_get (by omega))
  refine ⟨h0, h1, a, e1, hF _ fun u hE => ?_⟩
  rw [Nat.mul_one]; exact hE.cell e3
end Go.Proofs.Ytdephacjcljinaa
