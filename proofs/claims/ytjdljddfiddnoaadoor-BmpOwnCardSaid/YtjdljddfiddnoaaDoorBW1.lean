/- Bmp: walks over many slices: one state for all of them; what the laws are handed. -/
import Derived.Test.YtjdljddfiddnoaaDoorBM19
import Derived.Test.YtjdljddfiddnoaaDoorLaid
namespace Go.Proofs.YtjdljddfiddnoaaDoor
open Go Go.Vc Go.RowKit Go.ChangeShapes Go.WideShapes Go.Joins
set_option maxRecDepth 100000
set_option linter.unusedVariables false
set_option linter.unusedSimpArgs false

theorem refFill_spec {w : World} {W H : Int} {c : Co} {R : Ending → World → Prop}
    (hR : ∀ p' l' c' w', Fg [] w w' 1 p' l' c' (px (fillR W H c).2.2.1) → R (.returned (.tuple #[.agg #[i64 (fillR W H c).1, i64 (fillR W H c).2.1, .slice p' l' c'], i64 (fillR W H c).2.2.2])) w') :
    Calls P F.ref09_Fill #[i64 W, i64 H, .agg (co c).toArray] w R := by
  obtain ⟨c1, c2, c3, c4⟩ := c
  refine calls_ref09_Fill _ _ _ _ _ _ _ _ ?_
  intro k1 hk1 k2 hk2 w1 hL1
  have hE1 : Ext w w1 := hL1.ext (by simp; omega)
  refine Fits_spec ⟨_, rfl, (Ext.refl _).keep _, ?_⟩
  refine brB_i (fun hb w3 hL3 => ?_) (fun hb k3 hk3 => ?_)
  · have hb : gfits W H = false := by simpa using hb
    rw [fillR, if_neg (by simp [hb])] at hR
    exact hR none 0 0 w3 (Fg.nil (hE1.step hL3.chg (by simp; omega)) 1)
  have hb : gfits W H = true := by simpa using hb
  rw [fillR, if_pos hb] at hR
  obtain ⟨h1, h2, h3, h4, h5⟩ := gfits_iff.1 hb
  have hwm := wrapmul h1 h2 h3 h4
  have hpos : 0 ≤ W * H := Int.mul_nonneg (by omega) (by omega)
  have hbs : ∀ b, b ∈ [k3, k2, k1] → w.heap.size ≤ b := by have := hE1.size; simp; omega
  refine ⟨fun vs u => match vs with | [.int _ n, .int _ a, .int _ b, .slice p len cap] => 0 ≤ n ∧ n ≤ W * H ∧ a = W ∧ b = H ∧ len = 4 * n.toNat ∧ Fg [k3, k2, k1] w u 1 p len cap (px (fillX n.toNat (c1, c2, c3, c4))) | _ => False,
    fun vs _ => match vs with | [.int _ n, _, _, _] => (W * H - n).toNat | _ => 0, fun w4 hL4 => ⟨Int.le_refl _, hpos, rfl, rfl, rfl, ?_⟩, fun n a b p len cap w5 hI => ?_⟩
  · exact Fg.nil' hE1 hL4 hbs 1
  obtain ⟨n0, n1, rfl, rfl, hlen, hf⟩ := hI
  rw [hwm]
  refine brB_i (fun hlt => ?_) (fun hge w8 hL8 => ?_)
  · have hlt : n < a * b := by simpa using hlt
    refine Add_spec hf (by omega) fun p' c' w6 hf6 hk6 => ⟨_, _, _, _, _, rfl, hk6, fun w7 hL7 => ?_⟩
    rw [w64 (x := n + 1) (by omega) (by omega)]
    have hf7 := hf6.locl hL7 fun b hb => .inl hb
    rw [← fillX_succ, show n.toNat + 1 = (n + 1).toNat by omega] at hf7
    refine ⟨⟨by omega, by omega, rfl, rfl, by omega, hf7⟩, ?_⟩
    show (a * b - (n + 1)).toNat < (a * b - n).toNat
    omega
  · have hge : n = a * b := by simp at hge; omega
    subst hge
    exact hR p len cap w8 ((hf.locl hL8 fun b hb => .inl hb).weak)

section
variable {w u : World} {f : Nat → Nat} {L : List Nat} {l : List Tg}
theorem St.img (h : Ths w u f L l) {c len cap : Nat} {p : Option Addr} {xs : List Int} (ht : (⟨c, p, len, cap, 1, px xs⟩ : Tg) ∈ l) : Img u p len xs := ⟨(h.get ht).sl, by have := (h.get ht).len; rwa [px_length] at this⟩
theorem St.by (h : Ths w u f L l) {c len cap : Nat} {p : Option Addr} {bs : List Int} (ht : (⟨c, p, len, cap, 1, bytes bs⟩ : Tg) ∈ l) (hl : len ≤ 2 ^ 47) (hf : Bs bs) : By u p len bs := ⟨(h.get ht).sl, by have := (h.get ht).len; rwa [bytes_length] at this, hl, hf⟩
theorem St.room (h : Ths w u f L l) {c len cap sz : Nat} {p : Option Addr} {vs : List Value} (ht : (⟨c, p, len, cap, sz, vs⟩ : Tg) ∈ l) : len ≤ cap := (h.get ht).room
theorem St.start (w : World) : Ths w w (fun _ => 0) [] [] := ⟨⟨Ext.refl w, by simp⟩, by simp⟩
theorem St.locl {bs : List Nat} {X : World → Prop} (h : Ths w u f L l) (hb : ∀ b, b ∈ bs → b ∈ L ∨ u.heap.size ≤ b) (hX : ∀ u' f', Ths w u' f' bs l → X u') : ∀ u', Locl bs u u' → X u' := fun u' hL =>
  hX u' _ ((h.locl hL hb).mono (fun b hm => List.mem_append_left _ hm) fun t ht => ht)
theorem St.len (h : Ths w u f L l) {c len cap : Nat} {p : Option Addr} {xs : List Int} (ht : (⟨c, p, len, cap, 1, px xs⟩ : Tg) ∈ l) : len = xs.length := (St.img h ht).len
theorem St.blen (h : Ths w u f L l) {c len cap : Nat} {p : Option Addr} {xs : List Int} (ht : (⟨c, p, len, cap, 1, bytes xs⟩ : Tg) ∈ l) : len = xs.length := by have := (h.get ht).len; rwa [bytes_length] at this
theorem St.late (h : Ths w u f L l) {c len cap : Nat} {p : Option Addr} {vs : List Value} {v : Value} (ht : (⟨c, p, len, cap, 1, vs⟩ : Tg) ∈ l) {n : Int} (n0 : 0 ≤ n) (hv : vs[n.toNat]? = some v) {F : Addr → Prop}
    (hF : ∀ a : Addr, (∀ u' f' L' l', Ths w u' f' L' l' → (⟨c, p, len, cap, 1, vs⟩ : Tg) ∈ l' → u'.cell? a = some v) → F a) : idx p len n 1 F := by
  have hl : len = vs.length := (h.get ht).len
  have hlt := (List.getElem?_eq_some_iff.1 hv).1
  obtain ⟨a, q1, q2, q3⟩ := (h.get ht).sl n.toNat _ hv
  simp only at q1
  subst q1
  refine ⟨n0, by omega, a, rfl, hF _ fun u' f' L' l' h' ht' => ?_⟩
  obtain ⟨a', r1, r2, r3⟩ := (h'.get ht').sl n.toNat _ hv
  cases r1
  rw [Nat.mul_one]; exact r3
theorem St.write {c len cap : Nat} {p : Option Addr} {vs : List Value} (h : Ths w u f L (⟨c, p, len, cap, 1, vs⟩ :: l)) (hd : ∀ t', t' ∈ l → t'.c ≠ c) {n : Int} (n0 : 0 ≤ n) (n1 : n < len) {F : Addr → Prop}
    (hF : ∀ a : Addr, (∃ v, u.cell? a = some v) → u.frozen? a = false → a.block ∉ L → (∀ v, vs[n.toNat]? = some v → u.cell? a = some v) → (∀ v, Ths w (setCells u a [v] 0) f L (⟨c, p, len, cap, 1, vs.set n.toNat v⟩ :: l)) → F a) : idx p len n 1 F := by
  have hl : len = vs.length := (h.get (List.Mem.head _)).len
  have hlt : n.toNat < vs.length := by omega
  have key : ∀ v, ∃ b, p = some ⟨b, 0, none⟩ ∧ b ∉ L ∧ CanSet u ⟨b, n.toNat, none⟩ 1 ∧ Ths w (setCells u ⟨b, n.toNat, none⟩ [v] 0) f L (⟨c, p, len, cap, 1, vs.set n.toNat v⟩ :: l) := fun v => by
    have := h.set hd (k := n.toNat) (us := [v]) (by simp only [List.length_cons, List.length_nil]; omega) (by show 0 < len; omega)
    simp only [List.length_cons, List.length_nil, Nat.zero_add] at this
    rw [show vs.take n.toNat ++ [v] ++ vs.drop (n.toNat + 1) = vs.set n.toNat v by simp [List.set_eq_take_append_cons_drop, hlt]] at this
    exact this
  obtain ⟨b, e, e1, e2, e3⟩ := key (.bool true)
  subst e
  obtain ⟨f1, f2⟩ := e2 0 (by omega)
  rw [add_zero'] at f1 f2
  refine idx_i n0 n1 rfl ?_
  rw [loc_add, Nat.mul_one, Nat.zero_add]
  refine hF _ f1 f2 e1 (fun v hv => ?_) fun v => ?_
  · obtain ⟨a, q1, q2, q3⟩ := (h.get (List.Mem.head _)).sl n.toNat _ hv
    cases q1
    simpa [loc_add] using q3
  · obtain ⟨b', e', _, _, h3⟩ := key v
    cases e'
    exact h3
theorem own_st (i : Nat) {p : Option Addr} {len cap : Nat} {bs : List Int} {R : Ending → World → Prop} (h : Ths w u f L l) (hB : By u p len bs) (h0 : i ≠ 0)
    (hK : ∀ p' c' u' f', Ext u u' → Ths w u' f' L (⟨i, p', len, c', 1, bytes bs⟩ :: l) → R (.returned (.slice p' len c')) u') : Calls P F.law11_own #[.slice p len cap] u R :=
  own_spec hB.sl hB.ln hB.lim fun p' c' u' hE ho => hK p' c' u' _ hE (h.new hE h0 ho)
theorem dec_st (i : Nat) (r : Int × Int × List Int × Int) {p : Option Addr} {len cap : Nat} {bs : List Int} {most : Int} {R : Ending → World → Prop} (h : Ths w u f L l) (hT : Tab w) (hB : By u p len bs) (hc : len ≤ cap) (h0 : i ≠ 0) (hr : decR bs most = r)
    (hK : ∀ p' n' c' u' f', Ext u u' → Ths w u' f' L (⟨i, p', n', c', 1, px r.2.2.1⟩ :: l) → R (.returned (.tuple #[.agg #[i64 r.1, i64 r.2.1, .slice p' n' c'], i64 r.2.2.2])) u') :
    Calls P F.bmp_Decode #[.slice p len cap, i64 most] u R := by
  subst hr
  exact Decode_spec hB hc (hT.ext h.pal.ext) fun u' s n c hE ho => hK s n c u' _ hE (h.new hE h0 ho)
theorem rdec_st (i : Nat) (r : Int × Int × List Int × Int) {p : Option Addr} {len cap : Nat} {bs : List Int} {most : Int} {R : Ending → World → Prop} (h : Ths w u f L l) (hB : By u p len bs) (hc : len ≤ cap) (h0 : i ≠ 0) (hr : decR bs most = r)
    (hK : ∀ p' n' c' u' f', Ext u u' → Ths w u' f' L (⟨i, p', n', c', 1, px r.2.2.1⟩ :: l) → R (.returned (.tuple #[.agg #[i64 r.1, i64 r.2.1, .slice p' n' c'], i64 r.2.2.2])) u') :
    Calls P F.ref11_Decode #[.slice p len cap, i64 most] u R := by
  subst hr
  exact refDecode_spec hB hc fun u' s n c hE ho => hK s n c u' _ hE (h.new hE h0 ho)
theorem enc_st (i : Nat) (r : List Int × Int) {p : Option Addr} {len cap : Nat} {W H : Int} {xs : List Int} {al : Bool} {R : Ending → World → Prop} (h : Ths w u f L l) (hI : Img u p len xs) (hc : len ≤ cap) (hs : Sm16 xs) (h0 : i ≠ 0) (hr : encR al W H xs = r)
    (hK : ∀ p' n' c' u' f', Ext u u' → Ths w u' f' L (⟨i, p', n', c', 1, bytes r.1⟩ :: l) → R (.returned (.tuple #[.slice p' n' c', i64 r.2])) u') :
    Calls P F.bmp_Encode #[.agg #[i64 W, i64 H, .slice p len cap], .bool al] u R := by
  subst hr
  exact Encode_spec hI hc hs fun s n c u' hE ho => hK s n c u' _ hE (h.new hE h0 ho)
theorem renc_st (i : Nat) (r : List Int × Int) {p : Option Addr} {len cap : Nat} {W H : Int} {xs : List Int} {al : Bool} {R : Ending → World → Prop} (h : Ths w u f L l) (hI : Img u p len xs) (hs : Sm16 xs) (h0 : i ≠ 0) (hr : encR al W H xs = r)
    (hK : ∀ p' n' c' u' f', Ext u u' → Ths w u' f' L (⟨i, p', n', c', 1, bytes r.1⟩ :: l) → R (.returned (.tuple #[.slice p' n' c', i64 r.2])) u') :
    Calls P F.ref11_Encode #[.agg #[i64 W, i64 H, .slice p len cap], .bool al] u R := by
  subst hr
  exact refEncode_spec hI hs fun s n c u' hE ho => hK s n c u' _ hE (h.new hE h0 ho)
theorem copy_st (i : Nat) {p : Option Addr} {len cap : Nat} {W H : Int} {xs : List Int} {R : Ending → World → Prop} (h : Ths w u f L l) (hI : Img u p len xs) (hsz : len * 2 ≤ 2 ^ 47) (h0 : i ≠ 0)
    (hK : ∀ p' c' u' f', Ext u u' → Ths w u' f' L (⟨i, p', len, c', 1, px xs⟩ :: l) → R (.returned (.agg #[i64 W, i64 H, .slice p' len c'])) u') : Calls P F.ref09_Copy #[.agg #[i64 W, i64 H, .slice p len cap]] u R :=
  copy_spec hI hsz fun p' c' u' hE ho => hK p' c' u' _ hE (h.new hE h0 ho)
theorem fill_st (i : Nat) (r : Int × Int × List Int × Int) {W H : Int} {c : Co} {R : Ending → World → Prop} (h : Ths w u f L l) (h0 : i ≠ 0) (hr : fillR W H c = r)
    (hK : ∀ p' n' c' u' f', Ext u u' → Ths w u' f' L (⟨i, p', n', c', 1, px r.2.2.1⟩ :: l) → R (.returned (.tuple #[.agg #[i64 r.1, i64 r.2.1, .slice p' n' c'], i64 r.2.2.2])) u') :
    Calls P F.ref09_Fill #[i64 W, i64 H, .agg (co c).toArray] u R := by
  subst hr
  exact refFill_spec fun p' n' c' u' hF => hK p' n' c' u' _ hF.ext (h.new hF.ext h0 hF.ow)
theorem app_st {c len cap by_ : Nat} {p : Option Addr} {xs : List Int} {v : Int} {m : List (Nat × Nat × List Value)} {elem : TypeId} {F : Option Addr → Nat → Nat → World → Prop} (h : Ths w u f L l) (ht : (⟨c, p, len, cap, 1, bytes xs⟩ : Tg) ∈ l)
    (hm : ∀ b, b ∈ blocks m → b ∈ L) (hby : (len + 1) * by_ ≤ 2 ^ 47) (h62 : len + 1 < 2 ^ 62)
    (hF : ∀ p' c' u' f', Ths w u' f' L (⟨c, p', len + 1, c', 1, bytes (xs ++ [v])⟩ :: l.filter fun t => t.c != c) → F p' (len + 1) c' u') :
    appVC u m p len cap 1 1 by_ elem [u8 0] [u8 v] F := by
  have h' : Ths w u f L (⟨c, p, len, cap, 1, bytes xs⟩ :: l.filter fun t => t.c != c) := h.mono (fun _ h => h) fun t hm => by
    rcases List.mem_cons.1 hm with rfl | hm
    · exact ht
    · exact (List.mem_filter.1 hm).1
  refine Ths.app h' (fun t' hm => by simpa using (List.mem_filter.1 hm).2) hm rfl rfl hby h62 fun p' c' u' f' hT => hF p' c' u' f' ?_
  rw [bytes_append]
  exact hT
end
/-! ## What the laws are handed -/
theorem own_ : ownKnob Tryd.prog.godebug = none := by kernel_rfl
theorem laidOut : laidOutB Tryd.prog = true := by kernel_rfl
theorem cells26 : Tryd.prog.cellsOf 26 = 3 := by kernel_rfl
theorem bytes42 : Tryd.prog.bytesOf 42 = 2 := by kernel_rfl
theorem bytes5 : Tryd.prog.bytesOf 5 = 1 := by kernel_rfl
structure ImgOk (W : World) (wd ht : Int) (b : Option Addr) (len cap : Nat) (xs : List Int) : Prop where
  img : Img W b len xs
  bytes : len * 2 ≤ reachBytes
  wide : (Lit.int .i64 wd).wf = true
  high : (Lit.int .i64 ht).wf = true
  fit : ∀ n ∈ xs, (Lit.int .u16 n).wf = true
  room : len ≤ cap
theorem reach47 : reachBytes + 8 ≤ 2 ^ 47 := by decide
theorem ImgOk.sz {W : World} {wd ht : Int} {b : Option Addr} {len cap : Nat} {xs : List Int} (h : ImgOk W wd ht b len cap xs) : len * 2 ≤ 2 ^ 47 := by
  have := h.bytes
  have := reach47
  omega
theorem ImgOk.sm {W : World} {wd ht : Int} {b : Option Addr} {len cap : Nat} {xs : List Int} (h : ImgOk W wd ht b len cap xs) : Sm16 xs := fun n hn => by have := wfu16 (h.fit n hn); omega
theorem open_Image {H : Type} {enc : TypeId × Value → H} {W : World} {base : Nat} {v : Value} {d : DataW H} {p : List MemPlace} (hv : Value.okWide Tryd.prog W .any base 26 v) (h : DataW.Trod enc Tryd.prog W 0 (fun _ => true) true 26 v d p)
    (hw : ∀ n ∈ d.weights Tryd.prog 26, n ≤ reachBytes) :
    ∃ (wd ht : Int) (b : Option Addr) (len cap : Nat) (xs : List Int), v = .agg #[i64 wd, i64 ht, .slice b len cap] ∧ ImgOk W wd ht b len cap xs := by
  obtain ⟨c0, c1, c2, y0, y1, y2, m, rfl, rfl, rfl, hy0, hy1, hy2⟩ := open_agg3 Tryd.underlying26 (by kernel_rfl) cells26 hv h
  obtain ⟨x, e0, rfl, wx⟩ := DataW.trod_int Tryd.underlying3 hy0
  obtain ⟨y, e1, rfl, wy⟩ := DataW.trod_int Tryd.underlying3 hy1
  simp only [List.cons.injEq, and_true] at e0 e1
  subst e0; subst e1
  obtain ⟨b, len, cap, xs, rfl, h1, h2, h3, h4, h5⟩ := cell_ints Tryd.underlying24 Tryd.underlying42 (by kernel_rfl) hy2
  have h6 := h5.weight Tryd.underlying24 fun n hn => hw n (by simp [DataW.weights, Tryd.underlying26, DataW.weightsEach, hn])
  rw [bytes42] at h6
  exact ⟨x, y, b, len, cap, xs, rfl, ⟨⟨h3, h1⟩, h6, wx, wy, h4, h2⟩⟩
/-- bytes that are handed in -/
structure BytesOk (W : World) (b : Option Addr) (len cap : Nat) (xs : List Int) : Prop where
  by_ : By W b len xs
  cap : len ≤ cap
  big : len + 8 ≤ 2 ^ 47
theorem open_ints22 {H : Type} {enc : TypeId × Value → H} {W : World} {base : Nat} {v : Value} {d : DataW H} {p : List MemPlace} (hv : Value.okWide Tryd.prog W .any base 22 v) (h : DataW.Trod enc Tryd.prog W 0 (fun _ => true) true 22 v d p)
    (hw : ∀ n ∈ d.weights Tryd.prog 22, n ≤ reachBytes) :
    ∃ (b : Option Addr) (len cap : Nat) (xs : List Int), v = .slice b len cap ∧ BytesOk W b len cap xs := by
  obtain ⟨a, b, c, rfl⟩ := okWide_slice Tryd.underlying22 hv
  obtain ⟨fuel, h⟩ := h
  obtain ⟨b, len, cap, xs, e, h1, h2, h3, h4, h5⟩ := cell_ints Tryd.underlying22 Tryd.underlying5 (by kernel_rfl) h
  cases e
  have h6 := h5.weight Tryd.underlying22 hw
  rw [bytes5] at h6
  have := reach47
  exact ⟨_, _, _, xs, rfl, ⟨⟨h3, h1, by omega, fun n hn => wfu8 (h4 n hn)⟩, h2, by omega⟩⟩
/-- what the rows' list gives: the table -/
theorem tab_of {W : World} (h : laidMet Tryd.prog [("math/bits.deBruijn32tab", Rows.laid_math_bits_deBruijn32tab)] W) : Tab W := by
  have ht : Lib.TabIs Tryd.prog W "math/bits.deBruijn32tab" .u8 tzL :=
    Lib.tabIs_of_head (rest := []) (g := 0) (t := 125) (e := 5) (n := 32) (by kernel_rfl) (by kernel_rfl) Tryd.underlying125 Tryd.underlying5 (by kernel_rfl) (by kernel_rfl) h
  intro j v hj
  have hlt : j < 32 := by have := (List.getElem?_eq_some_iff.1 hj).1; simpa [bytes, tzL] using this
  have hc := ht.cell (g := 0) (by kernel_rfl) j (by simpa [tzL] using hlt)
  have e : v = u8 (tzL.getD j 0) := by
    have : (bytes tzL)[j]? = some (u8 (tzL.getD j 0)) := bytes_get (by simpa [tzL] using hlt)
    rw [this] at hj
    cases hj
    rfl
  refine ⟨⟨0, 0, none⟩, rfl, ?_, ?_⟩
  · exact World.block_lt_of_cell? W ⟨0, j, none⟩ hc
  · rw [loc_add, Nat.zero_add, e]; exact hc
/-- a world for the witnesses -/
noncomputable def laidWorld (os : Os) : World :=
  { World.holding Tryd.prog os ⟨#[], #[], []⟩ with heap := (World.holding Tryd.prog os ⟨#[], #[], []⟩).heap.modify 0 fun
      | .cells _ t frozen => .cells (bytes tzL).toArray t frozen
      | o => o }
theorem laid_met (os : Os) (args : Array Value) : laidMet Tryd.prog [("math/bits.deBruijn32tab", Rows.laid_math_bits_deBruijn32tab)] ((laidWorld os).forCall (fun _ _ => 0) ⟨#[], args, []⟩).memory :=
  laidMet_of_run' 8 (by kernel_rfl) (by kernel_rfl)
end Go.Proofs.YtjdljddfiddnoaaDoor
