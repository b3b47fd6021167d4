/- Blend: the outcome of two images: the program. -/
import Derived.Test.YtombfebgojeliaaBL5
namespace Go.Proofs.Ytombfebgojeliaa
open Go Go.Vc Go.RowKit
set_option maxRecDepth 100000
set_option linter.unusedVariables false
set_option linter.unusedSimpArgs false

theorem cos_set {l : List Co} {q : Nat} {c : Co} {rest : List Value} (h : q < l.length) : (cos l ++ rest).take (q * 4) ++ co c ++ (cos l ++ rest).drop (q * 4 + 4) = cos (l.set q c) ++ rest := by
  have hl := cos_length l
  have e := flat_set (c := c) h
  have e2 : (cos l).take (q * 4) ++ co c ++ (cos l).drop (q * 4 + 4) = cos (l.set q c) := by
    rw [cos_px, cos_px, ← e, px_append, px_append, co_px]
    simp [px, List.map_take, List.map_drop, Nat.mul_comm]
  rw [List.take_append_of_le_length (by omega), List.drop_append_of_le_length (by omega), ← e2]
  simp
theorem GSet2_spec {w : World} {q : Option Addr} {gb cb : Nat} {W H x y : Int} {c : Co} {l : List Co} {R : Ending → World → Prop} (h : GridC w q gb cb W H l) (hx0 : 0 ≤ x) (hy0 : 0 ≤ y) (hx : x < W) (hy : y < H)
    (hR : ∀ w', Chg (fun i => i = cb ∨ w.heap.size ≤ i) w w' → GridC w' q gb cb W H (l.set (y * W + x).toNat c) → R (.returned (.bool true)) w') :
    Calls P F.grid_Grid_api_Color_Set #[.pointer q, i64 x, i64 y, .agg (co c).toArray] w R := by
  obtain ⟨c1, c2, c3, c4⟩ := c
  refine calls_grid_Grid_api_Color_Set _ _ _ _ _ _ _ _ _ ?_
  intro k1 hk1 w1 hL1
  have hE1 : Ext w w1 := hL1.ext (by simpa using hk1)
  have h1 := h.ext hE1
  have hd := h1.dims
  have hlen := h1.len
  have hlt := h.lt
  refine Ghas_spec h1 ⟨_, rfl, (Ext.refl _).keep _, brB_f (by simp; omega) ?_⟩
  have hok := h1.ok
  have hne := h1.ne
  have hptr := h1.ptr
  obtain ⟨rest, cc, h3, h5, h4⟩ := h1.cells
  obtain ⟨p0, p1, _, p3, _⟩ := pixAt h1.ok (n := 4 * (W * H)) rfl hx0 hy0 hx hy
  refine nn_i h.ptr ⟨_, _, _, h3.drew.cell (i := 2) rfl, nn_i h.ptr ⟨_, h3.drew.cell (i := 0) rfl, ?_⟩⟩
  rw [p3]
  refine idx_i p0 (by omega) rfl ?_
  rw [loc_add, Nat.zero_add]
  have hcl := cos_length l
  have hcan := h4.drew.canSet (off := (y * W + x).toNat * 4) (n := 4) (by rw [List.length_append, hcl]; omega)
  obtain ⟨a0, b0⟩ := hcan 0 (by omega)
  obtain ⟨a1, b1⟩ := hcan 1 (by omega)
  obtain ⟨a2, b2⟩ := hcan 2 (by omega)
  obtain ⟨a3, b3⟩ := hcan 3 (by omega)
  rw [add_zero'] at a0 b0
  have hset := h4.drew.set (off := (y * W + x).toNat * 4) (us := co (c1, c2, c3, c4)) (by rw [List.length_append, hcl, show (co (c1, c2, c3, c4)).length = 4 from rfl]; omega)
  rw [show (co (c1, c2, c3, c4)).length = 4 from rfl, cos_set (by omega)] at hset
  have hch := Chg.setCells w1.drew ⟨cb, (y * W + x).toNat * 4, none⟩ (co (c1, c2, c3, c4)) 0
  refine ⟨a0, b0, a1, b1, a2, b2, a3, b3, by simp; omega, hR _ ?_ ?_⟩
  · refine ((hE1.drew.chg (S := fun i => i = cb ∨ w.heap.size ≤ i))).trans hch fun i hi _ => .inl hi
  · refine ⟨hptr, ⟨rest, cc, ?_, by simpa using h5, hset⟩, hne, hok, by simpa using hlen⟩
    rw [List.length_set]
    exact h3.drew.chg hch hne
theorem GAll_iter2 {w : World} {fr : Addr} {yl : Nat} {q : Option Addr} {gb cb : Nat} {W H : Int} {n : Nat} (J : Nat → World → Prop) (f : Nat → Co) {R : Ending → World → Prop} (hn : W * H = n)
    (hJ : ∀ k u, J k u → u.cell? fr = some (.pointer q) ∧ ∃ l, GridC u q gb cb W H l ∧ (k < n → l.getD k zeroC = f k)) (h0 : J 0 w.drew)
    (hy : ∀ (k : Nat) u, k < n → J k u → YieldAt Fence.wide 0 P yl #[.agg #[i64 ((k : Int) % W), i64 ((k : Int) / W)], .agg (co (f k)).toArray] u.drew (Goes (J (k + 1)) R))
    (hend : ∀ u, J n u → R (.returned (.tuple #[])) u) :
    Calls P F.grid_Grid_api_Color_All_fn1 #[.func (.yield yl) #[] #[], .pointer (some fr)] w R := by
  refine calls_grid_Grid_api_Color_All_fn1 _ _ _ _ ?_
  obtain ⟨hc0, l0, hg0, _⟩ := hJ _ _ h0
  have hd := hg0.dims
  have hwm := wrapmul hd.1 hd.2.1 hd.2.2.1 hd.2.2.2.1
  have hpos : 0 < W * H := Int.mul_pos (by omega) (by omega)
  have hlen := hg0.len
  refine ⟨_, hc0, _, hc0, GW_spec hg0 ⟨_, rfl, Keeps.refl _, GH_spec hg0 ⟨_, rfl, fun vs w' => match vs with | [.int _ k] => 0 ≤ k ∧ k ≤ W * H ∧ J k.toNat w' | _ => False,
    fun vs _ => match vs with | [.int _ k] => (W * H - k).toNat | _ => 0, ⟨Int.le_refl _, by omega, h0⟩, fun k w2 hI => ?_⟩⟩⟩
  obtain ⟨k0, k1, hI⟩ := hI
  obtain ⟨hc, l, hg, hgf⟩ := hJ _ _ hI
  have hlen2 := hg.len
  rw [hwm]
  refine brB_i (fun hlt => ?_) (fun hge => ?_)
  · have hlt : k < W * H := by simpa using hlt
    have hsl := hg.sl
    obtain ⟨rest, cc, h3, _, h4⟩ := hg.cells
    refine ⟨_, hc, nn_i hg.ptr ⟨_, h3.drew.cell (i := 0) rfl, by omega, _, hc, nn_i hg.ptr ⟨_, h3.drew.cell (i := 0) rfl, by omega, _, hc, nn_i hg.ptr ⟨_, _, _, h3.drew.cell (i := 2) rfl, ?_⟩⟩⟩⟩
    refine cos_elem hsl.drew rfl k0 (by omega) fun a e1 e2 e3 e4 => ⟨_, _, _, _, e1, e2, e3, e4, ?_⟩
    have hkk : (k.toNat : Int) = k := by omega
    have := hy k.toNat w2 (by omega) hI
    rw [hkk, ← hgf (by omega)] at this
    have hq : k / W ≤ k := Int.ediv_le_self _ k0
    have hq0 : 0 ≤ k / W := Int.ediv_nonneg k0 (by omega)
    rw [show divZ .rem .i64 k W = k % W by simp only [divZ]; exact Int.tmod_eq_emod_of_nonneg k0,
      show divZ .quo .i64 k W = k / W by simp only [divZ]; rw [Int.tdiv_eq_ediv_of_nonneg k0]; exact w64 (by omega) (by omega)]
    refine yield_mono this fun e w4 he => ?_
    rcases he with ⟨rfl, he⟩ | ⟨rfl, he⟩
    · refine ⟨_, rfl, brB_f rfl ⟨?_, ?_⟩⟩
      · rw [w64 (by omega) (by omega)]
        exact ⟨by omega, by omega, by rw [show (k + 1).toNat = k.toNat + 1 by omega]; exact he⟩
      · rw [w64 (by omega) (by omega)]
        show (W * H - (k + 1)).toNat < (W * H - k).toNat
        omega
    · exact ⟨_, rfl, brB_t rfl he⟩
  · have hge : k = W * H := by simp at hge; omega
    subst hge
    refine hend w2 ?_
    rw [show n = (W * H).toNat by omega]; exact hI
/-! ## what has become of the first places -/
def Lk (f g : Nat → Co) (n k : Nat) : List Co := (List.range k).map f ++ ((List.range n).map g).drop k
theorem Lk_zero (f g : Nat → Co) (n : Nat) : Lk f g n 0 = (List.range n).map g := by simp [Lk]
theorem Lk_end (f g : Nat → Co) (n : Nat) : Lk f g n n = (List.range n).map f := by simp [Lk]
theorem Lk_length {f g : Nat → Co} {n k : Nat} (h : k ≤ n) : (Lk f g n k).length = n := by simp [Lk]; omega
theorem Lk_get {f g : Nat → Co} {n k : Nat} (h : k < n) : (Lk f g n k).getD k zeroC = g k := by
  unfold Lk
  simp [List.getD, List.getElem?_append_right, h]
theorem Lk_succ {f g : Nat → Co} {n k : Nat} (h : k < n) : (Lk f g n k).set k (f k) = Lk f g n (k + 1) := by
  unfold Lk
  rw [List.set_append_right _ _ (by simp), List.range_succ, List.map_append, List.append_assoc]
  congr 1
  rw [List.length_map, List.length_range, Nat.sub_self, List.drop_eq_getElem_cons (by simpa using h)]
  simp
theorem Lk_same {f g : Nat → Co} {n k : Nat} (h : k < n) (e : f k = g k) : Lk f g n k = Lk f g n (k + 1) := by
  rw [← Lk_succ h, e]
  have hl : k < (Lk f g n k).length := by rw [Lk_length (by omega)]; exact h
  have := Lk_get (f := f) (g := g) h
  simp only [List.getD, List.getElem?_eq_getElem hl, Option.getD_some] at this
  rw [← this, List.set_getElem_self]
/-! ## a round of the program -/
theorem args_fid {op : ByteArray} {args : List Int} (h : argsOk op args) (n1 : op ≠ sOver) (n2 : op ≠ sMix) (n3 : op ≠ sBeside) (n4 : op ≠ sBelow) : ∃ n, fidOf op = some n := by
  unfold argsOk chkR specOf at h
  rw [if_neg n1, if_neg n2, if_neg (by simp [n3, n4])] at h
  cases hf : fidOf op with
  | some n => exact ⟨n, rfl⟩
  | none => rw [hf] at h; simp at h
structure Bt (w u : World) (q : Option Addr) (gb cb kb : Nat) (W H : Int) (l : List Co) (N : Nat) : Prop where
  g : GridC u q gb cb W H l
  c : Cs u kb [.pointer q]
  e : Ext w u
  n : N ≤ u.heap.size
theorem Bt.ext {w u u' : World} {q : Option Addr} {gb cb kb : Nat} {W H : Int} {l : List Co} {N : Nat} (h : Bt w u q gb cb kb W H l N) (hE : Ext u u') : Bt w u' q gb cb kb W H l N :=
  ⟨h.g.ext hE, h.c.ext hE, h.e.trans hE, Nat.le_trans h.n hE.size⟩
theorem Bt.drew {w u : World} {q : Option Addr} {gb cb kb : Nat} {W H : Int} {l : List Co} {N : Nat} (h : Bt w u q gb cb kb W H l N) : Bt w u.drew q gb cb kb W H l N := h.ext (Ext.refl u).drew
theorem Bt.locl {w u u' : World} {q : Option Addr} {gb cb kb : Nat} {W H : Int} {l : List Co} {N : Nat} {bs : List Nat} (h : Bt w u q gb cb kb W H l N) (hL : Locl bs u u') (hb : ∀ b, b ∈ bs → w.heap.size ≤ b ∧ b ≠ gb ∧ b ≠ cb ∧ b ≠ kb) : Bt w u' q gb cb kb W H l N :=
  ⟨h.g.chg hL.chg (fun hm => (hb _ hm).2.1 rfl) (fun hm => (hb _ hm).2.2.1 rfl), h.c.locl hL (fun hm => (hb _ hm).2.2.2 rfl), h.e.step hL.chg (fun b hm => (hb b hm).1), Nat.le_trans h.n hL.size⟩
theorem Bt.put {w u u' : World} {q : Option Addr} {gb cb kb : Nat} {W H : Int} {l : List Co} {N D : Nat} (h : Bt w u q gb cb kb W H l N) (hP : Put D u u') (h0 : w.heap.size ≤ D) (h1 : D ≠ gb) (h2 : D ≠ cb) (h3 : D ≠ kb) : Bt w u' q gb cb kb W H l N :=
  ⟨h.g.chg hP.chg (Ne.symm h1) (Ne.symm h2), h.c.put hP (Ne.symm h3), h.e.step hP.chg (fun b hm => by have : b = D := hm; omega), by rw [hP.size]; exact h.n⟩
def rndC (op : ByteArray) (args : List Int) (c d : Co) : Co :=
  if op = sOver then overC c d else if op = sMix then ((threeC (mixI (args.getD 0 0)) c d).1, (threeC (mixI (args.getD 0 0)) c d).2.1, (threeC (mixI (args.getD 0 0)) c d).2.2.1, clampI (mixI (args.getD 0 0) c.2.2.2 d.2.2.2)) else threeC (rawF op) c d
def rndM (op : ByteArray) (c d : Co) : Co := if op = sMask then (c.1, c.2.1, c.2.2.1, c.2.2.2 * lumaI d / 65535) else c
theorem rnd_mapC {op : ByteArray} {args : List Int} {c d : Co} (h : argsOk op args) (hc : CoOk c) (hd : CoOk d) (n1 : op ≠ sOver) : rndM op (rndC op args c d) d = mapC op args c d := by
  obtain ⟨c1, c2, c3, c4⟩ := c
  obtain ⟨d1, d2, d3, d4⟩ := d
  obtain ⟨hc1, hc2, hc3, hc4⟩ := hc
  obtain ⟨hd1, hd2, hd3, hd4⟩ := hd
  unfold rndM rndC mapC smpl
  by_cases hm : op = sMix
  · obtain ⟨_, a0, a1⟩ := mix_args h hm
    simp only [hm, if_true, if_false, show sMix ≠ sOver by decide, show sMix ≠ sMask by decide, threeC, clamp_id (mix_sm a0 a1 hc1 hd1), clamp_id (mix_sm a0 a1 hc2 hd2), clamp_id (mix_sm a0 a1 hc3 hd3), clamp_id (mix_sm a0 a1 hc4 hd4)]
  · by_cases hk : op = sMask
    · simp [hk, threeC, show sMask ≠ sOver by decide, show sMask ≠ sMix by decide]
    · simp [hk, hm, n1, threeC]
theorem rndC_ok {op : ByteArray} {args : List Int} {c d : Co} (hc : CoOk c) : CoOk (rndC op args c d) := by
  unfold rndC
  split
  · exact ⟨clamp_sm _, clamp_sm _, clamp_sm _, clamp_sm _⟩
  · split
    · exact ⟨clamp_sm _, clamp_sm _, clamp_sm _, clamp_sm _⟩
    · exact ⟨clamp_sm _, clamp_sm _, clamp_sm _, hc.2.2.2⟩
/-- the place that the program looks at in the second image -/
def plc (op : ByteArray) (args : List Int) (x y : Int) : Int × Int := if op = sOver then (x - args.getD 0 0, y - args.getD 1 0) else (x, y)
theorem pf_rnd {op : ByteArray} {args xs ys : List Int} {W H V G : Int} (h : argsOk op args) (hgp : good W H xs = true) (hgq : good V G ys = true) (hxs : SmL xs) (hys : SmL ys) (n3 : op ≠ sBeside) (n4 : op ≠ sBelow) (hs : op ≠ sOver → W = V ∧ H = G) {k : Nat} (hk : (k : Int) < W * H) :
    pf op args W H xs V G ys W k = if isAt V G ys (plc op args ((k : Int) % W) ((k : Int) / W)).1 (plc op args ((k : Int) % W) ((k : Int) / W)).2 then rndM op (rndC op args (colAt xs k) (atC V G ys (plc op args ((k : Int) % W) ((k : Int) / W)).1 (plc op args ((k : Int) % W) ((k : Int) / W)).2)) (atC V G ys (plc op args ((k : Int) % W) ((k : Int) / W)).1 (plc op args ((k : Int) % W) ((k : Int) / W)).2) else colAt xs k := by
  obtain ⟨a1, a2, a3, a4, a5⟩ := gfits_iff.1 (good_iff.1 hgp).1
  have hkk : (((k : Int) / W) * W + (k : Int) % W).toNat = k := by
    have := Int.mul_ediv_add_emod (k : Int) W
    rw [Int.mul_comm] at this; omega
  unfold pf pixR plc
  rw [if_neg n3, if_neg n4, hkk]
  by_cases n1 : op = sOver
  · simp only [n1, if_true]
    unfold rndM rndC
    simp [show sOver ≠ sMask by decide]
  · obtain ⟨rfl, rfl⟩ := hs n1
    simp only [n1, if_false]
    have m0 : 0 ≤ (k : Int) % W := Int.emod_nonneg _ (by omega)
    have m1 : (k : Int) % W < W := Int.emod_lt_of_pos _ (by omega)
    have d0 : 0 ≤ (k : Int) / W := Int.ediv_nonneg (by omega) (by omega)
    have d1 : (k : Int) / W < H := Int.ediv_lt_of_lt_mul (by omega) (by rw [Int.mul_comm]; exact hk)
    have hat : isAt W H ys ((k : Int) % W) ((k : Int) / W) = true := by unfold isAt; simp [hgq]; omega
    rw [if_pos hat, rnd_mapC h (hxs.col _) (atC_ok hys _ _) n1]
    unfold atC
    rw [if_pos hat, hkk]
end Go.Proofs.Ytombfebgojeliaa
