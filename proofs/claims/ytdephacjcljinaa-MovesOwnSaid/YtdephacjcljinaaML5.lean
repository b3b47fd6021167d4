/- Moves: the places of an outcome; the mean of a square: the program. -/
import Derived.Test.YtdephacjcljinaaML4
namespace Go.Proofs.Ytdephacjcljinaa
open Go Go.Vc Go.RowKit
set_option maxRecDepth 100000
set_option linter.unusedVariables false
set_option linter.unusedSimpArgs false

theorem places_spec {a b : Int} {w : World} {R : Ending → World → Prop} (hR : ∀ ka kb w', Ext w w' → w.heap.size ≤ ka → w.heap.size ≤ kb → ka < w'.heap.size → kb < w'.heap.size → Cs w' ka [i64 a] → Cs w' kb [i64 b] → R (.returned (.func (.func F.moves_places_fn1) #[] #[.pointer (some ⟨kb, 0, none⟩), .pointer (some ⟨ka, 0, none⟩)])) w') :
    Calls P F.moves_places #[i64 a, i64 b] w R := by
  refine calls_moves_places _ _ _ _ fun k1 w1 h1 k2 w2 h2 => ?_
  have e1 := h1.1
  have e2 := h2.1
  have s1 := h1.size
  have s2 := h2.size
  have s3 := h2.ext.size
  have s4 := h1.ext.size
  exact hR k1 k2 w2 (h1.ext.trans h2.ext) (by omega) (by omega) (by omega) (by omega) (h1.cs.ext h2.ext) h2.cs
theorem places_iter {w : World} {fa fb : Addr} {yl : Nat} {a b : Int} (J : Nat → World → Prop) {R : Ending → World → Prop} (a0 : 1 ≤ a) (b0 : 1 ≤ b) (a1 : a ≤ 4096) (b1 : b ≤ 4096)
    (hJ : ∀ q u, J q u → u.cell? fa = some (i64 a) ∧ u.cell? fb = some (i64 b)) (h0 : J 0 w)
    (hy : ∀ (q : Nat) u, (q : Int) < a * b → J q u → YieldAt Fence.wide 0 P yl #[i64 ((q : Int) % a), i64 ((q : Int) / a)] u (Goes (J (q + 1)) R))
    (hend : ∀ u, J (a * b).toNat u → R (.returned (.tuple #[])) u) :
    Calls P F.moves_places_fn1 #[.func (.yield yl) #[] #[], .pointer (some fb), .pointer (some fa)] w R := by
  refine calls_moves_places_fn1 _ _ _ _ _ ?_
  refine ⟨_, (hJ _ _ h0).2, fun vs u => match vs with | [.int _ y] => 0 ≤ y ∧ y ≤ b ∧ J (y * a).toNat u | _ => False, fun vs _ => match vs with | [.int _ y] => (b - y).toNat | _ => 0, ⟨Int.le_refl _, by omega, by rw [Int.zero_mul]; exact h0⟩, fun y u hI => ?_⟩
  obtain ⟨y0, y1, hj⟩ := hI
  refine brB_i (fun hlt => ?_) (fun hge => ?_)
  · have hlt : y < b := by simpa using hlt
    have ya : 0 ≤ y * a := Int.mul_nonneg y0 (by omega)
    have yb : y * a + a ≤ a * b := by
      have h1 : (y + 1) * a ≤ b * a := Int.mul_le_mul_of_nonneg_right (by omega) (by omega)
      rw [Int.add_mul, Int.one_mul, Int.mul_comm b] at h1; exact h1
    refine ⟨_, (hJ _ _ hj).1, fun vs u => match vs with | [.int _ x] => 0 ≤ x ∧ x ≤ a ∧ J (y * a + x).toNat u | _ => False, fun vs _ => match vs with | [.int _ x] => (a - x).toNat | _ => 0, ⟨Int.le_refl _, by omega, by rw [Int.add_zero]; exact hj⟩, fun x u2 hI2 => ?_⟩
    obtain ⟨x0, x1, hj2⟩ := hI2
    refine brB_i (fun hlt2 => ?_) (fun hge2 => ?_)
    · have hlt2 : x < a := by simpa using hlt2
      obtain ⟨d1, d2⟩ := divmod (y := y) x0 hlt2
      have hn : (((y * a + x).toNat : Nat) : Int) = y * a + x := by omega
      have := hy (y * a + x).toNat u2 (by omega) hj2
      rw [hn, d1, d2] at this
      refine yield_mono this fun e u3 he => ?_
      rcases he with ⟨rfl, he⟩ | ⟨rfl, he⟩
      · refine ⟨_, rfl, brB_f rfl ?_⟩
        rw [w64 (by omega) (by omega)]
        exact ⟨⟨by omega, by omega, by rw [show (y * a + (x + 1)).toNat = (y * a + x).toNat + 1 by omega]; exact he⟩, by show (a - (x + 1)).toNat < (a - x).toNat; omega⟩
      · exact ⟨_, rfl, brB_t rfl he⟩
    · have hge2 : x = a := by simp at hge2; omega
      subst hge2
      rw [w64 (by omega) (by omega)]
      exact ⟨⟨by omega, by omega, by rw [Int.add_mul, Int.one_mul]; exact hj2⟩, by show (b - (y + 1)).toNat < (b - y).toNat; omega⟩
  · have hge : y = b := by simp at hge; omega
    subst hge
    refine hend u ?_
    rw [Int.mul_comm]; exact hj
/-! ## four channels -/
def add4 (a b : Co) : Co := (a.1 + b.1, a.2.1 + b.2.1, a.2.2.1 + b.2.2.1, a.2.2.2 + b.2.2.2)
def sumC (f : Nat → Co) : Nat → Co
  | 0 => zeroC
  | q + 1 => add4 (sumC f q) (f q)
def coK (k : IntKind) (c : Co) : List Value := [.int k c.1, .int k c.2.1, .int k c.2.2.1, .int k c.2.2.2]
def sel (c : Int) (s : Co) : Int := if c = 0 then s.1 else if c = 1 then s.2.1 else if c = 2 then s.2.2.1 else s.2.2.2
def upd (c : Int) (s : Co) (v : Int) : Co := if c = 0 then (v, s.2) else if c = 1 then (s.1, v, s.2.2) else if c = 2 then (s.1, s.2.1, v, s.2.2.2) else (s.1, s.2.1, s.2.2.1, v)
theorem four {c : Int} (h0 : 0 ≤ c) (h1 : c < 4) : c = 0 ∨ c = 1 ∨ c = 2 ∨ c = 3 := by omega
theorem cs_four {u : World} {k : Nat} {kd : IntKind} {s : Co} (h : Cs u k (coK kd s)) {c : Int} (h0 : 0 ≤ c) (h1 : c < 4) :
    u.cell? ((⟨k, 0, none⟩ : Addr).add (c.toNat * 1)) = some (.int kd (sel c s)) ∧ u.frozen? ((⟨k, 0, none⟩ : Addr).add (c.toNat * 1)) = false ∧ (((⟨k, 0, none⟩ : Addr).add (c.toNat * 1)).block = k) ∧
    ∀ v, Cs (setCells u ((⟨k, 0, none⟩ : Addr).add (c.toNat * 1)) [.int kd v] 0) k (coK kd (upd c s v)) ∧ Chg (· = k) u (setCells u ((⟨k, 0, none⟩ : Addr).add (c.toNat * 1)) [.int kd v] 0) ∧ (setCells u ((⟨k, 0, none⟩ : Addr).add (c.toNat * 1)) [.int kd v] 0).heap.size = u.heap.size := by
  rw [loc_add]
  rcases four h0 h1 with rfl | rfl | rfl | rfl
  · exact ⟨h.cell (i := 0) rfl, h.frozen _, rfl, fun v => ⟨h.set1 (off := 0) (v := .int kd v) (by simp [coK]), Chg.setCells u ⟨k, _, none⟩ [.int kd v] 0, (setCells_same _ _ _ _).size⟩⟩
  · exact ⟨h.cell (i := 1) rfl, h.frozen _, rfl, fun v => ⟨h.set1 (off := 1) (v := .int kd v) (by simp [coK]), Chg.setCells u ⟨k, _, none⟩ [.int kd v] 0, (setCells_same _ _ _ _).size⟩⟩
  · exact ⟨h.cell (i := 2) rfl, h.frozen _, rfl, fun v => ⟨h.set1 (off := 2) (v := .int kd v) (by simp [coK]), Chg.setCells u ⟨k, _, none⟩ [.int kd v] 0, (setCells_same _ _ _ _).size⟩⟩
  · exact ⟨h.cell (i := 3) rfl, h.frozen _, rfl, fun v => ⟨h.set1 (off := 3) (v := .int kd v) (by simp [coK]), Chg.setCells u ⟨k, _, none⟩ [.int kd v] 0, (setCells_same _ _ _ _).size⟩⟩
/-- the first channels from one, the others from another -/
def part4 (c : Int) (s t : Co) : Co := (if 0 < c then t.1 else s.1, if 1 < c then t.2.1 else s.2.1, if 2 < c then t.2.2.1 else s.2.2.1, if 3 < c then t.2.2.2 else s.2.2.2)
theorem part4_0 (s t : Co) : part4 0 s t = s := by simp [part4]
theorem part4_4 (s t : Co) : part4 4 s t = t := by simp [part4]
theorem part4_sel {c : Int} {s t : Co} (h0 : 0 ≤ c) (h1 : c < 4) : sel c (part4 c s t) = sel c s := by
  rcases four h0 h1 with rfl | rfl | rfl | rfl <;> simp [part4, sel]
theorem part4_upd {c : Int} {s t : Co} (h0 : 0 ≤ c) (h1 : c < 4) : upd c (part4 c s t) (sel c t) = part4 (c + 1) s t := by
  rcases four h0 h1 with rfl | rfl | rfl | rfl <;> simp [part4, sel, upd]
theorem sel_add {c : Int} {s t : Co} : sel c (add4 s t) = sel c s + sel c t := by
  unfold sel add4; repeat' split
  all_goals rfl
theorem sel_sm {c : Int} {s : Co} (h : CoOk s) : Sm (sel c s) := by
  obtain ⟨h1, h2, h3, h4⟩ := h
  unfold sel; repeat' split
  all_goals assumption
def CoLe (n : Int) (s : Co) : Prop := (0 ≤ s.1 ∧ s.1 ≤ n) ∧ (0 ≤ s.2.1 ∧ s.2.1 ≤ n) ∧ (0 ≤ s.2.2.1 ∧ s.2.2.1 ≤ n) ∧ (0 ≤ s.2.2.2 ∧ s.2.2.2 ≤ n)
theorem CoLe.sel {n : Int} {s : Co} (h : CoLe n s) (c : Int) : 0 ≤ Go.Proofs.Ytdephacjcljinaa.sel c s ∧ Go.Proofs.Ytdephacjcljinaa.sel c s ≤ n := by
  obtain ⟨h1, h2, h3, h4⟩ := h
  unfold Go.Proofs.Ytdephacjcljinaa.sel; repeat' split
  all_goals assumption
theorem sumC_le {f : Nat → Co} : ∀ {q : Nat}, (∀ j, j < q → CoOk (f j)) → CoLe (65535 * q) (sumC f q)
  | 0, _ => by simp [sumC, CoLe, zeroC]
  | q + 1, h => by
    have ih := sumC_le (q := q) fun j hj => h j (by omega)
    obtain ⟨h1, h2, h3, h4⟩ := h q (by omega)
    unfold CoLe at ih ⊢
    unfold Sm at h1 h2 h3 h4
    simp only [sumC, add4]
    push_cast
    omega
def avgI (s n : Int) : Int := (s + n / 2) / n
theorem avg_sm {s n : Int} (h0 : 0 ≤ s) (h1 : s ≤ 65535 * n) (hn : 1 ≤ n) : Sm (avgI s n) := by
  unfold avgI Sm
  refine ⟨Int.ediv_nonneg (by omega) (by omega), ?_⟩
  have : (s + n / 2) / n < 65536 := Int.ediv_lt_of_lt_mul (by omega) (by omega)
  omega
def avgC (s : Co) (n : Int) : Co := (avgI s.1 n, avgI s.2.1 n, avgI s.2.2.1 n, avgI s.2.2.2 n)
theorem sel_avg {c : Int} {s : Co} {n : Int} : sel c (avgC s n) = avgI (sel c s) n := by
  unfold sel avgC; repeat' split
  all_goals rfl
def meanF (W : Int) (xs : List Int) (n x y a : Int) (q : Nat) : Co := colAt xs ((n * y + (q : Int) / a) * W + (n * x + (q : Int) % a)).toNat
def meanC (W H : Int) (xs : List Int) (n x y : Int) : Co :=
  avgC (sumC (meanF W xs n x y (min n (W - n * x))) (min n (W - n * x) * min n (H - n * y)).toNat) (min n (W - n * x) * min n (H - n * y))
structure Mn (w u : World) (ks ka kb : Nat) (s : Co) (a b : Int) : Prop where
  e : Ext w u
  s : Cs u ks (coK .i64 s)
  a : Cs u ka [i64 a]
  b : Cs u kb [i64 b]
  ne : w.heap.size ≤ ks ∧ w.heap.size ≤ ka ∧ w.heap.size ≤ kb ∧ ks ≠ ka ∧ ks ≠ kb
theorem Mn.chg {w u u' : World} {ks ka kb : Nat} {s : Co} {a b : Int} {S : Nat → Prop} (h : Mn w u ks ka kb s a b) (hC : Chg S u u') (h1 : ∀ k, S k → w.heap.size ≤ k) (h2 : ¬ S ks ∧ ¬ S ka ∧ ¬ S kb) : Mn w u' ks ka kb s a b :=
  ⟨h.e.step hC h1, h.s.chg hC h2.1, h.a.chg hC h2.2.1, h.b.chg hC h2.2.2, h.ne⟩
theorem Mn.set {w u : World} {ks ka kb : Nat} {s : Co} {a b : Int} (h : Mn w u ks ka kb s a b) {c : Int} (h0 : 0 ≤ c) (h1 : c < 4) :
    u.cell? ((⟨ks, 0, none⟩ : Addr).add (c.toNat * 1)) = some (i64 (sel c s)) ∧ u.frozen? ((⟨ks, 0, none⟩ : Addr).add (c.toNat * 1)) = false ∧ (((⟨ks, 0, none⟩ : Addr).add (c.toNat * 1)).block = ks) ∧
    ∀ v, Mn w (setCells u ((⟨ks, 0, none⟩ : Addr).add (c.toNat * 1)) [i64 v] 0) ks ka kb (upd c s v) a b := by
  obtain ⟨q1, q2, q3, q4⟩ := cs_four h.s h0 h1
  refine ⟨q1, q2, q3, fun v => ?_⟩
  obtain ⟨r1, r2, r3⟩ := q4 v
  exact ⟨h.e.step r2 fun k hk => by have hk : k = ks := hk; rw [hk]; exact h.ne.1, r1, h.a.chg r2 (fun e => h.ne.2.2.2.1 e.symm), h.b.chg r2 (fun e => h.ne.2.2.2.2 e.symm), h.ne⟩
/-- where the squares lie -/
theorem sq_in {n x W : Int} (hn : 1 ≤ n) (x0 : 0 ≤ x) (x1 : x < (W + n - 1) / n) : 0 ≤ n * x ∧ n * x < W := by
  refine ⟨Int.mul_nonneg (by omega) x0, ?_⟩
  have h := (Int.le_ediv_iff_mul_le (show 0 < n by omega)).1 (show x + 1 ≤ (W + n - 1) / n by omega)
  rw [Int.add_mul, Int.one_mul, Int.mul_comm] at h
  omega
set_option maxHeartbeats 4000000 in
theorem mean_spec {w : World} {p : Option Addr} {len cap : Nat} {W H n x y : Int} {xs : List Int} {R : Ending → World → Prop} (h : Img w p len xs) (hc : len ≤ cap) (hg : good W H xs = true) (hxs : SmL xs) (n0 : 1 ≤ n) (n1 : n ≤ 64) (x0 : 0 ≤ n * x) (x1 : n * x < W) (y0 : 0 ≤ n * y) (y1 : n * y < H)
    (hR : ∀ w', Ext w w' → R (.returned (coV (meanC W H xs n x y))) w') : Calls P F.moves_mean #[.agg #[i64 W, i64 H, .slice p len cap], i64 n, i64 x, i64 y] w R := by
  refine calls_moves_mean _ _ _ _ _ _ _ _ _ _ ?_
  obtain ⟨hf, hlen⟩ := good_iff.1 hg
  obtain ⟨g1, g2, g3, g4, g5⟩ := gfits_iff.1 hf
  have hl := h.len
  intro k1 hk1 k2 hk2 k3 hk3 k4 hk4 k5 hk5 w1 hL1 k6 w2 hn2 k7 hk7 w3 hL3
  have hE1 : Ext w w1 := hL1.ext (by simp; omega)
  have hk6 := hn2.1
  have s1 := hE1.size
  have s2 := hn2.size
  have s2' := hn2.ext.size
  have s3 := hL3.size
  have t7 := hL3.there k7 (by simp)
  have t1 := hL1.there k1 (by simp)
  have t2 := hL1.there k2 (by simp)
  have t3 := hL1.there k3 (by simp)
  have t4 := hL1.there k4 (by simp)
  have t5 := hL1.there k5 (by simp)
  have hb7 : ∀ b, b ∈ [k7, k5, k4, k3, k2, k1] → w.heap.size ≤ b := by simp; omega
  have hE3 : Ext w w3 := (hE1.trans hn2.ext).step hL3.chg hb7
  have c3 : Cs w3 k6 (coK .i64 zeroC) := hn2.cs.locl hL3 (by simp; omega)
  rw [w64 (x := n * x) (by omega) (by omega), w64 (x := n * y) (by omega) (by omega), w64 (x := W - n * x) (by omega) (by omega), w64 (x := H - n * y) (by omega) (by omega)]
  generalize ha : min n (W - n * x) = a
  generalize hb : min n (H - n * y) = b
  have a0 : 1 ≤ a ∧ a ≤ 64 ∧ n * x + a ≤ W := by omega
  have b0 : 1 ≤ b ∧ b ≤ 64 ∧ n * y + b ≤ H := by omega
  have hab : 1 ≤ a * b ∧ a * b ≤ 4096 := by
    have h1 := Int.mul_le_mul a0.1 b0.1 (by omega) (by omega)
    have h2 := Int.mul_le_mul a0.2.1 b0.2.1 (by omega) (by omega)
    omega
  have hRm : meanC W H xs n x y = avgC (sumC (meanF W xs n x y a) (a * b).toNat) (a * b) := by unfold meanC; rw [ha, hb]
  rw [hRm] at hR
  have hfo : ∀ q, CoOk (meanF W xs n x y a q) := fun q => hxs.col _
  refine places_spec fun ka kb w4 hE4 ha4 hb4 la4 lb4 ca4 cb4 => ⟨_, _, _, rfl, hE4.keep _, fun k8 w5 hrf I1 Z1 stI stZ hI0 rule => ?_⟩
  have e8 := hrf.eq
  have s5 := hrf.size
  have s4 := hE4.size
  have M5 : Mn w w5 k6 ka kb (sumC (meanF W xs n x y a) 0) a b := ⟨(hE3.trans hE4).trans hrf.ext, (c3.ext hE4).ext hrf.ext, ca4.ext hrf.ext, cb4.ext hrf.ext, by omega⟩
  let J : Nat → World → Prop := fun q u => (q : Int) ≤ a * b ∧ I1 [i64 q] u ∧ Mn w u k6 ka kb (sumC (meanF W xs n x y a) q) a b ∧ w5.heap.size ≤ u.heap.size
  refine callF_i (by kernel_rfl) ?_
  refine places_iter J a0.1 b0.1 (by omega) (by omega) (fun q u ⟨_, _, j, _⟩ => ⟨j.a.cell (i := 0) rfl, j.b.cell (i := 0) rfl⟩) ⟨by omega, hI0, M5, Nat.le_refl _⟩ (fun q u hq ⟨j0, j1, j2, j3⟩ => ?_) (fun u ⟨j0, j1, j2, j3⟩ => ?_)
  · refine rule _ _ _ _ _ j1 fun y5 y6 w11 hP11 => ?_
    have M11 := j2.chg hP11.chg (fun k hk => by have hk : k = k8 := hk; omega) (by omega)
    have s11 := hP11.size
    have m0 : 0 ≤ (q : Int) % a := Int.emod_nonneg _ (by omega)
    have m1 : (q : Int) % a < a := Int.emod_lt_of_pos _ (by omega)
    have d0 : 0 ≤ (q : Int) / a := Int.ediv_nonneg (by omega) (by omega)
    have d1 : (q : Int) / a < b := Int.ediv_lt_of_lt_mul (by omega) (by rw [Int.mul_comm]; exact hq)
    obtain ⟨p0, p1, p2, p3, p4⟩ := pixAt (x := n * x + (q : Int) % a) (y := n * y + (q : Int) / a) hf hlen (by omega) (by omega) (by omega) (by omega)
    have ry : 0 ≤ (n * y + (q : Int) / a) * W := Int.mul_nonneg (by omega) (by omega)
    have e1 : IntKind.i64.wrap (4 * IntKind.i64.wrap (IntKind.i64.wrap (IntKind.i64.wrap (IntKind.i64.wrap (n * y + (q : Int) / a) * W) + n * x) + (q : Int) % a)) = 4 * ((n * y + (q : Int) / a) * W + (n * x + (q : Int) % a)) := by
      rw [w64 (x := n * y + (q : Int) / a) (by omega) (by omega), w64 (x := (n * y + (q : Int) / a) * W) (by omega) (by omega), w64 (x := (n * y + (q : Int) / a) * W + n * x) (by omega) (by omega), w64 (x := (n * y + (q : Int) / a) * W + n * x + (q : Int) % a) (by omega) (by omega), w64 (by omega) (by omega)]
      omega
    rw [e1]
    generalize hk : (n * y + (q : Int) / a) * W + (n * x + (q : Int) % a) = K at *
    rw [w64 (x := 4 * K + 4) (by omega) (by omega)]
    have hMF : meanF W xs n x y a q = colAt xs K.toNat := by unfold meanF; rw [hk]
    have hsum : sumC (meanF W xs n x y a) (q + 1) = add4 (sumC (meanF W xs n x y a) q) (colAt xs K.toNat) := by rw [sumC, hMF]
    have hle := sumC_le (f := meanF W xs n x y a) (q := q) fun j _ => hfo j
    have hck : CoOk (colAt xs K.toNat) := hxs.col _
    generalize sumC (meanF W xs n x y a) q = s at *
    have hK : 4 * K + 4 ≤ (xs.length : Int) := p1
    refine ⟨by omega, by omega, by omega, ?_⟩
    have hsl : ∀ u, Ext w u → Sl u.heap.size u (slcBase p (4 * K).toNat cap 1) (px ((xs.drop (4 * K.toNat)).take 4)) := fun u hE => by
      refine ((h.sl.ext hE).up).part (by rw [px_length]; omega) ?_
      rw [show (4 * K).toNat = 4 * K.toNat by omega, px, List.map_take, px, List.map_drop]
      exact List.take_prefix _ _
    rw [show (4 * K + 4).toNat - (4 * K).toNat = 4 by omega]
    refine ⟨fun vs u => match vs with | [.int _ c] => 0 ≤ c ∧ c ≤ 4 ∧ Mn w u k6 ka kb (part4 c s (add4 s (colAt xs K.toNat))) a b ∧ w11.heap.size ≤ u.heap.size | _ => False, fun vs _ => match vs with | [.int _ c] => (4 - c).toNat | _ => 0,
      ⟨by omega, by omega, by rw [part4_0]; exact M11, Nat.le_refl _⟩, fun c w12 hI3 => ?_⟩
    obtain ⟨i0, i1, M12, s12⟩ := hI3
    refine brB_i (fun hlt => ?_) (fun hge w13 hL13 w14 hP14 hI14 => ?_)
    · have hlt : c < 4 := by simpa using hlt
      have hv : ((xs.drop (4 * K.toNat)).take 4).getD c.toNat 0 = sel c (colAt xs K.toNat) := by
        have hx : ∀ j : Nat, j < 4 → ((xs.drop (4 * K.toNat)).take 4).getD j 0 = xs.getD (4 * K.toNat + j) 0 := fun j hj => by
          simp only [List.getD]
          rw [List.getElem?_take, if_pos hj, List.getElem?_drop]
        rcases four i0 hlt with rfl | rfl | rfl | rfl
        · exact hx 0 (by omega)
        · exact hx 1 (by omega)
        · exact hx 2 (by omega)
        · exact hx 3 (by omega)
      refine getE (hsl w12 M12.e) (show 4 = ((xs.drop (4 * K.toNat)).take 4).length by rw [List.length_take, List.length_drop]; omega) i0 hlt fun a1 ha1 => ⟨_, ha1 _ (Ext.refl _), i0, hlt, ?_⟩
      obtain ⟨q1, q2, q3, q4⟩ := M12.set i0 hlt
      rw [hv]
      have hsm := sel_sm (c := c) hck
      have hsl2 := hle.sel c
      unfold Sm at hsm
      rw [part4_sel i0 hlt] at q1
      have q5 := q4 (sel c (add4 s (colAt xs K.toNat)))
      rw [part4_upd i0 hlt] at q5
      refine ⟨_, q1, i0, hlt, ⟨_, q1⟩, q2, by rw [q3]; simp; omega, ?_⟩
      rw [w64 (x := sel c (colAt xs K.toNat)) (by omega) (by omega), w64 (x := sel c s + sel c (colAt xs K.toNat)) (by omega) (by omega), ← sel_add, w64 (x := c + 1) (by omega) (by omega)]
      exact ⟨⟨by omega, by omega, q5, by rw [(setCells_same _ _ _ _).size]; exact s12⟩, by show (4 - (c + 1)).toNat < (4 - c).toNat; omega⟩
    · have hge : c = 4 := by simp at hge; omega
      subst hge
      rw [part4_4] at M12
      have M13 := M12.chg hL13.chg hb7 (by simp; omega)
      have M14 := M13.chg hP14.chg (fun k hk => by have hk : k = k8 := hk; omega) (by omega)
      rw [w64 (x := (q : Int) + 1) (by omega) (by omega)] at hI14
      refine .inl ⟨rfl, by omega, hI14, by rw [hsum]; exact M14, ?_⟩
      have := hL13.size
      have := hP14.size
      omega
  · have hN : (((a * b).toNat : Nat) : Int) = a * b := by omega
    rw [hN] at j1
    refine ⟨_, rfl, .inl ⟨_, j1, fun w16 hP16 k11 w17 hn17 => ?_⟩⟩
    have M16 := j2.chg hP16.chg (fun k hk => by have hk : k = k8 := hk; omega) (by omega)
    have M17 := M16.chg (S := fun _ => False) hn17.ext.chg (fun _ h => h.elim) (by simp)
    have hk11 := hn17.1
    have s16 := hP16.size
    have s17 := hn17.size
    have s17' := hn17.ext.size
    have hle := sumC_le (f := meanF W xs n x y a) (q := (a * b).toNat) fun j _ => hfo j
    rw [hN] at hle
    generalize hS : sumC (meanF W xs n x y a) (a * b).toNat = s at *
    refine ⟨_, _, _, _, M17.s.cell (i := 0) rfl, M17.s.cell (i := 1) rfl, M17.s.cell (i := 2) rfl, M17.s.cell (i := 3) rfl, ?_⟩
    refine ⟨fun vs u => match vs with | [.int _ c] => 0 ≤ c ∧ c ≤ 4 ∧ Cs u k11 (coK .u16 (part4 c zeroC (avgC s (a * b)))) ∧ Ext w u ∧ w17.heap.size ≤ u.heap.size | _ => False, fun vs _ => match vs with | [.int _ c] => (4 - c).toNat | _ => 0,
      ⟨by omega, by omega, by rw [part4_0]; exact hn17.cs, M17.e, Nat.le_refl _⟩, fun c w18 hI4 => ?_⟩
    obtain ⟨i0, i1, hcs, hE18, s18⟩ := hI4
    refine brB_i (fun hlt => ?_) (fun hge => ?_)
    · have hlt : c < 4 := by simpa using hlt
      have hget : [i64 s.1, i64 s.2.1, i64 s.2.2.1, i64 s.2.2.2][c.toNat]? = some (i64 (sel c s)) := by
        rcases four i0 hlt with rfl | rfl | rfl | rfl <;> rfl
      obtain ⟨q1, q2, q3, q4⟩ := cs_four hcs i0 hlt
      have hsl2 := hle.sel c
      have hav := avg_sm hsl2.1 hsl2.2 hab.1
      have eq1 : IntKind.u16.wrap (divZ .quo .i64 (IntKind.i64.wrap (sel c s + divZ .quo .i64 (a * b) 2)) (a * b)) = sel c (avgC s (a * b)) := by
        rw [sel_avg]
        unfold avgI at hav ⊢
        unfold Sm at hav
        rw [quoS (a := a * b) (n := 2) (by omega) (by omega) (by omega), w64 (x := sel c s + a * b / 2) (by omega) (by omega), quoS (by omega) (by omega) (by omega), wu16 (by omega) (by omega)]
      obtain ⟨r1, r2, r3⟩ := q4 (sel c (avgC s (a * b)))
      rw [part4_upd i0 hlt] at r1
      refine ⟨i0, hlt, _, hget, by omega, i0, hlt, ⟨_, q1⟩, q2, by rw [q3]; simp; omega, ?_⟩
      rw [eq1, w64 (x := c + 1) (by omega) (by omega)]
      exact ⟨⟨by omega, by omega, r1, hE18.step r2 fun k hk => by have hk : k = k11 := hk; have := M16.e.size; omega, by rw [r3]; exact s18⟩, by show (4 - (c + 1)).toNat < (4 - c).toNat; omega⟩
    · have hge : c = 4 := by simp at hge; omega
      subst hge
      rw [part4_4] at hcs
      refine ⟨_, _, _, _, hcs.cell (i := 0) rfl, hcs.cell (i := 1) rfl, hcs.cell (i := 2) rfl, hcs.cell (i := 3) rfl, fun w19 hL19 w20 hP20 => ?_⟩
      exact hR w20 ((hE18.step hL19.chg hb7).step hP20.chg fun k hk => by have hk : k = w4.heap.size := hk; have := hE3.size; omega)
end Go.Proofs.Ytdephacjcljinaa
