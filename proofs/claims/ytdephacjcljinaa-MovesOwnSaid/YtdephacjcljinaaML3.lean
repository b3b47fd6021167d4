/- Moves: arguments, sizes, places: the program's and the document's. -/
import Derived.Test.YtdephacjcljinaaML2
namespace Go.Proofs.Ytdephacjcljinaa
open Go Go.Vc Go.RowKit
set_option maxRecDepth 100000
set_option linter.unusedVariables false
set_option linter.unusedSimpArgs false

theorem Ints.lit (i : Nat) {j : Int} (hj : j = i) {w : World} {p : Option Addr} {len : Nat} {l : List Int} (h : Ints w p len l) (h1 : i < len) {F : Addr → Prop} (hF : ∀ a : Addr, w.cell? a = some (i64 (l.getD i 0)) → F a) : idx p len j 1 F := by
  subst hj
  refine h.at_ (by omega) (by omega) fun a ha => hF a ?_
  rwa [Int.toNat_natCast] at ha
theorem chk_fit {op : ByteArray} {args : List Int} (h : chkR op args = 0) : op ∈ names14 ∧ fitP args (bndOf op) := by
  unfold chkR at h
  split at h
  · rename_i hn
    split at h
    · rename_i hf
      exact ⟨nameB_iff.1 hn, fitB_iff.1 hf⟩
    · omega
  · omega
theorem crop_args {args : List Int} (h : chkR sCrop args = 0) : args.length = 4 ∧ (0 ≤ args.getD 0 0 ∧ args.getD 0 0 ≤ 4095) ∧ (0 ≤ args.getD 1 0 ∧ args.getD 1 0 ≤ 4095) ∧ (1 ≤ args.getD 2 0 ∧ args.getD 2 0 ≤ 4096) ∧ (1 ≤ args.getD 3 0 ∧ args.getD 3 0 ≤ 4096) := by
  obtain ⟨_, h1, h2⟩ := chk_fit h
  rw [show bndOf sCrop = [0, 4095, 0, 4095, 1, 4096, 1, 4096] from rfl] at h1 h2
  have hl : args.length = 4 := by simp at h1; omega
  exact ⟨hl, h2 0 (by omega), h2 1 (by omega), h2 2 (by omega), h2 3 (by omega)⟩
theorem rotate_args {args : List Int} (h : chkR sRotate args = 0) : args.length = 1 ∧ (1 ≤ args.getD 0 0 ∧ args.getD 0 0 ≤ 3) := by
  obtain ⟨_, h1, h2⟩ := chk_fit h
  rw [show bndOf sRotate = [1, 3] from rfl] at h1 h2
  have hl : args.length = 1 := by simp at h1; omega
  exact ⟨hl, h2 0 (by omega)⟩
theorem roll_args {args : List Int} (h : chkR sRoll args = 0) : args.length = 2 ∧ (-4096 ≤ args.getD 0 0 ∧ args.getD 0 0 ≤ 4096) ∧ (-4096 ≤ args.getD 1 0 ∧ args.getD 1 0 ≤ 4096) := by
  obtain ⟨_, h1, h2⟩ := chk_fit h
  rw [show bndOf sRoll = [-4096, 4096, -4096, 4096] from rfl] at h1 h2
  have hl : args.length = 2 := by simp at h1; omega
  exact ⟨hl, h2 0 (by omega), h2 1 (by omega)⟩
theorem resize_args {args : List Int} (h : chkR sResize args = 0) : args.length = 2 ∧ (1 ≤ args.getD 0 0 ∧ args.getD 0 0 ≤ 4096) ∧ (1 ≤ args.getD 1 0 ∧ args.getD 1 0 ≤ 4096) := by
  obtain ⟨_, h1, h2⟩ := chk_fit h
  rw [show bndOf sResize = [1, 4096, 1, 4096] from rfl] at h1 h2
  have hl : args.length = 2 := by simp at h1; omega
  exact ⟨hl, h2 0 (by omega), h2 1 (by omega)⟩
theorem zoom_args {args : List Int} (h : chkR sZoom args = 0) : args.length = 1 ∧ (1 ≤ args.getD 0 0 ∧ args.getD 0 0 ≤ 64) := by
  obtain ⟨_, h1, h2⟩ := chk_fit h
  rw [show bndOf sZoom = [1, 64] from rfl] at h1 h2
  have hl : args.length = 1 := by simp at h1; omega
  exact ⟨hl, h2 0 (by omega)⟩
theorem tile_args {args : List Int} (h : chkR sTile args = 0) : args.length = 2 ∧ (1 ≤ args.getD 0 0 ∧ args.getD 0 0 ≤ 64) ∧ (1 ≤ args.getD 1 0 ∧ args.getD 1 0 ≤ 64) := by
  obtain ⟨_, h1, h2⟩ := chk_fit h
  rw [show bndOf sTile = [1, 64, 1, 64] from rfl] at h1 h2
  have hl : args.length = 2 := by simp at h1; omega
  exact ⟨hl, h2 0 (by omega), h2 1 (by omega)⟩
theorem extend_args {args : List Int} (h : chkR sExtend args = 0) : args.length = 4 ∧ (0 ≤ args.getD 0 0 ∧ args.getD 0 0 ≤ 4096) ∧ (0 ≤ args.getD 1 0 ∧ args.getD 1 0 ≤ 4096) ∧ (0 ≤ args.getD 2 0 ∧ args.getD 2 0 ≤ 4096) ∧ (0 ≤ args.getD 3 0 ∧ args.getD 3 0 ≤ 4096) := by
  obtain ⟨_, h1, h2⟩ := chk_fit h
  rw [show bndOf sExtend = [0, 4096, 0, 4096, 0, 4096, 0, 4096] from rfl] at h1 h2
  have hl : args.length = 4 := by simp at h1; omega
  exact ⟨hl, h2 0 (by omega), h2 1 (by omega), h2 2 (by omega), h2 3 (by omega)⟩
theorem frame_args {args : List Int} (h : chkR sFrame args = 0) : args.length = 5 ∧ (1 ≤ args.getD 0 0 ∧ args.getD 0 0 ≤ 1024) ∧ (0 ≤ args.getD 1 0 ∧ args.getD 1 0 ≤ 65535) ∧ (0 ≤ args.getD 2 0 ∧ args.getD 2 0 ≤ 65535) ∧ (0 ≤ args.getD 3 0 ∧ args.getD 3 0 ≤ 65535) ∧ (0 ≤ args.getD 4 0 ∧ args.getD 4 0 ≤ 65535) := by
  obtain ⟨_, h1, h2⟩ := chk_fit h
  rw [show bndOf sFrame = [1, 1024, 0, 65535, 0, 65535, 0, 65535, 0, 65535] from rfl] at h1 h2
  have hl : args.length = 5 := by simp at h1; omega
  exact ⟨hl, h2 0 (by omega), h2 1 (by omega), h2 2 (by omega), h2 3 (by omega), h2 4 (by omega)⟩
theorem shrink_args {args : List Int} (h : chkR sShrink args = 0) : args.length = 1 ∧ (1 ≤ args.getD 0 0 ∧ args.getD 0 0 ≤ 64) := by
  obtain ⟨_, h1, h2⟩ := chk_fit h
  rw [show bndOf sShrink = [1, 64] from rfl] at h1 h2
  have hl : args.length = 1 := by simp at h1; omega
  exact ⟨hl, h2 0 (by omega)⟩
theorem names_cases {op : ByteArray} (h : op ∈ names14) : op = sCrop ∨ op = sFlip ∨ op = sFlop ∨ op = sRotate ∨ op = sTranspose ∨ op = sTransverse ∨ op = sRoll ∨ op = sResize ∨ op = sZoom ∨ op = sTile ∨ op = sExtend ∨ op = sFrame ∨ op = sShrink ∨ op = sTrim := by
  simpa [names14] using h
def whF (op : ByteArray) (a : List Int) (W H : Int) : Int × Int :=
  if op = sCrop then (a.getD 2 0, a.getD 3 0) else if op = sRotate then (if a.getD 0 0 = 2 then (W, H) else (H, W)) else if op = sTranspose then (H, W) else if op = sTransverse then (H, W)
  else if op = sResize then (a.getD 0 0, a.getD 1 0) else if op = sZoom then (a.getD 0 0 * W, a.getD 0 0 * H) else if op = sTile then (a.getD 0 0 * W, a.getD 1 0 * H)
  else if op = sExtend then (a.getD 0 0 + W + a.getD 2 0, a.getD 1 0 + H + a.getD 3 0) else if op = sFrame then (W + 2 * a.getD 0 0, H + 2 * a.getD 0 0)
  else if op = sShrink then ((W + a.getD 0 0 - 1) / a.getD 0 0, (H + a.getD 0 0 - 1) / a.getD 0 0) else (W, H)
abbrev two (t : Int × Int) : Value := .tuple #[i64 t.1, i64 t.2]
theorem mul_rng {a b : Int} (a0 : 0 ≤ a) (a1 : a ≤ 4096) (b0 : 0 ≤ b) (b1 : b ≤ 4096) : 0 ≤ a * b ∧ a * b ≤ 16777216 := by
  refine ⟨Int.mul_nonneg a0 b0, ?_⟩
  have := Int.mul_le_mul a1 b1 b0 (by omega)
  omega
theorem quoS {a n : Int} (h0 : 0 ≤ a) (h1 : a ≤ 2 ^ 60) (hn : 1 ≤ n) : divZ .quo .i64 a n = a / n := quoP h0 h1 hn
set_option maxHeartbeats 2000000 in
theorem size_call {w : World} {op : ByteArray} {p : Option Addr} {len cap : Nat} {args : List Int} {W H : Int} {R : Ending → World → Prop} (h : Ints w p len args) (hc : chkR op args = 0) (hg : gfits W H = true)
    (hR : ∀ w', Ext w w' → R (.returned (two (whF op args W H))) w') : callV P (fnV (szF op)) [.slice p len cap, i64 W, i64 H] w R := by
  obtain ⟨g1, g2, g3, g4, g5⟩ := gfits_iff.1 hg
  have hl := h.lth
  have hd := hR _ (Ext.refl w).drew
  have hw := hR _ (Ext.refl w)
  rcases names_cases (chk_fit hc).1 with rfl | rfl | rfl | rfl | rfl | rfl | rfl | rfl | rfl | rfl | rfl | rfl | rfl | rfl
  · -- crop
    refine callV_i (by kernel_rfl) (calls_moves_operators_fn1 _ _ _ _ _ _ _ ?_)
    obtain ⟨l4, q0, q1, q2, q3⟩ := crop_args hc
    exact Ints.lit 2 rfl h (by omega) fun a ha => ⟨_, ha, Ints.lit 3 rfl h (by omega) fun b hb => ⟨_, hb, hd⟩⟩
  · -- flip
    refine callV_i (by kernel_rfl) (calls_moves_same _ _ _ _ _ _ _ ?_)
    exact hw
  · -- flop
    refine callV_i (by kernel_rfl) (calls_moves_same _ _ _ _ _ _ _ ?_)
    exact hw
  · -- rotate
    refine callV_i (by kernel_rfl) (calls_moves_operators_fn5 _ _ _ _ _ _ _ ?_)
    obtain ⟨l1, q0⟩ := rotate_args hc
    refine Ints.lit 0 rfl h (by omega) fun a ha => ⟨_, ha, brB_i (fun hb => ?_) (fun hb => ?_)⟩
    · have hb : args.getD 0 0 = 2 := by simpa using hb
      rwa [show whF sRotate args W H = (W, H) from by rw [show whF sRotate args W H = if args.getD 0 0 = 2 then (W, H) else (H, W) from rfl, if_pos hb]] at hw
    · have hb : args.getD 0 0 ≠ 2 := by simpa using hb
      rwa [show whF sRotate args W H = (H, W) from by rw [show whF sRotate args W H = if args.getD 0 0 = 2 then (W, H) else (H, W) from rfl, if_neg hb]] at hw
  · -- transpose
    refine callV_i (by kernel_rfl) (calls_moves_aside _ _ _ _ _ _ _ ?_)
    exact hw
  · -- transverse
    refine callV_i (by kernel_rfl) (calls_moves_aside _ _ _ _ _ _ _ ?_)
    exact hw
  · -- roll
    refine callV_i (by kernel_rfl) (calls_moves_same _ _ _ _ _ _ _ ?_)
    exact hw
  · -- resize
    refine callV_i (by kernel_rfl) (calls_moves_operators_fn10 _ _ _ _ _ _ _ ?_)
    obtain ⟨l2, q0, q1⟩ := resize_args hc
    exact Ints.lit 0 rfl h (by omega) fun a ha => ⟨_, ha, Ints.lit 1 rfl h (by omega) fun b hb => ⟨_, hb, hd⟩⟩
  · -- zoom
    refine callV_i (by kernel_rfl) (calls_moves_operators_fn12 _ _ _ _ _ _ _ ?_)
    obtain ⟨l1, q0⟩ := zoom_args hc
    have m1 := mul_rng (a := args.getD 0 0) (b := W) (by omega) (by omega) (by omega) (by omega)
    have m2 := mul_rng (a := args.getD 0 0) (b := H) (by omega) (by omega) (by omega) (by omega)
    refine Ints.lit 0 rfl h (by omega) fun a ha => ⟨_, ha, Ints.lit 0 rfl h (by omega) fun b hb => ⟨_, hb, ?_⟩⟩
    rw [w64 (x := args.getD 0 0 * W) (by omega) (by omega), w64 (x := args.getD 0 0 * H) (by omega) (by omega)]
    exact hd
  · -- tile
    refine callV_i (by kernel_rfl) (calls_moves_operators_fn14 _ _ _ _ _ _ _ ?_)
    obtain ⟨l1, q0, q1⟩ := tile_args hc
    have m1 := mul_rng (a := args.getD 0 0) (b := W) (by omega) (by omega) (by omega) (by omega)
    have m2 := mul_rng (a := args.getD 1 0) (b := H) (by omega) (by omega) (by omega) (by omega)
    refine Ints.lit 0 rfl h (by omega) fun a ha => ⟨_, ha, Ints.lit 1 rfl h (by omega) fun b hb => ⟨_, hb, ?_⟩⟩
    rw [w64 (x := args.getD 0 0 * W) (by omega) (by omega), w64 (x := args.getD 1 0 * H) (by omega) (by omega)]
    exact hd
  · -- extend
    refine callV_i (by kernel_rfl) (calls_moves_operators_fn16 _ _ _ _ _ _ _ ?_)
    obtain ⟨l1, q0, q1, q2, q3⟩ := extend_args hc
    refine Ints.lit 0 rfl h (by omega) fun a ha => ⟨_, ha, Ints.lit 2 rfl h (by omega) fun b hb => ⟨_, hb, Ints.lit 1 rfl h (by omega) fun c hc => ⟨_, hc, Ints.lit 3 rfl h (by omega) fun d hd' => ⟨_, hd', ?_⟩⟩⟩⟩
    rw [w64 (x := args.getD 0 0 + W) (by omega) (by omega), w64 (x := args.getD 1 0 + H) (by omega) (by omega), w64 (x := args.getD 0 0 + W + args.getD 2 0) (by omega) (by omega), w64 (x := args.getD 1 0 + H + args.getD 3 0) (by omega) (by omega)]
    exact hd
  · -- frame
    refine callV_i (by kernel_rfl) (calls_moves_operators_fn18 _ _ _ _ _ _ _ ?_)
    obtain ⟨l1, q0, q1, q2, q3, q4⟩ := frame_args hc
    refine Ints.lit 0 rfl h (by omega) fun a ha => ⟨_, ha, Ints.lit 0 rfl h (by omega) fun b hb => ⟨_, hb, ?_⟩⟩
    rw [w64 (x := 2 * args.getD 0 0) (by omega) (by omega), w64 (x := W + 2 * args.getD 0 0) (by omega) (by omega), w64 (x := H + 2 * args.getD 0 0) (by omega) (by omega)]
    exact hd
  · -- shrink
    refine callV_i (by kernel_rfl) (calls_moves_operators_fn20 _ _ _ _ _ _ _ ?_)
    obtain ⟨l1, q0⟩ := shrink_args hc
    refine Ints.lit 0 rfl h (by omega) fun a ha => ⟨_, ha, Ints.lit 0 rfl h (by omega) fun b hb => ⟨_, hb, by omega, Ints.lit 0 rfl h (by omega) fun c hc => ⟨_, hc, Ints.lit 0 rfl h (by omega) fun d hd' => ⟨_, hd', by omega, ?_⟩⟩⟩⟩
    rw [w64 (x := W + args.getD 0 0) (by omega) (by omega), w64 (x := H + args.getD 0 0) (by omega) (by omega), w64 (x := W + args.getD 0 0 - 1) (by omega) (by omega), w64 (x := H + args.getD 0 0 - 1) (by omega) (by omega), quoS (by omega) (by omega) (by omega), quoS (by omega) (by omega) (by omega)]
    exact hd
  · -- trim
    refine callV_i (by kernel_rfl) (calls_moves_same _ _ _ _ _ _ _ ?_)
    exact hw
theorem eB {s op : ByteArray} {A B : Prop} (hA : op = s → A) (hB : op ≠ s → B) : brB (decide (op = s)) A B := brB_i (fun h => hA (by simpa using h)) (fun h => hB (by simpa using h))
set_option maxHeartbeats 2000000 in
theorem refsize_spec {w : World} {op : ByteArray} {p : Option Addr} {len cap : Nat} {args : List Int} {W H : Int} {R : Ending → World → Prop} (h : Ints w p len args) (hc : chkR op args = 0) (hg : gfits W H = true)
    (hR : ∀ w', Ext w w' → R (.returned (two (whF op args W H))) w') : Calls P F.ref21_size #[.string op, .slice p len cap, i64 W, i64 H] w R := by
  refine calls_ref21_size _ _ _ _ _ _ _ _ ?_
  obtain ⟨g1, g2, g3, g4, g5⟩ := gfits_iff.1 hg
  have hl := h.lth
  have hd := hR _ (Ext.refl w).drew
  have hw := hR _ (Ext.refl w)
  refine eB (fun e => ?_) fun n1 => eB (fun e => ?_) fun n2 => ?_
  · subst e
    obtain ⟨l4, q0, q1, q2, q3⟩ := crop_args hc
    exact Ints.lit 2 rfl h (by omega) fun a ha => ⟨_, ha, Ints.lit 3 rfl h (by omega) fun b hb => ⟨_, hb, hd⟩⟩
  · subst e
    obtain ⟨l1, q0⟩ := rotate_args hc
    refine Ints.lit 0 rfl h (by omega) fun a ha => ⟨_, ha, brB_i (fun hb => ?_) (fun hb => ?_)⟩
    · have hb : args.getD 0 0 = 2 := by simpa using hb
      rwa [show whF sRotate args W H = (W, H) from by rw [show whF sRotate args W H = if args.getD 0 0 = 2 then (W, H) else (H, W) from rfl, if_pos hb]] at hw
    · have hb : args.getD 0 0 ≠ 2 := by simpa using hb
      rwa [show whF sRotate args W H = (H, W) from by rw [show whF sRotate args W H = if args.getD 0 0 = 2 then (W, H) else (H, W) from rfl, if_neg hb]] at hw
  refine ⟨fun vs u => u = w ∧ vs = [.bool (decide (op = sTranspose ∨ op = sTransverse))], ?_, ?_⟩
  · refine eB (fun e => ⟨rfl, by simp [e]⟩) fun n3 => ⟨rfl, by simp [n3]⟩
  intro c1 w1 hI
  obtain ⟨rfl, hv⟩ := hI
  simp only [List.cons.injEq, Value.bool.injEq, and_true] at hv
  subst hv
  refine brB_i (fun hb => ?_) (fun hb => ?_)
  · have hb : op = sTranspose ∨ op = sTransverse := by simpa using hb
    rcases hb with rfl | rfl <;> exact hw
  have hb : ¬ (op = sTranspose ∨ op = sTransverse) := by simpa using hb
  have n3 : op ≠ sTranspose := fun e => hb (.inl e)
  have n4 : op ≠ sTransverse := fun e => hb (.inr e)
  refine eB (fun e => ?_) fun n5 => ?_
  · subst e
    obtain ⟨l2, q0, q1⟩ := resize_args hc
    exact Ints.lit 0 rfl h (by omega) fun a ha => ⟨_, ha, Ints.lit 1 rfl h (by omega) fun b hb => ⟨_, hb, hd⟩⟩
  refine eB (fun e => ?_) fun n6 => ?_
  · subst e
    obtain ⟨l1, q0⟩ := zoom_args hc
    have m1 := mul_rng (a := args.getD 0 0) (b := W) (by omega) (by omega) (by omega) (by omega)
    have m2 := mul_rng (a := args.getD 0 0) (b := H) (by omega) (by omega) (by omega) (by omega)
    refine Ints.lit 0 rfl h (by omega) fun a ha => ⟨_, ha, Ints.lit 0 rfl h (by omega) fun b hb => ⟨_, hb, ?_⟩⟩
    rw [w64 (x := args.getD 0 0 * W) (by omega) (by omega), w64 (x := args.getD 0 0 * H) (by omega) (by omega)]
    exact hd
  refine eB (fun e => ?_) fun n7 => ?_
  · subst e
    obtain ⟨l1, q0, q1⟩ := tile_args hc
    have m1 := mul_rng (a := args.getD 0 0) (b := W) (by omega) (by omega) (by omega) (by omega)
    have m2 := mul_rng (a := args.getD 1 0) (b := H) (by omega) (by omega) (by omega) (by omega)
    refine Ints.lit 0 rfl h (by omega) fun a ha => ⟨_, ha, Ints.lit 1 rfl h (by omega) fun b hb => ⟨_, hb, ?_⟩⟩
    rw [w64 (x := args.getD 0 0 * W) (by omega) (by omega), w64 (x := args.getD 1 0 * H) (by omega) (by omega)]
    exact hd
  refine eB (fun e => ?_) fun n8 => ?_
  · subst e
    obtain ⟨l1, q0, q1, q2, q3⟩ := extend_args hc
    refine Ints.lit 0 rfl h (by omega) fun a ha => ⟨_, ha, Ints.lit 2 rfl h (by omega) fun b hb => ⟨_, hb, Ints.lit 1 rfl h (by omega) fun c hc => ⟨_, hc, Ints.lit 3 rfl h (by omega) fun d hd' => ⟨_, hd', ?_⟩⟩⟩⟩
    rw [w64 (x := args.getD 0 0 + W) (by omega) (by omega), w64 (x := args.getD 1 0 + H) (by omega) (by omega), w64 (x := args.getD 0 0 + W + args.getD 2 0) (by omega) (by omega), w64 (x := args.getD 1 0 + H + args.getD 3 0) (by omega) (by omega)]
    exact hd
  refine eB (fun e => ?_) fun n9 => ?_
  · subst e
    obtain ⟨l1, q0, q1, q2, q3, q4⟩ := frame_args hc
    refine Ints.lit 0 rfl h (by omega) fun a ha => ⟨_, ha, Ints.lit 0 rfl h (by omega) fun b hb => ⟨_, hb, ?_⟩⟩
    rw [w64 (x := 2 * args.getD 0 0) (by omega) (by omega), w64 (x := W + 2 * args.getD 0 0) (by omega) (by omega), w64 (x := H + 2 * args.getD 0 0) (by omega) (by omega)]
    exact hd
  refine eB (fun e => ?_) fun n10 => ?_
  · subst e
    obtain ⟨l1, q0⟩ := shrink_args hc
    refine Ints.lit 0 rfl h (by omega) fun a ha => ⟨_, ha, Ints.lit 0 rfl h (by omega) fun b hb => ⟨_, hb, by omega, Ints.lit 0 rfl h (by omega) fun c hc => ⟨_, hc, Ints.lit 0 rfl h (by omega) fun d hd' => ⟨_, hd', by omega, ?_⟩⟩⟩⟩
    rw [w64 (x := W + args.getD 0 0) (by omega) (by omega), w64 (x := H + args.getD 0 0) (by omega) (by omega), w64 (x := W + args.getD 0 0 - 1) (by omega) (by omega), w64 (x := H + args.getD 0 0 - 1) (by omega) (by omega), quoS (by omega) (by omega) (by omega), quoS (by omega) (by omega) (by omega)]
    exact hd
  have e : whF op args W H = (W, H) := by
    unfold whF
    rw [if_neg n1, if_neg n2, if_neg n3, if_neg n4, if_neg n5, if_neg n6, if_neg n7, if_neg n8, if_neg n9, if_neg n10]
  rw [e] at hw
  exact hw
end Go.Proofs.Ytdephacjcljinaa
