/- Bmp: counting bits, tones, numbers of a head. -/
import Derived.Test.YtjdljddfiddnoaaDoorBM1
namespace Go.Proofs.YtjdljddfiddnoaaDoor
open Go Go.Vc Go.RowKit
set_option maxRecDepth 100000
set_option linter.unusedVariables false
set_option linter.unusedSimpArgs false

theorem ret_eq {R : Ending → World → Prop} {w : World} {v u : Value} (h : R (.returned v) w) (e : u = v) : R (.returned u) w := e ▸ h
theorem Ones_spec {m : Nat} {w : World} {R : Ending → World → Prop} (hm : m < 2 ^ 32) (hR : R (.returned (i64 (popN m))) w.drew) : Calls P F.math_bits_OnesCount32 #[u32 m] w R := by
  refine calls_math_bits_OnesCount32 _ _ _ ?_
  have s24 : shiftZ .shr .u32 (m : Int) 24 = ((m / 2 ^ 24 : Nat) : Int) := by rw [shiftZ_shr (by omega) (by omega) (by decide)]; rfl
  have s16 : shiftZ .shr .u32 (m : Int) 16 = ((m / 2 ^ 16 : Nat) : Int) := by rw [shiftZ_shr (by omega) (by omega) (by decide)]; rfl
  have s8 : shiftZ .shr .u32 (m : Int) 8 = ((m / 2 ^ 8 : Nat) : Int) := by rw [shiftZ_shr (by omega) (by omega) (by decide)]; rfl
  have a255 : ∀ x : Nat, x < 2 ^ 32 → IntKind.u32.wrap (bitsZ .and .u32 (x : Int) 255) = ((x % 256 : Nat) : Int) := fun x hx => by
    rw [bitsZ_and (by omega) (by simp [IntKind.bits]; omega) (by omega) (by decide)]
    rw [show ((x : Int).toNat &&& (255 : Int).toNat) = x % 256 by
      rw [Int.toNat_natCast, show (255 : Int).toNat = 2 ^ 8 - 1 by rfl, Nat.and_two_pow_sub_one_eq_mod]]
    exact wu32 (by omega) (by omega)
  unfold vc_math_bits_OnesCount32
  rw [s24, s16, s8, a255 _ (by omega), a255 _ (by omega), a255 _ (by omega)]
  refine ⟨by omega, by omega, by omega, by omega, by omega, by omega, by omega, by omega, ret_eq hR ?_⟩
  have h1 := popT_le (m / 2 ^ 24) (by omega)
  have h2 := popT_le (m / 2 ^ 16 % 256) (by omega)
  have h3 := popT_le (m / 2 ^ 8 % 256) (by omega)
  have h4 := popT_le (m % 256) (by omega)
  simp only [Int.toNat_natCast]
  show i64 (IntKind.i64.wrap (IntKind.u8.wrap (IntKind.u8.wrap (IntKind.u8.wrap (sixAt popT (m / 2 ^ 24) + sixAt popT (m / 2 ^ 16 % 256)) + sixAt popT (m / 2 ^ 8 % 256)) + sixAt popT (m % 256)))) = i64 (popN m)
  rw [wu8 (x := sixAt popT (m / 2 ^ 24) + sixAt popT (m / 2 ^ 16 % 256)) (by omega) (by omega), wu8 (x := sixAt popT (m / 2 ^ 24) + sixAt popT (m / 2 ^ 16 % 256) + sixAt popT (m / 2 ^ 8 % 256)) (by omega) (by omega), wu8 (x := sixAt popT (m / 2 ^ 24) + sixAt popT (m / 2 ^ 16 % 256) + sixAt popT (m / 2 ^ 8 % 256) + sixAt popT (m % 256)) (by omega) (by omega), w64 (by omega) (by omega)]
  rfl

/-- the program's table stands in its place -/
def Tab (w : World) : Prop := Sl w.heap.size w (some ⟨0, 0, none⟩) (bytes tzL)
theorem Tab.ext {w w' : World} (h : Tab w) (hE : Ext w w') : Tab w' := (Sl.ext h hE).up
theorem Trail_spec {t k : Nat} {w : World} {R : Ending → World → Prop} (hT : Tab w) (hm : 2 ^ t * (2 * k + 1) < 2 ^ 32) (hR : R (.returned (i64 t)) w) : Calls P F.math_bits_TrailingZeros32 #[u32 ((2 ^ t * (2 * k + 1) : Nat) : Int)] w R := by
  refine calls_math_bits_TrailingZeros32 _ _ _ ?_
  have ht := low_lt hm
  have hpos : 0 < 2 ^ t * (2 * k + 1) := Nat.mul_pos (Nat.two_pow_pos t) (by omega)
  have hl := low_bit hm
  generalize 2 ^ t * (2 * k + 1) = m at hm hpos hl
  have e1 : IntKind.u32.wrap (0 - (m : Int)) = ((2 ^ 32 - m : Nat) : Int) := by rw [wb32]; omega
  have e2 : IntKind.u32.wrap (bitsZ .and .u32 (m : Int) (IntKind.u32.wrap (0 - (m : Int)))) = ((2 ^ t : Nat) : Int) := by
    rw [e1, bitsZ_and (by omega) (by simp [IntKind.bits]; omega) (by omega) (by simp [IntKind.bits]; omega), Int.toNat_natCast, Int.toNat_natCast, hl]
    exact wu32 (by omega) (by have : 2 ^ t < 2 ^ 32 := (Nat.pow_lt_pow_iff_right (by omega)).2 ht; omega)
  have e3 : shiftZ .shr .u32 (IntKind.u32.wrap (IntKind.u32.wrap (bitsZ .and .u32 (m : Int) (IntKind.u32.wrap (0 - (m : Int)))) * 125613361)) 27 = (((2 ^ t * 125613361) % 2 ^ 32 / 2 ^ 27 : Nat) : Int) := by
    rw [e2, wb32, shiftZ_shr (by omega) (by omega) (by decide)]
    rw [show (27 : Int).toNat = 27 by rfl]
    omega
  have hd := tz_tab ⟨t, ht⟩
  have hlt : (2 ^ t * 125613361) % 2 ^ 32 / 2 ^ 27 < 32 := by omega
  unfold vc_math_bits_TrailingZeros32
  rw [e3]
  refine brB_f (by simp; omega) ⟨by omega, by omega, t, ?_, ?_⟩
  · have hg : (bytes tzL)[(2 ^ t * 125613361) % 2 ^ 32 / 2 ^ 27]? = some (u8 t) := by
      rw [bytes_get (by simpa [tzL] using hlt), hd]
    obtain ⟨a, h1, _, h3⟩ := hT _ _ hg
    cases h1
    rw [Int.toNat_natCast, Nat.mul_one]; exact h3
  · rw [w64 (by omega) (by omega)]; exact hR
theorem quoN {a b : Int} (h0 : 0 ≤ a) (h1 : a ≤ 2 ^ 60) (hb : 1 ≤ b) : divZ .quo .i64 a b = a / b := by
  simp only [divZ]
  rw [Int.tdiv_eq_ediv_of_nonneg h0, w64]
  · have := Int.ediv_nonneg h0 (show 0 ≤ b by omega); omega
  · have := Int.ediv_le_self b h0; omega
theorem remN {a n : Int} (h0 : 0 ≤ a) (k : IntKind) : divZ .rem k a n = a % n := by simp only [divZ]; exact Int.tmod_eq_emod_of_nonneg h0

/-! ## Tones -/
def upV (v most : Int) : Int := (65535 * v + most / 2) / most
def dnV (v most : Int) : Int := (v * most + 32767) / 65535
theorem upV_range {v most : Int} (h0 : 0 ≤ v) (h1 : v ≤ most) (h2 : 1 ≤ most) : 0 ≤ upV v most ∧ upV v most ≤ 65535 := by
  unfold upV
  refine ⟨Int.ediv_nonneg (by omega) (by omega), ?_⟩
  have : (65535 * v + most / 2) / most < 65536 := Int.ediv_lt_of_lt_mul (by omega) (by omega)
  omega
theorem dnV_range {v most : Int} (h0 : 0 ≤ v) (h1 : v ≤ 65535) (h2 : 1 ≤ most) : 0 ≤ dnV v most ∧ dnV v most ≤ most := by
  unfold dnV
  have p0 : 0 ≤ v * most := Int.mul_nonneg h0 (by omega)
  have p1 : v * most ≤ 65535 * most := Int.mul_le_mul_of_nonneg_right h1 (by omega)
  omega
theorem up_val {v most : Int} (h2 : 1 ≤ most) (h3 : most ≤ 65535) (h0 : 0 ≤ v) (h1 : v ≤ most) : IntKind.u16.wrap (divZ .quo .i64 (IntKind.i64.wrap (IntKind.i64.wrap (65535 * v) + divZ .quo .i64 most 2)) most) = upV v most := by
  have hr := upV_range h0 h1 h2
  rw [w64 (x := 65535 * v) (by omega) (by omega), quoN (a := most) (by omega) (by omega) (by omega), w64 (by omega) (by omega), quoN (by omega) (by omega) h2]
  exact wu16 hr.1 (by have := hr.2; unfold upV at this; omega)
theorem Up_spec {v most : Int} {w : World} {R : Ending → World → Prop} (h2 : 1 ≤ most) (h3 : most ≤ 65535) (h0 : 0 ≤ v) (h1 : v ≤ most) (hR : R (.returned (.tuple #[u16 (upV v most), i64 0])) w) : Calls P F.tones_Up #[i64 v, i64 most] w R := by
  refine calls_tones_Up _ _ _ _ ?_
  unfold vc_tones_Up
  refine brB_f (by simp; omega) ⟨by omega, ?_⟩
  rw [up_val h2 h3 h0 h1]; exact hR
theorem rUp_spec {v most : Int} {w : World} {R : Ending → World → Prop} (h2 : 1 ≤ most) (h3 : most ≤ 65535) (h0 : 0 ≤ v) (h1 : v ≤ most) (hR : R (.returned (.tuple #[u16 (upV v most), i64 0])) w) : Calls P F.ref08_Up #[i64 v, i64 most] w R := by
  refine calls_ref08_Up _ _ _ _ ?_
  unfold vc_ref08_Up
  refine brB_f (by simp; omega) ⟨by omega, ?_⟩
  rw [up_val h2 h3 h0 h1]; exact hR
theorem dn_val {v : Int} (h0 : 0 ≤ v) (h1 : v ≤ 65535) : divZ .quo .i64 (IntKind.i64.wrap (IntKind.i64.wrap (IntKind.i64.wrap v * 255) + 32767)) 65535 = dnV v 255 := by
  rw [w64 (x := v) (by omega) (by omega), w64 (x := v * 255) (by omega) (by omega), w64 (by omega) (by omega), quoN (by omega) (by omega) (by omega)]
  rfl
theorem Down_spec {v : Int} {w : World} {R : Ending → World → Prop} (h0 : 0 ≤ v) (h1 : v ≤ 65535) (hR : R (.returned (.tuple #[i64 (dnV v 255), i64 0])) w) : Calls P F.tones_Down #[u16 v, i64 255] w R := by
  refine calls_tones_Down _ _ _ _ ?_
  unfold vc_tones_Down
  refine brB_f (by simp) ?_
  rw [dn_val h0 h1]; exact hR
theorem rDown_spec {v : Int} {w : World} {R : Ending → World → Prop} (h0 : 0 ≤ v) (h1 : v ≤ 65535) (hR : R (.returned (.tuple #[i64 (dnV v 255), i64 0])) w) : Calls P F.ref08_Down #[u16 v, i64 255] w R := by
  refine calls_ref08_Down _ _ _ _ ?_
  unfold vc_ref08_Down
  refine brB_f (by simp) ?_
  rw [dn_val h0 h1]; exact hR
def roundV (v : Int) : Int := upV (dnV v 255) 255
theorem Round_spec {v : Int} {w : World} {R : Ending → World → Prop} (h0 : 0 ≤ v) (h1 : v ≤ 65535) (hR : R (.returned (u16 (roundV v))) w) : Calls P F.ref08_Round #[u16 v, i64 255] w R := by
  refine calls_ref08_Round _ _ _ _ ?_
  unfold vc_ref08_Round
  have hd := dnV_range h0 h1 (most := 255) (by omega)
  exact rDown_spec h0 h1 ⟨_, _, rfl, rUp_spec (by omega) (by omega) hd.1 hd.2 ⟨_, _, rfl, hR⟩⟩
theorem rdown_spec {v : Int} {w : World} {R : Ending → World → Prop} (h0 : 0 ≤ v) (h1 : v ≤ 65535) (hR : R (.returned (u8 (dnV v 255))) w) : Calls P F.ref11_down #[u16 v] w R := by
  refine calls_ref11_down _ _ _ ?_
  unfold vc_ref11_down
  have hd := dnV_range h0 h1 (most := 255) (by omega)
  refine rDown_spec h0 h1 ⟨_, _, rfl, ?_⟩
  rw [wu8 hd.1 (by omega)]; exact hR
theorem down_spec {v : Int} {w : World} {R : Ending → World → Prop} (h0 : 0 ≤ v) (h1 : v ≤ 65535) (hR : R (.returned (u8 (dnV v 255))) w) : Calls P F.bmp_Encode_fn2 #[u16 v] w R := by
  refine calls_bmp_Encode_fn2 _ _ _ ?_
  unfold vc_bmp_Encode_fn2
  have hd := dnV_range h0 h1 (most := 255) (by omega)
  refine Down_spec h0 h1 ⟨_, _, rfl, ?_⟩
  rw [wu8 hd.1 (by omega)]; exact hR

/-! ## Bits that stand side by side: the document's -/
theorem bit_at {m : Nat} {i : Int} (h0 : 0 ≤ i) (h1 : i ≤ 32) : divZ .rem .u32 (shiftZ .shr .u32 (m : Int) i) 2 = ((m / 2 ^ i.toNat % 2 : Nat) : Int) := by
  rw [shiftZ_shr (by omega) h0 (by simpa [IntKind.bits] using h1)]
  rw [remN (Int.ediv_nonneg (by omega) (Int.le_of_lt (Int.pow_pos (by omega))))]
  simp
theorem shr_at {m : Nat} {i : Int} (h0 : 0 ≤ i) (h1 : i ≤ 32) : shiftZ .shr .u32 (m : Int) i = ((m / 2 ^ i.toNat : Nat) : Int) := by
  rw [shiftZ_shr (by omega) h0 (by simpa [IntKind.bits] using h1)]
  simp
/-- the first n bits are ones -/
theorem ones_step {q n : Nat} (h : q % 2 ^ n = 2 ^ n - 1) (hb : q / 2 ^ n % 2 = 1) : q % 2 ^ (n + 1) = 2 ^ (n + 1) - 1 := by
  rw [Nat.mod_pow_succ, h, hb, Nat.pow_succ]
  have : 0 < 2 ^ n := Nat.two_pow_pos n
  omega
theorem Span_spec {m : Nat} {w : World} {R : Ending → World → Prop} (hm : m < 2 ^ 32)
    (h0 : m = 0 → R (.returned (.tuple #[i64 0, i64 0, .bool true])) w)
    (h1 : ∀ a n, conF m = some (a, n) → R (.returned (.tuple #[i64 a, i64 n, .bool true])) w)
    (h2 : ∀ a n : Int, 0 < m → conF m = none → 1 ≤ n → R (.returned (.tuple #[i64 a, i64 n, .bool false])) w) : Calls P F.ref11_Span #[u32 m] w R := by
  refine calls_ref11_Span _ _ _ ?_
  unfold vc_ref11_Span
  refine brB_i (fun h => h0 (by simp at h; omega)) fun hz => ?_
  have hpos : 0 < m := by simp at hz; omega
  obtain ⟨t, k, e⟩ := odd_part m hpos
  have ht : t < 32 := low_lt (e ▸ hm)
  refine ⟨fun vs w' => match vs with | [.int _ n] => 0 ≤ n ∧ n ≤ t ∧ w' = w | _ => False, fun vs _ => match vs with | [.int _ n] => (32 - n).toNat | _ => 0, ⟨by omega, by omega, rfl⟩, fun n w1 hI => ?_⟩
  obtain ⟨i0, i1, rfl⟩ := hI
  obtain ⟨n, rfl⟩ := Int.eq_ofNat_of_zero_le i0
  rw [wu64 (by omega) (by omega)]
  refine ⟨by omega, ?_⟩
  rw [bit_at (by omega) (by omega), Int.toNat_natCast]
  have hdiv : ∀ i, i ≤ t → m / 2 ^ i = 2 ^ (t - i) * (2 * k + 1) := fun i hi => by
    rw [e, show 2 ^ t = 2 ^ i * 2 ^ (t - i) by rw [← Nat.pow_add]; congr 1; omega, Nat.mul_assoc, Nat.mul_div_cancel_left _ (Nat.two_pow_pos i)]
  refine brB_i (fun hb => ?_) fun hb => ?_
  · have hlt : n < t := by
      rcases Nat.lt_or_ge n t with h' | h'
      · exact h'
      · have hn : n = t := by omega
        rw [hdiv n (by omega), hn] at hb
        simp at hb
    rw [w64 (by omega) (by omega)]
    exact ⟨⟨by omega, by omega, rfl⟩, by show (32 - ((n : Int) + 1)).toNat < (32 - (n : Int)).toNat; omega⟩
  have hn : n = t := by
    rcases Nat.lt_or_ge n t with h' | h'
    · exfalso
      rw [hdiv n (by omega), show t - n = (t - n - 1) + 1 by omega, Nat.pow_succ, Nat.mul_comm (2 ^ _) 2, Nat.mul_assoc] at hb
      simp at hb
    · omega
  subst hn
  have hq : m / 2 ^ n = 2 * k + 1 := by rw [hdiv n (by omega)]; simp
  have hdd : ∀ i, m / 2 ^ (n + i) = (2 * k + 1) / 2 ^ i := fun i => by rw [Nat.pow_add, ← Nat.div_div_eq_div_mul, hq]
  refine ⟨fun vs w' => match vs with | [.int _ j] => 1 ≤ j ∧ n + j ≤ 32 ∧ w' = w1 ∧ (2 * k + 1) % 2 ^ j.toNat = 2 ^ j.toNat - 1 ∧ ((n : Int) + j = 32 ∨ (2 * k + 1) / 2 ^ j.toNat % 2 = 0) | _ => False, ?_, ?_⟩
  · refine ⟨fun vs w' => match vs with | [.int _ j] => 0 ≤ j ∧ n + j ≤ 32 ∧ w' = w1 ∧ (2 * k + 1) % 2 ^ j.toNat = 2 ^ j.toNat - 1 | _ => False, fun vs _ => match vs with | [.int _ j] => (32 - j).toNat | _ => 0, ⟨by omega, by omega, rfl, by simp [Nat.mod_one]⟩, fun j w2 hJ => ?_⟩
    obtain ⟨j0, j1, rfl, j3⟩ := hJ
    obtain ⟨j, rfl⟩ := Int.eq_ofNat_of_zero_le j0
    rw [w64 (by omega) (by omega)]
    have hbit : divZ .rem .u32 (shiftZ .shr .u32 (m : Int) ((n : Int) + j)) 2 = (((2 * k + 1) / 2 ^ j % 2 : Nat) : Int) := by
      rw [bit_at (by omega) (by omega), show ((n : Int) + j).toNat = n + j by omega, hdd]
    have hj1 : (2 * k + 1) / 2 ^ j % 2 = 0 → 1 ≤ j := fun h => by
      rcases Nat.eq_zero_or_pos j with h' | h'
      · subst h'; simp at h
      · exact h'
    rw [wu64 (x := (n : Int) + j) (by omega) (by omega)]
    refine brB_i (fun hc => ⟨by omega, ?_⟩) fun hc => ?_
    · rw [hbit]
      refine brB_i (fun hb1 => ?_) fun hb1 => ?_
      · have hc : (n : Int) + j < 32 := by simpa using hc
        rw [w64 (by omega) (by omega)]
        refine ⟨⟨by omega, by omega, rfl, ?_⟩, by show (32 - ((j : Int) + 1)).toNat < (32 - (j : Int)).toNat; omega⟩
        rw [show ((j : Int) + 1).toNat = j + 1 by omega]
        rw [Int.toNat_natCast] at j3
        exact ones_step j3 (by have := beq_iff_eq.1 hb1; omega)
      · have h00 : (2 * k + 1) / 2 ^ j % 2 = 0 := by have := beq_eq_false_iff_ne.1 hb1; omega
        exact ⟨by have := hj1 h00; omega, by omega, rfl, j3, .inr (by rw [Int.toNat_natCast]; exact h00)⟩
    · have hc : ¬ (n : Int) + j < 32 := by simpa using hc
      exact ⟨by omega, by omega, rfl, j3, .inl (by omega)⟩
  · intro j w2 hI
    obtain ⟨j0, j1, rfl, j3, j4⟩ := hI
    obtain ⟨j, rfl⟩ := Int.eq_ofNat_of_zero_le (show 0 ≤ j by omega)
    rw [Int.toNat_natCast] at j3 j4
    rw [w64 (by omega) (by omega)]
    have hcon : (2 * k + 1) / 2 ^ j = 0 → conF m = some (n, j) := fun h => by
      refine conF_of (by omega) (by omega) ?_
      have := Nat.div_add_mod (2 * k + 1) (2 ^ j)
      rw [h, j3, Nat.mul_zero, Nat.zero_add] at this
      rw [e]; unfold ones; rw [this]
    have h32 : (n : Int) + j = 32 → (2 * k + 1) / 2 ^ j = 0 := fun h => by
      rw [← hdd, show n + j = 32 by omega]
      exact Nat.div_eq_of_lt hm
    refine brB_i (fun hb => h1 n j (hcon (h32 (by simpa using hb)))) fun hb => ?_
    have hb : ¬ ((n : Int) + j = 32) := by simpa using hb
    rw [wu64 (x := (n : Int) + j) (by omega) (by omega)]
    refine ⟨by omega, ?_⟩
    rw [shr_at (by omega) (by omega), show ((n : Int) + j).toNat = n + j by omega, hdd]
    by_cases hz2 : (2 * k + 1) / 2 ^ j = 0
    · rw [hz2]; exact h1 n j (hcon hz2)
    · have hf : ((((2 * k + 1) / 2 ^ j : Nat) : Int) == 0) = false := by simp only [beq_eq_false_iff_ne, ne_eq]; omega
      rw [hf]
      refine h2 n j hpos ?_ (by omega)
      cases hcf : conF m with
      | none => rfl
      | some q =>
        exfalso
        obtain ⟨b, i⟩ := q
        obtain ⟨c1, c2, c3⟩ := conF_some hcf
        rw [e] at c3
        unfold ones at c3
        rw [ones_odd c1] at c3
        obtain ⟨rfl, c4⟩ := odd_unique _ _ _ _ c3
        have hk : 2 * k + 1 = 2 ^ i - 1 := by rw [c4, ← ones_odd c1]
        have hz3 : (2 * k + 1) / 2 ^ j % 2 = 0 := by rcases j4 with h | h; exact (hb h).elim; exact h
        rcases Nat.lt_or_ge j i with hji | hji
        · obtain ⟨d, rfl⟩ : ∃ d, i = j + 1 + d := ⟨i - j - 1, by omega⟩
          have : (2 * k + 1) / 2 ^ j = 2 ^ (1 + d) - 1 := by
            rw [hk, Nat.add_assoc, Nat.pow_add]
            have p : 0 < 2 ^ j := Nat.two_pow_pos j
            have p2 : 0 < 2 ^ (1 + d) := Nat.two_pow_pos _
            refine Nat.div_eq_of_lt_le ?_ ?_
            · rw [Nat.sub_mul, Nat.one_mul, Nat.mul_comm (2 ^ (1 + d))]
              generalize 2 ^ j * 2 ^ (1 + d) = z
              omega
            · rw [show (2 ^ (1 + d) - 1 + 1) = 2 ^ (1 + d) by omega, Nat.mul_comm (2 ^ (1 + d)) (2 ^ j)]
              have : 0 < 2 ^ j * 2 ^ (1 + d) := Nat.mul_pos p p2
              generalize 2 ^ j * 2 ^ (1 + d) = z at this ⊢
              omega
          rw [this, ones_odd (by omega)] at hz3
          omega
        · apply hz2
          rw [hk]
          have p : 0 < 2 ^ i := Nat.two_pow_pos i
          exact Nat.div_eq_of_lt (by have := Nat.pow_le_pow_right (n := 2) (by omega) hji; omega)
end Go.Proofs.YtjdljddfiddnoaaDoor
