/- Inflate: zlib's wrapping, the program's and the document's. -/
import Derived.Test.YthfnohbpdoklgaaIX18
import Derived.Test.YthfnohbpdoklgaaIM3
import Derived.Test.YthfnohbpdoklgaaIR7
namespace Go.Proofs.Ythfnohbpdoklgaa
open Go Go.Vc Go.RowKit
set_option maxRecDepth 100000
set_option linter.unusedVariables false
set_option linter.unusedSimpArgs false
set_option maxHeartbeats 2000000
/-- out, error -/
def zlibR (bs : List Int) (most : Int) : List Int × Int :=
  if bs.length < 2 then ([], 5)
  else if bs.getD 0 0 % 16 ≠ 8 then ([], 43)
  else if 7 < bs.getD 0 0 / 16 then ([], 43)
  else if (256 * bs.getD 0 0 + bs.getD 1 0) % 31 ≠ 0 then ([], 43)
  else if bs.getD 1 0 / 32 % 2 = 1 then ([], 43)
  else if (rawR (bs.drop 2) most).2.2 ≠ 0 then ([], (rawR (bs.drop 2) most).2.2)
  else if thereE bs.length (2 + (rawR (bs.drop 2) most).2.1 : Nat) 4 ≠ 0 then ([], 5)
  else if getV bs (2 + (rawR (bs.drop 2) most).2.1) 4 true ≠ adV (rawR (bs.drop 2) most).1 then ([], 44)
  else ((rawR (bs.drop 2) most).1, 0)
theorem and15 : ∀ n, n < 256 → IntKind.u8.wrap (bitsZ .and .u8 ((n : Nat) : Int) 15) = ((n % 16 : Nat) : Int) := by decide +kernel
theorem and32 : ∀ n, n < 256 → ((IntKind.u8.wrap (bitsZ .and .u8 ((n : Nat) : Int) 32) != 0) = decide (n / 32 % 2 = 1)) := by decide +kernel
theorem shr4 : ∀ n, n < 256 → shiftZ .shr .u8 ((n : Nat) : Int) 4 = ((n / 16 : Nat) : Int) := by decide +kernel
theorem or8i {a b : Int} (a0 : 0 ≤ a) (a1 : a ≤ 255) (b0 : 0 ≤ b) (b1 : b ≤ 255) : IntKind.i64.wrap (bitsZ .or .i64 (shiftZ .shl .i64 (IntKind.i64.wrap a) 8) (IntKind.i64.wrap b)) = 256 * a + b := by
  rw [w64 (x := a) (by omega) (by omega), w64 (x := b) (by omega) (by omega), shiftZ_shl (by omega) (by show (8 : Int) ≤ 64; omega), show (8 : Int).toNat = 8 from rfl, w64 (x := a * 2 ^ 8) (by omega) (by omega), Int.mul_comm, bitsZ_orAdd a0 (by show _ < 2 ^ 64; omega) b0 (by omega), w64 (by omega) (by omega)]
  omega
theorem Zlib_spec {N : Nat} {w : World} {base : Option Addr} {len cap : Nat} {bs : List Int} {most : Int} {R : Ending → World → Prop} (h : Sl N w base (bytes bs)) (hl : len = bs.length) (hcp : len ≤ cap) (hsz : len ≤ 2 ^ 47) (hf : Bs bs) (hm1 : most ≤ 9223372036854775807)
    (hcap : ∀ m : Nat, (m : Int) ≤ max most 0 → m ≤ 258 * (8 * bs.length) → m ≤ 2 ^ 46)
    (hR : ∀ p c w', Ext w w' → Sl w'.heap.size w' p (bytes (zlibR bs most).1) → R (.returned (.tuple #[.slice p (zlibR bs most).1.length c, i64 (zlibR bs most).2])) w') :
    Calls P F.inflate_Zlib #[.slice base len cap, i64 most] w R := by
  refine calls_inflate_Zlib _ _ _ _ _ _ ?_
  unfold zlibR at hR
  have err : ∀ (e : Int) (w' : World), Ext w w' → (∀ p c w', Ext w w' → Sl w'.heap.size w' p (bytes (([] : List Int), e).1) → R (.returned (.tuple #[.slice p (([] : List Int), e).1.length c, i64 (([] : List Int), e).2])) w') → R (.returned (.tuple #[.slice none 0 0, i64 e])) w' := fun e w' hE h => h none 0 w' hE (Sl.nil _ _ _)
  have hE0 : Ext w w.drew := (Ext.refl w).drew
  refine brB_i (fun h2 => ?_) fun h2 => ?_
  · have h2 : bs.length < 2 := by have := of_decide_eq_true h2; omega
    rw [if_pos h2] at hR
    exact err 5 w (Ext.refl w) hR
  have h2 : ¬ bs.length < 2 := by have := of_decide_eq_false h2; omega
  rw [if_neg h2] at hR
  have hx0 := copyM_fit.fit_getD' hf 0
  have hx1 := copyM_fit.fit_getD' hf 1
  have g0 : ∀ {F : Addr → Prop}, (∀ a, w.cell? a = some (u8 (bs.getD 0 0)) → F a) → idx base len 0 1 F := fun hF => h.get (by omega) (by rw [bytes_length]; omega) (bytes_get (show (0 : Int).toNat < bs.length by simp; omega)) hF
  have g1 : ∀ {F : Addr → Prop}, (∀ a, w.cell? a = some (u8 (bs.getD 1 0)) → F a) → idx base len 1 1 F := fun hF => h.get (by omega) (by rw [bytes_length]; omega) (bytes_get (show (1 : Int).toNat < bs.length by simp; omega)) hF
  obtain ⟨a, ea⟩ : ∃ a : Nat, bs.getD 0 0 = a := ⟨(bs.getD 0 0).toNat, by omega⟩
  obtain ⟨b, eb⟩ : ∃ b : Nat, bs.getD 1 0 = b := ⟨(bs.getD 1 0).toNat, by omega⟩
  rw [ea] at g0 hx0 hR
  rw [eb] at g1 hx1 hR
  refine g0 fun a1 ha1 => ⟨_, ha1, ?_⟩
  rw [and15 a (by omega)]
  refine brB_i (fun h8 => ?_) fun h8 => ?_
  · have h8 : (a : Int) % 16 ≠ 8 := by
      simp only [bne_iff_ne, ne_eq] at h8; omega
    rw [if_pos h8] at hR
    exact err 43 _ hE0 hR
  have h8 : ¬ (a : Int) % 16 ≠ 8 := by
    simp only [bne_eq_false_iff_eq] at h8; omega
  rw [if_neg h8] at hR
  refine g0 fun a2 ha2 => ⟨_, ha2, ?_⟩
  rw [shr4 a (by omega)]
  refine brB_i (fun h7 => ?_) fun h7 => ?_
  · have h7 := of_decide_eq_true h7
    rw [if_pos (by omega)] at hR
    exact err 43 _ hE0 hR
  have h7 := of_decide_eq_false h7
  rw [if_neg (by omega)] at hR
  refine g0 fun a3 ha3 => ⟨_, ha3, g1 fun a4 ha4 => ⟨_, ha4, ?_⟩⟩
  rw [or8i (by omega) (by omega) (by omega) (by omega), remZ (by omega)]
  refine brB_i (fun h31 => ?_) fun h31 => ?_
  · have h31 : (256 * (a : Int) + b) % 31 ≠ 0 := by simpa using h31
    rw [if_pos h31] at hR
    exact err 43 _ hE0 hR
  have h31 : ¬ (256 * (a : Int) + b) % 31 ≠ 0 := by simpa using h31
  rw [if_neg h31] at hR
  refine g1 fun a5 ha5 => ⟨_, ha5, ?_⟩
  rw [and32 b (by omega)]
  refine brB_i (fun h5 => ?_) fun h5 => ?_
  · have h5 := of_decide_eq_true h5
    rw [if_pos (by omega)] at hR
    exact err 43 _ hE0 hR
  have h5 := of_decide_eq_false h5
  rw [if_neg (by omega)] at hR
  refine ⟨by omega, by omega, by omega, ?_⟩
  rw [show (2 : Int).toNat = 2 from rfl, Int.toNat_natCast]
  have hfd : Bs (bs.drop 2) := fun x hx => hf x (List.mem_of_mem_drop hx)
  have hld : (bs.drop 2).length = bs.length - 2 := List.length_drop
  have hok := rawR_ok (most := most) hfd
  generalize hr : rawR (bs.drop 2) most = r at *
  have hS : Sl N w.drew (slcBase base 2 cap 1) (bytes (bs.drop 2)) := h.part (by rw [bytes_length]; omega) (by rw [bytes, bytes, List.map_drop]; exact List.prefix_refl _)
  refine Raw_spec hS (by omega) (by omega) hfd hm1 (fun m h1 h2 => hcap m h1 (by omega)) fun p c w1 hE1 hO1 => ⟨_, _, _, _, _, rfl, ?_⟩
  have hk1 := hok.used
  have hk2 := hok.few
  have hk3 := hok.slow
  rw [hr] at hO1 hk1 hk2 hk3 ⊢
  have hcap2 := hcap _ hk2 (by omega)
  have hE1' := hE0.trans hE1
  refine brB_i (fun he => ?_) fun he => ?_
  · have he : r.2.2 ≠ 0 := by simpa using he
    rw [if_pos he] at hR
    exact err _ _ hE1' hR
  have he : ¬ r.2.2 ≠ 0 := by simpa using he
  rw [if_neg he] at hR
  rw [w64 (x := 2 + ((r.2.1 : Nat) : Int)) (by omega) (by omega), show 2 + ((r.2.1 : Nat) : Int) = ((2 + r.2.1 : Nat) : Int) by omega]
  rw [← hl] at hR
  refine Get_spec (h.ext hE1') hl hsz hf (fun hn => ⟨_, _, rfl, ?_⟩) fun hz => ⟨_, _, rfl, ?_⟩
  · rw [if_pos hn] at hR
    exact brB_t (by simpa using hn) (err 5 _ hE1' hR)
  rw [if_neg (fun g => g hz)] at hR
  refine brB_f rfl ?_
  refine Adler_spec hO1.sl rfl hO1.2.1 (by have := hok.fit; rwa [hr] at this) (by omega) ⟨_, rfl, ?_⟩
  rw [Int.toNat_natCast, show (4 : Int).toNat = 4 from rfl]
  refine brB_i (fun hne => ?_) fun heq => ?_
  · have hne : getV bs (2 + r.2.1) 4 true ≠ adV r.1 := by simpa using hne
    rw [if_pos hne] at hR
    exact err 44 _ hE1' hR
  have heq : ¬ getV bs (2 + r.2.1) 4 true ≠ adV r.1 := by simpa using heq
  rw [if_neg heq] at hR
  exact hR p c w1 hE1' hO1.sl.up
theorem refZlib_spec {N : Nat} {w : World} {base : Option Addr} {len cap : Nat} {bs : List Int} {most : Int} {R : Ending → World → Prop} (h : Sl N w base (bytes bs)) (hl : len = bs.length) (hcp : len ≤ cap) (hsz : len ≤ 2 ^ 47) (hf : Bs bs) (hm1 : most ≤ 9223372036854775807)
    (hcap : ∀ m : Nat, (m : Int) ≤ max most 0 → m ≤ 258 * (8 * bs.length) → m ≤ 2 ^ 46)
    (hR : ∀ p c w', Ext w w' → Sl w'.heap.size w' p (bytes (zlibR bs most).1) → R (.returned (.tuple #[.slice p (zlibR bs most).1.length c, i64 (zlibR bs most).2])) w') :
    Calls P F.ref04_Zlib #[.slice base len cap, i64 most] w R := by
  refine calls_ref04_Zlib _ _ _ _ _ _ ?_
  unfold zlibR at hR
  have err : ∀ (e : Int) (w' : World), Ext w w' → (∀ p c w', Ext w w' → Sl w'.heap.size w' p (bytes (([] : List Int), e).1) → R (.returned (.tuple #[.slice p (([] : List Int), e).1.length c, i64 (([] : List Int), e).2])) w') → R (.returned (.tuple #[.slice none 0 0, i64 e])) w' := fun e w' hE h => h none 0 w' hE (Sl.nil _ _ _)
  have hE0 : Ext w w.drew := (Ext.refl w).drew
  refine brB_i (fun h2 => ?_) fun h2 => ?_
  · have h2 : bs.length < 2 := by have := of_decide_eq_true h2; omega
    rw [if_pos h2] at hR
    exact err 5 w (Ext.refl w) hR
  have h2 : ¬ bs.length < 2 := by have := of_decide_eq_false h2; omega
  rw [if_neg h2] at hR
  have hx0 := copyM_fit.fit_getD' hf 0
  have hx1 := copyM_fit.fit_getD' hf 1
  have g0 : ∀ {F : Addr → Prop}, (∀ a, w.cell? a = some (u8 (bs.getD 0 0)) → F a) → idx base len 0 1 F := fun hF => h.get (by omega) (by rw [bytes_length]; omega) (bytes_get (show (0 : Int).toNat < bs.length by simp; omega)) hF
  have g1 : ∀ {F : Addr → Prop}, (∀ a, w.cell? a = some (u8 (bs.getD 1 0)) → F a) → idx base len 1 1 F := fun hF => h.get (by omega) (by rw [bytes_length]; omega) (bytes_get (show (1 : Int).toNat < bs.length by simp; omega)) hF
  obtain ⟨a, ea⟩ : ∃ a : Nat, bs.getD 0 0 = a := ⟨(bs.getD 0 0).toNat, by omega⟩
  obtain ⟨b, eb⟩ : ∃ b : Nat, bs.getD 1 0 = b := ⟨(bs.getD 1 0).toNat, by omega⟩
  rw [ea] at g0 hx0 hR
  rw [eb] at g1 hx1 hR
  have quo8 : ∀ {x c : Int}, 0 ≤ x → x ≤ 255 → 0 < c → divZ .quo .u8 x c = x / c := fun {x c} h0 h1 h2 => by
    have hle : x / c ≤ x := Int.ediv_le_self _ h0
    have hge : 0 ≤ x / c := Int.ediv_nonneg h0 (by omega)
    simp only [divZ]
    rw [Int.tdiv_eq_ediv_of_nonneg h0]
    exact wu8 hge (by omega)
  refine g0 fun a1 ha1 => ⟨_, ha1, ?_⟩
  rw [remZ (by omega)]
  refine brB_i (fun h8 => ?_) fun h8 => ?_
  · have h8 : (a : Int) % 16 ≠ 8 := by simpa using h8
    rw [if_pos h8] at hR
    exact err 43 _ hE0 hR
  have h8 : ¬ (a : Int) % 16 ≠ 8 := by simpa using h8
  rw [if_neg h8] at hR
  refine g0 fun a2 ha2 => ⟨_, ha2, ?_⟩
  rw [quo8 (by omega) (by omega) (by omega)]
  refine brB_i (fun h7 => ?_) fun h7 => ?_
  · have h7 := of_decide_eq_true h7
    rw [if_pos (by omega)] at hR
    exact err 43 _ hE0 hR
  have h7 := of_decide_eq_false h7
  rw [if_neg (by omega)] at hR
  refine g0 fun a3 ha3 => ⟨_, ha3, g1 fun a4 ha4 => ⟨_, ha4, ?_⟩⟩
  rw [w64 (x := (a : Int)) (by omega) (by omega), w64 (x := (b : Int)) (by omega) (by omega), w64 (x := 256 * (a : Int)) (by omega) (by omega), w64 (x := 256 * (a : Int) + b) (by omega) (by omega), remZ (by omega)]
  refine brB_i (fun h31 => ?_) fun h31 => ?_
  · have h31 : (256 * (a : Int) + b) % 31 ≠ 0 := by simpa using h31
    rw [if_pos h31] at hR
    exact err 43 _ hE0 hR
  have h31 : ¬ (256 * (a : Int) + b) % 31 ≠ 0 := by simpa using h31
  rw [if_neg h31] at hR
  refine g1 fun a5 ha5 => ⟨_, ha5, ?_⟩
  rw [quo8 (by omega) (by omega) (by omega), remZ (by omega)]
  refine brB_i (fun h5 => ?_) fun h5 => ?_
  · have h5 : (b : Int) / 32 % 2 = 1 := by simpa using h5
    rw [if_pos (by omega)] at hR
    exact err 43 _ hE0 hR
  have h5 : ¬ (b : Int) / 32 % 2 = 1 := by simpa using h5
  rw [if_neg (by omega)] at hR
  refine ⟨by omega, by omega, by omega, ?_⟩
  rw [show (2 : Int).toNat = 2 from rfl, Int.toNat_natCast]
  have hfd : Bs (bs.drop 2) := fun x hx => hf x (List.mem_of_mem_drop hx)
  have hld : (bs.drop 2).length = bs.length - 2 := List.length_drop
  have hok := rawR_ok (most := most) hfd
  generalize hr : rawR (bs.drop 2) most = r at *
  have hS : Sl N w.drew (slcBase base 2 cap 1) (bytes (bs.drop 2)) := h.part (by rw [bytes_length]; omega) (by rw [bytes, bytes, List.map_drop]; exact List.prefix_refl _)
  refine refRaw_spec hS (by omega) (by omega) (by omega) hfd hm1 (fun m h1 h2 => hcap m h1 (by omega)) fun p c w1 hE1 hO1 => ⟨_, _, _, _, _, rfl, ?_⟩
  have hk1 := hok.used
  have hk2 := hok.few
  have hk3 := hok.slow
  rw [hr] at hO1 hk1 hk2 hk3 ⊢
  have hcap2 := hcap _ hk2 (by omega)
  have hE1' := hE0.trans hE1
  refine brB_i (fun he => ?_) fun he => ?_
  · have he : r.2.2 ≠ 0 := by simpa using he
    rw [if_pos he] at hR
    exact err _ _ hE1' hR
  have he : ¬ r.2.2 ≠ 0 := by simpa using he
  rw [if_neg he] at hR
  rw [w64 (x := 2 + ((r.2.1 : Nat) : Int)) (by omega) (by omega), show 2 + ((r.2.1 : Nat) : Int) = ((2 + r.2.1 : Nat) : Int) by omega]
  rw [← hl] at hR
  refine refGet_spec (h.ext hE1') hl hsz hf (fun hn => ⟨_, _, rfl, ?_⟩) fun hz => ⟨_, _, rfl, ?_⟩
  · rw [if_pos hn] at hR
    exact brB_t (by simpa using hn) (err 5 _ hE1' hR)
  rw [if_neg (fun g => g hz)] at hR
  refine brB_f rfl ?_
  refine refAdler_spec hO1.sl rfl (by have := hok.fit; rwa [hr] at this) (by omega) ⟨_, rfl, ?_⟩
  rw [Int.toNat_natCast, show (4 : Int).toNat = 4 from rfl]
  refine brB_i (fun hne => ?_) fun heq => ?_
  · have hne : getV bs (2 + r.2.1) 4 true ≠ adV r.1 := by simpa using hne
    rw [if_pos hne] at hR
    exact err 44 _ hE1' hR
  have heq : ¬ getV bs (2 + r.2.1) 4 true ≠ adV r.1 := by simpa using heq
  rw [if_neg heq] at hR
  exact hR p c w1 hE1' hO1.sl
end Go.Proofs.Ythfnohbpdoklgaa
