/- What bits' functions, and the laws' helpers over them, answer. -/
import Derived.Test.YthfnohbpdoklgaaVcs
import Derived.Test.YthfnohbpdoklgaaVcM
namespace Go.Proofs.Ythfnohbpdoklgaa
open Go Go.Vc Go.RowKit
set_option maxRecDepth 100000
set_option linter.unusedVariables false
set_option linter.unusedSimpArgs false

abbrev i64 (n : Int) : Value := .int .i64 n
abbrev u8 (n : Int) : Value := .int .u8 n
def bytes (xs : List Int) : List Value := xs.map u8
theorem to_bool {R : Ending → World → Prop} {w : World} {b c : Bool} (h : R (.returned (.bool b)) w) (e : b = c) : R (.returned (.bool c)) w := e ▸ h
theorem bytes_length (xs : List Int) : (bytes xs).length = xs.length := by simp [bytes]
theorem bytes_get {xs : List Int} {i : Nat} (h : i < xs.length) : (bytes xs)[i]? = some (u8 (xs.getD i 0)) := by
  simp [bytes, List.getD, h]
theorem bytes_append (xs ys : List Int) : bytes (xs ++ ys) = bytes xs ++ bytes ys := by simp [bytes]
theorem bytes_oneAll (xs : List Int) : oneAll (bytes xs) = true := by
  simp [oneAll, bytes, Value.oneCell']
/-- bytes that fit -/
def Bs (xs : List Int) : Prop := ∀ n ∈ xs, 0 ≤ n ∧ n ≤ 255

theorem clone_spec {N : Nat} {w : World} {base : Option Addr} {len cap : Nat} {xs : List Int} {R : Ending → World → Prop}
    (h : Sl N w base (bytes xs)) (hl : len = xs.length) (hsz : len ≤ 2 ^ 47)
    (hR : ∀ p k w', Ext w w' → Ow w.heap.size w'.heap.size w' p len k 1 (bytes xs) → R (.returned (.slice p len k)) w') :
    Calls P F.slices_Clone_byte #[.slice base len cap] w R := by
  refine calls_slices_Clone_byte _ _ _ _ _ ?_
  unfold vc_slices_Clone_byte
  refine brB_i (fun hn => ?_) (fun _ k1 w1 hnew => ⟨bytes xs, by rw [bytes_length]; omega, bytes_oneAll _, (h.ext hnew.ext).cells, ?_⟩)
  · have hx : xs = [] := by
      cases xs with
      | nil => rfl
      | cons x xs => obtain ⟨a, ha, _⟩ := h 0 (u8 x) rfl; subst ha; cases hn
    subst hx
    have hl0 : len = 0 := by simpa using hl
    subst hl0
    exact hR none 0 w (Ext.refl w) (Ow.nil _ _ _ _ _)
  · have hsz' := hnew.ext.size
    refine (Ow.nil w.heap.size w1.heap.size w1 (some ⟨k1, 0, none⟩) 1).app (by simp [blocks]) hsz' (Nat.le_refl _) rfl (by rw [bytes_length]; omega) (by omega) (by omega) fun p k w2 ho hc => ?_
    rw [Nat.zero_add] at ho ⊢
    exact hR p k w2 (hnew.ext.step hc fun i hi => hi.1) (by simpa using ho)

theorem own_spec {N : Nat} {w : World} {base : Option Addr} {len cap : Nat} {xs : List Int} {R : Ending → World → Prop}
    (h : Sl N w base (bytes xs)) (hl : len = xs.length) (hsz : len ≤ 2 ^ 47)
    (hR : ∀ p k w', Ext w w' → Ow w.heap.size w'.heap.size w' p len k 1 (bytes xs) → R (.returned (.slice p len k)) w') :
    Calls P F.law04_own #[.slice base len cap] w R := by
  refine calls_law04_own _ _ _ _ _ ?_
  unfold vc_law04_own
  refine fun k1 w1 hnew => ⟨bytes xs, by rw [bytes_length]; omega, bytes_oneAll _, (h.ext hnew.ext).cells, ?_⟩
  have hsz' := hnew.ext.size
  refine (Ow.nil w.heap.size w1.heap.size w1 (some ⟨k1, 0, none⟩) 1).app (by simp [blocks]) hsz' (Nat.le_refl _) rfl (by rw [bytes_length]; omega) (by omega) (by omega) fun p k w2 ho hc => ?_
  rw [Nat.zero_add] at ho ⊢
  exact hR p k w2 (hnew.ext.step hc fun i hi => hi.1) (by simpa using ho)

/-- they are alike -/
theorem same_spec {N M : Nat} {w : World} {a b : Option Addr} {la ca lb cb : Nat} {xs ys : List Int} {R : Ending → World → Prop}
    (ha : Sl N w a (bytes xs)) (hb : Sl M w b (bytes ys)) (hla : la = xs.length) (hlb : lb = ys.length) (h62 : la < 2 ^ 62)
    (hR : ∀ w', Ext w w' → R (.returned (.bool (decide (xs = ys)))) w') :
    Calls P F.ref01_Same #[.slice a la ca, .slice b lb cb] w R := by
  refine calls_ref01_Same _ _ _ _ _ _ _ _ ?_
  unfold vc_ref01_Same
  refine brB_i (fun hne => ?_) (fun heq => ?_)
  · have : xs ≠ ys := fun e => by subst e; simp [hla, hlb] at hne
    simpa [this] using hR w (Ext.refl w)
  · have hlen : xs.length = ys.length := by
      have : (la : Int) = lb := by simpa using heq
      omega
    refine ⟨fun vs w' => match vs with | [.int _ i] => 0 ≤ i ∧ i ≤ la ∧ Ext w w' ∧ ∀ j : Nat, (j : Int) < i → xs.getD j 0 = ys.getD j 0 | _ => False,
      fun vs _ => match vs with | [.int _ i] => (la - i).toNat | _ => 0, ⟨Int.le_refl _, by omega, Ext.refl w, fun j hj => by omega⟩, fun n w1 hI => ?_⟩
    obtain ⟨h0, h1, hE, hj⟩ := hI
    refine brB_i (fun hlt => ?_) (fun hge => ?_)
    · have hlt : n < la := by simpa using hlt
      refine (ha.ext hE).drew.get h0 (by rw [bytes_length]; omega) (bytes_get (by omega)) fun a1 hc1 => ⟨_, hc1, ?_⟩
      refine (hb.ext hE).drew.get h0 (by rw [bytes_length]; omega) (bytes_get (by omega)) fun a2 hc2 => ⟨_, hc2, ?_⟩
      refine brB_i (fun hne => ?_) (fun heq => ?_)
      · have : xs ≠ ys := fun e => by subst e; simp at hne
        simpa [this] using hR _ hE.drew
      · have heq : xs.getD n.toNat 0 = ys.getD n.toNat 0 := by simpa using heq
        rw [w64 (by omega) (by omega)]
        refine ⟨⟨by omega, by omega, hE.drew, fun j hj' => ?_⟩, ?_⟩
        · by_cases hjn : (j : Int) < n
          · exact hj j hjn
          · rw [show j = n.toNat by omega]; exact heq
        · show (la - (n + 1)).toNat < (la - n).toNat
          omega
    · have hge : n = la := by simp at hge; omega
      have : xs = ys := by
        refine List.ext_getElem hlen fun j h1 h2 => ?_
        have := hj j (by omega)
        simpa [List.getD, h1, h2] using this
      simpa [this] using hR _ hE


/-! ## Readers -/
/-- the place of a bit in its byte -/
def placeOf (up : Bool) (i : Int) : Int := if up then 7 - i % 8 else i % 8
def placeN (up : Bool) : FuncId := if up then F.bits_high else F.bits_low
def placeF (up : Bool) : Value := .func (.func (placeN up)) #[] #[]
theorem u64_nn {x : Int} (h0 : 0 ≤ x) (h1 : x ≤ 18446744073709551615) : IntKind.u64.wrap x = x := by
  rw [IntKind.wrap]; simp [IntKind.signed, IntKind.bits]; omega
theorem high_spec {i : Int} {w : World} {R : Ending → World → Prop} (h0 : 0 ≤ i) (h1 : i ≤ 9223372036854775807) (hR : R (.returned (.int .u64 (7 - i % 8))) w) : Calls P F.bits_high #[i64 i] w R := by
  refine calls_bits_high _ _ _ ?_
  unfold vc_bits_high
  rw [u64_nn h0 (by omega)]
  simp only [divZ]
  rw [Int.tmod_eq_emod_of_nonneg h0, u64_nn (by omega) (by omega)]
  exact hR
theorem low_spec {i : Int} {w : World} {R : Ending → World → Prop} (h0 : 0 ≤ i) (h1 : i ≤ 9223372036854775807) (hR : R (.returned (.int .u64 (i % 8))) w) : Calls P F.bits_low #[i64 i] w R := by
  refine calls_bits_low _ _ _ ?_
  unfold vc_bits_low
  rw [u64_nn h0 (by omega)]
  simp only [divZ]
  rw [Int.tmod_eq_emod_of_nonneg h0]
  exact hR
/-- a reader at block rb, its bytes in a block of S -/
structure RdAt (w : World) (q : Option Addr) (rb : Nat) (S : Nat → Prop) (bs : List Int) (k : Int) (up : Bool) : Prop where
  ptr : q = some ⟨rb, 0, none⟩
  obj : ∃ base cap, Cs w rb [.slice base bs.length cap, i64 k, .bool up, placeF up] ∧ OwnS S w base bs.length cap 1 (bytes bs)
  ne : ¬ S rb
  room : bs.length ≤ 2 ^ 47
  fit : Bs bs
  lo : 0 ≤ k
  hi : k ≤ 8 * bs.length
theorem RdAt.chg {w w' : World} {q : Option Addr} {rb : Nat} {S T : Nat → Prop} {bs : List Int} {k : Int} {up : Bool} (h : RdAt w q rb S bs k up) (hc : Chg T w w') (h1 : ¬ T rb) (h2 : ∀ b, S b → b < w.heap.size → ¬ T b) : RdAt w' q rb S bs k up := by
  obtain ⟨base, cap, h3, h4⟩ := h.obj
  exact ⟨h.ptr, ⟨base, cap, h3.chg hc h1, h4.chg hc h2⟩, h.ne, h.room, h.fit, h.lo, h.hi⟩
theorem RdAt.ext {w w' : World} {q : Option Addr} {rb : Nat} {S : Nat → Prop} {bs : List Int} {k : Int} {up : Bool} (h : RdAt w q rb S bs k up) (hc : Ext w w') : RdAt w' q rb S bs k up :=
  h.chg (T := fun _ => False) hc.chg id (fun _ _ _ h => h)
theorem Left_spec {w : World} {q : Option Addr} {rb : Nat} {S : Nat → Prop} {bs : List Int} {k : Int} {up : Bool} {R : Ending → World → Prop} (h : RdAt w q rb S bs k up)
    (hR : R (.returned (i64 (8 * bs.length - k))) w.drew) : Calls P F.bits_Reader_Left #[.pointer q] w R := by
  refine calls_bits_Reader_Left _ _ _ ?_
  have hr := h.room
  have h1 := h.lo
  have h2 := h.hi
  obtain rfl := h.ptr
  obtain ⟨base, cap, h3, h4⟩ := h.obj
  refine brB_f rfl (nn_i rfl ⟨_, _, _, h3.drew.cell (i := 0) rfl, nn_i rfl ⟨_, h3.drew.cell (i := 1) rfl, ?_⟩⟩)
  rw [w64 (x := 8 * (bs.length : Int)) (by omega) (by omega), w64 (by omega) (by omega)]
  exact hR
/-- bit i of bytes in an order -/
def bitAt (bs : List Int) (up : Bool) (i : Nat) : Int := (bs.getD (i / 8) 0 / 2 ^ (if up then 7 - i % 8 else i % 8)) % 2
/-- the number that n bits from a place on make -/
def takeV (bs : List Int) (up : Bool) (i : Nat) : Nat → Int
  | 0 => 0
  | n + 1 => if up then 2 * takeV bs up i n + bitAt bs up (i + n) else takeV bs up i n + bitAt bs up (i + n) * 2 ^ n
theorem bitAt_range (bs : List Int) (up : Bool) (i : Nat) : 0 ≤ bitAt bs up i ∧ bitAt bs up i ≤ 1 := by unfold bitAt; omega
theorem takeV_range (bs : List Int) (up : Bool) (i : Nat) : ∀ n, 0 ≤ takeV bs up i n ∧ takeV bs up i n < 2 ^ n
  | 0 => by simp [takeV]
  | n + 1 => by
    have ih := takeV_range bs up i n
    have hb := bitAt_range bs up (i + n)
    have hp : (0 : Int) < 2 ^ n := Int.pow_pos (by omega)
    rw [takeV, Int.pow_succ]
    split
    · omega
    · rcases (by omega : bitAt bs up (i + n) = 0 ∨ bitAt bs up (i + n) = 1) with e | e <;> rw [e] <;> omega
theorem placeF_calls {up : Bool} {i : Int} {w : World} {R : Ending → World → Prop} (h0 : 0 ≤ i) (h1 : i ≤ 9223372036854775807) (hR : R (.returned (.int .u64 (placeOf up i))) w) : callV P (placeF up) [i64 i] w R := by
  cases up
  · exact callV_i (by kernel_rfl) (low_spec h0 h1 (by simpa [placeOf] using hR))
  · exact callV_i (by kernel_rfl) (high_spec h0 h1 (by simpa [placeOf] using hR))
end Go.Proofs.Ythfnohbpdoklgaa
