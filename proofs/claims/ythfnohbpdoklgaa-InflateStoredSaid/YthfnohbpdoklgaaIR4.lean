/- Readers: Bytes, and the document's. -/
import Derived.Test.YthfnohbpdoklgaaIR3
namespace Go.Proofs.Ythfnohbpdoklgaa
open Go Go.Vc Go.RowKit
set_option maxRecDepth 100000
set_option linter.unusedVariables false
set_option linter.unusedSimpArgs false

def part (bs : List Int) (i n : Nat) : List Int := (bs.drop i).take n
theorem part_length {bs : List Int} {i n : Nat} (h : i + n ≤ bs.length) : (part bs i n).length = n := by simp only [part, List.length_take, List.length_drop]; omega
theorem part_prefix (bs : List Int) (i n : Nat) : bytes (part bs i n) <+: (bytes bs).drop i := by
  simp only [part, bytes, List.map_take, List.map_drop]
  exact List.take_prefix _ _
theorem Bytes_spec {w : World} {q : Option Addr} {rb : Nat} {S : Nat → Prop} {bs : List Int} {k n : Int} {up : Bool} {R : Ending → World → Prop} (h : RdAt w q rb S bs k up)
    (h1 : n < 0 → R (.returned (.tuple #[.slice none 0 0, i64 2])) w)
    (h2 : 0 ≤ n → n > bs.length - (k + 7) / 8 → R (.returned (.tuple #[.slice none 0 0, i64 5])) w.drew)
    (h3 : 0 ≤ n → n ≤ bs.length - (k + 7) / 8 → ∀ p c w', Chg (· = rb) w w' → RdAt w' q rb S bs (8 * ((k + 7) / 8 + n)) up → Ow w.heap.size w'.heap.size w' p n.toNat c 1 (bytes (part bs ((k + 7) / 8).toNat n.toNat)) → R (.returned (.tuple #[.slice p n.toNat c, i64 0])) w')
    (hn : n ≤ 9223372036854775807) :
    Calls P F.bits_Reader_Bytes #[.pointer q, i64 n] w R := by
  refine calls_bits_Reader_Bytes _ _ _ _ ?_
  have hroom := h.room
  have hlo := h.lo
  have hhi := h.hi
  have hptr := h.ptr
  obtain ⟨base, cap, h4, h5⟩ := h.obj
  have hlen := h5.2.1
  have hd := h.ext (Ext.refl w).drew
  unfold vc_bits_Reader_Bytes
  refine brB_f (by rw [hptr]; rfl) (brB_i (fun hb => h1 (by simpa using hb)) (fun hb => ?_))
  have hb : 0 ≤ n := by simpa using hb
  refine nn_i hptr ⟨_, _, _, h4.drew.cell (i := 0) rfl, border_spec hd ⟨_, rfl, Keeps.refl _, ?_⟩⟩
  rw [w64 (x := (bs.length : Int) - _) (by omega) (by omega)]
  refine brB_i (fun hgt => h2 hb (by simpa using hgt)) (fun hle => ?_)
  have hle : n ≤ bs.length - (k + 7) / 8 := by simpa using hle
  refine border_spec hd ⟨_, rfl, nn_i hptr ⟨⟨_, h4.drew.cell (i := 1) rfl⟩, h4.drew.frozen 1, ?_⟩⟩
  rw [w64 (x := (k + 7) / 8 + n) (by omega) (by omega), w64 (x := 8 * ((k + 7) / 8 + n)) (by omega) (by omega)]
  obtain ⟨p1, p2⟩ := hd.put (m := 8 * ((k + 7) / 8 + n)) (by omega) (by omega)
  have hset := h4.drew.set1 (off := 1) (v := i64 (8 * ((k + 7) / 8 + n))) (by simp)
  refine nn_i hptr ⟨_, _, _, hset.cell (i := 0) rfl, by omega, by omega, by omega, ?_⟩
  have hs : Sl (setCells w.drew ⟨rb, 1, none⟩ [i64 (8 * ((k + 7) / 8 + n))] 0).heap.size (setCells w.drew ⟨rb, 1, none⟩ [i64 (8 * ((k + 7) / 8 + n))] 0) base (bytes bs) :=
    (OwnS.chg (w := w.drew) h5 p2 (fun b hb _ e => h.ne (by have e : b = rb := e; rwa [e] at hb))).sl
  have hpl : (part bs ((k + 7) / 8).toNat n.toNat).length = n.toNat := part_length (by omega)
  have e : ((k + 7) / 8 + n).toNat - ((k + 7) / 8).toNat = n.toNat := by omega
  rw [e]
  refine clone_spec (hs.part (by rw [bytes_length]; exact hlen) (part_prefix bs ((k + 7) / 8).toNat n.toNat)) hpl.symm (by omega) fun p c w3 hE3 ho => ⟨_, _, _, rfl, ?_⟩
  have hsz : (setCells w.drew ⟨rb, 1, none⟩ [i64 (8 * ((k + 7) / 8 + n))] 0).heap.size = w.heap.size := (setCells_same _ _ _ _).size
  refine h3 hb hle p c w3 (((Chg.refl (· = rb) w).drew.trans p2 fun i hi _ => hi).trans hE3.chg fun i hi _ => hi) (p1.ext hE3) ?_
  have ho : Ow (setCells w.drew ⟨rb, 1, none⟩ [i64 (8 * ((k + 7) / 8 + n))] 0).heap.size w3.heap.size w3 p n.toNat c 1 (bytes (part bs ((k + 7) / 8).toNat n.toNat)) := ho
  rw [hsz] at ho; exact ho
theorem borderZ {k : Int} (h0 : 0 ≤ k) (h1 : k ≤ 8 * 2 ^ 47) : divZ .quo .i64 (IntKind.i64.wrap (k + 7)) 8 = (k + 7) / 8 := by
  rw [w64 (x := k + 7) (by omega) (by omega)]
  simp only [divZ]
  rw [Int.tdiv_eq_ediv_of_nonneg (by omega), w64 (by omega) (by omega)]
theorem refAlign_spec {w : World} {base : Option Addr} {len cap : Nat} {up : Bool} {k : Int} {R : Ending → World → Prop} (h0 : 0 ≤ k) (h1 : k ≤ 8 * 2 ^ 47)
    (hR : ∀ w', Ext w w' → R (.returned (.agg #[.slice base len cap, .bool up, i64 (8 * ((k + 7) / 8))])) w') : Calls P F.ref01_Align #[.agg #[.slice base len cap, .bool up, i64 k]] w R := by
  refine calls_ref01_Align _ _ _ _ _ _ _ ?_
  intro k1 hk1 k2 hk2 w1 hL1
  rw [borderZ h0 h1, w64 (x := (k + 7) / 8 * 8) (by omega) (by omega), Int.mul_comm]
  exact hR w1 (hL1.ext (by simp; omega))
theorem refBytes_spec {N : Nat} {w : World} {base : Option Addr} {len cap : Nat} {bs : List Int} {up : Bool} {k n : Int} {R : Ending → World → Prop} (h : Sl N w base (bytes bs)) (hl : len = bs.length) (hc : len ≤ cap) (hsz : len ≤ 2 ^ 47) (h0 : 0 ≤ k) (hk : k ≤ 8 * len) (hn : n ≤ 9223372036854775807)
    (h1 : n < 0 → ∀ w', Ext w w' → R (.returned (.tuple #[.agg #[.slice base len cap, .bool up, i64 k], .slice none 0 0, i64 2])) w')
    (h2 : 0 ≤ n → n > bs.length - (k + 7) / 8 → ∀ w', Ext w w' → R (.returned (.tuple #[.agg #[.slice base len cap, .bool up, i64 k], .slice none 0 0, i64 5])) w')
    (h3 : 0 ≤ n → n ≤ bs.length - (k + 7) / 8 → ∀ p c w', Ext w w' → OwnS (fun i => w.heap.size ≤ i) w' p n.toNat c 1 (bytes (part bs ((k + 7) / 8).toNat n.toNat)) → R (.returned (.tuple #[.agg #[.slice base len cap, .bool up, i64 (8 * ((k + 7) / 8 + n))], .slice p n.toNat c, i64 0])) w') :
    Calls P F.ref01_Bytes #[.agg #[.slice base len cap, .bool up, i64 k], i64 n] w R := by
  refine calls_ref01_Bytes _ _ _ _ _ _ _ _ ?_
  subst hl
  intro k1 hk1 k2 hk2
  refine brB_i (fun hb w1 hL => h1 (by simpa using hb) w1 (hL.ext (by simp; omega))) (fun hb => ?_)
  have hb : 0 ≤ n := by simpa using hb
  rw [borderZ h0 (by omega), w64 (x := (bs.length : Int) - _) (by omega) (by omega)]
  refine brB_i (fun hgt w2 hL => h2 hb (by simpa using hgt) w2 (hL.ext (by simp; omega))) (fun hle => ?_)
  have hle : n ≤ bs.length - (k + 7) / 8 := by simpa using hle
  rw [w64 (x := (k + 7) / 8 + n) (by omega) (by omega), w64 (x := 8 * ((k + 7) / 8 + n)) (by omega) (by omega)]
  refine ⟨by omega, by omega, by omega, fun w3 hL3 k5 w4 hn4 => ?_⟩
  have hE3 : Ext w w3 := hL3.ext (by simp; omega)
  have ht1 := hL3.there k1 (by simp)
  have ht2 := hL3.there k2 (by simp)
  have hE4 := hE3.trans hn4.ext
  have hs3 := hE3.size
  have hs4 := hn4.ext.size
  have hpl : (part bs ((k + 7) / 8).toNat n.toNat).length = n.toNat := part_length (by omega)
  have e : ((k + 7) / 8 + n).toNat - ((k + 7) / 8).toNat = n.toNat := by omega
  rw [e]
  refine ⟨bytes (part bs ((k + 7) / 8).toNat n.toNat), by rw [bytes_length, hpl]; omega, bytes_oneAll _, ((h.ext hE4).part (by rw [bytes_length]; exact hc) (part_prefix _ _ _)).cells, ?_⟩
  refine (OwnS.nil (fun i => w4.heap.size ≤ i) w4 (some ⟨k5, 0, none⟩) 1).app (by simp [blocks]; omega) rfl (by rw [bytes_length, hpl]; omega) (by omega) (by omega) fun p c w5 ho hc5 w6 hL6 => ?_
  have hs5 := hc5.size
  rw [Nat.zero_add] at ho ⊢
  have ho : OwnS (fun i => w4.heap.size ≤ i) w5 p n.toNat c 1 (bytes (part bs ((k + 7) / 8).toNat n.toNat)) := by simpa using ho
  refine h3 hb hle p c w6 ((hE4.step hc5 fun i hi => by omega).step hL6.chg (by simp; omega)) ((ho.chg hL6.chg (by simp; omega)).mono fun i hi _ => by omega)
end Go.Proofs.Ythfnohbpdoklgaa
