/- Quant: the nearest colour for each pixel: the program's. -/
import Derived.Test.YtijplekhbpigiaaQS9
namespace Go.Proofs.Ytijplekhbpigiaa
open Go Go.Vc Go.RowKit Go.Qn
set_option maxRecDepth 100000
set_option linter.unusedVariables false
set_option linter.unusedSimpArgs false
set_option maxHeartbeats 4000000

abbrev u8 (n : Int) : Value := .int .u8 n
def bytes (xs : List Int) : List Value := xs.map u8
theorem bytes_length (xs : List Int) : (bytes xs).length = xs.length := by simp [bytes]
theorem bytes_get {xs : List Int} {i : Nat} (h : i < xs.length) : (bytes xs)[i]? = some (u8 (xs.getD i 0)) := by simp [bytes, List.getD, h]
theorem bytes_append (xs ys : List Int) : bytes (xs ++ ys) = bytes xs ++ bytes ys := by simp [bytes]
theorem bytes_oneAll (xs : List Int) : oneAll (bytes xs) = true := by simp [oneAll, bytes, Value.oneCell']
/-- colours and what was found for them -/
def kvI (pal ms : List Co) : List (Value × Value) := ms.map fun c => (.agg (co c).toArray, i64 (nearV pal c))
theorem mfind_kvI (pal : List Co) (c : Co) : ∀ ms : List Co, mfind (.agg (co c).toArray) (kvI pal ms) = if c ∈ ms then some (i64 (nearV pal c)) else none
  | [] => rfl
  | d :: ms => by
    have ih := mfind_kvI pal c ms
    show (match keyEq (.agg (co c).toArray) (.agg (co d).toArray) with | true => some (i64 (nearV pal d)) | false => mfind (.agg (co c).toArray) (kvI pal ms)) = _
    rw [keyEq_co]
    by_cases h : c = d
    · subst h; simp
    · simp [h, ih]
theorem mgot_kvI (pal : List Co) (c : Co) (ms : List Co) : mgot (kvI pal ms) (.agg (co c).toArray) (i64 0) = (i64 (if c ∈ ms then nearV pal c else 0), decide (c ∈ ms)) := by
  unfold mgot; rw [mfind_kvI]
  by_cases h : c ∈ ms <;> simp [h]
theorem mput_kvI (pal : List Co) (c : Co) : ∀ ms : List Co, c ∉ ms → mput (.agg (co c).toArray) (i64 (nearV pal c)) (kvI pal ms) = kvI pal (ms ++ [c])
  | [], _ => rfl
  | d :: ms, h => by
    have ih := mput_kvI pal c ms (fun hm => h (by simp [hm]))
    show (match keyEq (.agg (co c).toArray) (.agg (co d).toArray) with | true => ((Value.agg (co c).toArray, i64 (nearV pal c)) :: kvI pal ms) | false => (Value.agg (co d).toArray, i64 (nearV pal d)) :: mput (.agg (co c).toArray) (i64 (nearV pal c)) (kvI pal ms)) = (Value.agg (co d).toArray, i64 (nearV pal d)) :: kvI pal (ms ++ [c])
    rw [keyEq_co]
    have : c ≠ d := fun e => h (by simp [e])
    simp [this, ih]
/-- a pixel's index -/
def idxV (pal : List Co) (c : Co) : Int := IntKind.u8.wrap (if noneV pal < 0 ∨ clearC c = false then nearV pal (eightC c) else noneV pal)
def appR (W H : Int) (xs : List Int) (pal : List Co) : Int × Int × List Co × List Int × Int :=
  if good W H xs then (if pal.length < 1 ∨ 256 < pal.length then (0, 0, [], [], 2) else (W, H, pal, (colsOf xs (W * H).toNat).map (idxV pal), 0)) else (0, 0, [], [], 6)
/-- two slices made since w, apart -/
structure Pald (w w' : World) (p : Option Addr) (n c : Nat) (pal : List Co) (q : Option Addr) (m d : Nat) (ix : List Int) : Prop where
  ext : Ext w w'
  two : ∃ S1 S2 : Nat → Prop, (∀ i, S1 i → w.heap.size ≤ i) ∧ (∀ i, S2 i → w.heap.size ≤ i) ∧ (∀ i, S1 i → ¬ S2 i) ∧ OwB S1 w' p n c 4 (cos pal) ∧ OwB S2 w' q m d 1 (bytes ix)
theorem Pald.nil {w w' : World} (h : Ext w w') : Pald w w' none 0 0 [] none 0 0 [] := ⟨h, fun _ => False, fun _ => False, fun _ h => h.elim, fun _ h => h.elim, fun _ h => h.elim, OwB.nil _ _ _, OwB.nil _ _ _⟩
/-- what goes on while pixels are gone through: the indices, the loop's function, the palette, the grid, the map -/
structure Ap (w u : World) (lo : List Nat) (kb bP gb cb mb : Nat) (g : Option Addr) (W H : Int) (l pal : List Co) (rest : List Value) (ms : List Co) (q : Option Addr) (k c : Nat) (ix : List Int) : Prop where
  fg : Fg (lo ++ [kb, bP, gb, cb, mb]) w u 1 q k c (bytes ix)
  it : Cs u kb [.pointer g]
  pl : Cs u bP (cos pal ++ rest)
  gr : GridC u g gb cb W H l
  mp : Mp kdC u mb (kvI pal ms)
  dj : ∀ b, b ∈ lo → b ≠ kb ∧ b ≠ bP ∧ b ≠ gb ∧ b ≠ cb ∧ b ≠ mb
  dm : mb ≠ kb ∧ mb ≠ bP ∧ mb ≠ gb ∧ mb ≠ cb
section
variable {w u u' : World} {lo : List Nat} {kb bP gb cb mb : Nat} {g : Option Addr} {W H : Int} {l pal : List Co} {rest : List Value} {ms : List Co} {q : Option Addr} {k c : Nat} {ix : List Int}
theorem Ap.there (h : Ap w u lo kb bP gb cb mb g W H l pal rest ms q k c ix) : ∀ b, b ∈ lo ++ [kb, bP, gb, cb, mb] → b < u.heap.size := fun b hb => (h.fg.avs b hb).2
theorem Ap.five (h : Ap w u lo kb bP gb cb mb g W H l pal rest ms q k c ix) : kb < u.heap.size ∧ bP < u.heap.size ∧ gb < u.heap.size ∧ cb < u.heap.size ∧ mb < u.heap.size :=
  ⟨h.there kb (by simp), h.there bP (by simp), h.there gb (by simp), h.there cb (by simp), h.there mb (by simp)⟩
theorem Ap.locl {bs : List Nat} (h : Ap w u lo kb bP gb cb mb g W H l pal rest ms q k c ix) (hL : Locl bs u u') (hb : ∀ b, b ∈ bs → b ∈ lo ∨ u.heap.size ≤ b) : Ap w u' (bs ++ lo) kb bP gb cb mb g W H l pal rest ms q k c ix := by
  obtain ⟨f1, f2, f3, f4, f5⟩ := h.five
  have hd : ∀ b, b ∈ bs → b ≠ kb ∧ b ≠ bP ∧ b ≠ gb ∧ b ≠ cb ∧ b ≠ mb := fun b hm => by
    rcases hb b hm with hx | hx
    · exact h.dj b hx
    · omega
  refine ⟨?_, h.it.locl hL fun hm => (hd _ hm).1 rfl, h.pl.locl hL fun hm => (hd _ hm).2.1 rfl, h.gr.chg hL.chg (fun hm => (hd _ hm).2.2.1 rfl) (fun hm => (hd _ hm).2.2.2.1 rfl), h.mp.same (hL.block mb f5 fun hm => (hd _ hm).2.2.2.2 rfl), fun b hm => ?_, h.dm⟩
  · rw [List.append_assoc]
    exact h.fg.push hL fun b hm => (hb b hm).imp (List.mem_append_left _) id
  · rcases List.mem_append.1 hm with hm | hm
    · exact hd b hm
    · exact h.dj b hm
theorem Ap.mono {lo' : List Nat} (h : Ap w u lo kb bP gb cb mb g W H l pal rest ms q k c ix) (hl : ∀ b, b ∈ lo' → b ∈ lo) : Ap w u lo' kb bP gb cb mb g W H l pal rest ms q k c ix :=
  ⟨h.fg.mono fun b hb => by rcases List.mem_append.1 hb with hb | hb; exact List.mem_append_left _ (hl b hb); exact List.mem_append_right _ hb, h.it, h.pl, h.gr, h.mp, fun b hb => h.dj b (hl b hb), h.dm⟩
theorem Ap.ext (h : Ap w u lo kb bP gb cb mb g W H l pal rest ms q k c ix) (hE : Ext u u') : Ap w u' lo kb bP gb cb mb g W H l pal rest ms q k c ix :=
  ⟨h.fg.step hE, h.it.ext hE, h.pl.ext hE, h.gr.ext hE, h.mp.same (hE.block mb h.five.2.2.2.2), h.dj, h.dm⟩
theorem Ap.put {D : Nat} (h : Ap w u lo kb bP gb cb mb g W H l pal rest ms q k c ix) (hP : Put D u u') (hD : D ∈ lo) : Ap w u' lo kb bP gb cb mb g W H l pal rest ms q k c ix :=
  (h.locl (hP.locl (h.there D (List.mem_append_left _ hD))) fun b hb => by simp at hb; rw [hb]; exact .inl hD).mono fun b hb => List.mem_append_right _ hb
/-- the map turns -/
theorem Ap.map {ms' : List Co} (h : Ap w u lo kb bP gb cb mb g W H l pal rest ms q k c ix) (hP : Put mb u u') (hm : Mp kdC u' mb (kvI pal ms')) : Ap w u' lo kb bP gb cb mb g W H l pal rest ms' q k c ix := by
  obtain ⟨d1, d2, d3, d4⟩ := h.dm
  refine ⟨(h.fg.push (hP.locl h.five.2.2.2.2) (by simp)).mono fun b hb => List.mem_append_right _ hb, h.it.put hP (Ne.symm d1), h.pl.put hP (Ne.symm d2), h.gr.chg hP.chg (fun e => d3 (by exact e.symm)) (fun e => d4 (by exact e.symm)), hm, h.dj, h.dm⟩
end
end Go.Proofs.Ytijplekhbpigiaa
