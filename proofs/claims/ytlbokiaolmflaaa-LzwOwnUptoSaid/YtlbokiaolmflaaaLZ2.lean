/- LZW: the program's reader. -/
import Derived.Test.YtlbokiaolmflaaaLZ1
namespace Go.Proofs.Ytlbokiaolmflaaa
open Go Go.Vc Go.RowKit
set_option maxRecDepth 100000
set_option linter.unusedVariables false
set_option linter.unusedSimpArgs false

def initS (w0 : Nat) : LS := ⟨0, w0, none, [], [], []⟩
def ahI : Option Nat → Int
  | none => -1
  | some a => a
/-- what a code makes of the state, if it isn't refused; the string that it gives -/
def tOf (cl : Nat) (s : LS) (v : Nat) : List Int := match s.ah with | none => [(v : Int)] | some a => givenS cl s a v
def nextS (cl early : Nat) (s : LS) (v : Nat) : LS := match s.ah with
  | none => ⟨s.pos + s.wd, s.wd, some v, s.A, s.T, s.out ++ [(v : Int)]⟩
  | some a => if cl + 2 + s.T.length < 4096 then ⟨s.pos + s.wd, wid early (cl + 2 + s.T.length) s.wd, some v, s.A ++ [a], s.T ++ [strOf cl s.T a ++ [(givenS cl s a v).headD 0]], s.out ++ givenS cl s a v⟩
    else ⟨s.pos + s.wd, s.wd, some v, s.A, s.T, s.out ++ givenS cl s a v⟩
def badC (cl : Nat) (s : LS) (v : Nat) : Prop := match s.ah with
  | none => cl < v
  | some _ => cl + 2 + s.T.length < v ∨ (v = cl + 2 + s.T.length ∧ 4096 ≤ cl + 2 + s.T.length)
instance (cl : Nat) (s : LS) (v : Nat) : Decidable (badC cl s v) := by unfold badC; split <;> infer_instance
theorem lz_step {bs : List Int} {up : Bool} {cl w0 early : Nat} {most : Int} {F : Nat} {s : LS} : lz bs up cl w0 early most (F + 1) s =
    if 8 * bs.length < s.pos + s.wd then ([], 5) else
    if (takeV bs up s.pos s.wd).toNat = cl then lz bs up cl w0 early most F ⟨s.pos + s.wd, w0, none, [], [], s.out⟩
    else if (takeV bs up s.pos s.wd).toNat = cl + 1 then (s.out, 0)
    else if badC cl s (takeV bs up s.pos s.wd).toNat then ([], 32)
    else if most < (s.out.length + (tOf cl s (takeV bs up s.pos s.wd).toNat).length : Nat) then ([], 3) else lz bs up cl w0 early most F (nextS cl early s (takeV bs up s.pos s.wd).toNat) := by
  obtain ⟨pos, wd, ah, A, T, out⟩ := s
  cases ah with
  | none => rfl
  | some a =>
    rw [lz]
    simp only [badC, tOf, nextS, givenS]
    repeat' split
    all_goals first | rfl | (simp_all; done) | omega
structure Nxt (cl early : Nat) (s : LS) (v : Nat) : Prop where
  inv : Inv cl (nextS cl early s v)
  out : (nextS cl early s v).out = s.out ++ tOf cl s v
  pos : (nextS cl early s v).pos = s.pos + s.wd
  ah : (nextS cl early s v).ah = some v
  str : strOf cl (nextS cl early s v).T v = tOf cl s v
  code : vcode cl (nextS cl early s v).T.length v
  fit : Bs (tOf cl s v)
  one : 1 ≤ (tOf cl s v).length
  most : (tOf cl s v).length ≤ 4096
theorem Inv.nxt {cl early : Nat} {s : LS} (h : Inv cl s) {v : Nat} (h1 : v ≠ cl) (h2 : v ≠ cl + 1) (hb : ¬ badC cl s v) : Nxt cl early s v := by
  have hcl := h.cl256
  rcases hah : s.ah with _ | a
  · have hv : v < cl := by simp only [badC, hah] at hb; omega
    have e1 : nextS cl early s v = ⟨s.pos + s.wd, s.wd, some v, s.A, s.T, s.out ++ [(v : Int)]⟩ := by simp only [nextS, hah]
    have e2 : tOf cl s v = [(v : Int)] := by simp only [tOf, hah]
    have hn := h.first hv
    refine ⟨by rw [e1]; exact hn, by rw [e1, e2], by rw [e1], by rw [e1], by rw [e1, e2]; exact strOf_lt _ hv, by rw [e1]; exact .inl hv, by rw [e2]; exact Bs.single (by omega), by rw [e2]; simp, by rw [e2]; simp⟩
  · have hb' : ¬ (cl + 2 + s.T.length < v ∨ (v = cl + 2 + s.T.length ∧ 4096 ≤ cl + 2 + s.T.length)) := by simpa only [badC, hah] using hb
    have hv : vcode cl (s.T.length + 1) v := by unfold vcode; omega
    have hf : v = cl + 2 + s.T.length → cl + 2 + s.T.length < 4096 := by omega
    have e2 : tOf cl s v = givenS cl s a v := by simp only [tOf, hah]
    obtain ⟨g1, g2, g3⟩ := h.given hah hv hf
    have hfull := h.full
    have hva := h.ahv a hah
    by_cases hn : cl + 2 + s.T.length < 4096
    · have e1 : nextS cl early s v = ⟨s.pos + s.wd, wid early (cl + 2 + s.T.length) s.wd, some v, s.A ++ [a], s.T ++ [strOf cl s.T a ++ [(givenS cl s a v).headD 0]], s.out ++ givenS cl s a v⟩ := by simp only [nextS, hah, if_pos hn]
      refine ⟨by rw [e1]; exact h.next hah hv hf hn, by rw [e1, e2], by rw [e1], by rw [e1], ?_, by rw [e1]; simpa using hv, by rw [e2]; exact g1, by rw [e2]; exact g2, by rw [e2]; exact g3⟩
      rw [e1, e2]
      simp only
      by_cases hvn : v = cl + 2 + s.T.length
      · have e3 : givenS cl s a v = strOf cl s.T a ++ [(strOf cl s.T a).headD 0] := by simp only [givenS, if_pos hvn]
        rw [strOf_ge _ (by omega), show v - cl - 2 = s.T.length by omega, getD_append_last, e3]
        have := (h.str hva).2.1
        cases hc : strOf cl s.T a with
        | nil => rw [hc] at this; simp at this
        | cons x l => rfl
      · have e3 : givenS cl s a v = strOf cl s.T v := by simp only [givenS, if_neg hvn]
        rw [e3, strOf_app _ (by unfold vcode at *; omega)]
    · have e1 : nextS cl early s v = ⟨s.pos + s.wd, s.wd, some v, s.A, s.T, s.out ++ givenS cl s a v⟩ := by simp only [nextS, hah, if_neg hn]
      have hvn : v ≠ cl + 2 + s.T.length := by omega
      refine ⟨by rw [e1]; exact h.keep hah hv (by omega) hvn, by rw [e1, e2], by rw [e1], by rw [e1], ?_, by rw [e1]; unfold vcode at *; simp only; omega, by rw [e2]; exact g1, by rw [e2]; exact g2, by rw [e2]; exact g3⟩
      rw [e1, e2]
      simp only [givenS, if_neg hvn]

/-! ## the program's memory -/
def rdLeft (bs : List Int) (rb : Nat) (u : World) : Nat := match u.cell? ⟨rb, 1, none⟩ with
  | some (.int _ n) => (8 * bs.length - n).toNat
  | _ => 0
theorem RdAt.left {w : World} {q : Option Addr} {rb : Nat} {S : Nat → Prop} {bs : List Int} {k : Int} {up : Bool} (h : RdAt w q rb S bs k up) : rdLeft bs rb w = (8 * bs.length - k).toNat := by
  obtain ⟨base, cap, h3, h4⟩ := h.obj
  unfold rdLeft
  rw [h3.cell (i := 1) rfl]
structure UM (w u : World) (f : Nat → Nat) (L : List Nat) (rb : Nat) (S : Nat → Prop) (bs : List Int) (pos : Nat) (up : Bool) (tb : List En) (out : List Int) (p3 : Option Addr) (k4 k5 : Nat) (p4 : Option Addr) (k6 k7 : Nat) : Prop where
  pal : Pal w u f (rb :: L)
  rd : RdAt u (some ⟨rb, 0, none⟩) rb S bs pos up
  sf : ∀ b, S b → f b = 0 ∧ b < u.heap.size
  nk : ∀ b, b ∈ L → ¬ S b ∧ b ≠ rb
  tab : Th w u f 1 p3 k4 k5 4 (cellsF ent tb)
  out : Th w u f 2 p4 k6 k7 1 (bytes out)
section
variable {w u u' : World} {f : Nat → Nat} {L : List Nat} {rb : Nat} {S : Nat → Prop} {bs : List Int} {pos : Nat} {up : Bool} {tb : List En} {out : List Int} {p3 p4 : Option Addr} {k4 k5 k6 k7 : Nat}
theorem UM.dr (h : UM w u f L rb S bs pos up tb out p3 k4 k5 p4 k6 k7) : UM w u.drew f L rb S bs pos up tb out p3 k4 k5 p4 k6 k7 :=
  ⟨h.pal.same (Z := fun _ => False) (Ext.refl u).drew.chg fun _ _ h => h.elim, h.rd.ext (Ext.refl u).drew, h.sf, h.nk, h.tab, h.out⟩
theorem UM.mono {L' : List Nat} (h : UM w u f L rb S bs pos up tb out p3 k4 k5 p4 k6 k7) (hL : ∀ b, b ∈ L' → b ∈ L) : UM w u f L' rb S bs pos up tb out p3 k4 k5 p4 k6 k7 :=
  ⟨h.pal.mono fun b hb => by rcases List.mem_cons.1 hb with hb | hb; exact List.mem_cons.2 (.inl hb); exact List.mem_cons.2 (.inr (hL b hb)), h.rd, h.sf, fun b hb => h.nk b (hL b hb), h.tab, h.out⟩
theorem UM.k4e (h : UM w u f L rb S bs pos up tb out p3 k4 k5 p4 k6 k7) : k4 = tb.length := by
  have := h.tab.1
  rw [cellsF_length ent_length] at this; omega
theorem UM.k6e (h : UM w u f L rb S bs pos up tb out p3 k4 k5 p4 k6 k7) : k6 = out.length := by
  have := h.out.len
  rw [bytes_length] at this; omega
theorem UM.rb0 (h : UM w u f L rb S bs pos up tb out p3 k4 k5 p4 k6 k7) : f rb = 0 ∧ rb < u.heap.size ∧ w.heap.size ≤ rb := by
  have := h.pal.av rb (by simp); exact ⟨this.2.2, this.2.1, this.1⟩
theorem UM.take {k : Int} (h : UM w u f L rb S bs pos up tb out p3 k4 k5 p4 k6 k7) (hC : Chg (· = rb) u u') {pos' : Nat} (hr : RdAt u' (some ⟨rb, 0, none⟩) rb S bs k up) (hk : k = pos') : UM w u' f L rb S bs pos' up tb out p3 k4 k5 p4 k6 k7 := by
  subst hk
  have h0 := h.rb0
  refine ⟨h.pal.same hC fun b _ hb => by have hb : b = rb := hb; omega, hr, fun b hb => ⟨(h.sf b hb).1, Nat.lt_of_lt_of_le (h.sf b hb).2 hC.size⟩, h.nk, h.tab.same hC fun b _ hf _ hb => ?_, h.out.same hC fun b _ hf _ hb => ?_⟩
  · have hb : b = rb := hb
    subst hb; omega
  · have hb : b = rb := hb
    subst hb; omega
theorem UM.locl {bs' : List Nat} (h : UM w u f L rb S bs pos up tb out p3 k4 k5 p4 k6 k7) (hL : Locl bs' u u') (hb : ∀ b, b ∈ bs' → b ∈ L ∨ u.heap.size ≤ b) : UM w u' (fOn f u.heap.size 0) (bs' ++ L) rb S bs pos up tb out p3 k4 k5 p4 k6 k7 := by
  have h0 := h.rb0
  obtain ⟨hP, hT⟩ := h.pal.locl hL (fun b hm => by rcases hb b hm with h | h; exact .inl (List.mem_cons.2 (.inr h)); exact .inr h)
  have hno : ∀ b, b ∈ bs' → ¬ S b ∧ b ≠ rb := fun b hm => by
    rcases hb b hm with h' | h'
    · exact h.nk b h'
    · exact ⟨fun hs => by have := (h.sf b hs).2; omega, by omega⟩
  refine ⟨hP.mono fun b hm => ?_, h.rd.chg hL.chg (fun hm => (hno rb hm).2 rfl) (fun b hs _ hm => (hno b hm).1 hs), fun b hs => ⟨by rw [fOn_lt (h.sf b hs).2]; exact (h.sf b hs).1, Nat.lt_of_lt_of_le (h.sf b hs).2 hL.size⟩, fun b hm => ?_, hT (by omega) h.tab, hT (by omega) h.out⟩
  · simp only [List.mem_cons, List.mem_append] at hm ⊢
    rcases hm with hm | hm | hm
    · exact .inr (.inl hm)
    · exact .inl hm
    · exact .inr (.inr hm)
  · rcases List.mem_append.1 hm with hm | hm
    · exact hno b hm
    · exact h.nk b hm
theorem UM.app1 {l : List (Nat × Nat × List Value)} {e : En} {F : Option Addr → Nat → Nat → World → Prop} (h : UM w u f L rb S bs pos up tb out p3 k4 k5 p4 k6 k7) (hl : ∀ b, b ∈ blocks l → b ∈ L) (h4 : tb.length ≤ 4096)
    (hF : ∀ p' c' u' f', UM w u' f' L rb S bs pos up (tb ++ [e]) out p' (k4 + 1) c' p4 k6 k7 → F p' (k4 + 1) c' u') : appVC u l p3 k4 k5 1 4 24 55 [i64 0, u8 0, u8 0, i64 0] (ent e) F := by
  have h0 := h.rb0
  have hk4 := h.k4e
  refine h.tab.app h.pal (by omega) (fun b hb => List.mem_cons.2 (.inr (hl b hb))) rfl rfl (by omega) (by omega) fun p' c' u' hP hT hC => hF p' c' u' _ ⟨hP, h.rd.chg hC (fun hz => by have := hz.1; omega) (fun b hs _ hz => by have := hz.1; have := (h.sf b hs).1; omega), fun b hs => ⟨by rw [fOn_lt (h.sf b hs).2]; exact (h.sf b hs).1, Nat.lt_of_lt_of_le (h.sf b hs).2 hC.size⟩, h.nk, by rw [cellsF_append, cellsF_one]; exact hT, h.out.other hC (by omega)⟩
theorem UM.app2 {l : List (Nat × Nat × List Value)} {xs : List Int} {n : Nat} {F : Option Addr → Nat → Nat → World → Prop} (h : UM w u f L rb S bs pos up tb out p3 k4 k5 p4 k6 k7) (hl : ∀ b, b ∈ blocks l → b ∈ L) (hn : n = xs.length) (h4 : out.length + xs.length ≤ 2 ^ 47)
    (hF : ∀ p' c' u' f', UM w u' f' L rb S bs pos up tb (out ++ xs) p3 k4 k5 p' (k6 + n) c' → F p' (k6 + n) c' u') : appVC u l p4 k6 k7 n 1 1 5 [u8 0] (bytes xs) F := by
  have h0 := h.rb0
  have hk6 := h.k6e
  refine h.out.app h.pal (by omega) (fun b hb => List.mem_cons.2 (.inr (hl b hb))) rfl (by rw [bytes_length]; omega) (by omega) (by omega) fun p' c' u' hP hT hC => hF p' c' u' _ ⟨hP, h.rd.chg hC (fun hz => by have := hz.1; omega) (fun b hs _ hz => by have := hz.1; have := (h.sf b hs).1; omega), fun b hs => ⟨by rw [fOn_lt (h.sf b hs).2]; exact (h.sf b hs).1, Nat.lt_of_lt_of_le (h.sf b hs).2 hC.size⟩, h.nk, h.tab.other hC (by omega), by rw [bytes_append]; exact hT⟩
theorem UM.set2 (h : UM w u f L rb S bs pos up tb out p3 k4 k5 p4 k6 k7) {k : Nat} (hk : k < out.length) (l : Int) :
    ∃ b, p4 = some ⟨b, 0, none⟩ ∧ (∃ v, u.cell? ⟨b, k, none⟩ = some v) ∧ u.frozen? ⟨b, k, none⟩ = false ∧ b ∉ L ∧ UM w (setCells u ⟨b, k, none⟩ [u8 l] 0) f L rb S bs pos up tb (out.set k l) p3 k4 k5 p4 k6 k7 := by
  have h0 := h.rb0
  have hk6 := h.k6e
  obtain ⟨b, hb, hth, hcs, hT, hC⟩ := h.out.set (k := k) (us := [u8 l]) (by rw [bytes_length]; simp; omega) (by omega)
  have hc := hcs 0 (by simp)
  rw [loc_add, Nat.add_zero] at hc
  have hset : (bytes out).take k ++ [u8 l] ++ (bytes out).drop (k + [u8 l].length) = bytes (out.set k l) := by
    have : (bytes out).set k (u8 l) = bytes (out.set k l) := by simp [bytes, List.map_set]
    rw [← this, List.set_eq_take_append_cons_drop, if_pos (by rw [bytes_length]; exact hk)]; simp
  rw [hset] at hT
  refine ⟨b, hb, hc.1, hc.2, fun hm => ?_, ⟨h.pal.same hC fun b _ hz => hz.2.1, h.rd.chg hC (fun hz => by have := hz.1; omega) (fun b hs _ hz => by have := hz.1; have := (h.sf b hs).1; omega), fun b hs => ⟨(h.sf b hs).1, Nat.lt_of_lt_of_le (h.sf b hs).2 hC.size⟩, h.nk, h.tab.same hC fun b _ hf _ hz => by have := hz.1; omega, hT⟩⟩
  have := (h.pal.av b (List.mem_cons.2 (.inr hm))).2.2
  have := hth.1; omega
end
def UI (w : World) (k1 rb : Nat) (S : Nat → Prop) (bs : List Int) (up : Bool) (cl w0 early : Nat) (most : Int) (res : List Int × Int) (vs : List Value) (u : World) : Prop := match vs with
  | [.slice p3 k4 k5, .int _ n1, .int _ n2, .slice p4 k6 k7] => ∃ (f : Nat → Nat) (s : LS) (F : Nat), Inv cl s ∧ 8 * bs.length < s.pos + F ∧ lz bs up cl w0 early most F s = res ∧ n1 = s.wd ∧ n2 = ahI s.ah ∧ UM w u f [k1] rb S bs s.pos up (tabL cl s.A s.T) s.out p3 k4 k5 p4 k6 k7
  | _ => False
theorem shl1 : ∀ wd : Nat, wd < 13 → shiftZ .shl .i64 1 (wd : Int) = ((2 ^ wd : Nat) : Int) := by decide
theorem pow_small : ∀ wd : Nat, wd < 13 → 1 ≤ 2 ^ wd ∧ 2 ^ wd ≤ 4096 := by decide
end Go.Proofs.Ytlbokiaolmflaaa
