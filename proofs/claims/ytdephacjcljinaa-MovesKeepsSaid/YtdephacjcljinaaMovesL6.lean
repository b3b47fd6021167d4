/- Moves: no colour is made. -/
import Derived.Test.YtdephacjcljinaaMP3
import Derived.Test.YtdephacjcljinaaMovesL2
namespace Go.Proofs.Ytdephacjcljinaa
open Go Go.Vc Go.RowKit
set_option maxRecDepth 100000
set_option linter.unusedVariables false
set_option linter.unusedSimpArgs false

theorem Is.from {W H V G : Int} {xs ys : List Int} {g : Int → Int → Co} (h : Is V G ys g) (hg : gfits W H = true) (e : ∀ x y, 0 ≤ x → x < V → 0 ≤ y → y < G → ∃ i j, 0 ≤ i ∧ i < W ∧ 0 ≤ j ∧ j < H ∧ g x y = colAt xs (j * W + i).toNat) :
    ∀ q : Nat, (q : Int) < V * G → ∃ q' : Nat, (q' : Int) < W * H ∧ colAt ys q = colAt xs q' := fun q hq => by
  obtain ⟨g1, g2, g3, g4, g5⟩ := gfits_iff.1 (good_iff.1 h.gd).1
  have m0 : 0 ≤ (q : Int) % V := Int.emod_nonneg _ (by omega)
  have m1 : (q : Int) % V < V := Int.emod_lt_of_pos _ (by omega)
  have d0 : 0 ≤ (q : Int) / V := Int.ediv_nonneg (by omega) (by omega)
  have d1 : (q : Int) / V < G := Int.ediv_lt_of_lt_mul (by omega) (by rw [Int.mul_comm]; exact hq)
  have hq2 : (((q : Int) / V) * V + (q : Int) % V).toNat = q := by
    have := Int.mul_ediv_add_emod (q : Int) V
    rw [Int.mul_comm] at this; omega
  obtain ⟨i, j, i0, i1, j0, j1, he⟩ := e _ _ m0 m1 d0 d1
  have h1 := h.at_ _ _ m0 m1 d0 d1
  rw [hq2] at h1
  obtain ⟨k0, k1⟩ := idx_in hg i0 i1 j0 j1
  exact ⟨(j * W + i).toNat, by omega, by rw [h1, he]⟩
theorem app_ok {op : ByteArray} {a xs : List Int} {W H : Int} (h : (appR op a W H xs).2.2.2 = 0) (nf : op ≠ sFrame) (ns : op ≠ sShrink) :
    good W H xs = true ∧ good (appR op a W H xs).1 (appR op a W H xs).2.1 (appR op a W H xs).2.2.1 = true ∧
    ∀ q : Nat, (q : Int) < (appR op a W H xs).1 * (appR op a W H xs).2.1 → ∃ q' : Nat, (q' : Int) < W * H ∧ colAt (appR op a W H xs).2.2.1 q = colAt xs q' := by
  unfold appR at h ⊢
  by_cases h1 : chkR op a ≠ 0
  · rw [if_pos h1] at h; exact absurd h h1
  by_cases h2 : good W H xs = false
  · rw [if_neg h1, if_pos h2] at h; exact absurd h (by decide)
  by_cases h3 : (sizeR op a W H).2.2 ≠ 0
  · rw [if_neg h1, if_neg h2, if_pos h3] at h; exact absurd h h3
  rw [if_neg h1, if_neg h2, if_neg h3]
  have hg : good W H xs = true := by simpa using h2
  have h3 : (sizeR op a W H).2.2 = 0 := Classical.byContradiction h3
  obtain ⟨hf, hlen⟩ := good_iff.1 hg
  refine ⟨hg, ?_⟩
  by_cases ht : op = sTrim
  · rw [if_pos ht]
    obtain ⟨e, htg, _, _⟩ := trimR_ok hg
    refine ⟨htg, ?_⟩
    obtain ⟨g1, g2, g3, g4, g5⟩ := gfits_iff.1 hf
    have hpos : 0 < W * H := Int.mul_pos (by omega) (by omega)
    have hT := boxT_ok hf (box_ok (xs := xs) hf (q := (W * H).toNat) (by omega))
    unfold trimR
    generalize boxT (box W H xs (W * H).toNat) = b at *
    obtain ⟨c1, i1⟩ := crop_at hg (show inR b.1 b.2.1 (b.2.2.1 - b.1 + 1) (b.2.2.2 - b.2.1 + 1) W H = true from inR_iff.2 (by omega))
    rw [c1]
    exact i1.from hf fun x y x0 x1 y0 y1 => ⟨b.1 + x, b.2.1 + y, by omega, by omega, by omega, by omega, rfl⟩
  · rw [if_neg ht]
    obtain ⟨hc, _, hcr, hz, hsz⟩ := size_facts h3
    rw [hsz]
    simp only
    have hi : Is (whF op a W H).1 (whF op a W H).2 (pxs op a W H xs (whF op a W H).1 ((whF op a W H).1 * (whF op a W H).2).toNat) (pixM op a W H xs) := ⟨pxs_good hz, fun x y x0 x1 y0 y1 => pf_at hz x0 x1 y0 y1⟩
    refine ⟨hi.gd, hi.from hf fun x y x0 x1 y0 y1 => ?_⟩
    have hin := fr_in h3 nf ns x0 x1 y0 y1
    have hin' := of_decide_eq_true hin
    refine ⟨_, _, hin'.1, hin'.2.2.1, hin'.2.1, hin'.2.2.2, ?_⟩
    unfold pixM
    rw [if_neg ns, if_pos hin]
theorem app_err {op : ByteArray} {a xs : List Int} {W H : Int} (h : (appR op a W H xs).2.2.2 ≠ 0) : (appR op a W H xs).2.2.1 = [] := by
  unfold appR at h ⊢
  split
  · rfl
  split
  · rfl
  split
  · rfl
  exfalso
  revert h
  rw [if_neg ‹_›, if_neg ‹_›, if_neg ‹_›]
  split <;> simp
theorem mem_distX {xs : List Int} {c : Co} : ∀ {n : Nat}, c ∈ distX xs n ↔ ∃ q, q < n ∧ colAt xs q = c
  | 0 => by simp [distX]
  | n + 1 => by
    have ih := mem_distX (xs := xs) (c := c) (n := n)
    rw [distX_succ]
    have : c ∈ addC (distX xs n) (colAt xs n) ↔ c ∈ distX xs n ∨ c = colAt xs n := by
      unfold addC
      split
      · exact ⟨.inl, fun h => h.elim id fun e => by rw [e]; assumption⟩
      · simp
    rw [this, ih]
    constructor
    · rintro (⟨q, h1, h2⟩ | rfl)
      · exact ⟨q, by omega, h2⟩
      · exact ⟨n, by omega, rfl⟩
    · rintro ⟨q, h1, h2⟩
      rcases Nat.lt_or_ge q n with h | h
      · exact .inl ⟨q, h, h2⟩
      · rw [show q = n by omega] at h2; exact .inr h2.symm
theorem keeps_dist {op : ByteArray} {a xs : List Int} {W H : Int} (h : (appR op a W H xs).2.2.2 = 0) (nf : op ≠ sFrame) (ns : op ≠ sShrink) :
    0 < (distR (appR op a W H xs).1 (appR op a W H xs).2.1 (appR op a W H xs).2.2.1).length ∧ ∀ c, c ∈ distR (appR op a W H xs).1 (appR op a W H xs).2.1 (appR op a W H xs).2.2.1 → c ∈ distR W H xs := by
  obtain ⟨g1, g2, h3⟩ := app_ok h nf ns
  generalize appR op a W H xs = r at *
  unfold distR
  rw [if_pos g1, if_pos g2]
  obtain ⟨e1, e2, e3, e4, e5⟩ := gfits_iff.1 (good_iff.1 g2).1
  have hpos : 0 < r.1 * r.2.1 := Int.mul_pos (by omega) (by omega)
  refine ⟨List.length_pos_of_mem (a := colAt r.2.2.1 0) (mem_distX.2 ⟨0, by omega, rfl⟩), fun c hc => ?_⟩
  obtain ⟨q, h1, h2⟩ := mem_distX.1 hc
  obtain ⟨q', h4, h5⟩ := h3 q (by omega)
  exact mem_distX.2 ⟨q', by omega, by rw [← h5, h2]⟩
set_option maxHeartbeats 4000000 in
theorem keeps_walk {w : World} {s : ByteArray} {b p : Option Addr} {len cap lp cp : Nat} {args xs : List Int} {W H : Int} {R : Ending → World → Prop} {Q : Prop} (hq : Q) (hc : IntsOk w b len cap args) (hp : ImgOk w W H p lp cp xs) (hR : ∀ w', Ext w w' → R (.returned (.bool true)) w') :
    Calls P F.law21_MovesKeeps #[.string s, .slice b len cap, .agg #[i64 W, i64 H, .slice p lp cp]] w R := by
  refine calls_law21_MovesKeeps _ _ _ _ _ _ _ _ _ _ _ ?_
  have H0 := St.start w
  intro k1 hk1
  refine St.locl H0 (by simp; omega) fun w1 f1 H1 => ?_
  refine wakes_spec fun w2 hE2 => ⟨_, rfl, hE2.keep _, brB_f rfl ?_⟩
  have H2 := (H1.step hE2 0).dr
  have hsm := hc.ints.small
  refine ⟨fun vs u => match vs with | [.int _ n, .pointer (some ⟨k, _, _⟩), .int _ a, .int _ b, .slice p l c] => n = (appR s args W H xs).2.2.2 ∧ a = (appR s args W H xs).1 ∧ b = (appR s args W H xs).2.1 ∧ ∃ f, Ths w u f [k, k1] [⟨4, p, l, c, 1, px (appR s args W H xs).2.2.1⟩] | _ => False, ?_, ?_⟩
  · repeat' first
      | (refine St.locl (by assumption) (by first | (simp; done) | (simp; omega) | (intro b hb; simp at *; omega)) fun u f H => ?_)
      | (refine ints_w 1 (by assumption) hc (by decide) fun p c u f hE H => ⟨_, _, _, rfl, hE.keep _, hE.keeps, ?_⟩)
      | (refine own_w 2 (by assumption) hp (by decide) fun p c u f hE H => ⟨_, _, _, _, _, rfl, hE.keep _, ?_⟩)
      | (refine apply_st 4 _ (by assumption) (St.ints (c := 1) (by assumption) (by repeat (first | exact List.Mem.head _ | apply List.Mem.tail)) hsm) (St.room (c := 1) (by assumption) (by repeat (first | exact List.Mem.head _ | apply List.Mem.tail))) (St.img (c := 2) (by assumption) (by repeat (first | exact List.Mem.head _ | apply List.Mem.tail))) (St.room (c := 2) (by assumption) (by repeat (first | exact List.Mem.head _ | apply List.Mem.tail))) hp.sm (by decide) rfl fun p l c u f hE H => ⟨_, _, _, _, _, _, rfl, hE.keep _, ?_⟩)
      | (refine ⟨rfl, rfl, rfl, _, Ths.mono (by assumption) (by simp) (by simp)⟩)
      | (intro k hk)
      | (refine And.intro ?_ ?_)
  intro n19 k24 n20 n21 p10 k25 k26 w19 hI
  obtain ⟨rfl, rfl, rfl, f19, H19⟩ := hI
  have hl := St.len H19 (c := 4) (p := p10) (by repeat (first | exact List.Mem.head _ | apply List.Mem.tail))
  have hle := appR_len (op := s) (args := args) (xs := xs) (W := W) (H := H)
  refine brB_i (fun hn => to_bool (hR _ H19.pal.ext) ?_) (fun hn => ?_)
  · have hn : (appR s args W H xs).2.2.2 ≠ 0 := by simpa using hn
    rw [app_err hn] at hl
    simp at hl
    simp [hl]
  have hn : (appR s args W H xs).2.2.2 = 0 := by simpa using hn
  refine brB_i (fun hf => to_bool (hR _ H19.pal.ext) (by simp [hn])) (fun nf => ?_)
  refine brB_i (fun hf => to_bool (hR _ H19.pal.ext) (by simp [hn])) (fun ns => ?_)
  have nf : s ≠ sFrame := by simpa using nf
  have ns : s ≠ sShrink := by simpa using ns
  obtain ⟨hd0, hd⟩ := keeps_dist hn nf ns
  have H19' := H19.dr
  refine own_w 2 H19' hp (by decide) fun p11 c11 w20 f20 hE20 H20 => ⟨_, _, _, _, _, rfl, hE20.keep _, hE20.keeps, ?_⟩
  refine Distinct_spec (St.img (c := 2) H20 (by repeat (first | exact List.Mem.head _ | apply List.Mem.tail))) (St.room (c := 2) H20 (by repeat (first | exact List.Mem.head _ | apply List.Mem.tail))) fun p12 c12 w21 hf21 => ⟨_, _, _, rfl, hf21.ext.keep _, hf21.ext.keeps, ?_⟩
  have H21 := H20.new (i := 5) hf21.ext (by decide) hf21.ow
  refine own_st 6 H21 (St.img (c := 4) H21 (by repeat (first | exact List.Mem.head _ | apply List.Mem.tail))) (by omega) (by decide) fun p13 c13 w22 f22 hE22 H22 => ⟨_, _, _, _, _, rfl, hE22.keep _, ?_⟩
  refine Distinct_spec (St.img (c := 6) H22 (by repeat (first | exact List.Mem.head _ | apply List.Mem.tail))) (St.room (c := 6) H22 (by repeat (first | exact List.Mem.head _ | apply List.Mem.tail))) fun p14 c14 w23 hf23 => ⟨_, _, _, rfl, hf23.ext.keep _, ?_⟩
  have H23 := H22.new (i := 7) hf23.ext (by decide) hf23.ow
  have hsh := (H23.get (t := ⟨7, p14, _, c14, 4, _⟩) (List.Mem.head _)).sl
  have hsd := (H23.get (t := ⟨5, p12, (distR W H xs).length, c12, 4, cos (distR W H xs)⟩) (by repeat (first | exact List.Mem.head _ | apply List.Mem.tail))).sl
  simp only at hsh hsd
  have hE23 := H23.pal.ext
  have hlx : (distR W H xs).length < 2 ^ 62 := by
    unfold distR
    split
    · rename_i g
      have := distX_length xs (W * H).toNat
      obtain ⟨e1, e2, e3, e4, e5⟩ := gfits_iff.1 (good_iff.1 g).1
      omega
    · simp
  have hly : (distR (appR s args W H xs).1 (appR s args W H xs).2.1 (appR s args W H xs).2.2.1).length < 2 ^ 62 := by
    unfold distR
    split
    · rename_i g
      have := distX_length (appR s args W H xs).2.2.1 ((appR s args W H xs).1 * (appR s args W H xs).2.1).toNat
      obtain ⟨e1, e2, e3, e4, e5⟩ := gfits_iff.1 (good_iff.1 g).1
      omega
    · simp
  generalize distR (appR s args W H xs).1 (appR s args W H xs).2.1 (appR s args W H xs).2.2.1 = has at *
  generalize distR W H xs = had at *
  refine ⟨fun vs u => match vs with | [.int _ n] => 0 ≤ n ∧ n ≤ has.length ∧ Ext w23 u | _ => False, fun vs _ => match vs with | [.int _ n] => ((has.length : Int) - n).toNat | _ => 0, ⟨Int.le_refl _, by omega, Ext.refl _⟩, fun n w24 hI => ?_⟩
  obtain ⟨n0, n1, hE24⟩ := hI
  refine brB_i (fun hlt => ?_) (fun hge => to_bool (hR _ (hE23.trans hE24)) (by simpa using hd0))
  have hlt : n < has.length := by simpa using hlt
  refine cos_elem (hsh.ext hE24) rfl n0 hlt fun a h1 h2 h3 h4 => ⟨_, _, _, _, h1, h2, h3, h4, ?_⟩
  refine Place_spec (c := has.getD n.toNat zeroC) (hsd.ext hE24) rfl hlx fun m w25 hE25 hm => ⟨_, rfl, hE25.keep _, ?_⟩
  have hmem : has.getD n.toNat zeroC ∈ has := by
    rw [List.getD, List.getElem?_eq_getElem (by omega)]; exact List.getElem_mem _
  rw [hm]
  refine brB_f (by simpa using hd _ hmem) ?_
  rw [w64 (x := n + 1) (by omega) (by omega)]
  exact ⟨⟨by omega, by omega, hE24.trans hE25⟩, by show ((has.length : Int) - (n + 1)).toNat < ((has.length : Int) - n).toNat; omega⟩
end Go.Proofs.Ytdephacjcljinaa
