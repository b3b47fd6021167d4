/- Blend: what is handed in stays, what is answered is new. -/
import Derived.Test.YtombfebgojeliaaBP3
import Derived.Test.YtombfebgojeliaaVcsQBlendOwn
namespace Go.Proofs.Ytombfebgojeliaa
open Go Go.Vc Go.RowKit
set_option maxRecDepth 100000
set_option linter.unusedVariables false
set_option linter.unusedSimpArgs false

theorem i64s_append (a b : List Int) : i64s (a ++ b) = i64s a ++ i64s b := by simp [i64s]
section
variable {w u : World} {f : Nat → Nat} {L : List Nat} {l : List Tg}
theorem app_st {c len cap bytes : Nat} {p : Option Addr} {xs : List Int} {v : Int} {m : List (Nat × Nat × List Value)} {elem : TypeId} {F : Option Addr → Nat → Nat → World → Prop} (h : Ths w u f L l) (ht : (⟨c, p, len, cap, 1, i64s xs⟩ : Tg) ∈ l)
    (hm : ∀ b, b ∈ blocks m → b ∈ L) (hby : (len + 1) * bytes ≤ 2 ^ 47) (h62 : len + 1 < 2 ^ 62)
    (hF : ∀ p' c' u' f', Ths w u' f' L (⟨c, p', len + 1, c', 1, i64s (xs ++ [v])⟩ :: l.filter fun t => t.c != c) → F p' (len + 1) c' u') :
    appVC u m p len cap 1 1 bytes elem [i64 0] [i64 v] F := by
  have h' : Ths w u f L (⟨c, p, len, cap, 1, i64s xs⟩ :: l.filter fun t => t.c != c) := h.mono (fun _ h => h) fun t hm => by
    rcases List.mem_cons.1 hm with rfl | hm
    · exact ht
    · exact (List.mem_filter.1 hm).1
  refine Ths.app h' (fun t' hm => by simpa using (List.mem_filter.1 hm).2) hm rfl rfl hby h62 fun p' c' u' f' hT => hF p' c' u' f' ?_
  rw [i64s_append]
  exact hT
theorem St.late (h : Ths w u f L l) {c len cap : Nat} {p : Option Addr} {xs : List Int} (ht : (⟨c, p, len, cap, 1, i64s xs⟩ : Tg) ∈ l) {n : Int} (n0 : 0 ≤ n) (n1 : n < len) {F : Addr → Prop}
    (hF : ∀ a : Addr, (∀ u' f' L' l', Ths w u' f' L' l' → (⟨c, p, len, cap, 1, i64s xs⟩ : Tg) ∈ l' → u'.cell? a = some (i64 (xs.getD n.toNat 0))) → F a) : idx p len n 1 F := by
  have hl : len = xs.length := by have := (h.get ht).len; rwa [i64s_length] at this
  have hg := i64s_get (l := xs) (i := n.toNat) (by omega)
  obtain ⟨a, q1, q2, q3⟩ := (h.get ht).sl n.toNat _ hg
  simp only at q1
  subst q1
  refine ⟨n0, n1, a, rfl, hF _ fun u' f' L' l' h' ht' => ?_⟩
  obtain ⟨a', r1, r2, r3⟩ := (h'.get ht').sl n.toNat _ hg
  cases r1
  rw [Nat.mul_one]; exact r3
end
theorem CallOk.by47 {W : World} {s : ByteArray} {b : Option Addr} {len cap : Nat} {xs : List Int} (h : CallOk W s b len cap xs) : (len + 1) * 8 ≤ 2 ^ 47 := by
  have := h.bytes
  have : reachBytes + 8 ≤ 2 ^ 47 := by decide
  omega
set_option maxHeartbeats 40000000 in
theorem own_walk {w : World} {s : ByteArray} {b p q : Option Addr} {len cap lp cp lq cq : Nat} {args xs ys : List Int} {W H V G : Int} {R : Ending → World → Prop} (hc : CallOk w s b len cap args) (hp : ImgOk w W H p lp cp xs) (hq : ImgOk w V G q lq cq ys) (hR : ∀ w', Ext w w' → R (.returned (.bool true)) w') :
    Calls P F.law23_BlendOwn #[.agg #[.string s, .slice b len cap], .agg #[i64 W, i64 H, .slice p lp cp], .agg #[i64 V, i64 G, .slice q lq cq]] w R := by
  refine calls_law23_BlendOwn _ _ _ _ _ _ _ _ _ _ _ _ _ _ _ _ ?_
  have H0 := St.start w
  intro k1 hk1 k2 hk2 k3 hk3
  refine St.locl H0 (by first | (simp; done) | (simp; omega) | (intro b hb; simp at *; omega)) fun w1 f1 H1 => ?_
  refine wakes_spec fun w2 hE2 => ⟨_, rfl, hE2.keep _, brB_f rfl ?_⟩
  have H2 := (H1.step hE2 0).dr
  clear H0 H1
  have hsm := hc.ints.small
  have hla := hc.ints.lth
  have hby := hc.by47
  refine ⟨fun vs u => match vs with | [.slice p0 l0 c0, .pointer (some ⟨k, _, _⟩), .int _ a, .int _ b, .slice p l c, .pointer (some ⟨k', _, _⟩), .int _ a', .int _ b', .slice p' l' c'] => l0 = len + 1 ∧ W = a ∧ H = b ∧ lp = l ∧ V = a' ∧ G = b' ∧ lq = l' ∧ ∃ f, Ths w u f [k', k, k3, k2, k1] [⟨1, p0, l0, c0, 1, i64s (args ++ [77])⟩, ⟨2, p, l, c, 1, px xs⟩, ⟨3, p', l', c', 1, px ys⟩] | _ => False, ?_, ?_⟩
  · repeat' first
      | (refine St.locl (by assumption) (by first | (simp; done) | (simp; omega) | (intro b hb; simp at *; omega)) fun u f H => ?_)
      | (refine ints_w 1 (by assumption) hc (by decide) fun p c u f hE H => ⟨_, _, _, rfl, hE.keep _, hE.keeps, ?_⟩)
      | (refine ints_w 1 (by assumption) hc (by decide) fun p c u f hE H => ⟨_, _, _, rfl, hE.keep _, ?_⟩)
      | (refine own_w 2 (by assumption) hp (by decide) fun p c u f hE H => ⟨_, _, _, _, _, rfl, hE.keep _, hE.keeps, ?_⟩)
      | (refine own_w 2 (by assumption) hp (by decide) fun p c u f hE H => ⟨_, _, _, _, _, rfl, hE.keep _, ?_⟩)
      | (refine own_w 3 (by assumption) hq (by decide) fun p c u f hE H => ⟨_, _, _, _, _, rfl, hE.keep _, hE.keeps, ?_⟩)
      | (refine own_w 3 (by assumption) hq (by decide) fun p c u f hE H => ⟨_, _, _, _, _, rfl, hE.keep _, ?_⟩)
      | (refine app_st (c := 1) (by assumption) (by repeat (first | exact List.Mem.head _ | apply List.Mem.tail)) (by simp [blocks]) hby (by omega) fun p c u f H => ?_)
      | (refine ⟨rfl, rfl, rfl, rfl, rfl, rfl, rfl, _, Ths.mono (by assumption) (by simp) (by simp)⟩)
      | (intro k hk)
      | (refine And.intro ?_ ?_)
  clear H2
  intro p336 k922 k923 k924 n131 n132 p337 k925 k926 k927 n133 n134 p338 k928 k929 w688 hI
  obtain ⟨rfl, rfl, rfl, rfl, rfl, rfl, rfl, f688, H688⟩ := hI
  have H688' := H688.dr
  have hroom := St.room H688 (c := 1) (by repeat (first | exact List.Mem.head _ | apply List.Mem.tail))
  have hget : ∀ i : Nat, i < len → (args ++ [77]).getD i 0 = args.getD i 0 := fun i hi => by
    simp only [List.getD]; rw [List.getElem?_append_left (by omega)]
  have hget2 : (args ++ [77]).getD len 0 = 77 := by
    simp only [List.getD]; rw [List.getElem?_append_right (by omega), hla]; simp
  have hpre : ∀ {u : World} {f : Nat → Nat} {L : List Nat} {l : List Tg}, Ths w u f L l → (⟨1, p336, len + 1, k923, 1, i64s (args ++ [77])⟩ : Tg) ∈ l → Ints u p336 len args := fun h ht => ⟨((h.get ht).sl).pre (by rw [i64s_append]; exact List.prefix_append _ _), hla, hsm⟩
  have hle := appR_len (op := s) (args := args) (xs := xs) (ys := ys) (W := W) (H := H) (V := V) (G := G)
  refine ⟨fun vs u => match vs with | [.pointer (some ⟨k, _, _⟩), .int _ a, .int _ b, .slice p l c] => ∃ f, Ths w u f [k, k927, k924, k3, k2, k1] [⟨5, p, l, c, 1, px (appR s args W H xs V G ys).2.2.1⟩, ⟨1, p336, len + 1, k923, 1, i64s (args ++ [77])⟩, ⟨2, p337, lp, k926, 1, px xs⟩, ⟨3, p338, lq, k929, 1, px ys⟩] | _ => False, ⟨by omega, by omega, by omega, ?_⟩, ?_⟩
  · rw [show (0 : Int).toNat = 0 from rfl, slcBase0, show ((len : Int).toNat - 0) = len by omega]
    repeat' first
      | (refine St.locl (by assumption) (by first | (simp; done) | (simp; omega) | (intro b hb; simp at *; omega)) fun u f H => ?_)
      | (refine apply_st 5 _ (by assumption) (hpre (by assumption) (by repeat (first | exact List.Mem.head _ | apply List.Mem.tail))) (St.img (c := 2) (by assumption) (by repeat (first | exact List.Mem.head _ | apply List.Mem.tail))) (St.img (c := 3) (by assumption) (by repeat (first | exact List.Mem.head _ | apply List.Mem.tail))) (St.room (by assumption) (by repeat (first | exact List.Mem.head _ | apply List.Mem.tail))) (St.room (by assumption) (by repeat (first | exact List.Mem.head _ | apply List.Mem.tail))) hp.sm hq.sm (by decide) rfl fun p l c u f hE H => ⟨_, _, _, _, _, _, rfl, hE.keep _, ?_⟩)
      | (refine ⟨_, Ths.mono (by assumption) (by simp) (by simp)⟩)
      | (intro k hk)
      | (refine And.intro ?_ ?_)
  clear H688 H688'
  intro k938 n141 n142 p342 k939 k940 w694 hI
  obtain ⟨f694, H694⟩ := hI
  have H694' := H694.dr
  refine ⟨fun vs u => match vs with | [.pointer (some ⟨k, _, _⟩), .int _ a, .int _ b, .slice p l c] => a = (appR s args W H xs V G ys).1 ∧ b = (appR s args W H xs V G ys).2.1 ∧ ∃ f, Ths w u f [k, k938, k927, k924, k3, k2, k1] [⟨5, p342, k939, k940, 1, px (appR s args W H xs V G ys).2.2.1⟩, ⟨6, p, l, c, 1, px (appR s args W H xs V G ys).2.2.1⟩, ⟨1, p336, len + 1, k923, 1, i64s (args ++ [77])⟩, ⟨2, p337, lp, k926, 1, px xs⟩, ⟨3, p338, lq, k929, 1, px ys⟩] | _ => False, ⟨by omega, by omega, by omega, ?_⟩, ?_⟩
  · rw [show (0 : Int).toNat = 0 from rfl, slcBase0, show ((len : Int).toNat - 0) = len by omega]
    repeat' first
      | (refine St.locl (by assumption) (by first | (simp; done) | (simp; omega) | (intro b hb; simp at *; omega)) fun u f H => ?_)
      | (refine apply_st 6 _ (by assumption) (hpre (by assumption) (by repeat (first | exact List.Mem.head _ | apply List.Mem.tail))) (St.img (c := 2) (by assumption) (by repeat (first | exact List.Mem.head _ | apply List.Mem.tail))) (St.img (c := 3) (by assumption) (by repeat (first | exact List.Mem.head _ | apply List.Mem.tail))) (St.room (by assumption) (by repeat (first | exact List.Mem.head _ | apply List.Mem.tail))) (St.room (by assumption) (by repeat (first | exact List.Mem.head _ | apply List.Mem.tail))) hp.sm hq.sm (by decide) rfl fun p l c u f hE H => ⟨_, _, _, _, _, _, rfl, hE.keep _, ?_⟩)
      | (refine ⟨rfl, rfl, _, Ths.mono (by assumption) (by simp) (by simp)⟩)
      | (intro k hk)
      | (refine And.intro ?_ ?_)
  clear H694 H694'
  intro k949 n149 n150 p346 k950 k951 w700 hI
  obtain ⟨rfl, rfl, f700, H700⟩ := hI
  refine ⟨fun vs u => match vs with | [.int _ n] => 0 ≤ n ∧ n ≤ k939 ∧ ∃ zs f, Ths w u f [k949, k938, k927, k924, k3, k2, k1] [⟨5, p342, k939, k940, 1, px zs⟩, ⟨6, p346, k950, k951, 1, px (appR s args W H xs V G ys).2.2.1⟩, ⟨1, p336, len + 1, k923, 1, i64s (args ++ [77])⟩, ⟨2, p337, lp, k926, 1, px xs⟩, ⟨3, p338, lq, k929, 1, px ys⟩] | _ => False,
    fun vs _ => match vs with | [.int _ n] => (k939 - n).toNat | _ => 0, ⟨by omega, by omega, _, _, H700⟩, fun n w701 hI => ?_⟩
  have l5 := St.len H700 (c := 5) (p := p342) (by repeat (first | exact List.Mem.head _ | apply List.Mem.tail))
  clear H700
  obtain ⟨n0, n1, zs, f701, H701⟩ := hI
  refine brB_i (fun hlt => ?_) (fun hge => ?_)
  · have hlt : n < k939 := by simpa using hlt
    refine write_st H701.dr (by simp) n0 hlt fun a1 _ _ _ e4 _ => ⟨_, e4, ?_⟩
    refine write_st H701.dr (by simp) n0 hlt fun a2 e1 e2 e3 _ e5 => ⟨e1, e2, e3, ?_⟩
    rw [w64 (x := n + 1) (by omega) (by omega)]
    exact ⟨⟨by omega, by omega, _, _, e5 _⟩, by show (k939 - (n + 1)).toNat < (k939 - n).toNat; omega⟩
  clear n0 n1 hge
  have hE701 := H701.pal.ext
  refine refApply_st 7 H701 (hc.ints.ext hE701) (hp.img.ext hE701) (hq.img.ext hE701) hp.sm hq.sm (by decide) fun p347 k952 k953 w702 f702 hE702 H702 => ⟨_, _, _, _, _, _, rfl, hE702.keep _, fun k954 hk954 => ?_⟩
  refine St.late H702 (c := 1) (by repeat (first | exact List.Mem.head _ | apply List.Mem.tail)) (by omega) (by omega) fun a3 ha3 => ?_
  refine St.locl H702 (by first | (simp; done) | (simp; omega) | (intro b hb; simp at *; omega)) fun w703 f703 H703 => ⟨_, ha3 _ _ _ _ H703 (by repeat (first | exact List.Mem.head _ | apply List.Mem.tail)), ?_⟩
  rw [show ((len : Int)).toNat = len by omega, hget2]
  have hsz2 := hp.sz
  have hsz3 := hq.sz
  have l6 := St.len H703 (c := 6) (p := p346) (by repeat (first | exact List.Mem.head _ | apply List.Mem.tail))
  refine brB_f rfl ?_
  refine refSame_spec (St.img (c := 2) H703 (by repeat (first | exact List.Mem.head _ | apply List.Mem.tail))) (hp.img.ext H703.pal.ext) (by omega) fun w704 hE704 => ⟨_, rfl, hE704.keep _, brB_f (by simp [same]) ?_⟩
  have H704 := H703.step hE704 0
  refine refSame_spec (St.img (c := 3) H704 (by repeat (first | exact List.Mem.head _ | apply List.Mem.tail))) (hq.img.ext H704.pal.ext) (by omega) fun w705 hE705 => ⟨_, rfl, hE705.keep _, brB_f (by simp [same]) ?_⟩
  have H705 := H704.step hE705 0
  refine refSame_spec (St.img (c := 6) H705 (by repeat (first | exact List.Mem.head _ | apply List.Mem.tail))) (St.img (c := 7) H705 (by repeat (first | exact List.Mem.head _ | apply List.Mem.tail))) (by omega) fun w706 hE706 => ⟨_, rfl, hE706.keep _, brB_f (by simp [same]) ?_⟩
  have H706 := H705.step hE706 0
  refine ⟨fun vs u => match vs with | [.int _ n] => 0 ≤ n ∧ n ≤ len ∧ Ext w706 u | _ => False, fun vs _ => match vs with | [.int _ n] => (len - n).toNat | _ => 0, ⟨by omega, by omega, Ext.refl _⟩, fun n w707 hI => ?_⟩
  obtain ⟨n0, n1, hE707⟩ := hI
  refine brB_i (fun hlt => ?_) (fun hge => hR _ (H706.pal.ext.trans hE707))
  have hlt : n < len := by simpa using hlt
  have H707 := (H706.step hE707 0).dr
  refine St.late H707 (c := 1) (p := p336) (by repeat (first | exact List.Mem.head _ | apply List.Mem.tail)) n0 (by omega) fun a4 ha4 => ⟨_, ha4 _ _ _ _ H707 (by repeat (first | exact List.Mem.head _ | apply List.Mem.tail)), ?_⟩
  refine (hc.ints.ext H707.pal.ext).at_ n0 hlt fun a5 ha5 => ⟨_, ha5, ?_⟩
  rw [hget _ (by omega), w64 (x := n + 1) (by omega) (by omega)]
  exact brB_f (by simp) ⟨⟨by omega, by omega, hE707.drew⟩, by show (len - (n + 1)).toNat < (len - n).toNat; omega⟩
end Go.Proofs.Ytombfebgojeliaa
