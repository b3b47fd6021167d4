/- Moves: what is handed in stays, what is answered is new. -/
import Derived.Test.YtdephacjcljinaaMovesL2
namespace Go.Proofs.Ytdephacjcljinaa
open Go Go.Vc Go.RowKit
set_option maxRecDepth 100000
set_option linter.unusedVariables false
set_option linter.unusedSimpArgs false

theorem px_set {xs : List Int} {k : Nat} {v : Int} (h : k < xs.length) : (px xs).take k ++ [u16 v] ++ (px xs).drop (k + 1) = px (xs.set k v) := by
  rw [List.set_eq_take_append_cons_drop, if_pos h]
  simp [px, List.map_take, List.map_drop]
theorem i64s_append (a b : List Int) : i64s (a ++ b) = i64s a ++ i64s b := by simp [i64s]
section
variable {w u : World} {f : Nat → Nat} {L : List Nat} {l : List Tg}
theorem write_st {c len cap : Nat} {p : Option Addr} {xs : List Int} (h : Ths w u f L (⟨c, p, len, cap, 1, px xs⟩ :: l)) (hd : ∀ t', t' ∈ l → t'.c ≠ c) {n : Int} (n0 : 0 ≤ n) (n1 : n < len) {F : Addr → Prop}
    (hF : ∀ a : Addr, (∃ v, u.cell? a = some v) → u.frozen? a = false → a.block ∉ L → u.cell? a = some (u16 (xs.getD n.toNat 0)) → (∀ v, Ths w (setCells u a [u16 v] 0) f L (⟨c, p, len, cap, 1, px (xs.set n.toNat v)⟩ :: l)) → F a) : idx p len n 1 F := by
  have hl := St.len h (List.Mem.head _)
  have hlt : n.toNat < xs.length := by omega
  have key : ∀ v, ∃ b, p = some ⟨b, 0, none⟩ ∧ b ∉ L ∧ CanSet u ⟨b, n.toNat, none⟩ 1 ∧ Ths w (setCells u ⟨b, n.toNat, none⟩ [u16 v] 0) f L (⟨c, p, len, cap, 1, px (xs.set n.toNat v)⟩ :: l) := fun v => by
    have := h.set hd (k := n.toNat) (us := [u16 v]) (by simp only [px_length, List.length_cons, List.length_nil]; omega) (by show 0 < len; omega)
    simp only [List.length_cons, List.length_nil, Nat.zero_add] at this
    rw [px_set hlt] at this
    exact this
  obtain ⟨b, e, e1, e2, e3⟩ := key 0
  subst e
  have hc : u.cell? ⟨b, n.toNat, none⟩ = some (u16 (xs.getD n.toNat 0)) := by
    obtain ⟨a, q1, q2, q3⟩ := (St.img h (List.Mem.head _)).sl n.toNat _ (px_get hlt)
    cases q1
    simpa [loc_add] using q3
  obtain ⟨f1, f2⟩ := e2 0 (by omega)
  rw [add_zero'] at f1 f2
  refine idx_i n0 n1 rfl ?_
  rw [loc_add, Nat.mul_one, Nat.zero_add]
  refine hF _ f1 f2 e1 hc fun v => ?_
  obtain ⟨b', e', _, _, h3⟩ := key v
  cases e'
  exact h3
theorem app_st {c len cap bytes : Nat} {p : Option Addr} {xs : List Int} {v : Int} {m : List (Nat × Nat × List Value)} {elem : TypeId} {F : Option Addr → Nat → Nat → World → Prop} (h : Ths w u f L l) (ht : (⟨c, p, len, cap, 1, i64s xs⟩ : Tg) ∈ l)
    (hm : ∀ b, b ∈ blocks m → b ∈ L) (hby : (len + 1) * bytes ≤ 2 ^ 47) (h62 : len + 1 < 2 ^ 62)
    (hF : ∀ p' c' u' f', Ths w u' f' L (⟨c, p', len + 1, c', 1, i64s (xs ++ [v])⟩ :: l.filter fun t => t.c != c) → F p' (len + 1) c' u') :
    appVC u m p len cap 1 1 bytes elem [i64 0] [i64 v] F := by
  have h' : Ths w u f L (⟨c, p, len, cap, 1, i64s xs⟩ :: l.filter fun t => t.c != c) := h.mono (fun _ h => h) fun t hm => by
    rcases List.mem_cons.1 hm with rfl | hm
    · exact ht
    · exact (List.mem_filter.1 hm).1
  refine Ths.app h' (fun t' hm => by simpa using (List.mem_filter.1 hm).2) hm rfl rfl hby h62 fun p' c' u' f' hT => hF p' c' u' f' ?_
  rw [i64s_append]
  exact hT
theorem St.late (h : Ths w u f L l) {c len cap : Nat} {p : Option Addr} {xs : List Int} (ht : (⟨c, p, len, cap, 1, i64s xs⟩ : Tg) ∈ l) {n : Int} (n0 : 0 ≤ n) (n1 : n < len) {F : Addr → Prop}
    (hF : ∀ a : Addr, (∀ u' f' L' l', Ths w u' f' L' l' → (⟨c, p, len, cap, 1, i64s xs⟩ : Tg) ∈ l' → u'.cell? a = some (i64 (xs.getD n.toNat 0))) → F a) : idx p len n 1 F := by
  have hl : len = xs.length := by have := (h.get ht).len; rwa [i64s_length] at this
  have hg := i64s_get (l := xs) (i := n.toNat) (by omega)
  obtain ⟨a, q1, q2, q3⟩ := (h.get ht).sl n.toNat _ hg
  simp only at q1
  subst q1
  refine ⟨n0, n1, a, rfl, hF _ fun u' f' L' l' h' ht' => ?_⟩
  obtain ⟨a', r1, r2, r3⟩ := (h'.get ht').sl n.toNat _ hg
  cases r1
  rw [Nat.mul_one]; exact r3
end
theorem IntsOk.by47 {W : World} {b : Option Addr} {len cap : Nat} {xs : List Int} (h : IntsOk W b len cap xs) : (len + 1) * 8 ≤ 2 ^ 47 := by
  have := h.bytes
  have : reachBytes + 8 ≤ 2 ^ 47 := by decide
  omega
set_option maxHeartbeats 40000000 in
theorem owns_walk {w : World} {s : ByteArray} {b p : Option Addr} {len cap lp cp : Nat} {args xs : List Int} {W H : Int} {R : Ending → World → Prop} {Q : Prop} (hq : Q) (hc : IntsOk w b len cap args) (hp : ImgOk w W H p lp cp xs) (hR : ∀ w', Ext w w' → R (.returned (.bool true)) w') :
    Calls P F.law21_MovesOwn #[.string s, .slice b len cap, .agg #[i64 W, i64 H, .slice p lp cp]] w R := by
  refine calls_law21_MovesOwn _ _ _ _ _ _ _ _ _ _ _ ?_
  have H0 := St.start w
  intro k1 hk1
  refine St.locl H0 (by simp; omega) fun w1 f1 H1 => ?_
  refine wakes_spec fun w2 hE2 => ⟨_, rfl, hE2.keep _, brB_f rfl ?_⟩
  have H2 := H1.step hE2 0
  have hsm := hc.ints.small
  have hla := hc.ints.lth
  have hby := hc.by47
  refine own_w 2 H2 hp (by decide) fun p1 c1 w3 f3 hE3 H3 => ⟨_, _, _, _, _, rfl, hE3.keep _, ?_⟩
  refine ints_w 1 H3 hc (by decide) fun p2 c2 w4 f4 hE4 H4 => ⟨_, _, _, rfl, hE4.keep _, fun k6 hk6 => ?_⟩
  refine St.locl H4 (by simp; omega) fun w5 f5 H5 => ?_
  refine app_st (c := 1) H5 (by repeat (first | exact List.Mem.head _ | apply List.Mem.tail)) (by simp [blocks]) hby (by omega) fun p3 k8 w6 f6 H6 => ?_
  intro k9 hk9
  replace H6 : Ths w w6 f6 [k6, k1] [⟨1, p3, len + 1, k8, 1, i64s (args ++ [77])⟩, ⟨2, p1, lp, c1, 1, px xs⟩] := H6.mono (by simp) (by simp)
  have hroom := St.room H6 (c := 1) (by repeat (first | exact List.Mem.head _ | apply List.Mem.tail))
  have hget : ∀ i : Nat, i < len → (args ++ [77]).getD i 0 = args.getD i 0 := fun i hi => by
    simp only [List.getD]; rw [List.getElem?_append_left (by omega)]
  have hget2 : (args ++ [77]).getD len 0 = 77 := by
    simp only [List.getD]; rw [List.getElem?_append_right (by omega), hla]; simp
  have hpre : ∀ {u : World} {f : Nat → Nat} {L : List Nat} {l : List Tg}, Ths w u f L l → (⟨1, p3, len + 1, k8, 1, i64s (args ++ [77])⟩ : Tg) ∈ l → Ints u p3 len args := fun h ht => ⟨((h.get ht).sl).pre (by rw [i64s_append]; exact List.prefix_append _ _), hla, hsm⟩
  have hle := appR_len (op := s) (args := args) (xs := xs) (W := W) (H := H)
  clear H0 H1 H2 H3 H4 H5
  refine ⟨fun vs u => match vs with | [.pointer (some ⟨k, _, _⟩), .int _ a, .int _ b, .slice p l c] => ∃ f, Ths w u f [k, k9, k6, k1] [⟨5, p, l, c, 1, px (appR s args W H xs).2.2.1⟩, ⟨1, p3, len + 1, k8, 1, i64s (args ++ [77])⟩, ⟨2, p1, lp, c1, 1, px xs⟩] | _ => False, ⟨by omega, by omega, by omega, ?_⟩, ?_⟩
  · rw [show (0 : Int).toNat = 0 from rfl, slcBase0, show ((len : Int).toNat - 0) = len by omega]
    repeat' first
      | (refine St.locl (by assumption) (by first | (simp; done) | (simp; omega) | (intro b hb; simp at *; omega)) fun u f H => ?_)
      | (refine apply_st 5 _ (by assumption) (hpre (by assumption) (by repeat (first | exact List.Mem.head _ | apply List.Mem.tail))) (by omega) (St.img (c := 2) (by assumption) (by repeat (first | exact List.Mem.head _ | apply List.Mem.tail))) (St.room (c := 2) (by assumption) (by repeat (first | exact List.Mem.head _ | apply List.Mem.tail))) hp.sm (by decide) rfl fun p l c u f hE H => ⟨_, _, _, _, _, _, rfl, hE.keep _, ?_⟩)
      | (refine ⟨_, Ths.mono (by assumption) (by simp) (by simp)⟩)
      | (intro k hk)
      | (refine And.intro ?_ ?_)
  clear H6
  intro k18 n9 n10 p7 k19 k20 w13 hI
  obtain ⟨f13, H13⟩ := hI
  have H13' := H13.dr
  refine ⟨fun vs u => match vs with | [.pointer (some ⟨k, _, _⟩), .int _ a, .int _ b, .slice p l c] => a = (appR s args W H xs).1 ∧ b = (appR s args W H xs).2.1 ∧ ∃ f, Ths w u f [k, k18, k9, k6, k1] [⟨5, p7, k19, k20, 1, px (appR s args W H xs).2.2.1⟩, ⟨6, p, l, c, 1, px (appR s args W H xs).2.2.1⟩, ⟨1, p3, len + 1, k8, 1, i64s (args ++ [77])⟩, ⟨2, p1, lp, c1, 1, px xs⟩] | _ => False, ⟨by omega, by omega, by omega, ?_⟩, ?_⟩
  · rw [show (0 : Int).toNat = 0 from rfl, slcBase0, show ((len : Int).toNat - 0) = len by omega]
    repeat' first
      | (refine St.locl (by assumption) (by first | (simp; done) | (simp; omega) | (intro b hb; simp at *; omega)) fun u f H => ?_)
      | (refine apply_st 6 _ (by assumption) (hpre (by assumption) (by repeat (first | exact List.Mem.head _ | apply List.Mem.tail))) (by omega) (St.img (c := 2) (by assumption) (by repeat (first | exact List.Mem.head _ | apply List.Mem.tail))) (St.room (c := 2) (by assumption) (by repeat (first | exact List.Mem.head _ | apply List.Mem.tail))) hp.sm (by decide) rfl fun p l c u f hE H => ⟨_, _, _, _, _, _, rfl, hE.keep _, ?_⟩)
      | (refine ⟨rfl, rfl, _, Ths.mono (by assumption) (by simp) (by simp)⟩)
      | (intro k hk)
      | (refine And.intro ?_ ?_)
  clear H13 H13'
  intro k29 n17 n18 p11 k30 k31 w19 hI
  obtain ⟨rfl, rfl, f19, H19⟩ := hI
  refine ⟨fun vs u => match vs with | [.int _ n] => 0 ≤ n ∧ n ≤ k19 ∧ ∃ zs f, Ths w u f [k29, k18, k9, k6, k1] [⟨5, p7, k19, k20, 1, px zs⟩, ⟨6, p11, k30, k31, 1, px (appR s args W H xs).2.2.1⟩, ⟨1, p3, len + 1, k8, 1, i64s (args ++ [77])⟩, ⟨2, p1, lp, c1, 1, px xs⟩] | _ => False,
    fun vs _ => match vs with | [.int _ n] => (k19 - n).toNat | _ => 0, ⟨by omega, by omega, _, _, H19⟩, fun n w20 hI => ?_⟩
  have l5 := St.len H19 (c := 5) (p := p7) (by repeat (first | exact List.Mem.head _ | apply List.Mem.tail))
  clear H19
  obtain ⟨n0, n1, zs, f20, H20⟩ := hI
  refine brB_i (fun hlt => ?_) (fun hge => ?_)
  · have hlt : n < k19 := by simpa using hlt
    refine write_st H20.dr (by simp) n0 hlt fun a1 _ _ _ e4 _ => ⟨_, e4, ?_⟩
    refine write_st H20.dr (by simp) n0 hlt fun a2 e1 e2 e3 _ e5 => ⟨e1, e2, e3, ?_⟩
    rw [w64 (x := n + 1) (by omega) (by omega)]
    exact ⟨⟨by omega, by omega, _, _, e5 _⟩, by show (k19 - (n + 1)).toNat < (k19 - n).toNat; omega⟩
  clear n0 n1 hge
  have hE20 := H20.pal.ext
  refine refApply_st 7 H20 (hc.ints.ext hE20) (hp.img.ext hE20) hp.sm (by decide) fun p12 k32 k33 w21 f21 hE21 H21 => ⟨_, _, _, _, _, _, rfl, hE21.keep _, fun k34 hk34 => ?_⟩
  refine St.late H21 (c := 1) (by repeat (first | exact List.Mem.head _ | apply List.Mem.tail)) (by omega) (by omega) fun a3 ha3 => ?_
  refine St.locl H21 (by first | (simp; done) | (simp; omega) | (intro b hb; simp at *; omega)) fun w22 f22 H22 => ⟨_, ha3 _ _ _ _ H22 (by repeat (first | exact List.Mem.head _ | apply List.Mem.tail)), ?_⟩
  rw [show ((len : Int)).toNat = len by omega, hget2]
  have hsz2 := hp.sz
  have l6 := St.len H22 (c := 6) (p := p11) (by repeat (first | exact List.Mem.head _ | apply List.Mem.tail))
  have hxl : xs.length < 2 ^ 62 := by have := hp.img.len; omega
  refine brB_f rfl ?_
  refine same_st (c := 2) H22 (by repeat (first | exact List.Mem.head _ | apply List.Mem.tail)) (hp.img.ext H22.pal.ext) hxl fun w23 f23 hE23 H23 => ⟨_, rfl, hE23.keep _, brB_f (by simp [same]) ?_⟩
  refine same_st (c := 6) H23 (by repeat (first | exact List.Mem.head _ | apply List.Mem.tail)) (St.img (c := 7) H23 (by repeat (first | exact List.Mem.head _ | apply List.Mem.tail))) (by omega) fun w24 f24 hE24 H24 => ⟨_, rfl, hE24.keep _, brB_f (by simp [same]) ?_⟩
  refine ⟨fun vs u => match vs with | [.int _ n] => 0 ≤ n ∧ n ≤ len ∧ Ext w24 u | _ => False, fun vs _ => match vs with | [.int _ n] => (len - n).toNat | _ => 0, ⟨by omega, by omega, Ext.refl _⟩, fun n w25 hI => ?_⟩
  obtain ⟨n0, n1, hE25⟩ := hI
  refine brB_i (fun hlt => ?_) (fun hge => hR _ (H24.pal.ext.trans hE25))
  have hlt : n < len := by simpa using hlt
  have H25 := (H24.step hE25 0).dr
  refine St.late H25 (c := 1) (p := p3) (by repeat (first | exact List.Mem.head _ | apply List.Mem.tail)) n0 (by omega) fun a4 ha4 => ⟨_, ha4 _ _ _ _ H25 (by repeat (first | exact List.Mem.head _ | apply List.Mem.tail)), ?_⟩
  refine (hc.ints.ext H25.pal.ext).at_ n0 hlt fun a5 ha5 => ⟨_, ha5, ?_⟩
  rw [hget _ (by omega), w64 (x := n + 1) (by omega) (by omega)]
  exact brB_f (by simp) ⟨⟨by omega, by omega, hE25.drew⟩, by show (len - (n + 1)).toNat < (len - n).toNat; omega⟩
end Go.Proofs.Ytdephacjcljinaa
