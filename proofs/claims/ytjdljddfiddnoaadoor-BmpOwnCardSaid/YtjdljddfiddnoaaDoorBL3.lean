/- Bmp: what is handed in stays, what is answered is new. -/
import Derived.Test.YtjdljddfiddnoaaDoorBL2
namespace Go.Proofs.YtjdljddfiddnoaaDoor
open Go Go.Vc Go.RowKit
set_option maxRecDepth 100000
set_option linter.unusedVariables false
set_option linter.unusedSimpArgs false

set_option maxHeartbeats 4000000 in
theorem own_walk {w : World} {p q : Option Addr} {len cap lq cq : Nat} {bs xs : List Int} {W H : Int} {al : Bool} {R : Ending → World → Prop} (hT : Tab w) (hb : BytesOk w p len cap bs) (hq : ImgOk w W H q lq cq xs) (hR : ∀ w', Ext w w' → R (.returned (.bool true)) w') :
    Calls P F.law11_BmpOwn #[.slice p len cap, .agg #[i64 W, i64 H, .slice q lq cq], .bool al] w R := by
  refine calls_law11_BmpOwn _ _ _ _ _ _ _ _ _ _ _ ?_
  unfold vc_law11_BmpOwn
  intro k1 hk1
  refine St.locl (St.start w) (by simp; omega) fun w1 f1 H1 => ?_
  refine wakes_spec (hT.ext H1.pal.ext) fun w2 hE2 => ⟨_, rfl, hE2.keep _, brB_f rfl ?_⟩
  have H2 := (H1.step hE2 0).dr
  clear H1
  have hbig := hb.big
  have hln := hb.by_.ln
  have hfit := hb.by_.fit
  have hsz := hq.sz
  refine ⟨fun vs u => match vs with | [.slice p0 l0 c0, .pointer (some ⟨k, _, _⟩), .int _ a, .int _ b, .slice s l c] => l0 = len + 1 ∧ W = a ∧ H = b ∧ lq = l ∧ ∃ f, Ths w u f [k, k1] [⟨1, p0, l0, c0, 1, bytes (bs ++ [77])⟩, ⟨2, s, l, c, 1, px xs⟩] | _ => False, ?_, ?_⟩
  · repeat' first
      | (refine St.locl (by assumption) (by first | (simp; done) | (simp; omega) | (intro b hb; simp at *; omega)) fun u f H => ?_)
      | (refine own_st 1 (by assumption) (hb.by_.ext (Pal.ext (Ths.pal (by assumption)))) (by decide) fun p c u f hE H => ⟨_, _, _, rfl, hE.keep _, ?_⟩)
      | (refine copy_st 2 (by assumption) (hq.img.ext (Pal.ext (Ths.pal (by assumption)))) hsz (by decide) fun p c u f hE H => ⟨_, _, _, _, _, rfl, hE.keep _, ?_⟩)
      | (refine app_st (c := 1) (by assumption) (by repeat (first | exact List.Mem.head _ | apply List.Mem.tail)) (by simp [blocks]) (by omega) (by omega) fun p c u f H => ?_)
      | (refine ⟨rfl, rfl, rfl, rfl, _, Ths.mono (by assumption) (by simp) (by simp)⟩)
      | (intro k hk)
      | (refine And.intro ?_ ?_)
  clear H2
  intro p24 k62 k63 k64 n21 n22 p25 k65 k66 w47 hI
  obtain ⟨rfl, rfl, rfl, rfl, f47, H47⟩ := hI
  have hroom := St.room H47 (c := 1) (List.Mem.head _)
  have hroom2 := St.room H47 (c := 2) (List.Mem.tail _ (List.Mem.head _))
  have hget2 : (bs ++ [77]).getD len 0 = 77 := by
    simp only [List.getD]; rw [List.getElem?_append_right (by omega), hln]; simp
  have hpre : ∀ {u : World} {f : Nat → Nat} {L : List Nat} {l : List Tg}, Ths w u f L l → (⟨1, p24, len + 1, k63, 1, bytes (bs ++ [77])⟩ : Tg) ∈ l → By u p24 len bs := fun h ht => ⟨((h.get ht).sl).pre (by rw [bytes_append]; exact List.prefix_append _ _), hln, by omega, hfit⟩
  refine ⟨by omega, by omega, by omega, ?_⟩
  rw [show (0 : Int).toNat = 0 from rfl, slcBase0, show ((len : Int).toNat - 0) = len by omega, show k63 - 0 = k63 by omega]
  refine dec_st 5 _ H47 hT (hpre H47 (List.Mem.head _)) (by omega) (by decide) rfl fun p27 k69 k70 w48 f48 hE48 H48 => ⟨_, _, _, _, _, _, rfl, hE48.keep _, fun k71 hk71 => ⟨by omega, by omega, by omega, ?_⟩⟩
  clear H47
  rw [show (0 : Int).toNat = 0 from rfl, slcBase0, show ((len : Int).toNat - 0) = len by omega, show k63 - 0 = k63 by omega]
  refine St.locl H48 (by simp at hk71 ⊢; omega) fun w49 f49 H49 => ?_
  clear H48
  refine dec_st 6 _ H49 hT (hpre H49 (List.Mem.tail _ (List.Mem.head _))) (by omega) (by decide) rfl fun p29 k74 k75 w50 f50 hE50 H50 => ⟨_, _, _, _, _, _, rfl, hE50.keep _, fun k76 hk76 => ?_⟩
  clear H49
  refine St.locl H50 (by simp at hk76 ⊢; omega) fun w51 f51 H51 => ?_
  clear H50
  refine enc_st 7 _ H51 (St.img (c := 2) (p := p25) H51 (by repeat (first | exact List.Mem.head _ | apply List.Mem.tail))) hroom2 hq.sm (by decide) rfl fun p30 k77 k78 w52 f52 hE52 H52 => ⟨_, _, _, _, rfl, hE52.keep _, ?_⟩
  clear H51
  have l5 := St.len H52 (c := 5) (p := p27) (by repeat (first | exact List.Mem.head _ | apply List.Mem.tail))
  have l7 := St.blen H52 (c := 7) (p := p30) (by repeat (first | exact List.Mem.head _ | apply List.Mem.tail))
  have hk69 : k69 ≤ 262144 := by have := decR_len (bs := bs) (most := 9999); omega
  have hk77 : k77 ≤ 2 ^ 30 := by have := encR_small (al := al) (W := W) (H := H) (xs := xs); omega
  generalize hpx : px (decR bs 9999).2.2.1 = X at H52
  have hXl : X.length = (decR bs 9999).2.2.1.length := by rw [← hpx, px_length]
  generalize hby : bytes (encR al W H xs).1 = Y at H52
  have hX16 : ∀ v ∈ X, ∃ n : Int, v = u16 n := by
    intro v hv
    rw [← hpx] at hv
    simp only [px, List.mem_map] at hv
    obtain ⟨n, _, rfl⟩ := hv
    exact ⟨n, rfl⟩
  refine ⟨fun vs u => ∃ (i : Nat) (Z : List Int) (f : Nat → Nat), vs = [i64 i] ∧ i ≤ k69 ∧ Ths w u f [k76, k71, k64, k1] [⟨5, p27, k69, k70, 1, px Z⟩, ⟨7, p30, k77, k78, 1, Y⟩, ⟨6, p29, k74, k75, 1, px (decR bs 9999).2.2.1⟩, ⟨1, p24, len + 1, k63, 1, bytes (bs ++ [77])⟩, ⟨2, p25, lq, k66, 1, px xs⟩],
    fun vs _ => match vs with | [.int _ i] => (k69 - i).toNat | _ => 0, ⟨0, (decR bs 9999).2.2.1, f52, rfl, by omega, H52.mono (by simp) (by rw [← hpx]; simp)⟩, fun n30 w53 hI => ?_⟩
  clear H52
  obtain ⟨i, Z, f53, hv, hi, H53⟩ := hI
  obtain rfl : n30 = i := by simpa using hv
  refine brB_i (fun hlt => ?_) fun hge => ?_
  · have hlt : i < k69 := by simp at hlt; omega
    have lZ := St.len H53 (c := 5) (List.Mem.head _)
    have hz : (px Z)[((i : Nat) : Int).toNat]? = some (u16 (Z.getD i 0)) := by rw [Int.toNat_natCast, px_get (by omega)]
    refine St.write H53.dr (by simp) (by omega) (by omega) fun a1 _ _ _ e4 _ => ⟨_, e4 _ hz, ?_⟩
    refine St.write H53.dr (by simp) (by omega) (by omega) fun a2 e1 e2 e3 _ e5 => ⟨e1, e2, e3, ?_⟩
    rw [w64 (x := (i : Int) + 1) (by omega) (by omega)]
    refine ⟨⟨i + 1, Z.set i (IntKind.u16.wrap (Z.getD i 0 + 1)), f53, rfl, by omega, ?_⟩, by show (k69 - ((i : Int) + 1)).toNat < (k69 - (i : Int)).toNat; omega⟩
    have := e5 (u16 (IntKind.u16.wrap (Z.getD i 0 + 1)))
    rw [Int.toNat_natCast] at this
    rw [px, List.map_set]; exact this
  refine ⟨fun vs u => ∃ (i : Nat) (Z : List Value) (f : Nat → Nat), vs = [i64 i] ∧ i ≤ k77 ∧ Ths w u f [k76, k71, k64, k1] [⟨7, p30, k77, k78, 1, Z⟩, ⟨6, p29, k74, k75, 1, px (decR bs 9999).2.2.1⟩, ⟨1, p24, len + 1, k63, 1, bytes (bs ++ [77])⟩, ⟨2, p25, lq, k66, 1, px xs⟩],
    fun vs _ => match vs with | [.int _ i] => (k77 - i).toNat | _ => 0, ⟨0, Y, f53, rfl, by omega, H53.mono (by simp) (by simp)⟩, fun n32 w54 hI => ?_⟩
  clear H53
  obtain ⟨j, Z', f54, hv, hj, H54⟩ := hI
  obtain rfl : n32 = j := by simpa using hv
  refine brB_i (fun hlt => ?_) fun hge => ?_
  · have hlt : j < k77 := by simp at hlt; omega
    refine St.write H54 (by simp) (by omega) (by omega) fun a2 e1 e2 e3 _ e5 => ⟨e1, e2, e3, ?_⟩
    rw [w64 (x := (j : Int) + 1) (by omega) (by omega)]
    exact ⟨⟨j + 1, _, f54, rfl, by omega, e5 _⟩, by show (k77 - ((j : Int) + 1)).toNat < (k77 - (j : Int)).toNat; omega⟩
  refine rdec_st 8 _ H54 (hb.by_.ext H54.pal.ext) hb.cap (by decide) rfl fun p31 k79 k80 w55 f55 hE55 H55 => ⟨_, _, _, _, _, _, rfl, hE55.keep _, fun k81 hk81 => ?_⟩
  clear H54
  have g77 : (bytes (bs ++ [77]))[((len : Nat) : Int).toNat]? = some (u8 77) := by rw [Int.toNat_natCast, bytes_get (by rw [List.length_append]; simp; omega), hget2]
  refine St.late H55 (c := 1) (p := p24) (by repeat (first | exact List.Mem.head _ | apply List.Mem.tail)) (by omega) g77 fun a4 ha4 => ?_
  refine St.locl H55 (by simp at hk81 ⊢; omega) fun w56 f56 H56 => ⟨_, ha4 _ _ _ _ H56 (by repeat (first | exact List.Mem.head _ | apply List.Mem.tail)), brB_t rfl ⟨by omega, by omega, by omega, ?_⟩⟩
  clear H55
  rw [show (0 : Int).toNat = 0 from rfl, slcBase0, show ((len : Int).toNat - 0) = len by omega]
  have hB56 := hpre H56 (by repeat (first | exact List.Mem.head _ | apply List.Mem.tail))
  refine same_spec hB56.sl (hb.by_.ext H56.pal.ext).sl hln hln (by omega) fun w57 hE57 => ⟨_, rfl, hE57.keep _, brB_t (by simp) ?_⟩
  have H57 := H56.step hE57 0
  refine refSame_spec (St.img (c := 2) (p := p25) H57 (by repeat (first | exact List.Mem.head _ | apply List.Mem.tail))) (hq.img.ext H57.pal.ext) (by omega) fun w58 hE58 => ⟨_, rfl, hE58.keep _, brB_t (by simp [same]) ?_⟩
  have H58 := H57.step hE58 0
  have l6 := St.len H58 (c := 6) (p := p29) (by repeat (first | exact List.Mem.head _ | apply List.Mem.tail))
  have hle := decR_len (bs := bs) (most := 9999)
  refine refSame_spec (St.img (c := 6) (p := p29) H58 (by repeat (first | exact List.Mem.head _ | apply List.Mem.tail))) (St.img (c := 8) (p := p31) H58 (by repeat (first | exact List.Mem.head _ | apply List.Mem.tail))) (by omega) fun w59 hE59 => ⟨_, rfl, hE59.keep _, to_bool (hR w59 (H58.pal.ext.trans hE59)) (by simp [same])⟩
end Go.Proofs.YtjdljddfiddnoaaDoor
