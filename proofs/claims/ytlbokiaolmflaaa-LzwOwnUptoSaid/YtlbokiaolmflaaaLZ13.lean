/- LZW: packing, walked: the whole. -/
import Derived.Test.YtlbokiaolmflaaaLZ12
namespace Go.Proofs.Ytlbokiaolmflaaa
open Go Go.Vc Go.RowKit
set_option maxRecDepth 100000
set_option linter.unusedVariables false
set_option linter.unusedSimpArgs false

def KI (w : World) (k1 k2 kw kn wb : Nat) (bs : List Int) (cl w0 early : Nat) (up : Bool) (res : List Int) (i : Nat) (vs : List Value) (u : World) : Prop := match vs with
  | [.map (some km), .int _ at_, .bool fr] => ∃ (S : Nat → Prop) (E : List (Nat × Int)) (wd : Nat) (ato : Option Nat) (bsW : List Int) (m : Nat),
      KM w u k1 k2 kw kn km wb S cl w0 early up (kvsOf E (cl + 2)) wd (cl + 2 + (E.length - 1)) bsW m ∧ at_ = ahI ato ∧ fr = decide (E.length ≠ 0) ∧ cl + 2 + E.length ≤ 4090 ∧ 1 ≤ wd ∧ wd ≤ 12 ∧ (∀ a, ato = some a → a < 4096) ∧
      (putAll up (pk cl w0 early (bs.drop i) E wd ato) (bsW, m)).1 = res ∧ m ≤ 24 * i + 12 ∧ i ≤ bs.length
  | _ => False
set_option maxHeartbeats 8000000 in
theorem packK_spec {N cl w0 early : Nat} {up : Bool} {w : World} {base : Option Addr} {len cap : Nat} {bs : List Int} {R : Ending → World → Prop}
    (h : Sl N w base (bytes bs)) (hl : len = bs.length) (hsz : len ≤ 2 ^ 24) (hf : Bs bs) (hcl : cl ≤ 256) (hw1 : 1 ≤ w0) (hw2 : w0 ≤ 12) (he : early ≤ 1)
    (hR : ∀ p l c w', Fg [] w w' 1 p l c (bytes (packL bs cl w0 early up)) → R (.returned (.slice p l c)) w') :
    Calls P F.lzw_kind_pack #[.agg #[i64 cl, i64 w0, .bool up, i64 early], .slice base len cap] w R := by
  refine calls_lzw_kind_pack _ _ _ _ _ _ _ _ _ ?_
  unfold vc_lzw_kind_pack
  generalize hres : packL bs cl w0 early up = res at hR
  unfold packL at hres
  intro k1 w1 hn1
  have hk1 := hn1.1
  have hs1 := hn1.size
  have he1 := hn1.ext.size
  refine ⟨up, hn1.cs.cell (i := 2) rfl, ?_⟩
  refine NewWriter_spec fun wb w2 hE2 hwb hw2' => ⟨_, rfl, fun k2 w3 hn3 => ?_⟩
  have hs2 := hE2.size
  have hwl := hw2'.lt
  have hk2 := hn3.1
  have hs3 := hn3.size
  have he3 := hn3.ext.size
  refine ⟨⟨_, hn3.cs.cell (i := 0) rfl⟩, hn3.cs.frozen 0, ?_⟩
  have hC4 := Chg.setCells w3 ⟨k2, 0, none⟩ [.pointer (some ⟨wb, 0, none⟩)] 0
  have e4 : ∀ {k : Nat}, (· = (⟨k2, 0, none⟩ : Addr).block) k → k = k2 := fun h => h
  have hs4 := hC4.size
  have hsz4 : (setCells w3 ⟨k2, 0, none⟩ [.pointer (some ⟨wb, 0, none⟩)] 0).heap.size = w3.heap.size := (setCells_same _ _ _ _).size
  have hE12 := hn1.ext.trans hE2
  have hE3 : Ext w w3 := hE12.trans hn3.ext
  have hE4 : Ext w (setCells w3 ⟨k2, 0, none⟩ [.pointer (some ⟨wb, 0, none⟩)] 0).drew := (hE3.step hC4 fun i hi => by have := e4 hi; omega).drew
  have ck4 : Cs (setCells w3 ⟨k2, 0, none⟩ [.pointer (some ⟨wb, 0, none⟩)] 0).drew k1 [i64 cl, i64 w0, .bool up, i64 early] :=
    (((hn1.cs.ext hE2).ext hn3.ext).chg hC4 fun hi => by have := e4 hi; omega).drew
  have cr4 : Cs (setCells w3 ⟨k2, 0, none⟩ [.pointer (some ⟨wb, 0, none⟩)] 0).drew k2 [.pointer (some ⟨wb, 0, none⟩)] := by
    have := hn3.cs.set1 (off := 0) (v := .pointer (some ⟨wb, 0, none⟩)) (by simp)
    exact (show Cs _ _ _ by simpa using this).drew
  have wr4 : WrAt (setCells w3 ⟨k2, 0, none⟩ [.pointer (some ⟨wb, 0, none⟩)] 0).drew (some ⟨wb, 0, none⟩) wb (fun _ => False) [] 0 up :=
    ((hw2'.ext hn3.ext).chg hC4 (fun hi => by have := e4 hi; omega) (fun _ h => h.elim)).ext (Ext.refl _).drew
  generalize (setCells w3 ⟨k2, 0, none⟩ [.pointer (some ⟨wb, 0, none⟩)] 0).drew = u0 at *
  have hlo : w.heap.size ≤ k1 ∧ w.heap.size ≤ k2 ∧ w.heap.size ≤ wb := by omega
  have hnd : k1 ≠ k2 ∧ k1 ≠ wb ∧ k2 ≠ wb := by omega
  have hI0 := IS.init u0
  refine ⟨fun vs u => match vs with | [.map (some km), .pointer (some pw), .pointer (some pn)] => ∃ kw kn, pw = ⟨kw, 0, none⟩ ∧ pn = ⟨kn, 0, none⟩ ∧ KM w u k1 k2 kw kn km wb (fun _ => False) cl w0 early up [] w0 (cl + 2) [] 0 | _ => False, ?_, ?_⟩
  · have fin : ∀ {a b km : Nat} {u : World} {cs : List Nat}, IS u0 [km] cs u → a ∈ cs → b ∈ cs → a ≠ b → ∃ kw kn, (⟨a, 0, none⟩ : Addr) = ⟨kw, 0, none⟩ ∧ (⟨b, 0, none⟩ : Addr) = ⟨kn, 0, none⟩ ∧
        KM w (setCells (setCells u ⟨a, 0, none⟩ [i64 w0] 0) ⟨b, 0, none⟩ [i64 (IntKind.i64.wrap ((cl : Int) + 2))] 0) k1 k2 kw kn km wb (fun _ => False) cl w0 early up [] w0 (cl + 2) [] 0 := fun hI ha hb hab =>
      ⟨_, _, rfl, rfl, hI.fin ha hb hab hE4 ck4 cr4 wr4 hlo hnd hcl⟩
    have hne : ∀ {ms cs : List Nat} {u : World} {a b : Nat}, IS u0 ms (a :: b :: cs) u → a ≠ b := fun hI e => by
      have := hI.nd
      subst e
      simp at this
    have l0 : ∀ {ms cs : List Nat} {u : World}, IS u0 ms cs u → u.cell? ⟨k1, 0, none⟩ = some (i64 cl) := fun hI => hI.ld ck4 rfl
    have l1 : ∀ {ms cs : List Nat} {u : World}, IS u0 ms cs u → u.cell? ⟨k1, 1, none⟩ = some (i64 w0) := fun hI => hI.ld ck4 rfl
    clear hres h hR
    repeat' first
      | (intro k u hn; have hI := IS.map (by assumption) hn; clear hn)
      | (intro k u hn; have hI := IS.cell (by assumption) hn; clear hn)
      | exact fin (by assumption) (by simp) (by simp) (hne (by assumption))
      | exact fin (by assumption) (by simp) (by simp) (hne (by assumption)).symm
      | exact IS.ex (by assumption) (by simp)
      | exact IS.ex (IS.st (by assumption) (by simp)) (by simp)
      | exact IS.fz (by assumption) (by simp)
      | exact IS.fz (IS.st (by assumption) (by simp)) (by simp)
      | refine ⟨_, l1 (by assumption), ?_⟩
      | refine ⟨_, l0 (by assumption), ?_⟩
      | refine ⟨_, l0 (IS.st (by assumption) (by simp)), ?_⟩
      | refine And.intro ?_ ?_
  intro p2 p3 p4 w52 hI1
  obtain ⟨km, rfl⟩ : ∃ km, p2 = some km := by cases p2 with | none => exact hI1.elim | some km => exact ⟨km, rfl⟩
  obtain ⟨pw, rfl⟩ : ∃ pw, p3 = some pw := by cases p3 with | none => exact hI1.elim | some pw => exact ⟨pw, rfl⟩
  obtain ⟨pn, rfl⟩ : ∃ pn, p4 = some pn := by cases p4 with | none => exact hI1.elim | some pn => exact ⟨pn, rfl⟩
  obtain ⟨kw, kn, rfl, rfl, km52⟩ := hI1
  clear hI0 ck4 cr4 wr4 hE4
  refine ⟨_, km52.cr.cell (i := 0) rfl, _, km52.ck.cell (i := 0) rfl, nn_i rfl ⟨_, km52.cw.cell (i := 0) rfl, ?_⟩⟩
  rw [wu32 (x := (cl : Int)) (by omega) (by omega)]
  refine Put_spec km52.wr km52.ok (by omega) (by omega) (by omega) (fun hh => by omega) fun _ _ S1 w53 hg1 hC1 hwr1 => ⟨_, rfl, ?_⟩
  rw [Int.toNat_natCast] at hwr1
  have km53 := km52.put hg1 hC1 hwr1 (by have := putV_ok (v := cl) (n := w0) km52.ok w0; exact this)
  rw [putAll] at hres
  refine ⟨fun vs u => match vs with | [.map p6, .int k a, .bool fr, .int _ i] => ∃ n : Nat, i = n ∧ KI w k1 k2 kw kn wb bs cl w0 early up res n [.map p6, .int k a, .bool fr] u | _ => False,
    fun vs _ => match vs with | [.map _, .int _ _, .bool _, .int _ i] => (bs.length - i).toNat | _ => 0, ⟨0, rfl, S1, [], w0, none, _, _, km53, rfl, rfl, by simp; omega, hw1, hw2, by simp, hres, by omega, by omega⟩, ?_⟩
  intro p6 n27 c2 n28 w54 hI2
  obtain ⟨i, rfl, hI2⟩ := hI2
  obtain ⟨km', rfl⟩ : ∃ km, p6 = some km := by cases p6 with | none => exact hI2.elim | some km => exact ⟨km, rfl⟩
  obtain ⟨S, E, wd, ato, bsW, m, km54, rfl, rfl, hE90, hwd1, hwd2, hat, hpk, hm, hi⟩ := hI2
  clear km52 km53 hres hwr1 hg1 hC1
  have hputA : ∀ {a : Nat} {R' : Ending → World → Prop}, a < 4096 → (∀ S' u', KM w u' k1 k2 kw kn km' wb S' cl w0 early up (kvsOf E (cl + 2)) (wdA cl early E wd) (cl + 2 + E.length) (putV up bsW m a wd wd) (m + wd) → R' (.returned (.tuple #[])) u') →
      Calls P F.lzw_kind_pack_fn1 #[i64 a, .bool (decide (E.length ≠ 0)), .pointer (some ⟨k2, 0, none⟩), .pointer (some ⟨kw, 0, none⟩), .pointer (some ⟨kn, 0, none⟩), .pointer (some ⟨k1, 0, none⟩)] w54 R' := fun {a R'} ha hK => by
    refine putF_spec km54 (by omega) hwd1 hwd2 (by omega) (by omega) he fun S' u' hkm => hK S' u' ?_
    by_cases hE0 : E.length = 0
    · simp only [hE0, ne_eq, not_true_eq_false, decide_false, Bool.false_eq_true, if_false] at hkm
      unfold wdA
      rw [if_pos hE0, hE0]; exact hkm
    · simp only [hE0, ne_eq, not_false_eq_true, decide_true, if_true] at hkm
      unfold wdA
      rw [if_neg hE0, show cl + 2 + E.length = cl + 2 + (E.length - 1) + 1 by omega]; exact hkm
  refine brB_i (fun hb => ?_) (fun hb => ?_)
  · have hb : (i : Int) < len := by simpa using hb
    have hil : i < bs.length := by omega
    have hxr : 0 ≤ bs.getD i 0 ∧ bs.getD i 0 ≤ 255 := by
      obtain ⟨v, h1, h2⟩ := getD_fit hf i
      omega
    rw [drop_cons_of hil] at hpk
    generalize hxv : bs.getD i 0 = x at *
    have hxe : x = (x.toNat : Int) := by omega
    refine ⟨fun vs u => KI w k1 k2 kw kn wb bs cl w0 early up res (i + 1) vs u, ?_, fun p8 n40 c4 w60 hI3 => ?_⟩
    rotate_left
    · rw [w64 (x := (i : Int) + 1) (by omega) (by omega)]
      exact ⟨⟨i + 1, by omega, hI3⟩, by show ((bs.length : Int) - (i + 1)).toNat < ((bs.length : Int) - i).toNat; omega⟩
    refine (h.ext km54.ext).get (by omega) (by rw [bytes_length]; omega) (v := u8 x) (by rw [Int.toNat_natCast, bytes_get hil, hxv]) fun a2 ha2 => ⟨_, ha2, ?_⟩
    rw [w64 (x := x) (by omega) (by omega)]
    cases ato with
    | none =>
      refine brB_t (by simp [ahI]) ⟨S, E, wd, some x.toNat, bsW, m, km54, hxe, rfl, hE90, hwd1, hwd2, fun a ha => by cases ha; omega, hpk, by omega, by omega⟩
    | some a =>
      have ha4 := hat a rfl
      refine brB_f (decide_eq_false (by show ¬ (a : Int) < 0; omega)) ⟨_, km54.mp, ?_⟩
      have hkey : (Value.agg #[i64 (ahI (some a)), u8 x]) = keyP a x := rfl
      rw [hkey]
      rw [pk] at hpk
      cases hfd : fnd a x E (cl + 2) with
      | some c =>
        rw [hfd] at hpk
        have hfc := fnd_some hfd
        refine ⟨c, true, by unfold mgot; rw [mfind_P, hfd]; rfl, brB_t rfl ⟨S, E, wd, some c, bsW, m, km54, rfl, rfl, hE90, hwd1, hwd2, fun a ha => by cases ha; omega, hpk, by omega, by omega⟩⟩
      | none =>
        rw [hfd] at hpk
        simp only at hpk
        have hwdr := wdA_range (cl := cl) (early := early) (E := E) hwd1 hwd2
        refine ⟨0, false, by unfold mgot; rw [mfind_P, hfd]; rfl, brB_f rfl ?_⟩
        refine hputA ha4 fun S5 w55 km55 => ⟨rfl, nn_i rfl ⟨_, km55.cn.cell (i := 0) rfl, _, km55.mp, fun w56 hP56 hm56 => ?_⟩⟩
        rw [mput_P a x E (cl + 2) hfd] at hm56
        have km56 := km55.setm hP56 hm56
        refine nn_i rfl ⟨_, km56.cn.cell (i := 0) rfl, brB_i (fun hb2 => ?_) (fun hb2 => ?_)⟩
        · have hb2 : 4090 ≤ cl + 2 + E.length := by
            have : ((cl + 2 + E.length : Nat) : Int) ≥ 4090 := by simpa using hb2
            omega
          rw [if_pos hb2, putAll, putAll] at hpk
          refine ⟨_, km56.cr.cell (i := 0) rfl, _, km56.ck.cell (i := 0) rfl, nn_i rfl ⟨_, km56.cw.cell (i := 0) rfl, ?_⟩⟩
          rw [wu32 (x := (cl : Int)) (by omega) (by omega)]
          refine Put_spec km56.wr km56.ok (by omega) (by omega) (by omega) (fun hh => by omega) fun _ _ S7 w57 hg7 hC7 hwr7 => ⟨_, rfl, ?_⟩
          rw [Int.toNat_natCast] at hwr7
          have km57 := (km56.put hg7 hC7 hwr7 (by have := putV_ok (v := cl) (n := wdA cl early E wd) km56.ok (wdA cl early E wd); exact this)).dr
          have hfin : ∀ (k51 : Nat) (w58 : World), New w57.drew (.map #[] 0) k51 w58 → KM w w58 k1 k2 kw kn k51 wb S7 cl w0 early up [] (wdA cl early E wd) (cl + 2 + E.length) (putV up (putV up bsW m a wd wd) (m + wd) cl (wdA cl early E wd) (wdA cl early E wd)) (m + wd + wdA cl early E wd) ∧
              KI w k1 k2 kw kn wb bs cl w0 early up res (i + 1) [.map (some k51), i64 x, .bool false] (setCells (setCells w58 ⟨kw, 0, none⟩ [i64 w0] 0) ⟨kn, 0, none⟩ [i64 (IntKind.i64.wrap ((cl : Int) + 2))] 0) := fun k51 w58 hn58 => by
            have km58 := km57.newm hn58
            refine ⟨km58, S7, [], w0, some x.toNat, _, _, ?_, hxe, rfl, by simp; omega, hw1, hw2, fun a ha => by cases ha; omega, hpk, by omega, by omega⟩
            rw [w64 (by omega) (by omega)]
            exact (km58.setw w0).setn (cl + 2)
          refine ⟨_, km57.ck.cell (i := 1) rfl, fun k51 w58 hn58 => ?_, _, km57.ck.cell (i := 0) rfl, fun k52 w59 hn59 => ?_⟩
          · obtain ⟨km58, hki⟩ := hfin k51 w58 hn58
            have kmw := km58.setw w0
            refine ⟨⟨_, km58.ck.cell (i := 0) rfl, nn_i rfl ⟨⟨_, km58.cw.cell (i := 0) rfl⟩, km58.cw.frozen 0, nn_i rfl ⟨⟨_, kmw.cn.cell (i := 0) rfl⟩, kmw.cn.frozen 0, hki⟩⟩⟩,
              nn_i rfl ⟨⟨_, km58.cw.cell (i := 0) rfl⟩, km58.cw.frozen 0, _, kmw.ck.cell (i := 0) rfl, nn_i rfl ⟨⟨_, kmw.cn.cell (i := 0) rfl⟩, kmw.cn.frozen 0, hki⟩⟩⟩
          · obtain ⟨km58, hki⟩ := hfin k52 w59 hn59
            have kmw := km58.setw w0
            exact nn_i rfl ⟨⟨_, km58.cw.cell (i := 0) rfl⟩, km58.cw.frozen 0, nn_i rfl ⟨⟨_, kmw.cn.cell (i := 0) rfl⟩, kmw.cn.frozen 0, hki⟩⟩
        · have hb2 : ¬ 4090 ≤ cl + 2 + E.length := by
            have : ¬ ((cl + 2 + E.length : Nat) : Int) ≥ 4090 := by simpa using hb2
            omega
          rw [if_neg hb2, putAll] at hpk
          refine ⟨S5, E ++ [(a, x)], wdA cl early E wd, some x.toNat, _, _, ?_, hxe, by simp, by simp; omega, hwdr.1, hwdr.2, fun a ha => by cases ha; omega, hpk, by omega, by omega⟩
          rw [show (E ++ [(a, x)]).length - 1 = E.length by simp]; exact km56
  · have hb : ¬ (i : Int) < len := by simpa using hb
    rw [List.drop_of_length_le (by omega)] at hpk
    have hwdr := wdA_range (cl := cl) (early := early) (E := E) hwd1 hwd2
    refine ⟨fun vs u => vs = [] ∧ ∃ S wd nx bsW m, KM w u k1 k2 kw kn km' wb S cl w0 early up (kvsOf E (cl + 2)) wd nx bsW m ∧ putV up bsW m (cl + 1 : Nat) wd wd = res ∧ 1 ≤ wd ∧ wd ≤ 12 ∧ m ≤ 2 ^ 40, ?_, ?_⟩
    · cases ato with
      | none =>
        refine brB_f (by simp [ahI]) ⟨rfl, S, wd, _, bsW, m, km54, by simpa [pk, putAll] using hpk, hwd1, hwd2, by omega⟩
      | some a =>
        refine brB_t (by simp [ahI]) (hputA (hat a rfl) fun S5 w55 km55 => ⟨rfl, rfl, S5, _, _, _, _, km55, by simpa [pk, putAll] using hpk, hwdr.1, hwdr.2, by omega⟩)
    · intro w62 hI4
      obtain ⟨-, S6, wd6, nx6, bs6, m6, km62, hr, hwd61, hwd62, hm6⟩ := hI4
      refine ⟨_, km62.cr.cell (i := 0) rfl, _, km62.ck.cell (i := 0) rfl, nn_i rfl ⟨_, km62.cw.cell (i := 0) rfl, ?_⟩⟩
      rw [w64 (x := (cl : Int) + 1) (by omega) (by omega), wu32 (x := (cl : Int) + 1) (by omega) (by omega), show (cl : Int) + 1 = ((cl + 1 : Nat) : Int) by omega]
      refine Put_spec km62.wr km62.ok (by omega) (by omega) (by omega) (fun hh => by omega) fun _ _ S7 w63 hg7 hC7 hwr7 => ⟨_, rfl, ?_⟩
      rw [Int.toNat_natCast] at hwr7
      have hok7 := putV_ok (v := (cl + 1 : Nat)) (n := wd6) km62.ok wd6
      have km63 := km62.put hg7 hC7 hwr7 hok7
      refine ⟨_, km63.cr.cell (i := 0) rfl, ?_⟩
      have hlen := hok7.hi
      refine WBytes_spec km63.wr (by omega) fun p k w64' hE64 ho64 => ⟨_, _, _, rfl, ?_⟩
      have hfg := Fg.ofOw (bs := []) ho64 km63.ext hE64 (by simp)
      rw [hr] at hfg ⊢
      exact hR _ _ _ _ hfg
end Go.Proofs.Ytlbokiaolmflaaa
