/- LZW: bytes packed as runs, walked. -/
import Derived.Test.YtlbokiaolmflaaaLZ8
namespace Go.Proofs.Ytlbokiaolmflaaa
open Go Go.Vc Go.RowKit
set_option maxRecDepth 100000
set_option linter.unusedVariables false
set_option linter.unusedSimpArgs false

def flushL : Nat → List Int → List Int
  | 0, _ => []
  | F + 1, l => if l.length = 0 then [] else (((min l.length 128 : Nat) : Int) - 1) :: (l.take (min l.length 128) ++ flushL F (l.drop (min l.length 128)))
theorem flushL_nil (F : Nat) : flushL F [] = [] := by cases F <;> rfl
def lsLen (b : Nat) (u : World) : Nat := match u.cell? ⟨b, 0, none⟩ with
  | some (.slice _ l _) => l
  | _ => 0
theorem slcc0 {p : Option Addr} {n cap : Nat} {F : Option Addr → Nat → Nat → Prop} (h : n ≤ cap) (hF : F p n cap) : slcc p cap 0 (n : Int) 1 F := by
  refine ⟨by omega, by omega, by omega, ?_⟩
  have e1 : ((n : Int).toNat - (0 : Int).toNat) = n := by omega
  have e2 : cap - (0 : Int).toNat = cap := by simp
  rw [e1, e2, show (0 : Int).toNat = 0 from rfl, slcBase0]; exact hF
theorem slccN {p : Option Addr} {n len cap : Nat} {F : Option Addr → Nat → Nat → Prop} (h : n ≤ len) (hc : len ≤ cap) (hF : F (slcBase p n cap 1) (len - n) (cap - n)) : slcc p cap (n : Int) (len : Int) 1 F := by
  refine ⟨by omega, by omega, by omega, ?_⟩
  rw [Int.toNat_natCast, Int.toNat_natCast]; exact hF
theorem flush_spec {w u : World} {f : Nat → Nat} {L : List Nat} {a b : Nat} {out loose : List Int} {po : Option Addr} {lo co : Nat} {pl : Option Addr} {ll cl : Nat} {R : Ending → World → Prop}
    (h : PM w u f L a b (.slice po lo co) (.slice pl ll cl) out loose po lo co pl ll cl) (hB : out.length + 2 * loose.length ≤ 2 ^ 40)
    (hR : ∀ f' u' po' lo' co' pl' cl', PM w u' f' L a b (.slice po' lo' co') (.slice pl' 0 cl') (out ++ flushL loose.length loose) [] po' lo' co' pl' 0 cl' → Keep L u u' → u.heap.size ≤ u'.heap.size → R (.returned (.tuple #[])) u') :
    Calls P F.lzw_Pack_fn1 #[.pointer (some ⟨b, 0, none⟩), .pointer (some ⟨a, 0, none⟩)] u R := by
  refine calls_lzw_Pack_fn1 _ _ _ _ ?_
  refine ⟨fun vs u1 => vs = [] ∧ ∃ (f : Nat → Nat) (out' loose' : List Int) (F : Nat) (po : Option Addr) (lo co : Nat) (pl : Option Addr) (ll cl : Nat), PM w u1 f L a b (.slice po lo co) (.slice pl ll cl) out' loose' po lo co pl ll cl ∧ Keep L u u1 ∧ u.heap.size ≤ u1.heap.size ∧ loose'.length ≤ F ∧ out' ++ flushL F loose' = out ++ flushL loose.length loose ∧ out'.length + 2 * loose'.length ≤ 2 ^ 40,
    fun _ u => lsLen b u, ⟨rfl, f, out, loose, _, _, _, _, _, _, _, h, (Ext.refl u).keep _, Nat.le_refl _, Nat.le_refl _, rfl, hB⟩, fun w1 hI => ?_⟩
  obtain ⟨-, f, out', loose', F, po, lo, co, pl, ll, cl, pm, hkp, hsz, hF, hfl, hB'⟩ := hI
  have hlb := pm.lb
  have hla := pm.la
  have hlc := pm.l.2.1
  refine ⟨_, _, _, pm.cb.cell (i := 0) rfl, brB_i (fun hb => ?_) (fun hb => ?_)⟩
  rotate_left
  · have hb : ¬ (ll : Int) > 0 := by simpa using hb
    have : ll = 0 := by omega
    subst this
    have : loose' = [] := List.length_eq_zero_iff.1 hlb.symm
    subst this
    rw [flushL_nil, List.append_nil] at hfl
    rw [hfl] at pm
    exact hR _ _ _ _ _ _ _ pm hkp hsz
  have hb : (ll : Int) > 0 := by simpa using hb
  obtain ⟨G, rfl⟩ : ∃ G, F = G + 1 := ⟨F - 1, by omega⟩
  rw [flushL, if_neg (by omega)] at hfl
  obtain ⟨n, hn⟩ : ∃ n, n = min loose'.length 128 := ⟨_, rfl⟩
  rw [← hn] at hfl
  have hmin : min (ll : Int) 128 = (n : Int) := by omega
  refine ⟨fun vs u1 => vs = [] ∧ ∃ (f : Nat → Nat) (out' loose' : List Int) (F : Nat) (po : Option Addr) (lo co : Nat) (pl : Option Addr) (ll cl : Nat), PM w u1 f L a b (.slice po lo co) (.slice pl ll cl) out' loose' po lo co pl ll cl ∧ Keep L u u1 ∧ u.heap.size ≤ u1.heap.size ∧ loose'.length ≤ F ∧ out' ++ flushL F loose' = out ++ flushL loose.length loose ∧ out'.length + 2 * loose'.length ≤ 2 ^ 40 ∧ lsLen b u1 < lsLen b w1, ?_, fun w11 hI2 => ?_⟩
  rotate_left
  · obtain ⟨-, f, out', loose', F, po, lo, co, pl, ll, cl, h1, h2, h3, h4, h5, h6, h7⟩ := hI2
    exact ⟨⟨rfl, f, out', loose', F, po, lo, co, pl, ll, cl, h1, h2, h3, h4, h5, h6⟩, h7⟩
  have hv : IntKind.u8.wrap (IntKind.i64.wrap (min (ll : Int) 128 - 1)) = (n : Int) - 1 := by
    rw [hmin, w64 (by omega) (by omega), wu8 (by omega) (by omega)]
  have pmd := pm.dr
  -- after the first append
  have tail2 : ∀ (k7 : Nat) (hk7 : w1.heap.size ≤ k7) (u3 : World) (f3 : Nat → Nat) (p4 : Option Addr) (k9 : Nat) (id : Nat) (vv : Value), PM w u3 f3 (k7 :: L) a b (.slice po lo co) (.slice pl ll cl) (out' ++ [(n : Int) - 1]) loose' p4 (lo + 1) k9 pl ll cl → Keep L u u3 → u.heap.size ≤ u3.heap.size →
      ∃ l1 : List Value, l1.length = n * 1 ∧ oneAll l1 = true ∧ CellsAre u3 pl l1 ∧
        appVC u3 [(id, k7, [vv])] p4 (lo + 1) k9 n 1 1 5 [u8 0] l1 fun p7 k14 k15 w4 =>
          (∃ v1, w4.cell? ⟨a, 0, none⟩ = some v1) ∧ w4.frozen? ⟨a, 0, none⟩ = false ∧ (¬ (⟨a, 0, none⟩ : Addr).block ∈ [k7]) ∧
          ∃ p8 k16 k17, (setCells w4 ⟨a, 0, none⟩ [.slice p7 k14 k15] 0).cell? ⟨b, 0, none⟩ = some (.slice p8 k16 k17) ∧
            slcc p8 k17 (min (ll : Int) 128) (k16 : Int) 1 fun p9 k18 k19 =>
            (∃ v2, (setCells w4 ⟨a, 0, none⟩ [.slice p7 k14 k15] 0).cell? ⟨b, 0, none⟩ = some v2) ∧ (setCells w4 ⟨a, 0, none⟩ [.slice p7 k14 k15] 0).frozen? ⟨b, 0, none⟩ = false ∧ (¬ (⟨b, 0, none⟩ : Addr).block ∈ [k7]) ∧
            (([] : List Value) = [] ∧ ∃ (f : Nat → Nat) (out' loose' : List Int) (F : Nat) (po : Option Addr) (lo co : Nat) (pl : Option Addr) (ll cl : Nat), PM w (setCells (setCells w4 ⟨a, 0, none⟩ [.slice p7 k14 k15] 0) ⟨b, 0, none⟩ [.slice p9 k18 k19] 0) f L a b (.slice po lo co) (.slice pl ll cl) out' loose' po lo co pl ll cl ∧ Keep L u (setCells (setCells w4 ⟨a, 0, none⟩ [.slice p7 k14 k15] 0) ⟨b, 0, none⟩ [.slice p9 k18 k19] 0) ∧ u.heap.size ≤ (setCells (setCells w4 ⟨a, 0, none⟩ [.slice p7 k14 k15] 0) ⟨b, 0, none⟩ [.slice p9 k18 k19] 0).heap.size ∧ loose'.length ≤ F ∧ out' ++ flushL F loose' = out ++ flushL loose.length loose ∧ out'.length + 2 * loose'.length ≤ 2 ^ 40 ∧ lsLen b (setCells (setCells w4 ⟨a, 0, none⟩ [.slice p7 k14 k15] 0) ⟨b, 0, none⟩ [.slice p9 k18 k19] 0) < lsLen b w1) := by
    intro k7 hk7 u3 f3 p4 k9 id vv pm3 hkp3 hsz3
    have htl : (loose'.take n).length = n := by rw [List.length_take]; omega
    have hsl := (OwO.sl pm3.l).pre (us := bytes (loose'.take n)) (by
      simp only [bytes, List.map_take]; exact List.take_prefix _ _)
    refine ⟨bytes (loose'.take n), by rw [bytes_length, htl]; omega, bytes_oneAll _, hsl.cells, ?_⟩
    refine pm3.app1 (by simp [blocks]) htl.symm (by rw [List.length_append, htl]; simp; omega) fun p7 k15 w4 f4 pm4 hk4 hs4 => ?_
    have pm5 := pm4.sta (.slice p7 (lo + 1 + n) k15)
    have hnl := pm4.nl
    simp only [List.mem_cons, not_or] at hnl
    refine ⟨⟨_, pm4.ca.cell (i := 0) rfl⟩, pm4.ca.frozen 0, by simpa using hnl.1.1, _, _, _, pm5.1.cb.cell (i := 0) rfl, ?_⟩
    rw [hmin]
    refine slccN (by omega) hlc ⟨⟨_, pm5.1.cb.cell (i := 0) rfl⟩, pm5.1.cb.frozen 0, by simpa using hnl.2.1, rfl, ?_⟩
    have pm6 := (pm5.1.from2 (n := n) (by omega)).stb (.slice (slcBase pl n cl 1) (ll - n) (cl - n))
    have hsz6 : (setCells (setCells w4 ⟨a, 0, none⟩ [.slice p7 (lo + 1 + n) k15] 0) ⟨b, 0, none⟩ [.slice (slcBase pl n cl 1) (ll - n) (cl - n)] 0).heap.size = w4.heap.size := by
      rw [(setCells_same _ _ _ _).size, (setCells_same _ _ _ _).size]
    refine ⟨f4, _, _, G, _, _, _, _, _, _, pm6.1.mono (L' := L) (fun i hi => List.mem_cons_of_mem _ hi), ?_, by omega, by rw [List.length_drop]; omega, ?_, ?_, ?_⟩
    · have hsub : ∀ {x y : World}, Keep (k7 :: L) x y → Keep L x y := fun hk i hi hlt => hk i (List.mem_cons_of_mem _ hi) hlt
      exact ((hkp3.trans (hsub hk4)).trans (hsub pm5.2)).trans (hsub pm6.2)
    · rw [← hfl]; simp
    · simp only [List.length_append, htl, List.length_drop, List.length_singleton]; omega
    · have e1 : lsLen b w1 = ll := by unfold lsLen; rw [pm.cb.cell (i := 0) rfl]
      have e2 : lsLen b (setCells (setCells w4 ⟨a, 0, none⟩ [.slice p7 (lo + 1 + n) k15] 0) ⟨b, 0, none⟩ [.slice (slcBase pl n cl 1) (ll - n) (cl - n)] 0) = ll - n := by
        unfold lsLen; rw [pm6.1.cb.cell (i := 0) rfl]
      rw [e1, e2]; omega
  have hloc : ∀ (k7 : Nat) (hk7 : w1.drew.heap.size ≤ k7) (w2 : World) (hL2 : Locl [k7] w1.drew w2), ∃ f2, PM w w2 f2 (k7 :: L) a b (.slice po lo co) (.slice pl ll cl) out' loose' po lo co pl ll cl ∧ Keep L u w2 ∧ u.heap.size ≤ w2.heap.size := fun k7 hk7 w2 hL2 => by
    have pm2 := pmd.locl hL2 (fun i hi => by simp at hi; subst hi; exact .inr hk7)
    have hs2 : w1.heap.size ≤ w2.heap.size := hL2.size
    refine ⟨_, pm2, (hkp.trans ((Ext.refl w1).drew.keep _)).trans (hL2.keep fun i hi hlt => ?_), by omega⟩
    have hk7 : w1.heap.size ≤ k7 := hk7
    have := pmd.ltL hi
    simp; intro e; subst e
    have : i < w1.heap.size := hlt
    omega
  have happ1 : ∀ (k7 id : Nat) (vv : Value) (w2 : World) (f2 : Nat → Nat) {F : Option Addr → Nat → Nat → World → Prop}, PM w w2 f2 (k7 :: L) a b (.slice po lo co) (.slice pl ll cl) out' loose' po lo co pl ll cl → Keep L u w2 → u.heap.size ≤ w2.heap.size →
      (∀ p4 k9 w3 f3, PM w w3 f3 (k7 :: L) a b (.slice po lo co) (.slice pl ll cl) (out' ++ [(n : Int) - 1]) loose' p4 (lo + 1) k9 pl ll cl → Keep L u w3 → u.heap.size ≤ w3.heap.size → F p4 (lo + 1) k9 w3) →
      appVC w2 [(id, k7, [vv])] po lo co 1 1 1 5 [u8 0] [u8 ((n : Int) - 1)] F := fun k7 id vv w2 f2 F pm2 hkp2 hsz2 hF => by
    refine pm2.app1 (xs := [(n : Int) - 1]) (by simp [blocks]) rfl (by simp; omega) fun p4 k9 w3 f3 pm3 hk3 hs3 => ?_
    exact hF p4 k9 w3 f3 pm3 (hkp2.trans fun i hi hlt => hk3 i (List.mem_cons_of_mem _ hi) hlt) (by omega)
  refine ⟨_, _, _, pm.cb.cell (i := 0) rfl, _, _, _, pmd.ca.cell (i := 0) rfl, ⟨fun k7 hk7 => ⟨fun w2 hL2 => ?_, fun w5 hL5 => ?_⟩, _, _, _, pmd.cb.cell (i := 0) rfl, ?_⟩⟩
  · obtain ⟨f2, pm2, hkp2, hsz2⟩ := hloc k7 hk7 w2 hL2
    rw [hv]
    refine happ1 _ _ _ _ _ pm2 hkp2 hsz2 fun p4 k9 w3 f3 pm3 hkp3 hsz3 => ⟨_, _, _, pm3.cb.cell (i := 0) rfl, ?_⟩
    have := tail2 k7 hk7 w3 f3 p4 k9 13 (u8 ((n : Int) - 1)) pm3 hkp3 hsz3
    rw [hmin] at this ⊢
    exact slcc0 (by omega) this
  · obtain ⟨f2, pm2, hkp2, hsz2⟩ := hloc k7 hk7 w5 hL5
    rw [hv]
    refine ⟨_, _, _, pm2.cb.cell (i := 0) rfl, ?_⟩
    rw [hmin]
    refine slcc0 (by omega) (happ1 _ _ _ _ _ pm2 hkp2 hsz2 fun p4 k9 w3 f3 pm3 hkp3 hsz3 => ?_)
    have := tail2 k7 hk7 w3 f3 p4 k9 13 (u8 ((n : Int) - 1)) pm3 hkp3 hsz3
    rw [hmin] at this
    exact this
  · rw [hv, hmin]
    refine slcc0 (by omega) fun k36 hk36 w8 hL8 => ?_
    obtain ⟨f2, pm2, hkp2, hsz2⟩ := hloc k36 hk36 w8 hL8
    refine happ1 _ _ _ _ _ pm2 hkp2 hsz2 fun p4 k9 w3 f3 pm3 hkp3 hsz3 => ?_
    have := tail2 k36 hk36 w3 f3 p4 k9 13 (u8 ((n : Int) - 1)) pm3 hkp3 hsz3
    rw [hmin] at this
    exact this
end Go.Proofs.Ytlbokiaolmflaaa
