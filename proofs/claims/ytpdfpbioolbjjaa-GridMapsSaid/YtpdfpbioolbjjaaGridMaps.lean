/- GridMaps: its function answers true, and nothing that was there turns. -/
import Derived.Test.YtpdfpbioolbjjaaGridArgs
namespace Go.Proofs.Ytpdfpbioolbjjaa
open Go Go.Vc Go.RowKit
set_option maxRecDepth 100000
set_option linter.unusedVariables false
set_option linter.unusedSimpArgs false

def twiceS (n : Int) : ByteArray := if n.tmod 2 = 0 then ⟨#[101, 118, 101, 110]⟩ else ⟨#[111, 100, 100]⟩
def strs (l : List ByteArray) : List Value := l.map Value.string
theorem strs_length (l : List ByteArray) : (strs l).length = l.length := by simp [strs]
theorem strs_oneAll (l : List ByteArray) : oneAll (strs l) = true := by simp [oneAll, strs, Value.oneCell']
theorem twice_spec {n : Int} {w : World} {R : Ending → World → Prop} (hR : R (.returned (.string (twiceS n))) w) : Calls P F.law07_twice #[i64 n] w R := by
  refine calls_law07_twice _ _ _ ?_
  unfold vc_law07_twice
  refine brB_i (fun h => ?_) (fun h => ?_)
  · have h : n.tmod 2 = 0 := by simpa [divZ] using h
    simpa [twiceS, h] using hR
  · have h : ¬ n.tmod 2 = 0 := by simpa [divZ] using h
    simpa [twiceS, h] using hR
theorem Map_spec {w : World} {q : Option Addr} {gb cb : Nat} {W H : Int} {xs : List Int} {R : Ending → World → Prop} (h : GridAt w q gb cb W H (ints xs))
    (hR : ∀ g c w', Ext w w' → w.heap.size ≤ g → w.heap.size ≤ c → GridAt w' (some ⟨g, 0, none⟩) g c W H (strs (xs.map twiceS)) → R (.returned (.pointer (some ⟨g, 0, none⟩))) w') :
    Calls P F.grid_Map_int_string #[.pointer q, .func (.func F.law07_twice) #[] #[]] w R := by
  refine calls_grid_Map_int_string _ _ _ _ ?_
  have hd := h.dims
  have hlen := h.len
  have hok := h.ok
  rw [ints_length] at hlen hd
  have hsl := h.sl
  have hlt := h.lt
  obtain ⟨rest, h3, h4⟩ := h.cells
  obtain rfl := h.ptr
  have hdr := (Ext.refl w).drew
  unfold vc_grid_Map_int_string
  refine brB_f rfl (nn_i rfl ⟨_, h3.drew.cell (i := 0) rfl, nn_i rfl ⟨_, h3.drew.cell (i := 1) rfl, nn_i rfl ⟨_, _, _, h3.drew.cell (i := 2) rfl, Int.le_refl _, by omega, by rw [ints_length]; omega, by rw [ints_length]; omega, ?_⟩⟩⟩)
  intro k3 w1 hn1 k4 w2 hn2
  have hE1 := hdr.trans hn1.ext
  have hE2 := hE1.trans hn2.ext
  have hk3 : w.heap.size = k3 := hn1.1.symm
  have hk4 : w1.heap.size = k4 := hn2.1.symm
  have hs1 := hn1.size
  have hs2 := hn2.size
  have ho1 : OwnS (fun i => w.heap.size ≤ i ∧ i ≠ k4) w2 (some ⟨k3, 0, none⟩) 0 xs.length 1 (strs (xs.map twiceS |>.take 0)) := by
    have := hn1.own (N := k3) (M := k4) (vs := []) (len := 0) (cap := xs.length) (sz := 1) (by simp) (by simp) (by rw [mkCells_length, ints_length]; simp) (by omega) (by exact Nat.le_of_eq hk3.symm) (by omega)
    exact ((this.ext hn2.ext).ownS).mono fun i hi _ => by omega
  refine nn_i rfl ⟨_, _, _, (h3.ext hE2).cell (i := 2) rfl, ?_⟩
  rw [ints_length] at hn2 ⊢
  refine ⟨fun l w' => match l with | [.int _ n] => 0 ≤ n ∧ n ≤ xs.length ∧ Ext w w' ∧ k4 < w'.heap.size ∧ ∃ p cap, Cs w' k4 [i64 W, i64 H, .slice p n.toNat cap] ∧ OwnS (fun i => w.heap.size ≤ i ∧ i ≠ k4) w' p n.toNat cap 1 (strs (xs.map twiceS |>.take n.toNat)) | _ => False,
    fun l _ => match l with | [.int _ n] => (xs.length - n).toNat | _ => 0, ⟨Int.le_refl _, by omega, hE2, hs2, _, _, hn2.cs, ho1⟩, fun n w3 hI => ?_⟩
  obtain ⟨n0, n1, hE3, hk43, p, cap, hcs, ho⟩ := hI
  refine brB_i (fun hltn => ?_) (fun hge => ?_)
  · have hltn : n < xs.length := by simpa using hltn
    refine (hsl.ext hE3).get n0 (by rw [ints_length]) (ints_get (by omega)) fun a hc => ⟨_, hc, _, _, _, hcs.drew.cell (i := 2) rfl, callV_i (by kernel_rfl) ?_⟩
    refine twice_spec ⟨_, rfl, Keeps.refl _, fun k9 hk9 w5 hL5 => ?_⟩
    have hk9 : w3.heap.size ≤ k9 := hk9
    have hE5 : Ext w w5 := hE3.drew.step hL5.chg (by have := hE3.size; simp; omega)
    have hs5 : w3.heap.size ≤ w5.heap.size := hL5.size
    have ho5 : OwnS (fun i => w.heap.size ≤ i ∧ i ≠ k4 ∧ i < w3.heap.size) w5 p n.toNat cap 1 (strs (xs.map twiceS |>.take n.toNat)) :=
      (OwnS.mono (w := w3.drew) ho fun i hi hlt => ⟨hi.1, hi.2, hlt⟩).chg hL5.chg (by simp; omega)
    have hcs5 := hcs.drew.chg hL5.chg (by simp; omega)
    refine ho5.app (by simp [blocks]; omega) rfl rfl (by omega) (by omega) fun p' cap' w6 ho6 hc6 => ?_
    have hE6 := hE5.step hc6 (fun i hi => hi.1)
    have hcs6 := hcs5.chg hc6 (fun hi => hi.2.1 rfl)
    have hs6 := hc6.size
    have hset := Chg.setCells w6 ⟨k4, 2, none⟩ [.slice p' (n.toNat + 1) cap'] 0
    rw [w64 (x := n + 1) (by omega) (by omega)]
    refine ⟨⟨_, hcs6.cell (i := 2) rfl⟩, hcs6.frozen 2, by simp; omega, ⟨by omega, by omega, hE6.step hset (fun i hi => by have hi : i = k4 := hi; omega), ?_, p', cap', ?_, ?_⟩, ?_⟩
    · rw [(setCells_same _ _ _ _).size]; omega
    · rw [show (n + 1).toNat = n.toNat + 1 by omega]; exact hcs6.set1 (by simp)
    · rw [show (n + 1).toNat = n.toNat + 1 by omega, List.take_succ_eq_append_getElem (by simp; omega)]
      have e : strs (List.take n.toNat (List.map twiceS xs) ++ [(List.map twiceS xs)[n.toNat]'(by simp; omega)]) = strs (List.take n.toNat (List.map twiceS xs)) ++ [.string (twiceS (xs.getD n.toNat 0))] := by
        have : n.toNat < xs.length := by omega
        simp [strs, List.getD, this]
      rw [e]
      exact (ho6.chg hset (fun i hi hlt e => by have e : i = k4 := e; omega)).mono fun i hi hlt => by
        rcases hi with hi | hi
        · exact ⟨hi.1, hi.2.1⟩
        · exact ⟨by have := hE5.size; omega, by omega⟩
    · show (xs.length - (n + 1)).toNat < (xs.length - n).toNat
      omega
  · have hge : n = xs.length := by simp at hge; omega
    subst hge
    have e : (xs.map twiceS |>.take ((xs.length : Int)).toNat) = xs.map twiceS := List.take_of_length_le (by simp)
    rw [e] at ho
    have hpos : 0 < W * H := Int.mul_pos (by omega) (by omega)
    obtain ⟨o1, o2, o3⟩ := ho
    rcases o3 with o3 | ⟨b, rest', o3, o4, o5, o6⟩
    · simp at o2; omega
    · subst o4
      refine hR k4 b w3 hE3 (by omega) o3.1 ⟨rfl, ⟨rest', ?_, o6⟩, fun e => o3.2 e.symm, hok, by rw [strs_length, List.length_map]; exact hlen⟩
      rw [strs_length, List.length_map] at o5 ⊢
      rw [show xs.length + rest'.length = cap by omega]
      exact hcs
theorem maps_walk {w : World} {base : Option Addr} {len cap : Nat} {W H : Int} {xs : List Int} {R : Ending → World → Prop}
    (hc : CellsOk w W H base len cap xs) (hR : ∀ w', Ext w w' → R (.returned (.bool true)) w') :
    Calls P F.law07_GridMaps #[.agg #[i64 W, i64 H, .slice base len cap]] w R := by
  have h := hc.sl
  have hl := hc.long
  refine calls_law07_GridMaps _ _ _ _ _ _ _ ?_
  unfold vc_law07_GridMaps
  intro k1 hk1 w1 hL1
  have hE1 : Ext w w1 := hL1.ext (by simpa using hk1)
  have ht1 := hL1.there k1 (by simp)
  refine wakes_spec fun w2 hE2 => ⟨_, rfl, hE2.keep _, brB_f rfl ?_⟩
  have hE12 := hE1.trans hE2
  have hs1 := hE1.size
  have hs2 := hE2.size
  refine both_spec (h.ext hE12) hl hc.bytes (fun w3 hE3 => ⟨_, _, _, _, _, _, _, _, rfl, hE3.keep _, fun k4 hk4 => brB_t rfl fun w4 hL4 => hR w4 ?_⟩)
    (fun gb cb w3 hE3 hb1 hb2 hg => ⟨_, _, _, _, _, _, _, _, rfl, hE3.keep _, fun k4 hk4 => brB_f rfl fun w5 hL5 => ?_⟩)
  · have hs3 := hE3.size
    exact (hE12.trans hE3).step hL4.chg (by simp; omega)
  have hs3 := hE3.size
  have hE5 : Ext w w5 := (hE12.trans hE3).step hL5.chg (by simp; omega)
  have hlt := hg.lt
  have hd := hg.dims
  rw [ints_length] at hd
  have hg5 := hg.chg hL5.chg (by simp; omega) (by simp; omega)
  refine Map_spec hg5 fun g c w6 hE6 hb3 hb4 hm => ⟨_, rfl, hE6.keep _, brB_f rfl ?_⟩
  have hm7 := hm.ext (Ext.refl w6).drew
  refine Ws_spec hm7 ⟨_, rfl, (Ext.refl _).keep _, Keeps.refl _, brB_f (by simp) ?_⟩
  refine Hs_spec hm7 ⟨_, rfl, (Ext.refl _).keep _, Keeps.refl _, brB_f (by simp) ?_⟩
  refine Cellss_spec hm7 (strs_oneAll _) fun p4 k6 w9 hE9 ho9 => ⟨_, _, _, rfl, hE9.keep _, brB_f (by simp [strs_length, hl]) ?_⟩
  rw [strs_length, List.length_map] at ho9 ⊢
  have hE9' := (hE5.trans hE6).drew.trans hE9
  refine ⟨fun l w' => match l with | [.int _ n] => 0 ≤ n ∧ n ≤ xs.length ∧ Ext w9 w' | _ => False, fun l _ => match l with | [.int _ n] => (xs.length - n).toNat | _ => 0, ⟨Int.le_refl _, by omega, Ext.refl _⟩, fun n w10 hI => ?_⟩
  obtain ⟨n0, n1, hE10⟩ := hI
  refine brB_i (fun hltn => ?_) (fun hge => ?_)
  · have hltn : n < xs.length := by simpa using hltn
    have hv : (strs (xs.map twiceS))[n.toNat]? = some (.string (twiceS (xs.getD n.toNat 0))) := by
      have : n.toNat < xs.length := by omega
      simp [strs, List.getD, this]
    refine ((ho9.sl.ext hE10).drew).get n0 (by rw [strs_length, List.length_map]) hv fun a1 hc1 => ⟨_, hc1, ?_⟩
    refine ((h.ext (hE9'.trans hE10)).drew).get n0 (by rw [ints_length]; omega) (ints_get (by omega)) fun a2 hc2 => ⟨_, hc2, ?_⟩
    refine twice_spec ⟨_, rfl, (Ext.refl _).keep _, Keeps.refl _, brB_f (by simp) ?_⟩
    rw [w64 (x := n + 1) (by omega) (by omega)]
    refine ⟨⟨by omega, by omega, hE10.drew⟩, ?_⟩
    show (xs.length - (n + 1)).toNat < (xs.length - n).toNat
    omega
  · refine same07_spec ((((hg5.ext hE6).ext (Ext.refl w6).drew).ext hE9).ext hE10) (h.ext (hE9'.trans hE10)) hl fun w11 hE11 => ⟨_, rfl, hE11.keep _, to_bool (hR w11 ((hE9'.trans hE10).trans hE11)) (by simp)⟩
end Go.Proofs.Ytpdfpbioolbjjaa
