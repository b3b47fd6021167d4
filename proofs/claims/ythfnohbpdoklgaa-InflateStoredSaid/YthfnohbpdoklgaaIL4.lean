/- The walk of InflateStored. -/
import Derived.Test.YthfnohbpdoklgaaIL3
import Derived.Test.YthfnohbpdoklgaaIM6
namespace Go.Proofs.Ythfnohbpdoklgaa
open Go Go.Vc Go.RowKit
set_option maxRecDepth 100000
set_option linter.unusedVariables false
set_option linter.unusedSimpArgs false
set_option maxHeartbeats 2000000
theorem hdr_bytes {fl n : Nat} (hn : n ≤ 60000) (hfl : fl < 2) : [u8 (fl : Nat), u8 (IntKind.u8.wrap ((n : Nat) : Int)), u8 (IntKind.u8.wrap (divZ .quo .i64 ((n : Nat) : Int) 256)), u8 (IntKind.u8.wrap (IntKind.i64.wrap (255 - divZ .rem .i64 ((n : Nat) : Int) 256))), u8 (IntKind.u8.wrap (IntKind.i64.wrap (255 - divZ .quo .i64 ((n : Nat) : Int) 256)))] = bytes (hdr fl n) := by
  have hq : divZ .quo .i64 ((n : Nat) : Int) 256 = ((n / 256 : Nat) : Int) := quoN (b := 256) (by omega) (by omega)
  rw [hq, remZ (by omega), w64 (x := 255 - ((n : Nat) : Int) % 256) (by omega) (by omega), w64 (x := 255 - ((n / 256 : Nat) : Int)) (by omega) (by omega), u8mod, u8mod, u8mod, u8mod]
  rw [show ((n : Nat) : Int) % 256 = ((n % 256 : Nat) : Int) by omega, show (((n / 256 : Nat) : Int)) % 256 = ((n / 256 : Nat) : Int) by omega, show (255 - ((n % 256 : Nat) : Int)) % 256 = ((255 - n % 256 : Nat) : Int) by omega, show (255 - ((n / 256 : Nat) : Int)) % 256 = ((255 - n / 256 : Nat) : Int) by omega]
  rfl
theorem hdr_fit {fl n : Nat} (hn : n ≤ 60000) (hfl : fl < 2) : Bs (hdr fl n) := fun x hx => by
  simp only [hdr, List.mem_cons, List.not_mem_nil, or_false] at hx
  omega
theorem opens_last (cs : List (List Int)) (c : List Int) : opens (cs ++ [c]) = opens cs ++ (hdr 0 c.length ++ c) := by simp [opens]
theorem stored_walk {W : World} {b b' : Option Addr} {len cap len' cap' : Nat} {xs cuts : List Int} {R : Ending → World → Prop} (h : BytesOk W b len cap xs ∧ len + 16 ≤ 2 ^ 47) (g : IntsOk W b' len' cuts)
    (hR : ∀ w', Ext W w' → R (.returned (.bool true)) w') : Calls P F.law04_InflateStored #[.slice b len cap, .slice b' len' cap'] W R := by
  obtain ⟨f, h20⟩ := h
  have hl := f.long
  have hl' := g.long
  have hcp := f.cap
  refine calls_law04_InflateStored _ _ _ _ _ _ _ _ ?_
  refine wakes_spec fun u1 hE1 => ⟨_, rfl, brB_f rfl ?_⟩
  refine brB_i (fun _ => hR u1 hE1) fun hsm => ?_
  have hsm : len ≤ 60000 ∧ len' ≤ 200 := by
    simp only [Bool.or_eq_false_iff, decide_eq_false_iff_not] at hsm; omega
  refine ⟨fun vs u => ∃ (i at_ : Nat) (p : Option Addr) (c : Nat) (s : List Int) (cs : List (List Int)), vs = [.slice p s.length c, i64 (at_ : Nat), i64 (i : Nat)] ∧ i ≤ len' + 1 ∧ at_ ≤ len ∧ Ext W u ∧ OwnS (fun j => W.heap.size ≤ j) u p s.length c 1 (bytes s) ∧
      s.length = 5 * i + at_ ∧ Bs s ∧ cs.length = i ∧ (∀ c, c ∈ cs → c.length ≤ 60000) ∧ cs.flatten = xs.take at_ ∧ (i ≤ len' → s = opens cs) ∧ (i = len' + 1 → s = strm cs ∧ at_ = len),
    fun vs _ => match vs with | [_, _, .int _ i] => (len' + 1 - i : Int).toNat | _ => 0, ⟨0, 0, none, 0, [], [], rfl, by omega, by omega, hE1, OwnS.nil _ _ _ _, rfl, (fun x hx => by cases hx), rfl, (fun x hx => by cases hx), rfl, fun _ => rfl, fun h => by omega⟩, fun p1 k1 k2 n1 n2 u2 hI => ?_⟩
  obtain ⟨i, at_, p, c, s, cs, hv, hi, ha, hE2, hO2, hsl, hsf, hcl, hc6, hfl, hop, hst⟩ := hI
  have hv := hv.symm
  simp only [List.cons.injEq, Value.slice.injEq, Value.int.injEq, true_and, and_true] at hv
  obtain ⟨⟨rfl, rfl, rfl⟩, rfl, rfl⟩ := hv
  have s2 := hE2.size
  refine brB_i (fun hlt => ?_) fun hge => ?_
  · have hlt : i ≤ len' := by have := of_decide_eq_true hlt; omega
    rw [w64 (x := (len : Int) - (at_ : Nat)) (by omega) (by omega)]
    refine ⟨fun vs u => u = u2 ∧ ∃ (n fl : Nat), vs = [i64 (n : Nat), u8 (fl : Nat)] ∧ at_ + n ≤ len ∧ (i < len' → fl = 0) ∧ (i = len' → fl = 1 ∧ at_ + n = len), ?_, fun n4 n5 u3 hI => ?_⟩
    · refine brB_i (fun h1 => ?_) fun h1 => ?_
      · have h1 : i < len' := by have := of_decide_eq_true h1; omega
        refine (g.sl.ext hE2).get (v := i64 (cuts.getD i 0)) (by omega) (by rw [List.length_map]; omega) (by rw [Int.toNat_natCast, List.getElem?_map, List.getElem?_eq_getElem (by omega)]; simp [List.getD, show i < cuts.length by omega]) fun a ha' => ⟨_, ha', rfl, (min (max (cuts.getD i 0) 0) ((len : Int) - (at_ : Nat))).toNat, 0, ?_, by omega, fun _ => rfl, fun e => by omega⟩
        rw [Int.toNat_of_nonneg (by omega)]; rfl
      · have h1 : i = len' := by have := of_decide_eq_false h1; omega
        refine ⟨rfl, len - at_, 1, ?_, by omega, fun e => by omega, fun _ => ⟨rfl, by omega⟩⟩
        rw [show (len : Int) - (at_ : Nat) = ((len - at_ : Nat) : Int) by omega]; rfl
    obtain ⟨rfl, n, fl, hv, hn, hf0, hf1⟩ := hI
    simp only [List.cons.injEq, Value.int.injEq, true_and, and_true] at hv
    obtain ⟨rfl, rfl⟩ := hv
    have hfl2 : fl < 2 := by
      rcases Nat.lt_or_ge i len' with e | e
      · have := hf0 e; omega
      · have := (hf1 (by omega)).1; omega
    intro k3 hk3 u4 hL4
    rw [hdr_bytes (n := n) (fl := fl) (by omega) hfl2]
    refine OwnS.grow (fs := bytes (hdr fl n)) hO2 hL4 (fun b hb => .inl (by simp at hb; omega)) (fun i hi => by omega) (by simp [blocks]) rfl rfl (by omega) (by omega) fun p2 c2 u5 hO5 hc5 => ?_
    have hE5 : Ext W u5 := hE2.step hc5 fun i hi => by simp at hi; omega
    rw [w64 (x := ((at_ : Nat) : Int) + (n : Nat)) (by omega) (by omega)]
    refine ⟨by omega, by omega, by omega, ?_⟩
    rw [Int.toNat_natCast, show (((at_ : Nat) : Int) + (n : Nat)).toNat - at_ = n by omega]
    have hpl : (part xs at_ n).length = n := part_length (by omega)
    refine ⟨bytes (part xs at_ n), by rw [bytes_length, hpl, Nat.mul_one], bytes_oneAll _, ((f.sl.ext hE5).part (by rw [bytes_length]; omega) (part_prefix xs at_ n)).cells, ?_⟩
    refine OwnS.app hO5 (fun b hb hs => by simp [blocks] at hb; exact hs.2 (by simp [hb])) rfl (by rw [bytes_length, hpl, Nat.mul_one]) (by omega) (by omega) fun p4 c4 u6 hO6 hc6' => ?_
    have hE6 : Ext W u6 := hE5.step hc6' fun i hi => hi.1
    have hsz5 := hE5.size
    have hlen : (s ++ (hdr fl n ++ part xs at_ n)).length = s.length + 5 + n := by simp only [List.length_append, hpl]; simp [hdr]; omega
    have e1 : ((at_ : Nat) : Int) + (n : Nat) = ((at_ + n : Nat) : Int) := by omega
    rw [e1, wrap_succ (by omega)]
    refine ⟨⟨i + 1, at_ + n, p4, c4, s ++ (hdr fl n ++ part xs at_ n), cs ++ [part xs at_ n], by rw [hlen], by omega, hn, hE6, ?_, by rw [hlen]; omega, fun x hx => ?_, by simp [hcl], fun c hc => ?_, ?_, fun e => ?_, fun e => ?_⟩, by show ((len' : Int) + 1 - ((i + 1 : Nat) : Int)).toNat < ((len' : Int) + 1 - (i : Nat)).toNat; omega⟩
    · rw [hlen, bytes_append, bytes_append, ← List.append_assoc]
      exact OwnS.mono hO6 fun j hj _ => hj.elim (fun q => q.1) fun q => by omega
    · rcases List.mem_append.1 hx with hx | hx
      · exact hsf x hx
      · rcases List.mem_append.1 hx with hx | hx
        · exact hdr_fit (by omega) hfl2 x hx
        · exact part_fit f.fit _ _ x hx
    · rcases List.mem_append.1 hc with hc | hc
      · exact hc6 c hc
      · rw [List.mem_singleton.1 hc, hpl]; omega
    · rw [List.flatten_append, hfl]
      simp only [List.flatten_cons, List.flatten_nil, List.append_nil]
      rw [List.take_add]; rfl
    · rw [opens_last, hpl, hop hlt, hf0 (by omega)]
    · obtain ⟨q1, q2⟩ := hf1 (by omega)
      exact ⟨by rw [strm_last, hpl, hop hlt, q1], q2⟩
  have hi1 : i = len' + 1 := by have := of_decide_eq_false hge; omega
  obtain ⟨hs, hat⟩ := hst hi1
  have hall : cs.flatten = xs := by rw [hfl, hat, hl, List.take_length]
  have hcs : cs ≠ [] := fun e => by rw [e] at hcl; simp at hcl; omega
  have hr := fun most => rawR_strm (cs := cs) (most := most) (by rw [← hs]; exact hsf) hcs fun c hc => by have := hc6 c hc; omega
  rw [← hs, hall] at hr
  have hr1 := hr (len : Int)
  rw [if_pos (by omega)] at hr1
  refine own_spec hO2.sl rfl (by omega) fun p5 k11 u7 hE7 ho7 => ⟨_, _, _, rfl, ?_⟩
  refine Raw_spec ho7.sl rfl (by omega) hsf (by omega) (fun m h1 h2 => by omega) fun p6 k13 u8' hE8 hO8 => ⟨_, _, _, _, _, rfl, ?_⟩
  rw [hr1] at hO8 ⊢
  have hE28 := hE7.trans hE8
  refine own_spec (hO2.sl.ext hE28) rfl (by omega) fun p7 k15 u9 hE9 ho9 => ⟨_, _, _, rfl, ?_⟩
  rw [w64 (x := (len : Int) - 1) (by omega) (by omega)]
  refine Raw_spec ho9.sl rfl (by omega) hsf (by omega) (fun m h1 h2 => by omega) fun p8 k17 u10 hE10 hO10 => ⟨_, _, _, _, _, rfl, ?_⟩
  have hE810 := hE9.trans hE10
  have hE10' := (hE2.trans hE28).trans hE810
  refine brB_t (by simp) ?_
  refine same_spec (hO8.sl.ext hE810) (f.sl.ext hE10') rfl hl (by simp only; omega) fun u11 hE11 => ⟨_, rfl, ?_⟩
  refine brB_t (by simp) ?_
  have hE11' := hE10'.trans hE11
  refine brB_i (fun _ => hR u11 hE11') fun h3 => to_bool (hR u11 hE11') ?_
  rcases Nat.eq_zero_or_pos len with e | e
  · rw [e]; rfl
  · have := hr ((len : Int) - 1)
    rw [if_neg (by omega)] at this
    rw [this] at h3
    cases h3
end Go.Proofs.Ythfnohbpdoklgaa
