/- The laws' first look: the code is awake. -/
import Derived.Test.YtlmnooodinfifaaBits4
import Derived.Test.YtlmnooodinfifaaBits6
import Derived.Test.YtlmnooodinfifaaBits7
namespace Go.Proofs.Ytlmnooodinfifaa
open Go Go.Vc Go.RowKit
set_option maxRecDepth 100000
set_option linter.unusedVariables false
set_option linter.unusedSimpArgs false

theorem New.bytes {w w' : World} {b : Nat} {xs : List Int} {e : TypeId} (h : New w (.cells (bytes xs).toArray e (0, 0)) b w') : Sl w'.heap.size w' (some ⟨b, 0, none⟩) (bytes xs) := by
  have := h.cs
  exact this.sl (off := 0) (by simp) this.lt
theorem wake_put : putV true (putV true [] 0 5 3 3) 3 1 2 2 = [168] := by decide +kernel
theorem wake_take1 : takeV [165, 195] true 0 3 = 5 := by decide +kernel
theorem wake_take2 : takeV [165, 195] true 3 6 = 11 := by decide +kernel
theorem RdAt.lt {w : World} {q : Option Addr} {rb : Nat} {S : Nat → Prop} {bs : List Int} {k : Int} {up : Bool} (h : RdAt w q rb S bs k up) : rb < w.heap.size := by
  obtain ⟨_, _, h, _⟩ := h.obj; exact h.lt
theorem wakes_spec {w : World} {R : Ending → World → Prop} (hR : ∀ w', Ext w w' → R (.returned (.bool true)) w') : Calls P F.law01_wakes #[] w R := by
  refine calls_law01_wakes _ _ ?_
  intro k1 w1 hn1
  have hs1 := hn1.ext.size
  refine NewReader_spec (bs := [165, 195]) (New.bytes (xs := [165, 195]) hn1) rfl (by decide) (by intro n hn; simp at hn; omega) fun rb w2 hE2 hrb hr => ⟨_, rfl, ?_⟩
  have hE02 := hn1.ext.trans hE2
  refine NewWriter_spec fun wb w3 hE3 hwb hw => ⟨_, rfl, brB_f rfl ?_⟩
  have hE03 := hE02.trans hE3
  have hr3 := hr.ext hE3
  have hs2 := hE2.size
  have hs3 := hE3.size
  have hrl : rb < w2.heap.size := by obtain ⟨_, _, h, _⟩ := hr.obj; exact h.lt
  refine Take_spec hr3 (fun h => by omega) (fun _ _ h => by simp at h) fun _ _ _ w4 hc4 hr4 => ⟨_, _, rfl, ?_⟩
  have hs4 := hc4.size
  have hw4 := hw.chg hc4 (by omega) (fun _ h => h.elim)
  refine Take_spec hr4 (fun h => by omega) (fun _ _ h => by simp at h) fun _ _ _ w5 hc5 hr5 => ⟨_, _, rfl, ?_⟩
  have hs5 := hc5.size
  have hw5 := hw4.chg hc5 (by omega) (fun _ h => h.elim)
  refine Put_spec hw5 (WOk.nil true) (by omega) (by omega) (by omega) (fun h => by omega) fun _ _ S6 w6 hg6 hc6 hw6 => ⟨_, rfl, ?_⟩
  have hs6 := hc6.size
  have hr6 := hr5.chg hc6 (by simp; omega) (fun b hb hlt h => by simp at h; omega)
  refine Put_spec hw6 (putV_ok (v := 5) (n := 3) (WOk.nil true) 3) (by omega) (by omega) (by omega) (fun h => by omega) fun _ _ S7 w7 hg7 hc7 hw7 => ⟨_, rfl, ?_⟩
  have hs7 := hc7.size
  have hr7 := hr6.chg hc7 (T := fun k => k = wb ∨ S6 k) (fun h => by
    rcases h with h | h
    · omega
    · rcases hg6.2 _ h with h | h
      · exact h.elim
      · omega) (fun b hb hlt h => by
    rcases h with h | h
    · omega
    · rcases hg6.2 _ h with h | h
      · exact h.elim
      · omega)
  intro k2 w8 hn8
  have hs8 := hn8.ext.size
  refine Get_spec (bs := [1, 2, 3]) (New.bytes (xs := [1, 2, 3]) hn8) rfl (by decide) (by intro n hn; simp at hn; omega) (fun h => absurd (by decide) h) fun _ => ⟨_, _, rfl, ?_⟩
  refine brB_t (by decide +kernel) (Left_spec (hr7.ext hn8.ext) ⟨_, rfl, brB_t (by decide +kernel) ?_⟩)
  have e7 : putV true (putV true [] 0 5 (Int.toNat 3) (Int.toNat 3)) (0 + Int.toNat 3) 1 (Int.toNat 2) (Int.toNat 2) = [168] := wake_put
  rw [e7] at hw7
  refine WBytes_spec ((hw7.ext hn8.ext).ext (Ext.refl w8).drew) (by simp) fun p9 c9 w9 hE9 ho9 => ⟨_, _, _, rfl, fun k5 w10 hn10 => ?_⟩
  refine same_spec (ho9.sl.ext hn10.ext) (New.bytes (xs := [168]) hn10) rfl rfl (by simp) fun w11 hE11 => ⟨_, rfl, to_bool (hR w11 ?_) (by simp)⟩
  have hE3' : Ext w w3 := hE03
  have c4 : Ext w w4 := hE3'.step hc4 (fun i hi => by omega)
  have c5 : Ext w w5 := c4.step hc5 (fun i hi => by omega)
  have c6 : Ext w w6 := c5.step hc6 (fun i hi => by simp at hi; omega)
  have c7 : Ext w w7 := c6.step hc7 (fun i hi => by
    rcases hi with h | h
    · omega
    · rcases hg6.2 _ h with h | h
      · exact h.elim
      · omega)
  exact ((((c7.trans hn8.ext).drew).trans hE9).trans hn10.ext).trans hE11
end Go.Proofs.Ytlmnooodinfifaa
