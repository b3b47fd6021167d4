/- Bmp: BmpTurns is so. -/
import Derived.Test.YtjdljddfiddnoaaDoorBW1
import Derived.Test.YtjdljddfiddnoaaDoorBL2
namespace Go.Proofs.YtjdljddfiddnoaaDoor
open Go Go.Vc Go.RowKit Go.ChangeShapes Go.WideShapes Go.Joins Go.ChangeAt Go.ChangeMaps
set_option maxRecDepth 100000
set_option linter.unusedVariables false

theorem bmpTurns_lifted (os : Os) (started : os.Started) (H : Type) (enc : TypeId × Value → H) (Fi : Stop.Interp) :
    ReturnsInHanded {} Tryd.checked os 6 .any ((OpenSpec.ofChange Rows.bmpTurnsSpec).preRow enc Tryd.prog Tryd.f6 Rows.bmpTurnsRow.domain false Rows.bmpTurnsRow.laid) (((OpenSpec.ofChange Rows.bmpTurnsSpec).at Fi).post enc Tryd.prog Tryd.f6 false true false false) := by
  have hx : DataW.whole enc Tryd.prog ((laidWorld os).forCall (fun _ _ => 0) ⟨#[], #[.agg #[.int .i64 0, .int .i64 0, .slice none 0 0], .bool false], []⟩).memory Tryd.f6.params.toList Rows.bmpTurnsSpec.vars false #[.agg #[.int .i64 0, .int .i64 0, .slice none 0 0], .bool false].toList 8 = some ([.agg [.lit (.int .i64 0), .lit (.int .i64 0), .nil], .lit (.bool false)], [], []) := by kernel_rfl
  refine law_laid (C := Tryd.checked) (tb := 4) (F := Fi) (laid := Rows.bmpTurnsRow.laid) own_ started (by kernel_rfl) Tryd.func6 laidOut (by kernel_rfl) rfl Tryd.underlying4 rfl (fun ds h => ?_)
    (witness_row_at (enc := enc) (C := Tryd.checked) false (laidWorld os) #[.agg #[.int .i64 0, .int .i64 0, .slice none 0 0], .bool false] rfl (by kernel_rfl) (by kernel_rfl) (by kernel_rfl)
      (OpenSpec.preRow_of_cond 8 hx (by kernel_rfl) (fun k hk => by cases hk) (by kernel_rfl) (laid_met os _))) ?_
  · match ds, h with
    | [_, _], _ => rfl
  · intro W base args ds p hval hA hsz hL
    rw [Tryd.params6] at hA hval hsz
    obtain ⟨v0, vs0, d0, ds0, p0, q0, hargs, rfl, rfl, h0, r0⟩ := trodAll_cons hA
    obtain ⟨v1, vs1, d1, ds1, p1, q1, rfl, rfl, rfl, h1, r1⟩ := trodAll_cons r0
    obtain ⟨rfl, rfl, rfl⟩ := trodAll_nil r1
    obtain rfl : args = #[v0, v1] := by cases args; simp_all
    obtain ⟨wd0, ht0, b0, len0, cap0, xs0, rfl, f0⟩ := open_Image (hval 0 26 v0 rfl rfl) h0 (weights_of hsz (j := 0) rfl rfl)
    obtain ⟨a1, rfl, rfl, rfl⟩ := open_bool Tryd.underlying4 (hval 1 4 v1 rfl rfl) h1
    exact turns_walk (tab_of hL) f0 fun w' hE => ⟨rfl, hE⟩
theorem bmpTurnsCard_said_row : Rows.BmpTurnsSaid :=
  OpenClaim.holds_of_cond 6 Tryd.f6 rfl rfl rfl rfl rfl rfl rfl ⟨rfl, rfl, rfl, rfl, rfl⟩ rfl rfl rfl rfl rfl (by kernel_rfl) Tryd.func6 (by kernel_rfl)
    (of_decide_eq_true (by kernel_rfl)) (by unfold Func.isWrapper; first | (rw [if_pos (by decide +kernel)]; kernel_rfl) | (rw [if_neg (by decide +kernel)]; exact ⟨rfl, rfl⟩))
    (fun os started H enc _ Fi => by rw [OpenClaim.pre_eq_preRow]; exact bmpTurns_lifted os started H enc Fi)
theorem bmpTurns_plain (f : FuncId) (fn : Func) (hf : Tryd.pinned.checked.prog.funcNamed "darkroom/darkroomlaw11.BmpTurns" = some f) (hfn : Tryd.pinned.checked.prog.funcs[f]? = some fn) :
    false = Tryd.pinned.checked.prog.looks [] ∧ ∀ (j : Nat) t, fn.params[j]? = some t → Tryd.pinned.checked.prog.wantsStandIn t = false := by
  obtain rfl : f = 6 := Option.some.inj ((show Tryd.prog.funcNamed "darkroom/darkroomlaw11.BmpTurns" = some 6 by kernel_rfl).symm.trans hf) |>.symm
  obtain rfl : fn = Tryd.f6 := (Option.some.inj (Tryd.func6.symm.trans hfn)).symm
  refine ⟨by kernel_rfl, fun j t ht => ?_⟩
  rw [Tryd.params6] at ht
  have hj : j < 2 := (Array.getElem?_eq_some_iff.1 ht).1
  match j with
    | 0 => obtain rfl : t = 26 := by simpa using ht.symm
           exact (show Tryd.prog.wantsStandIn 26 = false by kernel_rfl)
    | 1 => obtain rfl : t = 4 := by simpa using ht.symm
           exact (show Tryd.prog.wantsStandIn 4 = false by kernel_rfl)
    | j + 2 => omega
theorem bmpTurnsCard_said : Rows.BmpTurnsCardSaid :=
  Claim7.holds_tied_plain_at .later [] _ _ _ _ bmpTurnsCard_said_row (fun _ h => by cases h) (by kernel_rfl) (fun _ h => by cases h) bmpTurns_row_tie rfl ⟨rfl, rfl⟩ (by kernel_rfl) rfl bmpTurns_plain (by kernel_rfl)
#print axioms bmpTurnsCard_said
end Go.Proofs.YtjdljddfiddnoaaDoor
