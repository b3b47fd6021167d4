/- Bmp: BmpOwn is so. -/
import Derived.Test.YtjdljddfiddnoaaDoorBW1
import Derived.Test.YtjdljddfiddnoaaDoorBL3
namespace Go.Proofs.YtjdljddfiddnoaaDoor
open Go Go.Vc Go.RowKit Go.ChangeShapes Go.WideShapes Go.Joins Go.ChangeAt Go.ChangeMaps
set_option maxRecDepth 100000
set_option linter.unusedVariables false

theorem bmpOwn_lifted (os : Os) (started : os.Started) (H : Type) (enc : TypeId × Value → H) (Fi : Stop.Interp) :
    ReturnsInHanded {} Tryd.checked os 7 .any ((OpenSpec.ofChange Rows.bmpOwnSpec).preRow enc Tryd.prog Tryd.f7 Rows.bmpOwnRow.domain false Rows.bmpOwnRow.laid) (((OpenSpec.ofChange Rows.bmpOwnSpec).at Fi).post enc Tryd.prog Tryd.f7 false true false false) := by
  have hx : DataW.whole enc Tryd.prog ((laidWorld os).forCall (fun _ _ => 0) ⟨#[], #[.slice none 0 0, .agg #[.int .i64 0, .int .i64 0, .slice none 0 0], .bool false], []⟩).memory Tryd.f7.params.toList Rows.bmpOwnSpec.vars false #[.slice none 0 0, .agg #[.int .i64 0, .int .i64 0, .slice none 0 0], .bool false].toList 8 = some ([.nil, .agg [.lit (.int .i64 0), .lit (.int .i64 0), .nil], .lit (.bool false)], [], []) := by kernel_rfl
  refine law_laid (C := Tryd.checked) (tb := 4) (F := Fi) (laid := Rows.bmpOwnRow.laid) own_ started (by kernel_rfl) Tryd.func7 laidOut (by kernel_rfl) rfl Tryd.underlying4 rfl (fun ds h => ?_)
    (witness_row_at (enc := enc) (C := Tryd.checked) false (laidWorld os) #[.slice none 0 0, .agg #[.int .i64 0, .int .i64 0, .slice none 0 0], .bool false] rfl (by kernel_rfl) (by kernel_rfl) (by kernel_rfl)
      (OpenSpec.preRow_of_cond 8 hx (by kernel_rfl) (fun k hk => by cases hk) (by kernel_rfl) (laid_met os _))) ?_
  · match ds, h with
    | [_, _, _], _ => rfl
  · intro W base args ds p hval hA hsz hL
    rw [Tryd.params7] at hA hval hsz
    obtain ⟨v0, vs0, d0, ds0, p0, q0, hargs, rfl, rfl, h0, r0⟩ := trodAll_cons hA
    obtain ⟨v1, vs1, d1, ds1, p1, q1, rfl, rfl, rfl, h1, r1⟩ := trodAll_cons r0
    obtain ⟨v2, vs2, d2, ds2, p2, q2, rfl, rfl, rfl, h2, r2⟩ := trodAll_cons r1
    obtain ⟨rfl, rfl, rfl⟩ := trodAll_nil r2
    obtain rfl : args = #[v0, v1, v2] := by cases args; simp_all
    obtain ⟨b0, len0, cap0, xs0, rfl, f0⟩ := open_ints22 (hval 0 22 v0 rfl rfl) h0 (weights_of hsz (j := 0) rfl rfl)
    obtain ⟨wd1, ht1, b1, len1, cap1, xs1, rfl, f1⟩ := open_Image (hval 1 26 v1 rfl rfl) h1 (weights_of hsz (j := 1) rfl rfl)
    obtain ⟨a2, rfl, rfl, rfl⟩ := open_bool Tryd.underlying4 (hval 2 4 v2 rfl rfl) h2
    exact own_walk (tab_of hL) f0 f1 fun w' hE => ⟨rfl, hE⟩
theorem bmpOwnCard_said_row : Rows.BmpOwnSaid :=
  OpenClaim.holds_of_cond 7 Tryd.f7 rfl rfl rfl rfl rfl rfl rfl ⟨rfl, rfl, rfl, rfl, rfl⟩ rfl rfl rfl rfl rfl (by kernel_rfl) Tryd.func7 (by kernel_rfl)
    (of_decide_eq_true (by kernel_rfl)) (by unfold Func.isWrapper; first | (rw [if_pos (by decide +kernel)]; kernel_rfl) | (rw [if_neg (by decide +kernel)]; exact ⟨rfl, rfl⟩))
    (fun os started H enc _ Fi => by rw [OpenClaim.pre_eq_preRow]; exact bmpOwn_lifted os started H enc Fi)
theorem bmpOwn_plain (f : FuncId) (fn : Func) (hf : Tryd.pinned.checked.prog.funcNamed "darkroom/darkroomlaw11.BmpOwn" = some f) (hfn : Tryd.pinned.checked.prog.funcs[f]? = some fn) :
    false = Tryd.pinned.checked.prog.looks [] ∧ ∀ (j : Nat) t, fn.params[j]? = some t → Tryd.pinned.checked.prog.wantsStandIn t = false := by
  obtain rfl : f = 7 := Option.some.inj ((show Tryd.prog.funcNamed "darkroom/darkroomlaw11.BmpOwn" = some 7 by kernel_rfl).symm.trans hf) |>.symm
  obtain rfl : fn = Tryd.f7 := (Option.some.inj (Tryd.func7.symm.trans hfn)).symm
  refine ⟨by kernel_rfl, fun j t ht => ?_⟩
  rw [Tryd.params7] at ht
  have hj : j < 3 := (Array.getElem?_eq_some_iff.1 ht).1
  match j with
    | 0 => obtain rfl : t = 22 := by simpa using ht.symm
           exact (show Tryd.prog.wantsStandIn 22 = false by kernel_rfl)
    | 1 => obtain rfl : t = 26 := by simpa using ht.symm
           exact (show Tryd.prog.wantsStandIn 26 = false by kernel_rfl)
    | 2 => obtain rfl : t = 4 := by simpa using ht.symm
           exact (show Tryd.prog.wantsStandIn 4 = false by kernel_rfl)
    | j + 3 => omega
theorem bmpOwnCard_said : Rows.BmpOwnCardSaid :=
  Claim7.holds_tied_plain_at .later [] _ _ _ _ bmpOwnCard_said_row (fun _ h => by cases h) (by kernel_rfl) (fun _ h => by cases h) bmpOwn_row_tie rfl ⟨rfl, rfl⟩ (by kernel_rfl) rfl bmpOwn_plain (by kernel_rfl)
#print axioms bmpOwnCard_said
end Go.Proofs.YtjdljddfiddnoaaDoor
