/- AllCoefs is so. -/
import Derived.Test.YtoomejkiagonpaaGreatDoorCP12
set_option linter.unusedVariables false
set_option maxRecDepth 100000
namespace Go.Proofs.YtoomejkiagonpaaGreatDoor
open Go Go.Vc Go.RowKit Go.ChangeShapes Go.WideShapes Go.Joins Go.ChangeAt Go.ChangeMaps
theorem allCoefs_lifted(os:Os)(started:os.Started)(H:Type)(enc:TypeId×Value->H)(Fi:Stop.Interp):
    ReturnsInHanded {} Tryz.checked os 3 .any ((OpenSpec.ofChange Rows.allCoefsSpec).preRow enc Tryz.prog Tryz.f3 Rows.allCoefsRow.domain false Rows.allCoefsRow.laid) (((OpenSpec.ofChange Rows.allCoefsSpec).at Fi).post enc Tryz.prog Tryz.f3 false true false false):=by
  have hx:DataW.whole enc Tryz.prog ((ym os).forCall (fun _ _=>0) ⟨#[],#[.agg #[.int .i64 0,.int .i64 0,.slice none 0 0],.int .i64 0,.int .i64 0],[]⟩).memory Tryz.f3.params.toList Rows.allCoefsSpec.vars false #[.agg #[.int .i64 0,.int .i64 0,.slice none 0 0],.int .i64 0,.int .i64 0].toList 8=some ([.agg [.lit (.int .i64 0),.lit (.int .i64 0),.nil],.lit (.int .i64 0),.lit (.int .i64 0)],[],[]):=by kernel_rfl
  refine MH (C:=Tryz.checked) (tb:=4) (F:=Fi) (laid:=Rows.allCoefsRow.laid) Pw started (by kernel_rfl) Tryz.func3 NX (by kernel_rfl) rfl Tryz.underlying4 rfl (fun ds h=>?_)
    (witness_row_atRef (enc:=enc) (C:=Tryz.checked) false (ym os) #[.agg #[.int .i64 0,.int .i64 0,.slice none 0 0],.int .i64 0,.int .i64 0] rfl (by kernel_rfl) (by kernel_rfl) (by kernel_rfl)
      (OpenSpec.preRow_of_cond 8 hx (by kernel_rfl) (fun k hk=>by cases hk) (by kernel_rfl) (MG os _))) ?_
  · match ds,h with
    |[_,_,_],_=>rfl
  · intro W base args ds p hval hA hsz hL
    rw[Tryz.params3]at hA hval hsz
    obtain⟨v0,vs0,d0,ds0,p0,q0,hargs,rfl,rfl,h0,r0⟩:=trodAll_cons hA
    obtain⟨v1,vs1,d1,ds1,p1,q1,rfl,rfl,rfl,h1,r1⟩:=trodAll_cons r0
    obtain⟨v2,vs2,d2,ds2,p2,q2,rfl,rfl,rfl,h2,r2⟩:=trodAll_cons r1
    obtain⟨rfl,rfl,rfl⟩:=trodAll_nil r2
    obtain rfl:args=#[v0,v1,v2]:=by cases args;simp_all
    obtain⟨wd0,ht0,b0,len0,cap0,xs0,rfl,f0⟩:=Kz (hval 0 24 v0 rfl rfl) h0 (JR hsz (j:=0) rfl rfl)
    obtain⟨a1,rfl,rfl,rfl,w1⟩:=open_int Tryz.underlying3 (hval 1 3 v1 rfl rfl) h1
    obtain⟨a2,rfl,rfl,rfl,w2⟩:=open_int Tryz.underlying3 (hval 2 3 v2 rfl rfl) h2
    exact Kc (OX hL) f0 w1 w2 fun w' hE=>⟨rfl,hE⟩
theorem allCoefsCard_said_row:Rows.AllCoefsSaid:=
  OpenClaim.holds_of_cond 3 Tryz.f3 rfl rfl rfl rfl rfl rfl rfl ⟨rfl,rfl,rfl,rfl,rfl⟩ rfl rfl rfl rfl rfl (by kernel_rfl) Tryz.func3 (by kernel_rfl)
    (of_decide_eq_true (by kernel_rfl)) (by unfold Func.isWrapper;first|(rw[if_pos (by decide+kernel)];kernel_rfl)|(rw[if_neg (by decide+kernel)];exact⟨rfl,rfl⟩))
    (fun os started H enc _ Fi=>by rw[OpenClaim.pre_eq_preRow];exact allCoefs_lifted os started H enc Fi)
theorem allCoefs_plain(f:FuncId)(fn:Func)(hf:Tryz.pinned.checked.prog.funcNamed "darkroom/darkroomtop.AllCoefs" =some f)(hfn:Tryz.pinned.checked.prog.funcs[f]?=some fn):
    true=Tryz.pinned.checked.prog.looks []/\∀(j:Nat) t,fn.params[j]?=some t->Tryz.pinned.checked.prog.wantsStandIn t=false:=by
  obtain rfl:f=3:=Option.some.inj ((show Tryz.prog.funcNamed "darkroom/darkroomtop.AllCoefs" =some 3 by kernel_rfl).symm.trans hf) |>.symm
  obtain rfl:fn=Tryz.f3:=(Option.some.inj (Tryz.func3.symm.trans hfn)).symm
  refine⟨by kernel_rfl,fun j t ht=>?_⟩
  rw[Tryz.params3]at ht
  have hj:j<3:=(Array.getElem?_eq_some_iff.1 ht).1
  match j with
    |0=>obtain rfl:t=24:=by simpa using ht.symm
        exact(show Tryz.prog.wantsStandIn 24=false by kernel_rfl)
    |1=>obtain rfl:t=3:=by simpa using ht.symm
        exact(show Tryz.prog.wantsStandIn 3=false by kernel_rfl)
    |2=>obtain rfl:t=3:=by simpa using ht.symm
        exact(show Tryz.prog.wantsStandIn 3=false by kernel_rfl)
    |j+3=>omega
theorem allCoefsCard_said:Rows.AllCoefsCardSaid:=
  Claim7.holds_tied_plain_at .later [] _ _ _ _ allCoefsCard_said_row (fun _ h=>by cases h) (by kernel_rfl) (fun _ h=>by cases h) allCoefs_row_tie rfl ⟨rfl,rfl⟩ (by kernel_rfl) rfl allCoefs_plain (by kernel_rfl)
#print axioms allCoefsCard_said
end Go.Proofs.YtoomejkiagonpaaGreatDoor
