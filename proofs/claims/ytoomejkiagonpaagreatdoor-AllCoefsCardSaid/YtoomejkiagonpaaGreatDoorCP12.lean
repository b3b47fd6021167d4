/- Coefs: the document's coefficients of an image. -/
import Derived.Test.YtoomejkiagonpaaGreatDoorCards
import Derived.Test.YtoomejkiagonpaaGreatDoorTie
import Derived.Deep.DeepHandedRow
import Derived.Lib.LaidTab
import Derived.Deep.DeepWitnessRowRef
import Derived.Lay
import Derived.Lib.LaidU8
import Derived.MakeChecks
import Derived.Test.YtoomejkiagonpaaGreatDoorCP4
import Derived.Test.YtoomejkiagonpaaGreatDoorCP5
import Derived.Test.YtoomejkiagonpaaGreatDoorCP7
import Derived.Test.YtoomejkiagonpaaGreatDoorCP10
import Derived.Test.YtoomejkiagonpaaGreatDoorCP11
set_option linter.unusedVariables false
set_option linter.unusedSimpArgs false
set_option maxRecDepth 100000
set_option maxHeartbeats 8000000
open Go.IntKind renaming i64->A_
open Go renaming World->B_,Value->C_,IntKind->D_,Calls->E_
open Int renaming eq_ofNat_of_zero_le->F_,natCast_mul->G_,toNat_natCast->H_,natCast_add->N_
open List renaming range->I_,mem_cons_of_mem->K_,append_nil->Q_,range_succ->R_,map_append->W_,getD_eq_getElem?_getD->Y_,getElem?_eq_getElem->Z_,getElem_mem->a_,mem_cons->b_,not_mem_nil->c_,replicate->d_
open Nat renaming zero_add->J_,mul_le_mul->L_,lt_of_le_of_lt->S_,lt_of_lt_of_le->U_,div_le_self->X_
open List.cons renaming injEq->M_
open Go.BinOp renaming quo->O_,rem->T_
open Go.Value.int renaming injEq->P_
open Bool renaming eq_iff_iff->V_
open Go.Value renaming okWide->e_
open Option.some renaming inj->f_
namespace Go.Proofs.YtoomejkiagonpaaGreatDoor
open Go Go.Vc Go.RowKit Go.Qn
variable {w u w0 : B_} {R : Ending -> B_ -> Prop} {n i W H : Nat} {vs fs zero : List C_} {p : Option Addr} {v : C_} {xs bs : List Int} {X : List Nat} {A : Nat -> Prop} {F : Option Addr -> Nat -> Nat -> B_ -> Prop}
theorem dT.app2{l:List (Nat×Nat×List C_)}{base:Option Addr}{len cap bytes:Nat}{elem:TypeId}
 (h:dT A X w u base len cap vs)(hl:∀b,b∈am l->A b)(hz:zero.length=1)(hn:fs.length=n*1)
 (hby:(len+n)*bytes<=2^47)(h62:len+n<2^62)
 (hF:∀base' cap' u',dT A X w u' base' (len+n) cap' (vs++fs)->Chg (fun b=>¬A b/\w.heap.size<=b) u u'->F base' (len+n) cap' u'):
  ay u l base len cap n 1 bytes elem zero fs F:=by
 obtain⟨G,h1,h2,h3⟩:=h.own;refine h3.app (fun b hb hS=>h2 b (hl b hb) hS) hz hn hby h62 fun S' base' cap' u' hg ho hc=>hF base' cap' u' ⟨h.ext.step hc h1,⟨S',fun i hi=>?_,fun b hb hS=>?_,ho⟩,fun i hi=>U_ (h.lt i hi) hc.size,h.xs,h.lo⟩ (hc.mono fun i hi _=>⟨fun ha=>h2 i ha hi,h1 i hi⟩)
 ·have:=h.ext.size
  rcases hg.2 i hi with hi|hi
  ·exact h1 i hi
  ·omega
 ·have:=h.lt b hb
  rcases hg.2 b hS with hS|hS
  ·exact h2 b hb hS
  ·omega
theorem Kv{sub x y:Nat}(hW:1<=W)(hH:1<=H):vd (cu xs W H sub) W H i x y=mX (cU (decide (sub=0)) (iX xs (bI (y:Nat) H*W+bI (x:Nat) W).toNat)) i:=by
 unfold vd;rw[K5];have hx:0<=bI (x:Nat) (W:Nat)/\bI (x:Nat) (W:Nat)<=(W:Int)-1:=by unfold bI;omega
 have hy:0<=bI (y:Nat) (H:Nat)/\bI (y:Nat) (H:Nat)<=(H:Int)-1:=by unfold bI;omega
 have q1:bI (y:Nat) (H:Nat)*(W:Int)<=((H:Int)-1)*W:=Int.mul_le_mul_of_nonneg_right hy.2 (by omega)
 have q2:((H:Int)-1)*W=W*H-W:=by rw[Int.sub_mul,Int.one_mul,Int.mul_comm]
 have q0:0<=bI (y:Nat) (H:Nat)*(W:Int):=Int.mul_nonneg hy.1 (by omega)
 have:((W*H:Nat):Int)=(W:Int)*H:=by push_cast;rfl
 omega
theorem Ol(x:Int):min (max (x+1024) 0) 2047-1024=mc 0 x:=by unfold mc;rw[if_pos rfl];omega
theorem N5(h:n≠0)(x:Int):min (max (x+1023) 0) 2046-1023=mc n x:=by unfold mc;rw[if_neg h];omega
theorem Nm:∀sub,sub=0\/sub=1->fa sub 0 (mU sub)=fa 1 0 (mU sub):=by
 intro sub h;rcases h with rfl|rfl<;>rfl
theorem r9{len cap:Nat}{W H q sub:Int}(h:nm w p len xs)(hpx:vm xs)
 (h1:fU W H xs=false->∀w',Ext w w'->R (.returned (.tuple #[NH,aa 6])) w')
 (h2:fU W H xs=true->¬(1<=q/\q<=100/\0<=sub/\sub<=2)->∀w',Ext w w'->R (.returned (.tuple #[NH,aa 2])) w')
 (h3:fU W H xs=true->1<=q/\q<=100/\0<=sub/\sub<=2->∀cb c w',Ext w w'->mU sub.toNat<=c->jV w w' (some ⟨cb,0,none⟩) (yG (cu xs W.toNat H.toNat sub.toNat) W.toNat H.toNat q.toNat sub.toNat)->
 R (.returned (.tuple #[.agg #[aa W,aa H,aa 0,.slice (some ⟨cb,0,none⟩) (mU sub.toNat) c],aa 0])) w'):
  E_ P 7 #[.agg #[aa W,aa H,.slice p len cap],aa q,aa sub] w R:=by
 refine zK _ _ _ _ _ _ _ _ _ ?_;intro k1 hk1 k2 hk2 w1 hL1;have hE1:Ext w w1:=hL1.ext (by simp;omega)
 refine GI h.len fun w2 hE2=>⟨_,rfl,hE2.keep _,?_⟩;have hE12:=hE1.trans hE2;cases hg:fU W H xs with
 |false=>exact aY rfl fun w3 hL3=>h1 hg w3 (hE12.step hL3.chg (by simp;omega))
 |true=>
 refine al rfl ?_;obtain⟨hgf,hxl⟩:=mA.1 hg;obtain⟨d1,d2,d3,d4,d5⟩:=eK.1 hgf;refine ak (fun hb=>fun w4 hL4=>?_) fun hb=>?_
 ·refine h2 hg (fun hh=>?_) w4 (hE12.step hL4.chg (by simp;omega))
  simp only[Bool.or_eq_true,decide_eq_true_eq]at hb;omega
 have hq:1<=q/\q<=100/\0<=sub/\sub<=2:=by
  simp only[Bool.or_eq_false_iff,decide_eq_false_iff_not]at hb;omega
 obtain⟨W,rfl⟩:=F_ (show 0<=W by omega)
 obtain⟨H,rfl⟩:=F_ (show 0<=H by omega)
 obtain⟨q,rfl⟩:=F_ (show 0<=q by omega)
 obtain⟨sub,rfl⟩:=F_ (show 0<=sub by omega)
 have h3:=h3 hg hq;simp only[H_]at h3;have hsub:sub<=2:=by omega
 have hT:=Gh (sub:=sub) hpx (W:=W) (H:=H) (by omega)
 intro k3 w5 hn5 k4 hk4;have e5:=hn5.1;have s5:=hn5.size;have z12:=hE12.size;have z5:=hn5.ext.size;have hE5:=hE12.trans hn5.ext;have hC5:Cs w5 k3 [aa 1,aa 1,.slice none 0 0,.slice none 0 0]:=hn5.cs;have ht1:=hL1.there k1 (by simp)
 have ht2:=hL1.there k2 (by simp)
 have z2:=hE2.size;refine⟨fun vs u=>∃cb:Nat,vs=[aa (W:Nat),aa (H:Nat),aa 0,.slice (some ⟨cb,0,none⟩) (mU sub) (mU sub)]/\Cs u cb (fa 1 0 (mU sub))/\dT (fun b=>w.heap.size<=b/\b<u.heap.size) [cb,k4,k2,k1] w u none 0 0 []/\cb∉[k4,k2,k1],?_,?_⟩
 ·refine ak (fun h=>?_) fun h=>?_
  ·have h0:0<sub:=by have:=of_decide_eq_true h;omega
   have hm3:mU sub=3:=by unfold mU;rw[if_pos h0]
   intro w6 hL6 k5 w7 hn7 w8 hL8;have z6:=hL6.size;have z7:=hn7.ext.size;have e7:=hn7.1;have s7:=hn7.size;have t4:=hL6.there k4 (by simp)
   have hE8:Ext w w8:=((hE5.step hL6.chg (by simp;omega)).trans hn7.ext).step hL8.chg (by simp;omega)
   have z8:=hL8.size;have hno:k5∉[k4,k2,k1]:=by simp;omega
   refine⟨k5,by rw[hm3],?_,dT.nil hE8 (fun _ h=>h) fun b hb=>?_,hno⟩
   ·rw[hm3]
    exact hn7.cs.locl hL8 hno
   ·have hb:b=k5\/b=k4\/b=k2\/b=k1:=by simpa using hb
    omega
  ·have h0:sub=0:=by have:=of_decide_eq_false h;omega
   subst h0;intro w9 hL9;have z9:=hL9.size;have t4:=hL9.there k4 (by simp)
   have hE9:Ext w w9:=hE5.step hL9.chg (by simp;omega)
   refine⟨k3,rfl,hC5.locl hL9 (by simp;omega),dT.nil hE9 (fun _ h=>h) fun b hb=>?_,by simp;omega⟩
   have hb:b=k3\/b=k4\/b=k2\/b=k1:=by simpa using hb
   omega
 intro n1 n2 n3 p1 k6 k7 w10 hI;obtain⟨cb,hv,hC10,hG10,hcb⟩:=hI;simp only[M_,P_,C_.slice.injEq,true_and,and_true]at hv;obtain⟨rfl,rfl,rfl,rfl,rfl,rfl⟩:=hv;have hmU:=dM (sub:=sub);have hlen1:(fa 1 0 (mU sub)).length=mU sub*4:=by
  unfold fa;rw[bi (sz:=4) (fun _=>rfl)];simp
 refine⟨fun vs u=>∃A:Nat->Prop,Cs u cb (fa sub 0 (mU sub))/\dT A [cb,k4,k2,k1] w u none 0 0 [],?_,?_⟩
 ·refine ak (fun h=>?_) fun h=>?_
  ·have h0:sub=2:=by have:=of_decide_eq_true h;omega
   subst h0;have hC':=hC10.drew;refine bo (by omega) (by omega) rfl ?_
   refine⟨⟨_,hC'.cell (i:=0) rfl⟩,hC'.frozen 0,hcb,?_⟩;refine bo (by omega) (by omega) rfl ?_
   have s1:=hC'.set1 (off:=0) (v:=aa 2) (by rw[hlen1];decide)
   have c1:=Chg.setCells w10.drew ⟨cb,0,none⟩ [aa 2] 0;refine⟨⟨_,s1.cell (i:=1) rfl⟩,s1.frozen 1,hcb,?_⟩;have s2:=s1.set1 (off:=1) (v:=aa 2) (by rw[List.length_set,hlen1];decide)
   have c2:=Chg.setCells (ab w10.drew ⟨cb,0,none⟩ [aa 2] 0) ⟨cb,1,none⟩ [aa 2] 0;obtain⟨g0,_⟩:=hG10.step (T:=fun _=>False) (u':=w10.drew) (Ext.refl _).drew.chg fun _ h=>h.elim;obtain⟨g1,_⟩:=g0.step c1 fun b hb _=>by have hb:b=cb:=hb;rw[hb];simp
   obtain⟨g2,_⟩:=g1.step c2 fun b hb _=>by have hb:b=cb:=hb;rw[hb];simp
   exact⟨_,s2,g2⟩
  ·have h0:sub=0\/sub=1:=by have:=of_decide_eq_false h;omega
   exact⟨_,by rw[Nm sub h0];exact hC10,hG10⟩
 intro w11 hI;obtain⟨A0,hC11,hG11⟩:=hI;have hnU:=cX hsub;have hHV:HV w11 (some ⟨cb,0,none⟩) (B0 sub):=Oa (rest:=[]) (by rw[Q_];exact hC11)
 have hSz:=Ko (c:=mU sub) (e:=0) (W:=W) (H:=H) (n:=nU sub) hHV (by rw[Dk];omega) (Iz hsub) hnU ⟨by omega,by omega⟩ ⟨by omega,by omega⟩ (R:=fun e2 w12=>
  e2=.returned (.tuple #[aa (nU sub:Nat),aa (nU sub:Nat),aa (aJ W (nU sub):Nat),aa (aJ H (nU sub):Nat)])/\Ext w11 w12) fun w' hE'=>⟨rfl,hE'⟩
 rw[Dk]at hSz;refine hSz.mono fun e2 w12 he2=>?_;obtain⟨rfl,hE12'⟩:=he2;refine⟨_,_,_,_,rfl,hE12'.keep _,?_⟩;obtain⟨hG12,_⟩:=hG11.step (T:=fun _=>False) hE12'.chg fun _ h=>h.elim;have hC12:=hC11.ext hE12';generalize Nw A0 w11 w12=A1 at hG12;generalize hX:[cb,k4,k2,k1]=X at*;have hcX:cb∈X:=by rw[<-hX];simp
 have hlX:∀b,b∈[k4,k2,k1]->b∈X:=fun b hb=>by rw[<-hX];exact K_ _ hb
 have haW:=gW (W:=W) (by omega) (by omega) hnU
 have haH:=gW (W:=H) (by omega) (by omega) hnU
 refine⟨fun vs u=>∃(i:Nat) (A:Nat->Prop) (css:List (List C_)),vs=[aa (i:Nat)]/\i<=mU sub/\dT A X w u none 0 0 []/\cP (Da A X) u css ((I_ i).map (oQ (cu xs W H sub) W H q sub))/\(ax id css).length=4*i/\Cs u cb (ax id css++fa sub i (mU sub)),
  fun vs _=>match vs with|[.int _ n]=>(mU sub-n:Int).toNat|_=>0,⟨0,_,[],rfl,by omega,hG12,cP.nil _ _,rfl,hC12⟩,fun n8 w13 hI=>?_⟩
 obtain⟨i,A,css,hv,hi,hG13,hD13,hPl,hC13⟩:=hI;obtain rfl:n8=(i:Nat):=by simpa using hv
 refine ak (fun hlt=>?_) fun hge=>?_
 rotate_left
 ·have hge:i=mU sub:=by have:=of_decide_eq_false hge;omega
  subst hge;intro w30 hL;obtain⟨g,kp⟩:=hG13.step hL.chg fun b hb _=>hlX b hb;rw[Gn (Nat.le_refl _),Q_]at hC13;have hC39:=hC13.locl hL hcb;refine h3 cb (mU sub) w30 g.ext (Nat.le_refl _) ⟨css,(hD13.kp kp).kp ((Kp.refl _ _).mono fun b hb _=>g.lo b hb.1),fun j v hj=>?_⟩;refine⟨_,rfl,(g.xs cb hcX).2,?_⟩;rw[af,J_];exact hC39.cell hj
 have hlt:i<mU sub:=by have:=of_decide_eq_true hlt;omega
 have hh:=it (i:=i) hsub;have hd:=HL (i:=i) hsub;have hde:=NQ (i:=i) hsub;generalize hPP:ax id css=PP at*;rw[Ey hlt]at hC13;generalize htail:fa sub (i+1) (mU sub)=tail at*;have hC13:Cs w13 cb (PP++(aa (hU sub i:Nat)::aa (hU sub i:Nat)::.slice none 0 0::.slice none 0 0::tail)):=hC13;refine bo (by omega) (by omega) rfl ?_
 simp only[H_,af,J_,show i*4=PP.length by omega]
 refine⟨_,_,_,_,_,_,_,_,hC13.cell (i:=PP.length) (by have:=gB PP (aa (hU sub i:Nat)::aa (hU sub i:Nat)::.slice none 0 0::.slice none 0 0::tail) 0;rwa[Nat.add_zero]at this),hC13.cell (i:=PP.length+1) (gB PP _ 1),hC13.cell (i:=PP.length+2) (gB PP _ 2),hC13.cell (i:=PP.length+3) (gB PP _ 3),?_⟩
 intro k12 hk12 w14 hL14;obtain⟨hG14,kp14⟩:=hG13.addX hL14 hlX hk12;have hC14:=hC13.locl hL14 (by
  intro hm;rcases b_.1 hm with e|hm
  ·have:=hG13.lt cb (hG13.xs cb hcX).1;omega
  ·exact hcb hm)
 have hD14:=hD13.kp kp14;have hne5:cb∉[k12,k4,k2,k1]:=by
  intro hm;rcases b_.1 hm with e|hm
  ·have:=hG13.lt cb (hG13.xs cb hcX).1;omega
  ·exact hcb hm
 generalize Nw A w13 w14=A2 at*;generalize hY:k12::X=Y at*;have hcY:cb∈Y:=by rw[<-hY];exact K_ _ hcX
 have hlY:∀b,b∈[k12,k4,k2,k1]->b∈Y:=fun b hb=>by
  rw[<-hY];rcases b_.1 hb with e|hb
  ·rw[e];simp
  ·exact K_ _ (hlX b hb)
 have hXY:∀b,b∈X->b∈Y:=fun b hb=>by rw[<-hY];exact K_ _ hb
 have hcq:decide (((i:Nat):Int)>0)=decide (0<i):=by
  rw[V_];simp
 rw[hcq];refine Iq (by omega) (by omega) fun qb qc w15 hF15=>⟨_,_,_,_,rfl,hF15.ext.keep _,?_⟩
 have hE15:=hF15.ext;obtain⟨hG15,kp15⟩:=hG14.step (T:=fun _=>False) hE15.chg fun _ h=>h.elim;have hQ15:aD (Da (Nw A2 w14 w15) Y) w15 qb (ii (cC q (decide (0<i)))):=(Fg.toS hF15).mono fun b hb _=>⟨.inr hb,fun hm=>by have:=hG14.lt b (hG14.xs b hm).1;omega⟩
 have hD15:=hD14.kp kp15;have hC15:=hC14.ext hE15;generalize Nw A2 w14 w15=A3 at*;refine bo (by omega) (by omega) rfl ?_
 simp only[H_,af,J_,show i*4=PP.length by omega]
 refine⟨⟨_,hC15.cell (i:=PP.length+2) (gB PP _ 2)⟩,hC15.frozen _,hne5,by omega,by omega,?_⟩
 have s1:=hC15.set1 (off:=PP.length+2) (v:=.slice qb 64 qc) (by simp)
 rw[Jo]at s1;have c1:=Chg.setCells w15 ⟨cb,PP.length+2,none⟩ [.slice qb 64 qc] 0;generalize ab w15 ⟨cb,PP.length+2,none⟩ [.slice qb 64 qc] 0=wq at*;obtain⟨hGq,kpq⟩:=hG15.step c1 fun b hb _=>by have hb:b=cb:=hb;rw[hb];exact hcY
 have hDq:=hD15.kp kpq;have hQq:=kpq _ _ hQ15;generalize Nw A3 w15 wq=A4 at*;have edn:ad .quo .i64 ((nU sub:Nat):Int) ((hU sub i:Nat):Int)=((dU sub i:Nat):Int):=by rw[qN (by omega) (by omega),hde]
 have edd:A_.wrap (((dU sub i:Nat):Int)*((dU sub i:Nat):Int))=((dU sub i*dU sub i:Nat):Int):=by
  have:dU sub i*dU sub i<=4:=by rcases hd with e|e<;>rw[e]<;>decide
  rw[<-G_,wN]
 rw[edn,edd];have hww:aJ W (nU sub)*hU sub i<=1024:=Nat.le_trans (L_ haW.1 (show hU sub i<=2 by omega)) (by omega)
 have hw1:1<=aJ W (nU sub)*hU sub i:=Nat.mul_pos haW.2 (by omega)
 have ew:A_.wrap (((aJ W (nU sub):Nat):Int)*((hU sub i:Nat):Int))=((aJ W (nU sub)*hU sub i:Nat):Int):=by rw[<-G_,wN]
 have hnb:nB W H sub i=aJ W (nU sub)*hU sub i*(aJ H (nU sub)*hU sub i):=rfl;have hnb2:nB W H sub i=aJ W (nU sub)*hU sub i*aJ H (nU sub)*hU sub i:=by rw[hnb,Nat.mul_assoc (aJ W (nU sub)*hU sub i)]
 have ew2:aJ W (nU sub)*hU sub i*aJ H (nU sub)<=1024*512:=L_ hww haH.1;have hnbl:nB W H sub i<=1024*512*2:=by rw[hnb2];exact L_ ew2 (by omega)
 have et:A_.wrap (A_.wrap (((aJ W (nU sub)*hU sub i:Nat):Int)*((aJ H (nU sub):Nat):Int))*((hU sub i:Nat):Int))=((nB W H sub i:Nat):Int):=by
  rw[<-G_,wN,<-G_,<-hnb2,wN]
 rw[ew,et];have hcm:oQ (cu xs W H sub) W H q sub i=⟨(hU sub i:Nat),(hU sub i:Nat),cC q (decide (0<i)),(I_ (nB W H sub i)).map (vG (cu xs W H sub) W H (cC q (decide (0<i))) sub i)⟩:=rfl;generalize hbk:vG (cu xs W H sub) W H (cC q (decide (0<i))) sub i=bk at*;have hbkv:∀k,bk k=lN (vx (cu xs W H sub) W H i (dU sub i) (k%(aJ W (nU sub)*hU sub i)) (k/(aJ W (nU sub)*hU sub i))) (cC q (decide (0<i))):=fun k=>by rw[<-hbk];rfl
 generalize hwd:aJ W (nU sub)*hU sub i=wd at*;generalize hNB:nB W H sub i=NB at*;generalize hqL:cC q (decide (0<i))=qL at*;have hqLl:qL.length=64:=by rw[<-hqL];exact eL _
 have hqLr:∀x,x∈qL->1<=x/\x<=65535:=fun x hx=>by rw[<-hqL]at hx;have:=pk x hx;omega
 generalize hdd:dU sub i=d at*;generalize hhv:hU sub i=hv at*;refine⟨fun vs u=>∃(k:Nat) (A:Nat->Prop) (bp:Option Addr) (bc:Nat) (vs':List C_),vs=[aa (k:Nat)]/\k<=NB/\dT A Y w u bp k bc vs'/\gh (Da A Y) u vs' ((I_ k).map bk)/\cP (Da A Y) u css ((I_ i).map (oQ (cu xs W H sub) W H q sub))/\
  Cs u cb (PP++(aa (hv:Nat)::aa (hv:Nat)::.slice qb 64 qc::.slice bp k bc::tail))/\aD (Da A Y) u qb (ii qL),fun vs _=>match vs with|[.int _ n]=>(NB-n:Int).toNat|_=>0,?_,fun n12 w16 hI=>?_⟩
 ·obtain⟨g,kp⟩:=hGq.step (T:=fun _=>False) (u':=wq.drew) (Ext.refl _).drew.chg fun _ h=>h.elim
  exact⟨0,_,none,0,[],rfl,by omega,g,gh.nil _ _,hDq.kp kp,s1.drew,kp _ _ hQq⟩
 obtain⟨k,A5,bp,bc,vs',hv',hk,g1,g2,g3,g4,g6⟩:=hI;obtain rfl:n12=(k:Nat):=by simpa using hv'
 refine ak (fun hlt2=>?_) fun hge=>?_
 rotate_left
 ·have hge:k=NB:=by have:=of_decide_eq_false hge;omega
  subst hge;rw[ai (x:=(i:Int)+1)];obtain⟨ga,kpa⟩:=g1.all;have kpa2:Kp (Da A5 Y) (Da (fun b=>w.heap.size<=b/\b<w16.heap.size) X) w16 w16:=kpa.mono fun b hb _=>⟨hb.1,fun hm=>hb.2 (hXY b hm)⟩;have hbs:aD (Da (fun b=>w.heap.size<=b/\b<w16.heap.size) X) w16 bp vs':=g1.slS.mono fun b hb _=>⟨hb.1,fun hm=>hb.2 (g1.xs b (hXY b hm)).1⟩;obtain⟨GG,o1,o2,o3⟩:=g1.own;have hbc:=o3.own.2.1;have hcomp:j6 (Da (fun b=>w.heap.size<=b/\b<w16.heap.size) X) w16 [aa (hv:Nat),aa (hv:Nat),.slice qb 64 qc,.slice bp k bc] (oQ (cu xs W H sub) W H q sub i):=by
   rw[hcm];refine⟨qb,qc,bp,bc,vs',?_,hqLl,kpa2 _ _ g6,?_,hbs,g2.kp kpa2⟩
   ·simp
   ·simpa using hbc
  refine⟨⟨i+1,_,css++[[aa (hv:Nat),aa (hv:Nat),.slice qb 64 qc,.slice bp k bc]],rfl,hlt,ga.perm hXY,?_,?_,?_⟩,by show((mU sub:Int)-((i:Int)+1)).toNat<((mU sub:Int)-i).toNat;omega⟩
  ·rw[R_,W_]
   exact(g3.kp kpa2).snoc hcomp
  ·rw[re,hPP,List.length_append,hPl];simp;omega
  ·rw[re,hPP,List.append_assoc,htail]
   exact g4
 have hlt2:k<NB:=by have:=of_decide_eq_true hlt2;omega
 refine⟨by omega,by omega,?_⟩
 have hd4:d*d<=4:=by rcases hd with e|e<;>rw[e]<;>decide
 have hd1:1<=d*d:=by rcases hd with e|e<;>rw[e]<;>decide
 have hx:k%wd<1024:=U_ (Nat.mod_lt _ (by omega)) hww
 have hy:k/wd<1048576:=S_ (X_ _ _) (by omega)
 generalize hX':k%wd=x at*;generalize hY':k/wd=y at*;have zd:w16.drew.heap.size=w16.heap.size:=rfl;have hE16:Ext w w16.drew:=g1.ext.trans (Ext.refl w16).drew;have hG0:dT (fun b=>w.heap.size<=b/\b<w16.drew.heap.size) [k12,k4,k2,k1] w w16.drew none 0 0 []:=dT.nil hE16 (fun _ h=>h) fun b hb=>⟨⟨(g1.xs b (hlY b hb)).2,g1.lt b (g1.xs b (hlY b hb)).1⟩,(g1.xs b (hlY b hb)).2⟩;refine⟨fun vs u=>∃(n:Nat) (A:Nat->Prop) (lp:Option Addr) (lc:Nat),vs=[.slice lp n lc,aa (n:Nat)]/\n<=64/\(∀b,w.heap.size<=b/\b<w16.drew.heap.size->A b)/\dT A [k12,k4,k2,k1] w u lp n lc (ii ((I_ n).map (iO (cu xs W H sub) W H i d x y)))/\Chg (·∈[k12,k4,k2,k1]) w16.drew u,
  fun vs _=>match vs with|[_,.int _ n]=>(64-n:Int).toNat|_=>0,⟨0,_,none,0,rfl,by omega,fun b hb=>hb,hG0,Chg.refl _ _⟩,fun p5 k15 k16 n13 w17 hI=>?_⟩
 obtain⟨n,A6,lp,lc,hv',hn,hA6,hG17,hc17⟩:=hI;simp only[M_,P_,C_.slice.injEq,true_and,and_true]at hv';obtain⟨⟨rfl,rfl,rfl⟩,rfl⟩:=hv';have hE17:=hG17.ext;refine ak (fun hlt4=>?_) fun hge=>?_
 ·have hlt4:k15<64:=by have:=of_decide_eq_true hlt4;omega
  refine⟨fun vs u=>∃t:Nat,vs=[aa (gS (cu xs W H sub) W H i d x y k15 t),aa (t:Nat)]/\t<=d*d/\Ext w17 u,fun vs _=>match vs with|[_,.int _ t]=>(((d*d:Nat):Int)-t:Int).toNat|_=>0,⟨0,?_,by omega,Ext.refl _⟩,fun n14 n15 w18 hI=>?_⟩
  ·have:(2:Int)=((2:Nat):Int):=rfl
   rw[this,qN (by omega) (by omega)]
   unfold gS;rw[SI,Int.add_zero];rfl
  obtain⟨t,hv',ht,hE18⟩:=hI;simp only[M_,P_,true_and,and_true]at hv';obtain⟨rfl,rfl⟩:=hv';have hsr:=yK (i:=i) (bx:=x) (by':=y) (p:=k15) hT hd ht
  refine ak (fun hlt5=>?_) fun hge=>?_
  ·have hlt5:t<d*d:=by have:=of_decide_eq_true hlt5;omega
   have hex:A_.wrap (A_.wrap (A_.wrap (A_.wrap (ad T_ A_ ((k:Nat):Int) ((wd:Nat):Int)*8)+ad T_ A_ ((k15:Nat):Int) 8)*((d:Nat):Int))+ad T_ A_ ((t:Nat):Int) ((d:Nat):Int))=(((8*x+k15%8)*d+t%d:Nat):Int):=by
    have hb1:(8*x+k15%8)*d<=(8*1024+8)*2:=L_ (by omega) (by omega)
    have hb2:t%d<4:=S_ (Nat.mod_le _ _) (by omega)
    have e8:(8:Int)=((8:Nat):Int):=rfl;rw[e8,rN,hX',<-G_,wN,rN,rN,<-N_,wN,<-G_,Nat.mul_comm x 8,wN,<-N_,wN]
   have hey:A_.wrap (A_.wrap (A_.wrap (A_.wrap (ad O_ A_ ((k:Nat):Int) ((wd:Nat):Int)*8)+ad O_ A_ ((k15:Nat):Int) 8)*((d:Nat):Int))+ad O_ A_ ((t:Nat):Int) ((d:Nat):Int))=(((8*y+k15/8)*d+t/d:Nat):Int):=by
    have hb1:(8*y+k15/8)*d<=(8*1048576+8)*2:=L_ (by omega) (by omega)
    have hb2:t/d<4:=S_ (X_ _ _) (by omega)
    have e8:(8:Int)=((8:Nat):Int):=rfl;rw[e8,qN (by omega) (by omega),hY',<-G_,wN,qN (by omega) (by omega),qN (by omega) (by omega),<-N_,wN,<-G_,Nat.mul_comm y 8,wN,<-N_,wN]
   rw[hex,hey];refine⟨by omega,by omega,?_⟩
   have hIm:nm w18.drew p len xs:=h.ext ((hE17.trans hE18).trans (Ext.refl w18).drew);refine JU hIm hg fun w19 hE19=>⟨_,_,_,_,rfl,hE19.keep _,?_⟩;have hsb:(((sub:Nat):Int)==0)=decide (sub=0):=by
    rw[V_];simp
   refine H9 (Hu hpx _) fun w20 hE20=>⟨_,_,_,rfl,hE20.keep _,by omega,by omega,vd (cu xs W H sub) W H i ((8*x+k15%8)*d+t%d) ((8*y+k15/8)*d+t/d),?_,?_⟩
   ·rw[Kv (by omega) (by omega),hsb]
    unfold mX;have:i=0\/i=1\/i=2:=by omega
    rcases this with rfl|rfl|rfl<;>rfl
   ·have hE5:Ext w18 w20:=((Ext.refl w18).drew.trans hE19).trans hE20
    have es:gS (cu xs W H sub) W H i d x y k15 (t+1)=gS (cu xs W H sub) W H i d x y k15 t+vd (cu xs W H sub) W H i ((8*x+k15%8)*d+t%d) ((8*y+k15/8)*d+t/d):=by
     unfold gS;rw[SI,Int.add_assoc]
    have hsr2:=yK (i:=i) (bx:=x) (by':=y) (p:=k15) (n:=t+1) hT hd (by omega)
    rw[<-es,ai (x:=gS (cu xs W H sub) W H i d x y k15 (t+1)),ai (x:=(t:Int)+1)];exact⟨⟨t+1,rfl,hlt5,hE18.trans hE5⟩,by show(((d*d:Nat):Int)-((t:Int)+1)).toNat<(((d*d:Nat):Int)-t).toNat;omega⟩
  ·have hge:t=d*d:=by have:=of_decide_eq_false hge;omega
   subst hge;have hvr:=uE (i:=i) (bx:=x) (by':=y) (p:=k15) hT hd
   have hval:A_.wrap (ad O_ A_ (gS (cu xs W H sub) W H i d x y k15 (d*d)) ((d*d:Nat):Int)-128)=iO (cu xs W H sub) W H i d x y k15:=by
    rw[lM hsr.1 (by omega) (by omega)]
    show A_.wrap (iO (cu xs W H sub) W H i d x y k15)=_;rw[ai (by omega) (by omega)]
   rw[hval];refine⟨by omega,?_⟩
   intro k17 hk17 w21 hL21;obtain⟨ga,_⟩:=hG17.step (T:=fun _=>False) hE18.chg fun _ h=>h.elim;obtain⟨gb,_⟩:=ga.addX hL21 (fun b hb=>hb) hk17;have hz18:=hE18.size;have hz17:=hc17.size;have hk17A:Nw (Nw A6 w17 w18) w18 w21 k17:=.inr ⟨hk17,hL21.there k17 (by simp)⟩
   refine gb.app2 (fun b hb=>?_) rfl rfl (by omega) (by omega) fun lp' lc' w22 gc hc22=>?_
   ·have hb:b∈k17::[k12,k4,k2,k1]:=by simpa[am]using hb
    exact(gb.xs b hb).1
   have hAA:∀b,w.heap.size<=b/\b<w16.drew.heap.size->Nw (Nw A6 w17 w18) w18 w21 b:=fun b hb=>.inl (.inl (hA6 b hb));rw[ai (x:=(k15:Int)+1)];refine⟨⟨k15+1,_,lp',lc',rfl,hlt4,hAA,?_,?_⟩,by show((64:Int)-((k15:Int)+1)).toNat<((64:Int)-k15).toNat;omega⟩
   ·have e:ii ((I_ (k15+1)).map (iO (cu xs W H sub) W H i d x y))=ii ((I_ k15).map (iO (cu xs W H sub) W H i d x y))++[aa (iO (cu xs W H sub) W H i d x y k15)]:=by
     simp[ii,R_]
    rw[e];exact gc.perm fun b hb=>K_ _ hb
   ·refine((hc17.trans (hE18.chg (S:=fun _=>False)) fun _ h _=>h.elim).trans hL21.chg fun b hb hl=>?_).trans hc22 fun b hb hl=>(hb.1 (hAA b ⟨hb.2,hl⟩)).elim
    rcases b_.1 hb with e|hb
    ·omega
    ·exact hb
 have hge:k15=64:=by have:=of_decide_eq_false hge;omega
 subst hge;have hls:aD (fun b=>(w.heap.size<=b/\b<w17.heap.size)/\¬A6 b) w17 p5 (ii (vx (cu xs W H sub) W H i d x y)):=hG17.slS;have hrng:=C0 (i:=i) (bx:=x) (by':=y) hT hd
 refine FW hls.sl (eL _) hrng fun b1 c1' w23 hF1=>⟨_,_,_,_,rfl,hF1.ext.keep _,?_⟩;have hE23:=hF1.ext;have hc23:Chg (·∈[k12,k4,k2,k1]) w16 w23:=(((Ext.refl w16).drew.chg (S:=(·∈[k12,k4,k2,k1]))).trans hc17 fun b hb _=>hb).trans (hE23.chg (S:=fun _=>False)) fun _ h _=>h.elim;have hz17:=hc17.size;have hz23:=hE23.size;have hinY:∀b,b∈Y->b<w16.heap.size:=fun b hb=>g1.lt b (g1.xs b hb).1;have hq23:=g6.chg hc23 fun b hb hl hm=>hb.2 (hlY b hm);refine GR hF1.sl (pW _) (DH (sU (c:=256) hrng (by omega)) (by omega)) hq23.sl hqLl hqLr fun b2 c2' w24 hF2=>⟨_,_,_,_,rfl,hF2.ext.keep _,?_⟩
 have hFd:=DH (sU (c:=256) hrng (by omega)) (by omega)
 generalize hlS:vx (cu xs W H sub) W H i d x y=lS at*;have hDb:∀n,n<64-> -1048577<=(fy (da lS) qL).getD n 0/\(fy (da lS) qL).getD n 0<=1048577:=fun n hn=>by
  unfold fy;rw[yw _ hn];refine GO (m:=1048576) (by omega) ?_ ?_
  ·have hfl:=pW lS
   rw[Y_,Z_ (by omega)]
   exact hFd _ (a_ (by omega))
  ·rw[Y_,Z_ (by omega)]
   exact(hqLr _ (a_ (by omega))).1
 generalize hf:(fun i=>mc i ((fy (da lS) qL).getD i 0))=f;have hfi:∀i,f i=mc i ((fy (da lS) qL).getD i 0):=fun i=>by rw[<-hf]
 have hfb:∀i, -1024<=f i/\f i<=1023:=fun i=>by
  rw[hfi];unfold mc;split<;>omega
 have hlD:(fy (da lS) qL).length=64:=eL _;have hF2':=hF2;rw[<-Ez f hlD]at hF2';generalize hg':(fun i=>(fy (da lS) qL).getD i 0)=g at hF2';have hgi:∀i,g i=(fy (da lS) qL).getD i 0:=fun i=>by rw[<-hg']
 have hln:∀n,(ii (gU f g n)).length=64:=fun n=>by rw[aG];simp[gU]
 have hgb:∀n,n<64-> -1048577<=g n/\g n<=1048577:=fun n hn=>by rw[hgi];exact hDb n hn
 refine hF2'.sl.get (v:=aa (g 0)) (by omega) (hln 0) (by simp[ii,gU]) fun a5 ha5=>⟨_,ha5,?_⟩
 have hg0:=hgb 0 (by omega)
 rw[ai (x:=g 0+1024)];refine eV (by omega) ⟨_,rfl,(Ext.refl _).keep _,?_⟩
 obtain⟨b,rfl,_,hbw,hcell,hfz,hset⟩:=hF2'.set1 (i:=0) (by rw[hln];omega) (by omega)
 refine bo (by omega) (by omega) rfl ?_
 rw[af,J_,show((0:Int).toNat)*1=0 from rfl]
 have hbY:b∉[k12,k4,k2,k1]:=fun hm=>by have:=hinY b (hlY b hm);omega
 rw[Ol,show mc 0 (g 0)=f 0 by rw[hfi,hgi],ai (x:=f 0) (by have:=hfb 0;omega) (by have:=hfb 0;omega)]
 have hs:=(hset (aa (f 0))).1;rw[AS (by omega)]at hs
 refine⟨hcell,hfz,hbY,⟨fun vs u=>∃n:Nat,vs=[aa (n:Nat)]/\1<=n/\n<=64/\Fg [] w23 u 1 (some ⟨b,0,none⟩) 64 c2' (ii (gU f g n)),fun vs _=>match vs with|[.int _ r]=>(64-r:Int).toNat|_=>0,⟨1,rfl,by omega,by omega,hs⟩,fun n28 w26 hI=>?_⟩⟩
 obtain⟨n,hv',hn1,hn',hF4⟩:=hI;obtain rfl:n28=(n:Nat):=by simpa using hv'
 refine ak (fun hlt=>?_) fun hge=>?_
 ·have hlt:n<64:=by have:=of_decide_eq_true hlt;omega
  refine hF4.sl.get (v:=aa (g n)) (by omega) (hln n) (by rw[H_];simp[ii,gU,hlt]) fun a ha=>⟨_,ha,?_⟩
  have hg0:=hgb n (by omega)
  rw[ai (x:=g n+1023)];refine eV (by omega) ⟨_,rfl,(Ext.refl _).keep _,?_⟩
  obtain⟨b',hb',_,_,hcell,hfz,hset⟩:=hF4.set1 (i:=n) (by rw[hln];exact hlt) (by omega)
  obtain rfl:b=b':=by simpa using hb'
  refine bo (by omega) (by omega) rfl ?_
  rw[H_,af,J_,Nat.mul_one];rw[N5 (n:=n) (by omega),show mc n (g n)=f n by rw[hfi,hgi],ai (x:=f n) (by have:=hfb n;omega) (by have:=hfb n;omega),ai (x:=(n:Int)+1)]
  have hs:=(hset (aa (f n))).1;rw[AS hlt]at hs;exact⟨hcell,hfz,hbY,⟨n+1,rfl,by omega,hlt,hs⟩,by show((64:Int)-((n:Int)+1)).toNat<((64:Int)-n).toNat;omega⟩
 have hge:n=64:=by have:=of_decide_eq_false hge;omega
 subst hge;rw[ED,<-hf]at hF4;have hbk':bk k=(I_ 64).map fun i=>mc i ((fy (da lS) qL).getD i 0):=by rw[hbkv k,hX',hY',hlS];rfl
 rw[<-hbk']at hF4;have hE26:=hF4.ext;have hc26:Chg (·∈[k12,k4,k2,k1]) w16 w26.drew:=(hc23.trans (hE26.chg (S:=fun _=>False)) fun _ h _=>h.elim).trans ((Ext.refl w26).drew.chg (S:=fun _=>False)) fun _ h _=>h.elim;obtain⟨hG26,kp26⟩:=g1.step hc26 fun b hb _=>hlY b hb;have hz26:=hE26.size;have zd26:w26.drew.heap.size=w26.heap.size:=rfl;have hB26:aD (Da (Nw A5 w16 w26.drew) Y) w26.drew (some ⟨b,0,none⟩) (ii (bk k)):=by
  have h0:=(Fg.toS hF4).chg ((Ext.refl w26).drew.chg (S:=fun _=>False)) fun _ _ _ h=>h;exact h0.mono fun b hb _=>⟨.inr ⟨by omega,by omega⟩,fun hm=>by have:=hinY b hm;omega⟩
 have hS26:=g2.kp kp26;have hD26:=g3.kp kp26;have hQ26:=kp26 _ _ g6;have hC26:=(g4.chg hc26 hne5:_);generalize Nw A5 w16 w26.drew=A7 at*;refine bo (by omega) (by omega) rfl ?_
 simp only[H_,af,J_,show i*4=PP.length by omega]
 refine⟨_,_,_,hC26.cell (i:=PP.length+3) (gB PP _ 3),?_⟩;intro k26 hk26 w28 hL28;have hmem:∀b,b∈[k26,k12,k4,k2,k1]->b<w26.drew.heap.size->b∈Y:=fun b hb hl=>by
  rcases b_.1 hb with e|hb
  ·omega
  ·exact hlY b hb
 obtain⟨hG28,kp28⟩:=hG26.step hL28.chg hmem;have hcl:cb∉[k26,k12,k4,k2,k1]:=fun hm=>by
  rcases b_.1 hm with e|hm
  ·have:=hG26.lt cb (hG26.xs cb hcY).1;omega
  ·exact hne5 hm
 have hC28:=hC26.locl hL28 hcl;have hB28:=kp28 _ _ hB26;have hS28:=hS26.kp kp28;have hD28:=hD26.kp kp28;have hQ28:=kp28 _ _ hQ26;have hk26A:Nw A7 w26.drew w28 k26:=.inr ⟨hk26,hL28.there k26 (by simp)⟩
 generalize Nw A7 w26.drew w28=A8 at*;refine hG28.app (fun b hb=>?_) rfl rfl (by omega) (by omega) fun p10 c10 w29 hG29 kp29 hk29 z29=>?_
 ·have hb:b∈[k26,k12,k4,k2,k1]:=by simpa[am]using hb
  rcases b_.1 hb with e|hb
  ·rw[e];exact hk26A
  ·exact(hG28.xs b (hlY b hb)).1
 have hC29:=hC28.same (hk29 cb (hG28.xs cb hcY).1);have hB29:=kp29 _ _ hB28;have hS29:=hS28.kp kp29;have hD29:=hD28.kp kp29;have hQ29:=kp29 _ _ hQ28;refine bo (by omega) (by omega) rfl ?_
 simp only[H_,af,J_,show i*4=PP.length by omega]
 refine⟨⟨_,hC29.cell (i:=PP.length+3) (gB PP _ 3)⟩,hC29.frozen _,hcl,?_⟩;have u1:=hC29.set1 (off:=PP.length+3) (v:=.slice p10 (k+1) c10) (by simp)
 rw[Jp]at u1;have u2:=Chg.setCells w29 ⟨cb,PP.length+3,none⟩ [.slice p10 (k+1) c10] 0;obtain⟨hG30,kp30⟩:=hG29.step u2 fun b hb _=>by have hb:b=cb:=hb;rw[hb];exact hcY
 rw[ai (x:=(k:Int)+1)];refine⟨⟨k+1,_,p10,c10,_,rfl,hlt2,hG30,?_,hD29.kp kp30,u1,kp30 _ _ hQ29⟩,by show((NB:Int)-((k:Int)+1)).toNat<((NB:Int)-k).toNat;omega⟩
 rw[R_,W_];refine(hS29.kp kp30).snoc ?_ (Fg.cap hF4) (kp30 _ _ hB29);rw[hbk'];exact eL _
theorem jV.jat{l:List CM}(h:jV w0 w p l):mi w p l:=by
 obtain⟨css,h1,h2⟩:=h;have k:Kp (fun b=>w0.heap.size<=b) d7 w w:=fun p vs hs=>hs.mono fun _ _ _=>trivial;exact⟨css,h1.kp k,k _ _ h2⟩
theorem jV.chg{T:Nat->Prop}{l:List CM}(h:jV w0 w p l)(hc:Chg T w u)(hd:∀b,T b->b<w0.heap.size\/w.heap.size<=b):jV w0 u p l:=by
 obtain⟨css,h1,h2⟩:=h;have k:Kp (fun b=>w0.heap.size<=b) (fun b=>w0.heap.size<=b) w u:=fun p vs hs=>hs.chg hc fun b hb hl ht=>by
  have:=hd b ht;omega
 exact⟨css,h1.kp k,k _ _ h2⟩
theorem jV.locl{bs:List Nat}{l:List CM}(h:jV w0 w p l)(hL:Locl bs w u)(hd:∀b,b∈bs->b<w0.heap.size\/w.heap.size<=b):jV w0 u p l:=h.chg hL.chg hd
theorem N7{sub quality:Nat}(T:List gH)(hd:1<=W/\W<=4096/\1<=H/\H<=4096/\W*H<=65536)(hs:sub<=2):
  gD W H sub (fun i=>cC quality (decide (0<i))) (fun i k=>vG T W H (cC quality (decide (0<i))) sub i k):=by
 have hg:∀(l q:List Int) (j:Nat),j<64->(lN l q).getD j 0=mc j ((fy (da l) q).getD j 0):=fun l q j hj=>by
  simp[lN,List.getD,hj]
 have h0:∀(l q:List Int) (j:Nat),64<=j->(lN l q).getD j 0=0:=fun l q j hj=>by
  simp[lN,List.getD,hj]
 refine⟨hd,hs,fun i=>by simp[cC],fun i x hx=>pk x hx,fun i k=>by simp[vG,lN],fun i k=>?_,fun i k j hj=>?_⟩
 ·show -1024<=(lN _ _).getD 0 0/\(lN _ _).getD 0 0<=1023
  rw[hg _ _ 0 (by decide)]
  have:=EK 0 ((fy (da (vx T W H i (dU sub i) (k%(aJ W (nU sub)*hU sub i)) (k/(aJ W (nU sub)*hU sub i)))) (cC quality (decide (0<i)))).getD 0 0);exact⟨this.1,this.2.1⟩
 ·show -1023<=(lN _ _).getD j 0/\(lN _ _).getD j 0<=1023
  rcases Nat.lt_or_ge j 64 with h|h
  ·rw[hg _ _ j h]
   have:=EK j ((fy (da (vx T W H i (dU sub i) (k%(aJ W (nU sub)*hU sub i)) (k/(aJ W (nU sub)*hU sub i)))) (cC quality (decide (0<i)))).getD j 0);exact⟨this.2.2 (by omega),this.2.1⟩
  ·rw[h0 _ _ j h]
   omega
theorem JQ{len cap:Nat}{W H:Int}(hI:nm w p len xs)(hsz:len*2<=2^47)
 (hR:∀p' c w',Fg [] w w' 1 p' len c (px xs)->R (.returned (.agg #[aa W,aa H,.slice p' len c])) w'):E_ P 17 #[.agg #[aa W,aa H,.slice p len cap]] w R:=by
 have hlen:=hI.len;refine Am _ _ _ _ _ _ _ fun k1 hk1 k2 hk2 w1 hL1 k3 w2 hn=>⟨px xs,by rw[xh];omega,EI _,?_,?_⟩
 ·exact((hI.sl.ext (hL1.ext (by simp;omega))).ext hn.ext).cells
 have hE1:Ext w w1:=hL1.ext (by simp;omega)
 have hE2:=hE1.trans hn.ext;have t1:=hL1.there k1 (by simp)
 have t2:=hL1.there k2 (by simp)
 have hf:Fg [k2,k1] w w2 1 (some ⟨k3,0,none⟩) 0 0 []:=⟨hE2,⟨fun _=>False,fun _ h=>h.elim,fun _ _=>id,dA.nil _ _ _⟩,fun b hb=>by
  have:=hn.size;have:=hn.1;simp only[b_,c_,or_false]at hb;omega⟩
 refine hf.app' (by simp[am]) rfl (by rw[xh];omega) (by omega) (by omega) fun p' c' w3 hf3 hk3 hs3 w4 hL4=>?_
 have hf4:=hf3.push hL4 (by simp)
 rw[J_]at hf4⊢;exact hR p' c' w4 hf4.weak
theorem Lv{len cap:Nat}{W H:Int}(hI:nm w p len xs)(hsz:len*2<=2^47)
 (hR:∀p' c w',Fg [] w w' 1 p' len c (px xs)->R (.returned (.agg #[aa W,aa H,.slice p' len c])) w'):E_ P 6 #[.agg #[aa W,aa H,.slice p len cap]] w R:=by
 refine Fx _ _ _ _ _ _ _ fun k1 hk1 k2 hk2 w1 hL1=>?_;have hE1:Ext w w1:=hL1.ext (by simp;omega)
 have t1:=hL1.there k1 (by simp)
 have t2:=hL1.there k2 (by simp)
 refine JQ (hI.ext hE1) hsz fun p' c w2 hf=>⟨_,_,_,_,_,rfl,hf.ext.keep _,fun w3 hL3=>?_⟩;have:=(hf.from hE1 (bs:=[k2,k1]) (by simp;omega)).push hL3 (by simp)
 exact hR p' c w3 this.weak
theorem Iv{S:Nat->Prop}{cap:Nat}(hs:aD S w p (bytes bs))(hn:n=bs.length)(hsz:n<=2^40)
 (hR:∀p' c w',Fg [] w w' 1 p' n c (bytes bs)->R (.returned (.slice p' n c)) w'):E_ P 9 #[.slice p n cap] w R:=by
 refine BV _ _ _ _ _ fun k1 w1 hn1=>⟨bytes bs,by rw[ar];omega,by simp[aN,bytes,C_.oneCell'],((hs.ex hn1.ext).sl).cells,?_⟩
 have hf:Fg [] w w1 1 (some ⟨k1,0,none⟩) 0 0 []:=⟨hn1.ext,⟨fun _=>False,fun _ h=>h.elim,fun _ _=>id,dA.nil _ _ _⟩,by simp⟩
 refine hf.app' (by simp[am]) rfl (by rw[ar];omega) (by omega) (by omega) fun p' c' w3 hf3 hk3 hs3=>?_
 rw[J_]at hf3⊢;exact hR p' c' w3 hf3
def NJ(W H sub:Nat)(q:Nat->List Int)(b:Nat->Nat->List Int)(L0 L1:List Nat):List Int:=
 ll W H sub q L0 L1 (bh (fun i k=>zz (b i k)) (d_ (mU sub) 0) (bJ W sub (aJ W (nU sub)*aJ H (nU sub)))).1
def OF(W H sub:Nat)(b:Nat->Nat->List Int)(L0 L1:List Nat):Prop:=
 bM L0/\bM L1/\∀x,x∈(bh (fun i k=>zz (b i k)) (d_ (mU sub) 0) (bJ W sub (aJ W (nU sub)*aJ H (nU sub)))).1->1<=(if x.1=0 then L0 else L1).getD x.2.1 0
theorem GM{len cap:Nat}{W H q sub:Int}(h:nm w p len xs)(hc:len<=cap)(hpx:vm xs)
 (h1:fU W H xs=false->∀w',Ext w w'->R (.returned (.tuple #[.slice none 0 0,aa 6])) w')
 (h2:fU W H xs=true->¬(1<=q/\q<=100/\0<=sub/\sub<=2)->∀w',Ext w w'->R (.returned (.tuple #[.slice none 0 0,aa 2])) w')
 (h3:fU W H xs=true->1<=q/\q<=100/\0<=sub/\sub<=2->∀(f:Nat->List Int) (b:Nat->Nat->List Int) p' n c' w' L0 L1,Ext w w'->gD W.toNat H.toNat sub.toNat f b->yG (cu xs W.toNat H.toNat sub.toNat) W.toNat H.toNat q.toNat sub.toNat=iB W.toNat H.toNat sub.toNat f b->
 OF W.toNat H.toNat sub.toNat b L0 L1->aD (fun b=>w.heap.size<=b) w' p' (bytes (NJ W.toNat H.toNat sub.toNat f b L0 L1))->n=(NJ W.toNat H.toNat sub.toNat f b L0 L1).length->n<=c'->R (.returned (.tuple #[.slice p' n c',aa 0])) w'):
  E_ P 5 #[.agg #[aa W,aa H,.slice p len cap],aa q,aa sub] w R:=by
 refine y8 _ _ _ _ _ _ _ _ _ fun k1 hk1 w1 hL1=>?_;have hE1:Ext w w1:=hL1.ext (by simp;omega)
 refine Ku (h.ext hE1) hc hpx (fun hg w2 hE2=>⟨_,_,_,_,_,_,_,rfl,hE2.keep _,fun k4 hk4=>aY rfl fun w3 hL3=>h1 hg w3 ((hE1.trans hE2).step hL3.chg ?_)⟩)
  (fun hg hq w2 hE2=>⟨_,_,_,_,_,_,_,rfl,hE2.keep _,fun k4 hk4=>aY rfl fun w3 hL3=>h2 hg hq w3 ((hE1.trans hE2).step hL3.chg ?_)⟩)
  (fun hg hq cb c w2 hE2 hcb hJ=>⟨_,_,_,_,_,_,_,rfl,hE2.keep _,fun k4 hk4=>al rfl fun w4 hL4=>?_⟩)
 ·have:=(hE1.trans hE2).size
  simp;omega
 ·have:=(hE1.trans hE2).size
  simp;omega
 obtain⟨hgf,hxl⟩:=mA.1 hg;obtain⟨d1,d2,d3,d4,d5⟩:=eK.1 hgf;obtain⟨W,rfl⟩:=F_ (show 0<=W by omega)
 obtain⟨H,rfl⟩:=F_ (show 0<=H by omega)
 obtain⟨sub,rfl⟩:=F_ (show 0<=sub by omega)
 have h3:=h3 hg hq;simp only[H_]at h3 hJ hcb⊢;have d5':W*H<=65536:=by
  have:((W*H:Nat):Int)<=65536:=by rw[G_];exact d5
  omega
 obtain⟨f,b,he,hjm⟩:∃f b,yG (cu xs W H sub) W H q.toNat sub=iB W H sub f b/\gD W H sub f b:=⟨_,_,MZ (cu xs W H sub) W H q.toNat sub,N7 (quality:=q.toNat) (cu xs W H sub) (show 1<=W/\W<=4096/\1<=H/\H<=4096/\W*H<=65536 by omega) (show sub<=2 by omega)⟩
 rw[he]at hJ;have hE12:=hE1.trans hE2;have hE4:Ext w w4:=hE12.step hL4.chg (by have:=hE12.size;simp;omega)
 have t1:=hL1.there k1 (by simp)
 have hE24:Ext w1 w2:=hE2;have hJ4:mi w4 (some ⟨cb,0,none⟩) (iB W H sub f b):=(jV.locl hJ hL4 (by simp;omega)).jat
 refine Eo hjm hJ4 fun p' n c' w5 L0 L1 hE5 t0 t1 hcov hS hn hc'=>⟨_,_,_,_,rfl,hE5.keep _,?_⟩;exact h3 f b p' n c' w5 L0 L1 (hE4.trans hE5) hjm he ⟨t0,t1,hcov⟩ (aD.mono hS fun b hb _=>Nat.le_trans hE4.size hb) hn hc'
def Cx(x1 x2:Int)(sa1:aj)(sl1 sc1:Nat)(x3 x4:Int)(w:B_)(R:bV):Prop:=
 ∀k1,w.heap.size<=k1->∀w1,Locl [k1] w w1->E_ P 4 #[] w1 fun e1 w2=>∃c1,(e1=.returned (.bool c1))/\ao [k1] w1 w2/\ae (!c1) (R (.returned (.bool false)) w2) (E_ P 6 #[.agg #[aa x1,aa x2,.slice sa1 sl1 sc1]] w2 fun e2 w3=>∃n1 n2 p1 k2 k3,(e2=.returned (.agg #[aa n1,aa n2,.slice p1 k2 k3]))/\ao [k1] w2 w3/\E_ P 5 #[.agg #[aa n1,aa n2,.slice p1 k2 k3],aa x3,aa x4] w3 fun e3 w4=>∃p2 k4 k5 n3,(e3=.returned (.tuple #[.slice p2 k4 k5,aa n3]))/\ao [k1] w3 w4/\E_ P 7 #[.agg #[aa x1,aa x2,.slice sa1 sl1 sc1],aa x3,aa x4] w4 fun e4 w5=>∃n4 n5 n6 p3 k6 k7 n7,(e4=.returned (.tuple #[.agg #[aa n4,aa n5,aa n6,.slice p3 k6 k7],aa n7]))/\ao [k1] w4 w5/\∀k8,w5.heap.size<=k8->ae (n7 !=0) (∀w6,Locl [k8,k1] w5 w6->R (.returned (.bool (n3==n7))) w6) (∀w7,Locl [k8,k1] w5 w7->E_ P 9 #[.slice p2 k4 k5] w7 fun e5 w8=>∃p4 k9 k10,(e5=.returned (.slice p4 k9 k10))/\ao [k8,k1] w7 w8/\E_ P 8 #[.slice p4 k9 k10,aa 65536] w8 fun e6 w9=>∃n8 n9 n10 p5 k11 k12 n11,(e6=.returned (.tuple #[.agg #[aa n8,aa n9,aa n10,.slice p5 k11 k12],aa n11]))/\ao [k8,k1] w8 w9/\∀k13,w9.heap.size<=k13->∀w10,Locl [k13,k8,k1] w9 w10->E_ P 11 #[.agg #[aa n8,aa n9,aa n10,.slice p5 k11 k12]] w10 fun e7 w11=>∃n12 n13 n14 p6 k14 k15,(e7=.returned (.agg #[aa n12,aa n13,aa n14,.slice p6 k14 k15]))/\ao [k13,k8,k1] w10 w11/\E_ P 10 #[.agg #[aa n12,aa n13,aa n14,.slice p6 k14 k15]] w11 fun e8 w12=>∃p7 k16 k17 n15,(e8=.returned (.tuple #[.slice p7 k16 k17,aa n15]))/\ao [k13,k8,k1] w11 w12/\E_ P 8 #[.slice p7 k16 k17,aa 65536] w12 fun e9 w13=>∃n16 n17 n18 p8 k18 k19 n19,(e9=.returned (.tuple #[.agg #[aa n16,aa n17,aa n18,.slice p8 k18 k19],aa n19]))/\ao [k13,k8,k1] w12 w13/\∀k20,w13.heap.size<=k20->ae (n3==0&&n11==0&&n15==0&&n19==0) (∀w14,Locl [k20,k13,k8,k1] w13 w14->E_ P 12 #[.agg #[aa n8,aa n9,aa n10,.slice p5 k11 k12],.agg #[aa n4,aa n5,aa n6,.slice p3 k6 k7]] w14 fun e10 w15=>∃c2,(e10=.returned (.bool c2))/\ao [k20,k13,k8,k1] w14 w15/\ae (c2) (E_ P 12 #[.agg #[aa n16,aa n17,aa n18,.slice p8 k18 k19],.agg #[aa n4,aa n5,aa n6,.slice p3 k6 k7]] w15 fun e11 w16=>∃c3,(e11=.returned (.bool c3))/\ao [k20,k13,k8,k1] w15 w16/\R (.returned (.bool c3)) w16) (R (.returned (.bool false)) w15)) (∀w17,Locl [k20,k13,k8,k1] w13 w17->R (.returned (.bool false)) w17)))
theorem wI(x1 x2:Int)(sa1:aj)(sl1 sc1:Nat)(x3 x4:Int)(w:B_)(R:bV)(h:Cx x1 x2 sa1 sl1 sc1 x3 x4 w R):E_ P 3 #[.agg #[aa x1,aa x2,.slice sa1 sl1 sc1],aa x3,aa x4] w R:=
  aF (ac:=CY) Tryz.func3 h
theorem jV.jat2{l:List CM}(h:jV w0 w p l):jh (fun b=>w0.heap.size<=b/\b<w.heap.size) w p l:=by
 obtain⟨css,h1,h2⟩:=h;have k:Kp (fun b=>w0.heap.size<=b) (fun b=>w0.heap.size<=b/\b<w.heap.size) w w:=fun p vs hs=>hs.mono fun b hb hl=>⟨hb,hl⟩;exact⟨css,h1.kp k,k _ _ h2⟩
theorem jh.ext{l:List CM}(h:jh A w p l)(hE:Ext w u):jh A u p l:=h.chg (T:=fun _=>False) hE.chg fun _ _ _=>id
theorem jh.locl{bs:List Nat}{l:List CM}(h:jh A w p l)(hL:Locl bs w u)(hd:∀b,b∈bs->¬A b):jh A u p l:=h.chg hL.chg fun b hb _ ht=>hd b ht hb
theorem Fs{len cap:Nat}{W H q sub:Int}(hI:nm w p len xs)(hc:len<=cap)(hpx:vm xs)(hsz:len*2<=2^47)(hT:zU w)
 (hR:∀w',Ext w w'->R (.returned (.bool true)) w'):E_ P 3 #[.agg #[aa W,aa H,.slice p len cap],aa q,aa sub] w R:=by
 refine wI _ _ _ _ _ _ _ _ _ fun k1 hk1 w1 hL1=>?_;have hE1:Ext w w1:=hL1.ext (by simpa using hk1)
 have t1:=hL1.there k1 (by simp)
 refine Ni (hT.ext hE1) fun w2 hE2=>⟨_,rfl,hE2.keep _,al rfl ?_⟩;have hE02:=hE1.trans hE2;refine Lv (hI.ext hE02) hsz fun p1 c1 w3 hf3=>⟨_,_,_,_,_,rfl,hf3.ext.keep _,?_⟩;have hE03:=hE02.trans hf3.ext;have hI3:nm w3 p1 len xs:=⟨hf3.sl,hI.len⟩;have s2:=hE2.size;have s3:=hf3.ext.size;have hfin:∀(u u':B_) (bs:List Nat),Ext w u->Locl bs u u'->(∀b,b∈bs->w.heap.size<=b)->Ext w u':=fun u u' bs hE hL hb=>hE.step hL.chg fun b hm=>hb b hm;refine GM hI3 (Fg.cap hf3) hpx (fun hg w4 hE4=>⟨_,_,_,_,rfl,hE4.keep _,?_⟩) (fun hg hq w4 hE4=>⟨_,_,_,_,rfl,hE4.keep _,?_⟩) (fun hg hq f b p' n c' w4 L0 L1 hE4 jm he hcv hS hn hnc=>⟨_,_,_,_,rfl,hE4.keep _,?_⟩)
 ·have hE04:=hE03.trans hE4
  refine r9 (hI.ext hE04) hpx (fun _ w5 hE5=>⟨_,_,_,_,_,_,_,rfl,hE5.keep _,fun k8 hk8=>aY rfl fun w6 hL6=>?_⟩) (fun hg'=>absurd hg' (by simp[hg])) (fun hg'=>absurd hg' (by simp[hg]))
  have:=(hE04.trans hE5).size;exact hR w6 (hfin _ _ _ (hE04.trans hE5) hL6 (by simp;omega))
 ·have hE04:=hE03.trans hE4
  refine r9 (hI.ext hE04) hpx (fun hg'=>absurd hg (by simp[hg'])) (fun _ _ w5 hE5=>⟨_,_,_,_,_,_,_,rfl,hE5.keep _,fun k8 hk8=>aY rfl fun w6 hL6=>?_⟩) (fun _ hq'=>absurd hq' hq)
  have:=(hE04.trans hE5).size;exact hR w6 (hfin _ _ _ (hE04.trans hE5) hL6 (by simp;omega))
 have hE04:=hE03.trans hE4;refine r9 (hI.ext hE04) hpx (fun hg'=>absurd hg (by simp[hg'])) (fun _ hq'=>absurd hq hq') (fun _ _ cb c5 w5 hE5 hcb hJ5=>⟨_,_,_,_,_,_,_,rfl,hE5.keep _,fun k8 hk8=>al rfl fun w7 hL7=>?_⟩)
 obtain⟨hgf,hxl⟩:=mA.1 hg;obtain⟨d1,d2,d3,d4,d5⟩:=eK.1 hgf;obtain⟨W,rfl⟩:=F_ (show 0<=W by omega)
 obtain⟨H,rfl⟩:=F_ (show 0<=H by omega)
 obtain⟨sub,rfl⟩:=F_ (show 0<=sub by omega)
 simp only[H_]at*;rw[he]at hJ5;have d5':((W*H:Nat):Int)<=65536:=by rw[G_];exact d5
 have hl3:(iB W H sub f b).length<=3:=by rw[iJ];have:=dM (sub:=sub);omega
 have hbl:∀c,c∈iB W H sub f b->c.bl.length<=100000:=fun c hm=>by
  obtain⟨i,_,rfl⟩:=List.mem_map.1 hm;rw[G0];have:=jm.nB i;omega
 obtain⟨tb0,tb1,hcov⟩:=hcv;have s4:=hE4.size;have s5:=hE5.size;have s7:=hL7.size;have t8:=hL7.there k8 (by simp)
 have hE05:=hE04.trans hE5;have hE07:Ext w w7:=hfin _ _ _ hE05 hL7 (by simp;omega)
 have hJ7:=hJ5.jat2.locl hL7 (by simp;omega)
 have hS7:aD (fun b=>w3.heap.size<=b) w7 p' _:=(hS.ex hE5).chg hL7.chg fun b hb hl ht=>by
  have ht:b∈[k8,k1]:=ht;simp only[b_,c_,or_false]at ht;omega
 have hfl:=HE jm rfl tb0 tb1 hcov;have hfl2:n<=4194304:=by rw[hn];exact hfl.2
 refine Iv hS7 hn (by omega) fun p4 c4 w8 hf8=>⟨_,_,_,rfl,hf8.ext.keep _,?_⟩
 have hE08:=hE07.trans hf8.ext;have hJ8:=hJ7.ext hf8.ext;have s8:=hf8.ext.size;refine Hn jm rfl tb0 tb1 hcov ((Fg.toS hf8).mono fun _ _ _=>trivial) hn (Fg.cap hf8) d5' fun kc cc w9 hE9 hJ9=>⟨_,_,_,_,_,_,_,rfl,hE9.keep _,fun k13 hk13 w10 hL10=>?_⟩;have s9:=hE9.size;have s10:=hL10.size;have t13:=hL10.there k13 (by simp)
 have hE09:=hE08.trans hE9;have hE010:Ext w w10:=hfin _ _ _ hE09 hL10 (by simp;omega)
 have hW10:=(hJ8.ext hE9).locl hL10 (by simp;omega)
 have hJ10:=hJ9.jat2.locl hL10 (by simp;omega)
 refine L7 hJ10.any (iJ W H sub f b).symm hl3 hbl fun p6 c6 w11 hE11 hJ11 hc6=>⟨_,_,_,_,_,_,rfl,hE11.keep _,?_⟩;refine Eo jm hJ11 fun p7 n7 c7 w12 L2 L3 hE12 tb2 tb3 hcov2 hS12 hn12 hc12=>⟨_,_,_,_,rfl,hE12.keep _,?_⟩;refine Hn jm rfl tb2 tb3 hcov2 (aD.mono hS12 fun _ _ _=>trivial) hn12 hc12 d5' fun kd cd w13 hE13 hJ13=>⟨_,_,_,_,_,_,_,rfl,hE13.keep _,fun k20 hk20=>aY rfl fun w14 hL14=>?_⟩;have s11:=hE11.size;have s12:=hE12.size;have s13:=hE13.size;have hE1013:=(hE11.trans hE12).trans hE13;have hW14:=(hW10.ext hE1013).locl hL14 (by simp;omega)
 have hJ14:=(hJ10.ext hE1013).locl hL14 (by simp;omega)
 have hK14:=hJ13.locl hL14 (by simp;omega)
 have hE014:Ext w w14:=hfin _ _ _ (hE010.trans hE1013) hL14 (by simp;omega)
 refine Hm hJ14.any hW14.any (iJ W H sub f b).symm hl3 hbl fun w15 hE15=>⟨true,rfl,hE15.keep _,aY rfl ?_⟩;refine Hm (hK14.jat.ext hE15) (hW14.any.ext hE15) (iJ W H sub f b).symm hl3 hbl fun w16 hE16=>⟨true,rfl,hE16.keep _,?_⟩;exact hR w16 ((hE014.trans hE15).trans hE16)
open Go.ChangeShapes Go.WideShapes Go.Joins
theorem MH{H:Type}{enc:TypeId×C_->H}{a:Assume}{C:Checked}{os:Os}{f:FuncId}{fn:Func}{s:ChangeSpec}{conds:List PathCond}{tb:TypeId}{F:Stop.Interp}{laid:List (String×DataW Unit)}
 (own:ownKnob C.prog.godebug=none)(started:os.Started)(noInit:C.prog.inits.idxOf? f=none)(hfn:C.prog.funcs[f]?=some fn)
 (hl:laidOutB C.prog=true)(hps:(fn.params.toList.all fun t=>C.prog.readableRec t&&decide (t<C.prog.types.size))=true)
 (hr:fn.resultTypes.toList=[tb])(hb:C.prog.underlying tb=some .bool)(hv:s.vars=[])
 (hs:∀ds:List (DataW H),ds.length=fn.params.size->s.fn H ds={results:=[.lit (.bool true)],args:=ds})
 (witness:∃(w:B_) (tape:Tape) (i:Input),w.os=os/\(w.forCall tape i).Shaped C.prog/\i.vars=[]/\Input.okWide C.prog (w.forCall tape i) .any w.heap.size f i/\
 (OpenSpec.ofChange s).preRow enc C.prog fn conds false laid (w.forCall tape i).memory i.args/\a.holds C.prog (lone (Frame.enter C.prog f i.args .normal) [] (w.forCall tape i)))
 (contract:∀(W:B_) (base:Nat) (args:Array C_) (ds:List (DataW H)) (p:List MemPlace),
 (∀(j:Nat) t v,fn.params[j]?=some t->args[j]?=some v->e_ C.prog W .any base t v)->
 DataW.TrodAll enc C.prog W 0 (fun _=>true) true fn.params.toList args.toList ds p->
 (DataW.weightsEach C.prog fn.params.toList ds).all (·<=reachBytes)=true->laidMetH C.prog laid W->
 E_ C.prog f args W fun e W'=>e=.returned (.bool true)/\Ext W W'):
  ReturnsInHanded a C os f .any ((OpenSpec.ofChange s).preRow enc C.prog fn conds false laid) (((OpenSpec.ofChange s).at F).post enc C.prog fn false true false false):=by
 refine returnsInHanded_of_row (s:=OpenSpec.ofChange s) own started noInit hfn witness ?_;intro W base args ds gs before hval hW _ _ hsz hL _ _;have hv':(OpenSpec.ofChange s).vars=[]:=hv;have hW':=hW;have hlt:=hW.lt;obtain⟨p,q,hA,hV,rfl,hfz,hnd⟩:=hW;rw[hv']at hV;obtain⟨rfl,rfl⟩:=trodVars_none hV;have hsz':(DataW.weightsEach C.prog fn.params.toList ds).all (·<=reachBytes)=true:=by
  have:(OpenSpec.ofChange s).bare.plain.varTypes C.prog=[]:=by
   show DataSpec.varTypes _ _=[];simp[DataSpec.varTypes,OpenSpec.ofChange,OpenSpec.bare,ChangeSpec.plain,hv]
  simpa[this]using hsz
 have hlen:ds.length=fn.params.size:=by
  have:∀{ts:List TypeId} {vs:List C_} {ds:List (DataW H)} {ps:List MemPlace},DataW.TrodAll enc C.prog W 0 (fun _=>true) true ts vs ds ps->ds.length=ts.length:=by
   intro ts
   induction ts with
   |nil=>intro vs ds ps h;obtain⟨_,rfl,_⟩:=trodAll_nil h;rfl
   |cons t ts ih=>intro vs ds ps h;obtain⟨v,vs',d,ds',p,q,rfl,rfl,rfl,h1,h2⟩:=trodAll_cons h;simp[ih h2]
  simpa using this hA
 refine(contract W base args ds p hval hA hsz' hL).mono fun e W' ⟨he,bel⟩=>?_;subst he;have hfn':((OpenSpec.ofChange s).at F).fn H (ds++[])={results:=[.lit (.bool true)],args:=ds}:=by rw[Q_];exact hs ds hlen
 refine⟨_,rfl,ds,[],_,[],p,[],hW',?_,?_,?_,bel.frame _,fun h=>by cases h⟩
 ·have hr2:fn.resultTypes.size=1:=by rw[<-Array.length_toList,hr];rfl
  rw[hfn',hr,hr2];exact trodAll_mk1 (shut_bool hb _)
 ·rw[hfn']
  exact vP hl bel hps (fun x hx=>hlt x (by simpa using hx)) hA
 ·rw[hfn']
  have:((OpenSpec.ofChange s).at F).vars=[]:=hv;rw[this];exact rfl
theorem Pw:ownKnob Tryz.prog.godebug=none:=by kernel_rfl
theorem NX:laidOutB Tryz.prog=true:=by kernel_rfl
theorem Oj:Tryz.prog.cellsOf 24=3:=by kernel_rfl
theorem N1:Tryz.prog.bytesOf 45=2:=by kernel_rfl
structure yD(W:B_)(wd ht:Int)(b:Option Addr)(len cap:Nat)(xs:List Int):Prop where
 img:nm W b len xs
 bytes:len*2<=reachBytes
 wide:(Lit.int .i64 wd).wf=true
 high:(Lit.int .i64 ht).wf=true
 fit:∀n∈xs,(Lit.int .u16 n).wf=true
 room:len<=cap
theorem N0:reachBytes+8<=2^47:=by decide
theorem yD.sz{W:B_}{wd ht:Int}{b:Option Addr}{len cap:Nat}(h:yD W wd ht b len cap xs):len*2<=2^47:=by
 have:=h.bytes;have:=N0;omega
theorem yD.px{W:B_}{wd ht:Int}{b:Option Addr}{len cap:Nat}(h:yD W wd ht b len cap xs):vm xs:=fun n hn=>by
 have:=Pb (h.fit n hn);unfold vT;omega
theorem Kz{H:Type}{enc:TypeId×C_->H}{W:B_}{base:Nat}{d:DataW H}{p:List MemPlace}(hv:e_ Tryz.prog W .any base 24 v)(h:DataW.Trod enc Tryz.prog W 0 (fun _=>true) true 24 v d p)
 (hw:∀n∈d.weights Tryz.prog 24,n<=reachBytes):
  ∃(wd ht:Int) (b:Option Addr) (len cap:Nat) (xs:List Int),v=.agg #[aa wd,aa ht,.slice b len cap]/\yD W wd ht b len cap xs:=by
 obtain⟨c0,c1,c2,y0,y1,y2,m,rfl,rfl,rfl,hy0,hy1,hy2⟩:=open_agg3 Tryz.underlying24 (by kernel_rfl) Oj hv h
 obtain⟨x,e0,rfl,wx⟩:=DataW.trod_int Tryz.underlying3 hy0;obtain⟨y,e1,rfl,wy⟩:=DataW.trod_int Tryz.underlying3 hy1;simp only[M_,and_true]at e0 e1;subst e0;subst e1;obtain⟨b,len,cap,xs,rfl,h1,h2,h3,h4,h5⟩:=LO Tryz.underlying22 Tryz.underlying45 (by kernel_rfl) hy2
 have h6:=h5.weight Tryz.underlying22 fun n hn=>hw n (by simp[DataW.weights,Tryz.underlying24,DataW.weightsEach,hn])
 rw[N1]at h6;exact⟨x,y,b,len,cap,xs,rfl,⟨⟨h3,h1⟩,h6,wx,wy,h4,h2⟩⟩
def MX:List Int:=(I_ 20).map fun n=>(10:Int)^n
abbrev JS:List (String×DataW Unit):=Rows.allCoefsRow.laid
theorem OX{W:B_}(h:laidMetH Tryz.prog JS W):zU W:=by
 rw[Go.MakeChecks.laidMetH_plain _ _ _ (by kernel_rfl)]at h
 obtain⟨g,t,cs,fuel,p,h1,h2,h3,h4⟩:=Lib.laidMet.reads h (n:= "internal/strconv.uint64pow10") (d:=Lib.tabData .u64 MX) (List.mem_of_getElem? (i:=2) (by kernel_rfl))
 have e1:Tryz.prog.globalNamed "internal/strconv.uint64pow10" =some 1:=by kernel_rfl
 obtain rfl:g=1:=f_ (h1.symm.trans e1);have e2:(Tryz.prog.globals[1]?).map (·.type)=some 279:=by kernel_rfl
 obtain rfl:t=279:=f_ (h2.symm.trans e2);have e3:=Lib.cells_of_tab (k:=.u64) (zs:=MX) Tryz.underlying279 (by kernel_rfl) (by kernel_rfl) (by kernel_rfl) h4
 have ht:Lib.TabIs Tryz.prog W "internal/strconv.uint64pow10" .u64 MX:=by
  unfold Lib.TabIs;rw[h3,<-e3]
 exact ht.cell e1 2 (by decide)
noncomputable def ym(os:Os):B_:=B_.laidAll Tryz.prog os JS
theorem MG(os:Os)(args:Array C_):laidMet Tryz.prog JS ((ym os).forCall (fun _ _=>0) ⟨#[],args,[]⟩).memory:=
 laidMet_laidAll _ (by kernel_rfl) (by kernel_rfl)
theorem Kc{W:B_}{wd ht q sub:Int}{b:Option Addr}{len cap:Nat}(hT:zU W)(hf:yD W wd ht b len cap xs)(w1:(Lit.int .i64 q).wf=true)(w2:(Lit.int .i64 sub).wf=true)
 (hR:∀w',Ext W w'->R (.returned (.bool true)) w'):E_ P 3 #[.agg #[aa wd,aa ht,.slice b len cap],aa q,aa sub] W R:=
 Fs hf.img hf.room hf.px hf.sz hT hR
end Go.Proofs.YtoomejkiagonpaaGreatDoor
