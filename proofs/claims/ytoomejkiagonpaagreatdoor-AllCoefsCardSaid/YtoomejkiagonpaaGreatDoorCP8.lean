/- Coefs: coefficients that may be written are good ones. -/
import Derived.Test.YtoomejkiagonpaaGreatDoorCP4
import Derived.Test.YtoomejkiagonpaaGreatDoorCP6
import Derived.Test.YtoomejkiagonpaaGreatDoorCP7
set_option linter.unusedVariables false
set_option linter.unusedSimpArgs false
set_option maxRecDepth 100000
set_option maxHeartbeats 8000000
open Go.IntKind renaming i64->A_,u32->B_,u8->C_
open Go renaming World->D_,Value->E_,Addr->F_,IntKind->G_,Calls->H_
open Int renaming toNat_natCast->I_,natCast_mul->Y_,natCast_add->m_,natCast_ediv->K_A
open Nat renaming zero_add->J_,mul_one->L_,le_refl->T_,pow_le_pow_right->c_,lt_or_ge->e_,lt_of_lt_of_le->f_,le_trans->g_,le_mul_of_pos_right->k_,mul_le_mul->t_,div_eq_of_lt->v_,add_sub_cancel->w_,add_assoc->F_A,mul_assoc->H_A,mul_le_mul_right->U_A,eq_or_lt_of_le->V_A
open Go.Value renaming int->K_,slice->p_
open List renaming range->M_,length_append->N_,replicate->O_,getD_eq_getElem?_getD->P_,length_map->R_,getElem?_map->S_,getElem?_eq_getElem->U_,mem_cons_of_mem->W_,append_nil->Z_,getElem?_append_left->a_,map_append->b_,getElem_mem->d_,getElem?_range->h_,length_cons->i_,getElem?_cons_succ->j_,range_succ->l_,append_assoc->o_,getElem?_append_right->q_,getElem?_eq_none->r_,mem_of_mem_take->s_,take_of_length_le->u_,length_drop->x_,length_nil->y_,ext_getElem->z_,getElem_map->A_A,getElem_range->B_A,length_take->C_A,map_const'->D_A,map_congr_left->E_A,flatMap_append->G_A,getElem?_of_mem->L_A,getElem?_drop->M_A,mem_map_of_mem->N_A,getElem_set->O_A,count_le_length->P_A,map_take->Q_A,take_append_drop->R_A,map_map->S_A,mem_of_getElem?->T_A,prefix_refl->W_A,length_set->X_A,getElem?_replicate->Y_A
open List.cons renaming injEq->Q_
open Go.Value.int renaming injEq->V_
open Go.Obj renaming cells->X_
open Bool renaming and_eq_true->n_,and_eq_false_iff->I_A,eq_iff_iff->J_A
namespace Go.Proofs.YtoomejkiagonpaaGreatDoor
open Go Go.Vc Go.RowKit Go.Qn
variable {w u u' w0 : D_} {R : Ending -> D_ -> Prop} {n i b k m W H j s : Nat} {vs T fs zero : List E_} {p q : Option F_} {l L av B : List Nat} {A Z D : Nat -> Prop} {x : Int} {f : Nat -> Nat} {F : Option F_ -> Nat -> Nat -> D_ -> Prop}
theorem II{sub:Nat}(hsub:sub<=2)(hW:1<=W/\W<=4096)(hH:1<=H/\H<=4096):
  A_.wrap (A_.wrap (A_.wrap (((aJ W (nU sub):Nat):Int)*((hU sub i:Nat):Int))*((aJ H (nU sub):Nat):Int))*((hU sub i:Nat):Int))=((nB W H sub i:Nat):Int):=by
 have hnU:=cX hsub;have hh:=it (i:=i) hsub;have haW:=gW hW.1 hW.2 hnU;have haH:=gW hH.1 hH.2 hnU;have hww:aJ W (nU sub)*hU sub i<=1024:=g_ (t_ haW.1 (show hU sub i<=2 by omega)) (by omega)
 have hnb2:nB W H sub i=aJ W (nU sub)*hU sub i*aJ H (nU sub)*hU sub i:=by
  unfold nB;rw[H_A (aJ W (nU sub)*hU sub i)]
 have ew2:aJ W (nU sub)*hU sub i*aJ H (nU sub)<=1024*512:=t_ hww haH.1;have hnbl:nB W H sub i<=1024*512*2:=by rw[hnb2];exact t_ ew2 (by omega)
 rw[<-Y_,wN,<-Y_,wN,<-Y_,<-hnb2,wN]
theorem Jc(W H sub:Nat)(q:Nat->List Int)(b:Nat->Nat->List Int):(iB W H sub q b).length<=3:=by
 rw[iJ];have:=dM (sub:=sub);omega
theorem J4{a:F_}{c:CM}{qp bp:Option F_}{qc bc:Nat}(hC:vL w a c qp qc bp bc vs)(hn:c.bl.length<=65536)
 (hb:∀l,l∈c.bl->(-1024<=l.getD 0 0/\l.getD 0 0<=1023)/\∀j,1<=j-> -1023<=l.getD j 0/\l.getD j 0<=1023)
 (hR:R (.returned (.bool false)) w):H_ P 85 #[.slice bp c.bl.length bc,.func (.func 86) #[] #[]] w R:=by
 refine lY _ _ _ _ _ _ ?_;refine nR _ _ _ _ _ _ ?_;refine⟨fun vs u=>∃i:Nat,vs=[aa (i:Nat)]/\i<=c.bl.length/\u=w,fun vs _=>match vs with|[.int _ i]=>(c.bl.length-i:Int).toNat|_=>0,⟨0,rfl,by omega,rfl⟩,fun n1 w1 hI=>?_⟩
 obtain⟨i,hv,hi,rfl⟩:=hI;obtain rfl:n1=(i:Nat):=by simpa using hv
 refine ak (fun hlt=>?_) fun hge=>⟨_,rfl,hR⟩;have hlt:i<c.bl.length:=by have:=of_decide_eq_true hlt;omega
 refine hC.blk (U_ hlt) fun b p cp h1 h2 h3 h4=>⟨_,_,_,h1,?_⟩;have hg:=hb _ (d_ hlt);refine mI (by kernel_rfl) (rO _ _ _ _ _ (DU h4 h3 h2 hg.1 hg.2 ⟨_,rfl,_,rfl,al rfl ?_⟩))
 rw[ai (x:=(i:Int)+1)];exact⟨⟨i+1,rfl,hlt,rfl⟩,by show((c.bl.length:Int)-((i:Int)+1)).toNat<((c.bl.length:Int)-i).toNat;omega⟩
theorem LG{c:Nat}{sub:Nat}{q:Nat->List Int}{b:Nat->Nat->List Int}(hJ:gD W H sub q b)(h:mi w p (iB W H sub q b))
 (hR:∀w',Ext w w'->R (.returned (.bool true)) w'):
  H_ P 31 #[.agg #[aa (W:Nat),aa (H:Nat),aa 0,.slice p (mU sub) c]] w R:=by
 obtain⟨d1,d2,d3,d4,d5⟩:=hJ.dims;have hsub:=hJ.hsub;have hmU:=dM (sub:=sub);have hl:=iJ W H sub q b;refine xM _ _ _ _ _ _ _ _ ?_;intro k1 hk1;refine⟨fun vs u=>vs=[]/\Ext w u,?_,fun w5 hI=>?_⟩
 ·refine al (by simp;omega) (ak (fun h1=>al ?_ fun w3 hL3=>⟨rfl,hL3.ext (by simp;omega)⟩) fun h1 w4 hL4=>⟨rfl,hL4.ext (by simp;omega)⟩)
  have:mU sub≠1:=fun e=>by rw[e]at h1;simp at h1
  rw[show mU sub=3 by omega];decide
 obtain⟨_,hE5⟩:=hI;refine⟨fun vs u=>∃i:Nat,vs=[aa (i:Nat)]/\i<=mU sub/\Ext w u,fun vs _=>match vs with|[.int _ i]=>(mU sub-i:Int).toNat|_=>0,⟨0,rfl,by omega,hE5⟩,fun n1 w6 hI=>?_⟩
 obtain⟨i,hv,hi,hE6⟩:=hI;obtain rfl:n1=(i:Nat):=by simpa using hv
 have hz6:=hE6.size;refine ak (fun hlt=>?_) fun hge=>?_
 ·have hlt:i<mU sub:=by have:=of_decide_eq_true hlt;omega
  refine h.elem (sI hlt) hl.symm fun a qp qc bp bc vs hC=>⟨_,_,_,_,_,_,_,_,(hC.ext hE6).h,(hC.ext hE6).v,(hC.ext hE6).q,(hC.ext hE6).b,?_⟩;intro k6 hk6;have hh:=it (i:=i) hsub;have e1:(jN W H sub q b i).h=(hU sub i:Nat):=rfl;have e2:(jN W H sub q b i).v=(hU sub i:Nat):=rfl;have e3:(jN W H sub q b i).q=q i:=rfl;rw[e1,e2];refine⟨fun vs u=>vs=[]/\Ext w u,?_,fun w11 hI=>?_⟩
  ·refine al (by simp;omega) (ak (fun h1=>al ?_ fun w9 hL9=>⟨rfl,hE6.step hL9.chg (by simp;omega)⟩) fun h1 w10 hL10=>⟨rfl,hE6.step hL10.chg (by simp;omega)⟩)
   have hm1:mU sub=1:=by have:((mU sub:Nat):Int)=1:=(by simpa using h1);omega
   have:hU sub i=1:=by
    have hs0:sub=0:=by
     unfold mU at hm1
     split at hm1<;>omega
    have hi0:i=0:=by omega
    rw[hs0,hi0];rfl
   rw[this];decide
  ·obtain⟨_,hE11⟩:=hI
   refine al (by decide) ?_
   have hC':=hC.ext hE11;have hql:=hJ.ql i;have hqs:=hC'.qs;rw[e3]at hqs;refine Bi hqs.sl hql.symm (by omega) (by omega) fun n hn=>⟨_,rfl,(Ext.refl _).keep _,?_⟩
   have hn1:=hJ.qr i n hn;refine al (decide_eq_false (by omega)) ?_
   refine Bg hqs.sl hql.symm (by omega) (by omega) fun m hm=>⟨_,rfl,(Ext.refl _).keep _,?_⟩
   have hm1:=hJ.qr i m hm;refine al (decide_eq_false (by omega)) ?_
   rw[ai (x:=(i:Int)+1)];exact⟨⟨i+1,rfl,hlt,hE11⟩,by show((mU sub:Int)-((i:Int)+1)).toNat<((mU sub:Int)-i).toNat;omega⟩
 have hsh:=pu (c:=c) (W:=W) (H:=H) (e:=0) (n:=nU sub) (h.ext hE6) (Jc W H sub q b) (GH hsub) (cX hsub) ⟨d1,d2⟩ ⟨d3,d4⟩ (R:=fun e2 w12=>
  e2=.returned (.agg #[aa (nU sub:Nat),aa (nU sub:Nat),aa (aJ W (nU sub):Nat),aa (aJ H (nU sub):Nat)])/\Ext w6 w12) fun w' hE'=>⟨rfl,hE'⟩
 rw[hl]at hsh;refine hsh.mono fun e2 w14 he2=>?_;obtain⟨rfl,hE14⟩:=he2;refine⟨_,_,_,_,rfl,hE14.keep _,?_⟩;intro k7 hk7;have hz14:=hE14.size;refine⟨fun vs u=>∃(i t:Nat),vs=[aa (t:Nat),aa (i:Nat)]/\i<=mU sub/\t<=2000*i/\Ext w u,fun vs _=>match vs with|[_,.int _ i]=>(mU sub-i:Int).toNat|_=>0,fun w15 hL15=>⟨0,0,rfl,by omega,by omega,(hE6.trans hE14).step hL15.chg (by simp;omega)⟩,fun n10 n11 w16 hI=>?_⟩
 obtain⟨i,t,hv,hi,ht,hE16⟩:=hI;simp only[Q_,V_,true_and,and_true]at hv;obtain⟨rfl,rfl⟩:=hv;have hz16:=hE16.size;refine ak (fun hlt=>?_) fun hge=>?_
 ·have hlt:i<mU sub:=by have:=of_decide_eq_true hlt;omega
  refine h.elem (sI hlt) hl.symm fun a qp qc bp bc vs hC=>⟨_,_,_,_,_,_,_,_,(hC.ext hE16).h,(hC.ext hE16).v,(hC.ext hE16).q,(hC.ext hE16).b,?_⟩;intro k12 hk12;have e1:(jN W H sub q b i).h=(hU sub i:Nat):=rfl;have e2:(jN W H sub q b i).v=(hU sub i:Nat):=rfl;rw[e1,e2,II hsub ⟨d1,d2⟩ ⟨d3,d4⟩];have hbl:(jN W H sub q b i).bl.length=nB W H sub i:=G0;have hnb:=hJ.nB i;refine al (by rw[hbl];simp) fun w18 hL18=>?_
  have hE18:Ext w w18:=hE16.step hL18.chg (by simp;omega)
  have hC':vL w18 a (jN W H sub q b i) qp qc bp bc vs:=hC.ext hE18;refine J4 hC' (by omega) (fun l hlm=>?_) ⟨_,rfl,(Ext.refl _).keep _,al rfl ?_⟩
  ·obtain⟨k,_,rfl⟩:=List.mem_map.1 hlm
   exact⟨hJ.b0 i k,fun j hj=>hJ.br i k j hj⟩
  ·rw[hbl,ai (x:=(t:Int)+((nB W H sub i:Nat):Int)),ai (x:=(i:Int)+1)]
   exact⟨⟨i+1,t+nB W H sub i,by simp,hlt,by omega,hE18⟩,by show((mU sub:Int)-((i:Int)+1)).toNat<((mU sub:Int)-i).toNat;omega⟩
 ·rw[decide_eq_true (show((t:Nat):Int)<=65536 by omega)]
  exact hR _ hE16
def eG:List Int:=Mj.map fun n=>((n:Nat):Int)
theorem io:eG.length=64:=by simp[eG,Mj]
theorem qi(h:n<64):eG.getD n 0=((bD n:Nat):Int):=by
 unfold eG Mj;rw[P_,S_,S_,h_ h];rfl
theorem LR(h:n<64):eG.take (n+1)=eG.take n++[((bD n:Nat):Int)]:=by
 have:=io;rw[i7 (by omega)]
 have e:=qi h;rw[P_,U_ (by omega)]at e
 rw[show eG[n]=((bD n:Nat):Int)from e]
theorem mR(hR:∀p c w',Fg [] w w' 1 p 64 c (ii eG)->R (.returned (.slice p 64 c)) w'):H_ P 32 #[] w R:=by
 refine As _ _ ⟨by omega,by omega,by omega,by omega,fun k1 w1 hn=>?_⟩
 have e1:=hn.1;have s1:=hn.size;have hO:=hn.own (N:=k1) (M:=k1+1) (vs:=[]) (len:=0) (cap:=64) (sz:=1) (by simp) (by simp) (by rw[eO];rfl) (by omega) (by rw[e1];exact T_ _) (by rw[hn.2,hn.1];simp)
 have hF0:Fg [] w w1 1 (some ⟨k1,0,none⟩) 0 64 (ii (eG.take 0)):=
  Fg.of_owB hn.ext (hO.owB (by omega)) (fun i hi=>by omega) (by simp) (by simp)
 refine⟨fun vs u=>∃(n:Nat) (p:Option F_) (c:Nat),vs=[.slice p n c,aa ((lu n).1:Nat),aa ((lu n).2:Nat),aa (n:Nat)]/\n<=64/\Fg [] w u 1 p n c (ii (eG.take n)),fun vs _=>match vs with|[_,_,_,.int _ n]=>(64-n:Int).toNat|_=>0,⟨0,_,_,rfl,by omega,hF0⟩,fun p1 k2 k3 n1 n2 n3 w2 hI=>?_⟩
 obtain⟨n,p,c,hv,hn',hF2⟩:=hI;simp only[Q_,V_,p_.injEq,true_and,and_true]at hv;obtain⟨⟨rfl,rfl,rfl⟩,rfl,rfl,rfl⟩:=hv;refine ak (fun hlt=>?_) fun hge=>?_
 rotate_left
 ·have hge:k2=64:=by have:=of_decide_eq_false hge;omega
  subst hge;rw[u_ (by rw[io];omega)]at hF2
  exact hR _ _ _ hF2
 have hlt:k2<64:=by have:=of_decide_eq_true hlt;omega
 obtain⟨z1,z2⟩:=LZ k2 hlt;intro k4 hk4 w3 hL3;have hval:A_.wrap (A_.wrap (8*(((lu k2).1:Nat):Int))+(((lu k2).2:Nat):Int))=((bD k2:Nat):Int):=by
  have:(bD k2:Nat)=8*(lu k2).1+(lu k2).2:=rfl;rw[ai (x:=8*(((lu k2).1:Nat):Int)),ai (by omega) (by omega)];omega
 rw[hval];refine hF2.app hL3 (fun b hb=>.inr (by have hb:b=k4:=(by simpa using hb);omega)) (fun b hb=>by simpa[am]using hb) rfl rfl (by omega) (by omega) fun p' c' w4 hF4=>?_
 have hF4:Fg [] w w4 1 p' (k2+1) c' (ii (eG.take (k2+1))):=by
  rw[LR hlt,rz];exact hF4.weak
 have hst:lu (k2+1)=JV (lu k2):=rfl;generalize hr:(lu k2).1=r at*;generalize hs:(lu k2).2=s at*;have hrs:lu k2=(r,s):=by rw[<-hr,<-hs]
 rw[hrs]at hst;unfold JV at hst;simp only at hst;have hrem:ad .rem .i64 (A_.wrap (((r:Nat):Int)+((s:Nat):Int))) 2=(((r+s)%2:Nat):Int):=by
  rw[<-m_,wN];have:(2:Int)=((2:Nat):Int):=rfl;rw[this,rN]
 rw[hrem];refine⟨fun vs u=>vs=[aa ((lu (k2+1)).1:Nat),aa ((lu (k2+1)).2:Nat)]/\u=w4,?_,fun n4 n5 w7 hI=>?_⟩
 ·refine⟨fun vs u=>vs=[.bool (decide ((r+s)%2=0/\s=7\/(r+s)%2=1/\r<7/\s=0))]/\u=w4,?_,fun c1 w5 hI=>?_⟩
  ·refine ak (fun h=>⟨?_,rfl⟩) fun h=>⟨?_,rfl⟩
   ·rw[h]
    simp only[n_,beq_iff_eq]at h;rw[decide_eq_true (.inl ⟨by omega,by omega⟩)]
   ·simp only[I_A,beq_eq_false_iff_ne]at h
    congr 2;rw[J_A];simp only[n_,beq_iff_eq,decide_eq_true_eq];omega
  obtain⟨hv,rfl⟩:=hI;obtain rfl:c1=_:=by simpa only[Q_,E_.bool.injEq,and_true]using hv
  refine ak (fun h=>?_) fun h=>?_
  ·have h:=of_decide_eq_true h
   rw[if_pos h]at hst;rw[hst,ai (x:=((r:Nat):Int)+1)];exact⟨rfl,rfl⟩
  have h:=of_decide_eq_false h;rw[if_neg h]at hst;refine⟨fun vs u=>vs=[.bool (decide ((r+s)%2=0/\r=0\/(r+s)%2=1/\r=7))]/\u=w5,?_,fun c1 w6 hI=>?_⟩
  ·refine ak (fun h=>⟨?_,rfl⟩) fun h=>⟨?_,rfl⟩
   ·rw[h]
    simp only[n_,beq_iff_eq]at h;rw[decide_eq_true (.inl ⟨by omega,by omega⟩)]
   ·simp only[I_A,beq_eq_false_iff_ne]at h
    congr 2;rw[J_A];simp only[n_,beq_iff_eq,decide_eq_true_eq];omega
  obtain⟨hv,rfl⟩:=hI;obtain rfl:c1=_:=by simpa only[Q_,E_.bool.injEq,and_true]using hv
  refine ak (fun h2=>?_) fun h2=>?_
  ·have h2:=of_decide_eq_true h2
   rw[if_pos h2]at hst;rw[hst,ai (x:=((s:Nat):Int)+1)];exact⟨rfl,rfl⟩
  have h2:=of_decide_eq_false h2;rw[if_neg h2]at hst;refine ak (fun h3=>?_) fun h3=>?_
  ·have h3:(r+s)%2=0:=by have:(((r+s)%2:Nat):Int)=0:=(by simpa using h3);omega
   rw[if_pos h3]at hst;rw[hst,ai (x:=((s:Nat):Int)+1),ai (x:=((r:Nat):Int)-1)];refine⟨?_,rfl⟩;show[aa ((r:Int)-1),aa ((s:Int)+1)]=[aa ((r-1:Nat):Int),aa ((s+1:Nat):Int)];rw[show((r-1:Nat):Int)=(r:Int)-1 by omega];rfl
  ·have h3:¬(r+s)%2=0:=fun h=>by rw[h]at h3;simp at h3
   rw[if_neg h3]at hst;rw[hst,ai (x:=((s:Nat):Int)-1),ai (x:=((r:Nat):Int)+1)];refine⟨?_,rfl⟩;show[aa ((r:Int)+1),aa ((s:Int)-1)]=[aa ((r+1:Nat):Int),aa ((s-1:Nat):Int)];rw[show((s-1:Nat):Int)=(s:Int)-1 by omega];rfl
 ·obtain⟨hv,rfl⟩:=hI
  simp only[Q_,V_,true_and,and_true]at hv;obtain⟨rfl,rfl⟩:=hv;rw[ai (x:=((k2:Nat):Int)+1)];exact⟨⟨k2+1,p',c',rfl,hlt,hF4⟩,by show((64:Int)-((k2:Int)+1)).toNat<((64:Int)-k2).toNat;omega⟩
theorem Ca{v:Int}(h0: -2047<=v)(h1:v<=2047)
 (hR:R (.returned (.tuple #[aa (aE v:Nat),aa (dt v:Nat)])) w):H_ P 130 #[aa v] w R:=by
 refine wv _ _ _ ?_;unfold pY;obtain⟨b1,b2⟩:=uK v;have hle:aE v<=11:=Do (by show v.natAbs<2048;omega)
 have hpos:∀n,n<aE v->2^n<=v.natAbs:=fun n hn=>by
  have h00:v≠0:=fun e=>by subst e;simp[aE,fV]at hn
  exact g_ (c_ (by omega) (by omega)) (b2 h00).1
 have hmax:max v (A_.wrap (0-v))=((v.natAbs:Nat):Int):=by rw[ai (by omega) (by omega)];omega
 rw[hmax];refine⟨fun vs u=>∃n:Nat,vs=[aa (n:Nat)]/\n<=aE v/\u=w,fun vs _=>match vs with|[.int _ n]=>(aE v-n:Int).toNat|_=>0,⟨0,rfl,by omega,rfl⟩,fun n1 w1 hI=>?_⟩
 obtain⟨n,hv,hn,rfl⟩:=hI;obtain rfl:n1=(n:Nat):=by simpa using hv
 have hsh:an .shr .i64 ((v.natAbs:Nat):Int) ((n:Nat):Int)=((v.natAbs/2^n:Nat):Int):=by
  rw[gm (by omega) (by omega) (by simp[G_.bits];omega),I_,K_A,Int.natCast_pow];rfl
 refine⟨by omega,?_⟩
 rw[hsh];refine ak (fun hp=>?_) fun hp=>?_
 ·have hp:0<v.natAbs/2^n:=by have:=of_decide_eq_true hp;omega
  have hlt:n<aE v:=by
   rcases e_ n (aE v)with g|g
   ·exact g
   ·have:v.natAbs<2^n:=f_ b1 (c_ (by omega) g)
    rw[v_ this]at hp;omega
  rw[ai (x:=((n:Nat):Int)+1)];exact⟨⟨n+1,rfl,hlt,rfl⟩,by show((aE v:Int)-((n:Int)+1)).toNat<((aE v:Int)-n).toNat;omega⟩
 ·have hp:¬0<v.natAbs/2^n:=by have:=of_decide_eq_false hp;omega
  have hge:n=aE v:=by
   rcases e_ n (aE v)with g|g
   ·exact(hp (Nat.div_pos (hpos n g) (Nat.pow_pos (by omega)))).elim
   ·omega
  subst hge;have hp2:(2:Nat)^aE v<=2048:=c_ (n:=2) (by omega) hle
  refine ak (fun hneg=>?_) fun hneg=>?_
  ·have hneg:v<0:=of_decide_eq_true hneg
   refine⟨by omega,?_⟩
   have hsl:an .shl .i64 1 ((aE v:Nat):Int)=((2^aE v:Nat):Int):=by
    unfold an;simp only[I_,Int.one_mul];rw[Nat.min_eq_left (by simp[G_.bits];omega),ai ?_ ?_]
    ·simp
    ·have:(0:Int)<=2^aE v:=Int.pow_nonneg (by omega)
     omega
    ·have:(2:Int)^aE v=((2^aE v:Nat):Int):=by simp
     omega
   rw[hsl];have hb:A_.wrap (v+A_.wrap (((2^aE v:Nat):Int)-1))=((dt v:Nat):Int):=by
    rw[ai (x:=((2^aE v:Nat):Int)-1),ai (by omega) (by omega)]
    unfold dt;rw[if_pos hneg];omega
   rw[hb];exact hR
  ·have hneg:¬v<0:=of_decide_eq_false hneg
   have hb:v=((dt v:Nat):Int):=by unfold dt;rw[if_neg hneg];omega
   have hR':=hR;rw[<-hb]at hR';exact hR'
structure DK(w0:D_)(q:Option F_)(Q:Nat×bb->Prop)(Snk:(Nat->Prop)->List (Nat×bb)->D_->Prop):Prop where
 put:∀(A:Nat->Prop) (l:List (Nat×bb)) (u:D_) (x:Nat×bb) (R:Ending->D_->Prop),gj x->Q x->l.length<=2^22->Snk A l u->
  (∀u',Chg (fun b=>¬A b) u u'->Snk A (l++[x]) u'->R (.returned (.tuple #[])) u')->H_ P 131 #[.pointer q,aa (x.1:Nat),aa (x.2.1:Nat),aa (x.2.2.1:Nat),aa (x.2.2.2:Nat)] u R
 stp:∀(A:Nat->Prop) (l:List (Nat×bb)) (u u':D_) (T:Nat->Prop),Snk A l u->Chg T u u'->(∀b,T b->b<u.heap.size->A b/\w0.heap.size<=b)->Snk (Nw A u u') l u'
 ext:∀(A:Nat->Prop) (l:List (Nat×bb)) (u:D_),Snk A l u->Ext w0 u
 lt:∀(A:Nat->Prop) (l:List (Nat×bb)) (u:D_),Snk A l u->∀b,A b->b<u.heap.size
theorem Pu(hn:n<16)(hm:m<16):A_.wrap (aR .or .i64 (an .shl .i64 ((n:Nat):Int) 4) ((m:Nat):Int))=((16*n+m:Nat):Int):=by
 have h:∀n,n<16->∀m,m<16->A_.wrap (aR .or .i64 (an .shl .i64 ((n:Nat):Int) 4) ((m:Nat):Int))=((16*n+m:Nat):Int):=by decide+kernel
 exact h n hn m hm
theorem M4{t:List Int}(hn:n<=15)(hx:x≠0):cJ (x::t) n=AQ n x::cJ t 0:=by
 rw[cJ,if_neg hx,v_ (by omega),Nat.mod_eq_of_lt (by omega)];rfl
theorem Od{t:List Int}(hn:16<=n)(hx:x≠0):cJ (x::t) n=(240,0,0)::cJ (x::t) (n-16):=by
 rw[cJ,cJ,if_neg hx,if_neg hx];obtain⟨m,rfl⟩:∃m,n=m+16:=⟨n-16,by omega⟩
 rw[show(m+16)/16=m/16+1 by omega,show(m+16)%16=m%16 by omega,w_,List.replicate_succ];rfl
theorem H7{Q:Nat×bb->Prop}{Snk:(Nat->Prop)->List (Nat×bb)->D_->Prop}(S:DK w0 q Q Snk){l0:List (Nat×bb)}(hS:Snk A l0 w)
 {zp:Option F_}{cp zc:Nat}{b:List Int}{ah:Int}(hb:aD d7 w0 p (ii b))(hbl:b.length=64)(hz:aD A w zp (ii eG))(hzc:64<=zc)
 (ha: -1024<=ah/\ah<=1023)(h0: -1024<=b.getD 0 0/\b.getD 0 0<=1023)(h1:∀j,1<=j-> -1023<=b.getD j 0/\b.getD j 0<=1023)
 (hQ:∀x,x∈(0,(fw ah (zz b)).1)::(fw ah (zz b)).2.map (fun y=>(1,y))->Q x)(hlen:l0.length+64<=2^22)
 (hR:∀w',Chg (fun b=>¬A b) w w'->Snk A (l0++(0,(fw ah (zz b)).1)::(fw ah (zz b)).2.map (fun y=>(1,y))) w'->R (.returned (.tuple #[])) w'):
  H_ P 88 #[.pointer q,.slice p 64 cp,aa ah,.slice zp 64 zc] w R:=by
 refine oy _ _ _ _ _ _ _ _ _ _ ?_;have hzl:=gq b;have hz0:(zz b).getD 0 0=b.getD 0 0:=by rw[gM (by omega)];rfl
 have hac:∀x,x∈(zz b).drop 1-> -1023<=x/\x<=1023:=fun x hx=>by
  obtain⟨j,hj⟩:=L_A hx;rw[M_A]at hj;have hlt:=(List.getElem?_eq_some_iff.1 hj).1;have:x=(zz b).getD (1+j) 0:=by rw[P_,hj];rfl
  rw[this,gM (by omega)]
  exact h1 _ (pE (by omega) (by omega))
 generalize hdc:(fw ah (zz b)).1=dc at*;have hdc':dc=(aE (b.getD 0 0-ah),dt (b.getD 0 0-ah),aE (b.getD 0 0-ah)):=by rw[<-hdc];unfold fw;rw[hz0]
 have hac2:(fw ah (zz b)).2=cJ ((zz b).drop 1) 0:=rfl;rw[hac2]at hQ hR;have hacl:=yQ ((zz b).drop 1) 0;rw[x_,hzl]at hacl;have hacok:=wJ ((zz b).drop 1) 0 hac;generalize htot:cJ ((zz b).drop 1) 0=tot at*;have hB:∀u,Ext w0 u->Sl u.heap.size u p (ii b):=fun u hE=>(po hE _ _ hb).sl;refine(hB w (S.ext _ _ _ hS)).get (v:=aa (b.getD 0 0)) (by omega) (by rw[aG,hbl]) (bz (by omega)) fun a ha1=>⟨_,ha1,?_⟩
 rw[ai (x:=b.getD 0 0-ah)];refine Ca (by omega) (by omega) ⟨_,_,rfl,?_⟩
 have hdcok:gj (0,dc):=by
  rw[hdc'];have:=Dn h0.1 h0.2 ha.1 ha.2;exact⟨.inl rfl,by show aE _<255;omega,uU _,this⟩
 have hput:=fun R'=>S.put A l0 w (0,dc) R' hdcok (hQ _ (by simp)) (by omega) hS
 rw[hdc']at hput;refine hput _ fun w2 hc2 hS2=>⟨rfl,?_⟩;rw[<-hdc']at hS2;have hzl':=io;refine⟨by omega,by omega,by omega,?_⟩
 have hZ:∀u,Chg (fun b=>¬A b) w u->Sl u.heap.size u (aX zp 1 zc 1) (ii (eG.drop 1)):=fun u hc=>
  (hz.chg hc fun b hb _ hn=>hn hb).sl.part (by rw[aG,hzl'];exact hzc) (by simp[ii,List.map_drop])
 show∃I1:List E_->D_->Prop,_;refine⟨fun vs u=>∃(n run:Nat) (dn:List bb),vs=[aa (run:Nat),aa (n:Nat)]/\n<=63/\run<=n/\dn++cJ ((zz b).drop (n+1)) run=tot/\Chg (fun b=>¬A b) w u/\Snk A (l0++[(0,dc)]++dn.map (fun y=>(1,y))) u,
  fun vs _=>match vs with|[_,.int _ n]=>(63-n:Int).toNat|_=>0,⟨0,0,[],rfl,by omega,by omega,by simpa using htot,hc2,by simpa using hS2⟩,fun n4 n5 w3 hI=>?_⟩
 obtain⟨n,run,dn,hv,hn,hrun,hdn,hc3,hS3⟩:=hI;simp only[Q_,V_,true_and,and_true]at hv;obtain⟨rfl,rfl⟩:=hv;have hdl:∀(d:List bb) (e:List bb),d++e=tot->d.length<=63:=fun d e he=>by
  have:d.length+e.length=tot.length:=by rw[<-N_,he]
  omega
 have hll:∀(d:List bb),d.length<=63->(l0++[(0,dc)]++d.map (fun y=>((1:Nat),y))).length<=2^22:=fun d hd=>by
  simp only[N_,R_,i_,y_];omega
 have hmem:∀(d:List bb) (y:bb) (e:List bb),d++y::e=tot->gj (1,y)/\Q (1,y):=fun d y e he=>by
  have hy:y∈tot:=by rw[<-he];simp
  exact⟨hacok y hy,hQ _ (W_ _ (N_A hy))⟩
 have hsn:∀(d:List bb) (y:bb),l0++[(0,dc)]++d.map (fun y=>((1:Nat),y))++[(1,y)]=l0++[(0,dc)]++(d++[y]).map (fun y=>(1,y)):=fun d y=>by simp
 refine ak (fun hlt=>?_) fun hge=>?_
 ·have hlt:n<63:=by have:=of_decide_eq_true hlt;omega
  have hdr:=N2 (l:=b) (k:=n+1) (by omega)
  rw[hdr]at hdn;have hzn:=o9 (n:=n+1) (by omega)
  have hzp:=pE (n:=n+1) (by omega) (by omega)
  have hxr:=h1 _ hzp;refine⟨fun vs u=>∃(r:Nat) (d:List bb),vs=[aa (r:Nat)]/\r<=n+1/\d++cJ ((zz b).drop (n+1+1)) r=tot/\Chg (fun b=>¬A b) w u/\Snk A (l0++[(0,dc)]++d.map (fun y=>(1,y))) u,?_,fun n12 w8 hI=>?_⟩
  ·refine(hZ w3 hc3).get (v:=aa (bD (n+1):Nat)) (by omega) (by rw[aG,x_,hzl'];rfl) ?_ fun a2 ha2=>⟨_,ha2,?_⟩
   ·rw[I_,bz (by rw[x_,hzl'];omega)]
    have e:(eG.drop 1).getD n 0=eG.getD (n+1) 0:=by
     rw[P_,M_A,P_,Nat.add_comm]
    rw[e,qi (by omega)]
   refine(hB w3 (S.ext _ _ _ hS3)).get (v:=aa (b.getD (bD (n+1)) 0)) (by omega) (by rw[aG,hbl]) (by rw[I_];exact bz (by omega)) fun a3 ha3=>⟨_,ha3,?_⟩
   generalize hx:b.getD (bD (n+1)) 0=x at*;refine ak (fun hx0=>?_) fun hx0=>?_
   ·have hx0:x=0:=by simpa using hx0
    rw[cJ,if_pos hx0]at hdn;rw[ai (x:=(run:Int)+1)];exact⟨run+1,dn,rfl,by omega,hdn,hc3,hS3⟩
   have hx0:x≠0:=by simpa using hx0
   have hsx:=DG hxr.1 hxr.2;refine⟨fun vs u=>∃(r:Nat) (d:List bb),vs=[aa (r:Nat)]/\r<=run/\d++cJ (x::(zz b).drop (n+1+1)) r=tot/\Chg (fun b=>¬A b) w u/\Snk A (l0++[(0,dc)]++d.map (fun y=>(1,y))) u,fun vs _=>match vs with|[.int _ n]=>n.toNat|_=>0,⟨run,dn,rfl,T_ _,hdn,hc3,hS3⟩,fun n8 w4 hI=>?_⟩
   obtain⟨r,d,hv,hr,hd,hc4,hS4⟩:=hI;obtain rfl:n8=(r:Nat):=by simpa using hv
   refine ak (fun hbig=>?_) fun hsm=>?_
   ·have hbig:16<=r:=by have:=of_decide_eq_true hbig;omega
    rw[Od hbig hx0]at hd;have hm:=hmem _ _ _ hd;refine S.put A _ w4 (1,(240,0,0)) _ hm.1 hm.2 (hll _ (hdl _ _ hd)) hS4 fun w5 hc5 hS5=>⟨rfl,?_⟩;rw[hsn]at hS5;rw[ai (x:=(r:Int)-16)];refine⟨⟨r-16,d++[(240,0,0)],by rw[show((r-16:Nat):Int)=(r:Int)-16 by omega],by omega,by rw[o_];exact hd,hc4.trans hc5 fun _ h _=>h,hS5⟩,by show((r:Int)-16).toNat<(r:Int).toNat;omega⟩
   ·have hsm:r<=15:=by have:=of_decide_eq_false hsm;omega
    rw[M4 hsm hx0]at hd;have hm:=hmem _ _ _ hd;refine(hB w4 (S.ext _ _ _ hS4)).get (v:=aa x) (by omega) (by rw[aG,hbl]) (by rw[I_,bz (by omega),hx]) fun a3 ha3=>⟨_,ha3,?_⟩
    refine Ca (by omega) (by omega) ⟨_,_,rfl,?_⟩
    rw[Pu (by omega) (by omega)]
    refine S.put A _ w4 (1,AQ r x) _ hm.1 hm.2 (hll _ (hdl _ _ hd)) hS4 fun w5 hc5 hS5=>⟨rfl,?_⟩;rw[hsn]at hS5;exact⟨0,d++[AQ r x],rfl,by omega,by rw[o_];exact hd,hc4.trans hc5 fun _ h _=>h,hS5⟩
  ·obtain⟨r,d,hv,hr,hd,hc8,hS8⟩:=hI
   obtain rfl:n12=(r:Nat):=by simpa using hv
   rw[ai (x:=(n:Int)+1)];exact⟨⟨n+1,r,d,rfl,hlt,hr,hd,hc8,hS8⟩,by show((63:Int)-((n:Int)+1)).toNat<((63:Int)-n).toNat;omega⟩
 ·have hge:n=63:=by have:=of_decide_eq_false hge;omega
  subst hge;have hd0:(zz b).drop (63+1)=[]:=List.drop_eq_nil_of_le (by omega)
  rw[hd0,cJ]at hdn;have hfin:∀d:List bb,l0++[(0,dc)]++d.map (fun y=>((1:Nat),y))=l0++(0,dc)::d.map (fun y=>(1,y)):=fun d=>by simp
  refine ak (fun hp=>?_) fun hp=>?_
  ·have hp:0<run:=by have:=of_decide_eq_true hp;omega
   rw[if_pos hp]at hdn;have hm:=hmem _ _ _ hdn;refine S.put A _ w3 (1,(0,0,0)) _ hm.1 hm.2 (hll _ (hdl _ _ hdn)) hS3 fun w9 hc9 hS9=>⟨rfl,?_⟩;rw[hsn,hdn,hfin]at hS9;exact hR _ (hc3.trans hc9 fun _ h _=>h) hS9
  ·have hp:¬0<run:=by have:=of_decide_eq_false hp;omega
   rw[if_neg hp,Z_]at hdn;rw[hdn,hfin]at hS3;exact hR _ hc3 hS3
def bN(l:List (Nat×bb)):List E_:=(M_ 512).map fun j=>aa (iU l (j/256) (j%256):Nat)
theorem gF(l:List (Nat×bb)):(bN l).length=512:=by simp[bN]
theorem Ha{l:List (Nat×bb)}{t:Nat}(ht:t<2)(hs:s<256):(bN l)[t*256+s]?=some (aa (iU l t s:Nat)):=by
 unfold bN;rw[S_,h_ (by omega)]
 show some (aa (iU l ((t*256+s)/256) ((t*256+s)%256):Nat))=_;rw[show(t*256+s)/256=t by omega,show(t*256+s)%256=s by omega]
theorem M6{l:List (Nat×bb)}{x:Nat×bb}(ht:x.1<2)(hs:x.2.1<256):(bN l).set (x.1*256+x.2.1) (aa ((iU l x.1 x.2.1:Nat)+1:Int))=bN (l++[x]):=by
 refine z_ (by simp[bN]) fun j h1 h2=>?_
 have hj:j<512:=by simpa[bN]using h2
 rw[O_A];simp only[bN,A_A,B_A,Lx];by_cases e:x.1*256+x.2.1=j
 ·subst e
  rw[if_pos rfl,show(x.1*256+x.2.1)/256=x.1 by omega,show(x.1*256+x.2.1)%256=x.2.1 by omega,if_pos ⟨rfl,rfl⟩]
  push_cast;rfl
 ·rw[if_neg e,if_neg (by omega),Nat.add_zero]
def OY(w0:D_)(kc:Nat)(A:Nat->Prop)(l:List (Nat×bb))(u:D_):Prop:=
 Ext w0 u/\(∀b,A b->b<u.heap.size)/\¬A kc/\w0.heap.size<=kc/\Cs u kc (bN l++[.slice none 0 0,.slice none 0 0,.slice none 0 0,.slice none 0 0,.pointer none])
theorem Pe(w0:D_)(kc:Nat):DK w0 (some ⟨kc,0,none⟩) (fun _=>True) (OY w0 kc):=by
 refine⟨fun A l u x R hx _ hl hS hR=>?_,fun A l u u' T hS hc hT=>?_,fun A l u hS=>hS.1,fun A l u hS=>hS.2.1⟩
 ·obtain⟨s1,s2,s3,s4,s5⟩:=hS
  have ht:x.1<2:=by have:=hx.tab;omega
  have hs:=hx.sym;refine jO _ _ _ _ _ _ _ ?_;have hcl:=gF l;have g516:(bN l++[p_ none 0 0,.slice none 0 0,.slice none 0 0,.slice none 0 0,.pointer none])[516]?=some (.pointer none):=by
   rw[q_ (by omega),hcl];rfl
  have gx:(bN l++[p_ none 0 0,.slice none 0 0,.slice none 0 0,.slice none 0 0,.pointer none])[x.1*256+x.2.1]?=some (aa (iU l x.1 x.2.1:Nat)):=by
   rw[a_ (by omega),Ha ht (by omega)]
  have hc:=IR l x.1 x.2.1;refine ap rfl ⟨_,s5.cell (i:=516) g516,aY rfl ?_⟩;have s5d:=s5.drew;refine ap rfl ⟨by omega,by omega,by omega,by omega,?_⟩
  simp only[I_,af,J_,L_];refine⟨_,s5d.cell gx,?_⟩;refine ap rfl ⟨by omega,by omega,by omega,by omega,?_⟩
  simp only[I_,af,J_,L_];refine⟨⟨_,s5d.cell gx⟩,s5d.frozen _,?_⟩;rw[ai (x:=((iU l x.1 x.2.1:Nat):Int)+1)];have g1:=s5d.set1 (off:=x.1*256+x.2.1) (v:=aa ((iU l x.1 x.2.1:Nat)+1:Int)) (by rw[N_];omega)
  rw[List.set_append_left _ _ (by omega),M6 ht (by omega)]at g1
  have g2:=Chg.setCells u.drew ⟨kc,x.1*256+x.2.1,none⟩ [aa ((iU l x.1 x.2.1:Nat)+1:Int)] 0;have g3:Chg (·=kc) u (ab u.drew ⟨kc,x.1*256+x.2.1,none⟩ [aa ((iU l x.1 x.2.1:Nat)+1:Int)] 0):=((Ext.refl u).drew.chg (S:=(·=kc))).trans g2 fun b hb _=>hb;refine hR _ (g3.mono fun b hb _ ha=>?_) ⟨s1.step g3 fun b hb=>?_,fun b hb=>f_ (s2 b hb) g3.size,s3,s4,g1⟩
  ·have hb:b=kc:=hb
   rw[hb]at ha;exact s3 ha
  ·have hb:b=kc:=hb
   omega
 ·obtain⟨s1,s2,s3,s4,s5⟩:=hS
  have hk:=s5.lt;have hz:=hc.size;refine⟨s1.step (hc.mono (T:=fun b=>T b/\b<u.heap.size) fun b hb hl=>⟨hb,hl⟩) fun b hb=>(hT b hb.1 hb.2).2,fun b hb=>?_,?_,s4,s5.chg hc fun ht=>s3 (hT kc ht hk).1⟩
  ·rcases hb with hb|hb
   ·have:=s2 b hb;omega
   ·exact hb.2
  ·rintro(hb|hb)
   ·exact s3 hb
   ·omega
def kG(L:List Nat):List Int:=(M_ 256).map fun s=>if L.getD s 0=0 then 0 else((bO L s:Nat):Int)
def dG(L:List Nat):List Int:=L.map fun n=>((n:Nat):Int)
def uu(l:List Int):List E_:=l.map (K_ .u32)
theorem wX(l:List Int):(uu l).length=l.length:=by simp[uu]
theorem Lu{l:List Int}(h:i<l.length):(uu l)[i]?=some (.int .u32 (l.getD i 0)):=by simp[uu,List.getD,h]
theorem vy(L:List Nat):(kG L).length=256:=by simp[kG]
theorem HC(hs:s<256)(h:L.getD s 0≠0):(kG L).getD s 0=((bO L s:Nat):Int):=by
 unfold kG;rw[P_,S_,h_ hs];show(if L.getD s 0=0 then 0 else((bO L s:Nat):Int))=_
 rw[if_neg h]
theorem pr(L:List Nat)(s:Nat):(dG L).getD s 0=((L.getD s 0:Nat):Int):=by
 unfold dG;rw[P_,S_,P_];cases L[s]?<;>rfl
structure tD(D:Nat->Prop)(u:D_)(L0 L1:List Nat)(l0 l1 c0 c1:Option F_):Prop where
 l0:aD D u l0 (ii (dG L0))
 l1:aD D u l1 (ii (dG L1))
 c0:aD D u c0 (uu (kG L0))
 c1:aD D u c1 (uu (kG L1))
structure OE(w0:D_)(kc wb:Nat)(L0 L1:List Nat)(D:Nat->Prop)(A:Nat->Prop)(l:List (Nat×bb))(u:D_):Prop where
 ext:Ext w0 u
 lt:∀b,A b->b<u.heap.size/\b≠kc/\b≠wb/\¬D b
 old:w0.heap.size<=wb
 ne:kc≠wb/\¬D wb
 dlt:∀b,D b->b<u.heap.size
 ok:∀x,x∈l->gj x
 obj:∃(C:List E_) (l0 l1 c0 c1:Option F_) (n0 n1 n2 n3:Nat),C.length=512/\
  Cs u kc (C++[.slice l0 256 n0,.slice l1 256 n1,.slice c0 256 n2,.slice c1 256 n3,.pointer (some ⟨wb,0,none⟩)])/\tD D u L0 L1 l0 l1 c0 c1
 wr:∃S:Nat->Prop,(∀b,S b->w0.heap.size<=b/\¬A b/\b≠kc/\¬D b)/\eP u (some ⟨wb,0,none⟩) wb S (cT true (bn L0 L1 l) ([],0)).1 (cT true (bn L0 L1 l) ([],0)).2 true
theorem yR:oo true [] 0:=⟨fun n h=>by simp at h,by simp,by simp,fun j _=>by simp[ce]⟩
theorem Oi(h:n<2^32):B_.wrap ((n:Nat):Int)=n:=dj (k:=.u32) rfl (by omega) (by simp[G_.bits];omega)
theorem tD.chg{T:Nat->Prop}{L0 L1:List Nat}{l0 l1 c0 c1:Option F_}(h:tD D u L0 L1 l0 l1 c0 c1)(hc:Chg T u u')(hd:∀b,D b->b<u.heap.size->¬T b):tD D u' L0 L1 l0 l1 c0 c1:=
 ⟨h.l0.chg hc hd,h.l1.chg hc hd,h.c0.chg hc hd,h.c1.chg hc hd⟩
theorem tD.get{L0 L1:List Nat}{l0 l1 c0 c1:Option F_}(h:tD D u L0 L1 l0 l1 c0 c1)(h0:bM L0)(h1:bM L1){t:Nat}(ht:t=0\/t=1)(hs:s<256)(hq:1<=(if t=0 then L0 else L1).getD s 0):
  (∀F:F_->Prop,(∀a,u.cell? a=some (.int .u32 (bO (if t=0 then L0 else L1) s:Nat))->F a)->aq (if t=0 then c0 else c1) 256 (s:Nat) 1 F)/\
  (∀F:F_->Prop,(∀a,u.cell? a=some (aa ((if t=0 then L0 else L1).getD s 0:Nat))->F a)->aq (if t=0 then l0 else l1) 256 (s:Nat) 1 F):=by
 have hl:∀L:List Nat,L.length=256->(dG L).length=256:=fun L h=>by unfold dG;rw[R_,h]
 rcases ht with rfl|rfl
 ·simp only[if_true]at hq⊢
  refine⟨fun F hF=>h.c0.sl.get (by omega) (by rw[wX,vy]) (by rw[I_,Lu (by rw[vy];exact hs),HC hs (by omega)]) hF,fun F hF=>h.l0.sl.get (by omega) (by rw[aG,hl _ h0.len]) (by rw[I_,bz (by rw[hl _ h0.len];exact hs),pr]) hF⟩
 ·simp only[Nat.one_ne_zero,if_false]at hq⊢
  refine⟨fun F hF=>h.c1.sl.get (by omega) (by rw[wX,vy]) (by rw[I_,Lu (by rw[vy];exact hs),HC hs (by omega)]) hF,fun F hF=>h.l1.sl.get (by omega) (by rw[aG,hl _ h1.len]) (by rw[I_,bz (by rw[hl _ h1.len];exact hs),pr]) hF⟩
theorem Pf{kc wb:Nat}{L0 L1:List Nat}(h0:bM L0)(h1:bM L1):DK w0 (some ⟨kc,0,none⟩) (fun x=>1<=(if x.1=0 then L0 else L1).getD x.2.1 0) (OE w0 kc wb L0 L1 D):=by
 refine⟨fun A l u x R hx hQ hl hS hR=>?_,fun A l u u' T hS hc hT=>?_,fun A l u hS=>hS.ext,fun A l u hS b hb=>(hS.lt b hb).1⟩
 ·obtain⟨s1,s2,s3,⟨s4,s5⟩,s8,s5',⟨C,pl0,pl1,pc0,pc1,n0,n1,n2,n3,c1,c2,c3⟩,S,s6,s7⟩:=hS
  have hs:=hx.sym;have hz:=hx.size;have hval:=hx.val;have ht:=hx.tab;have hTab:bM (if x.1=0 then L0 else L1):=by split;exact h0;exact h1
  refine jO _ _ _ _ _ _ _ ?_;have gk:∀k,k<5->(C++[p_ pl0 256 n0,.slice pl1 256 n1,.slice pc0 256 n2,.slice pc1 256 n3,.pointer (some ⟨wb,0,none⟩)])[512+k]?=[p_ pl0 256 n0,.slice pl1 256 n1,.slice pc0 256 n2,.slice pc1 256 n3,.pointer (some ⟨wb,0,none⟩)][k]?:=fun k _=>by
   rw[q_ (by omega),c1,Nat.add_sub_cancel_left]
  have c2d:=c2.drew;have s7d:=s7.ext (Ext.refl u).drew;have hwok:=(ny (up:=true) (bn L0 L1 l) ([],0) yR).1;have hbits:=mL (up:=true) (bn L0 L1 l) ([],0);have hbb:=rE h0 h1 l s5';have hentx:bn L0 L1 (l++[x])=bn L0 L1 l++[(bO (if x.1=0 then L0 else L1) x.2.1,(if x.1=0 then L0 else L1).getD x.2.1 0),(x.2.2.1,x.2.2.2)]:=by rw[mM,Nt];rfl
  have hpx:cT true (bn L0 L1 (l++[x])) ([],0)=cT true [(bO (if x.1=0 then L0 else L1) x.2.1,(if x.1=0 then L0 else L1).getD x.2.1 0),(x.2.2.1,x.2.2.2)] (cT true (bn L0 L1 l) ([],0)):=by rw[hentx,vK]
  generalize hpa:cT true (bn L0 L1 l) ([],0)=pa at*;have hfin:∀(S2:Nat->Prop) (w2:D_),Gr S S2 u.drew w2->Chg (fun k=>k=wb\/S k) u.drew w2->eP w2 (some ⟨wb,0,none⟩) wb S2 (cT true (bn L0 L1 (l++[x])) ([],0)).1 (cT true (bn L0 L1 (l++[x])) ([],0)).2 true->R (.returned (.tuple #[])) w2:=fun S2 w2 hg hc hw=>by
   have hcu:Chg (fun k=>k=wb\/S k) u w2:=(((Ext.refl u).drew.chg (S:=fun _=>False)).mono (fun _ h _=>h.elim)).trans hc fun b hb _=>hb;have zd:u.drew.heap.size=u.heap.size:=rfl;have zu:=hcu.size;have hA:∀b,A b->¬(b=wb\/S b):=fun b ha hb=>by
    rcases hb with hb|hb
    ·exact(s2 b ha).2.2.1 hb
    ·exact(s6 b hb).2.1 ha
   refine hR w2 (hcu.mono fun b hb _ ha=>hA b ha hb) ⟨s1.step hcu fun b hb=>?_,fun b hb=>⟨f_ (s2 b hb).1 zu,(s2 b hb).2⟩,s3,⟨s4,s5⟩,fun b hb=>f_ (s8 b hb) zu,fun y hy=>?_,⟨C,pl0,pl1,pc0,pc1,n0,n1,n2,n3,c1,c2.chg hcu ?_,c3.chg hcu ?_⟩,S2,fun b hb=>?_,hw⟩
   ·rcases hb with hb|hb
    ·omega
    ·exact(s6 b hb).1
   ·rcases List.mem_append.1 hy with hy|hy
    ·exact s5' y hy
    ·rw[List.mem_singleton.1 hy];exact hx
   ·rintro(hb|hb)
    ·exact s4 hb
    ·exact(s6 _ hb).2.2.1 rfl
   ·intro b hb _ hh
    rcases hh with hh|hh
    ·rw[hh]at hb;exact s5 hb
    ·exact(s6 b hh).2.2.2 hb
   ·rcases hg.2 b hb with hb|hb
    ·exact s6 b hb
    ·refine⟨by have:=s1.size;omega,fun ha=>?_,fun e=>?_,fun hd=>?_⟩
     ·have:=(s2 b ha).1;omega
     ·have:=c2.lt;omega
     ·have:=s8 b hd;omega
  have c3d:=c3.chg ((Ext.refl u).drew.chg (S:=fun _=>False)) fun _ _ _=>id;obtain⟨gc,gl⟩:=c3d.get h0 h1 ht (show x.2.1<256 by omega) hQ
  have hcf:=GS hTab (show x.2.1<256 by omega) hQ
  have hL16:=hTab.le x.2.1;have hcf2:2^(if x.1=0 then L0 else L1).getD x.2.1 0<=2^16:=c_ (by omega) hL16
  have hvf2:2^x.2.2.2<=2^11:=c_ (by omega) hz
  refine ap rfl ⟨_,c2.cell (i:=516) (gk 4 (by omega)),al rfl ?_⟩
  refine ap rfl ⟨_,c2d.cell (i:=516) (gk 4 (by omega)),?_⟩
  have hx2:x.1<2:=by omega
  refine ap rfl ⟨by omega,by omega,if x.1=0 then pc0 else pc1,256,if x.1=0 then n2 else n3,?_,?_⟩
  ·simp only[I_,af,J_,L_]
   rcases ht with e|e
   ·rw[e];exact c2d.cell (i:=514) (gk 2 (by omega))
   ·rw[e];exact c2d.cell (i:=515) (gk 3 (by omega))
  refine gc _ fun a6 ha6=>⟨_,ha6,?_⟩;refine ap rfl ⟨by omega,by omega,if x.1=0 then pl0 else pl1,256,if x.1=0 then n0 else n1,?_,?_⟩
  ·simp only[I_,af,J_,L_]
   rcases ht with e|e
   ·rw[e];exact c2d.cell (i:=512) (gk 0 (by omega))
   ·rw[e];exact c2d.cell (i:=513) (gk 1 (by omega))
  refine gl _ fun a8 ha8=>⟨_,ha8,?_⟩;generalize hcode:bO (if x.1=0 then L0 else L1) x.2.1=code at*
  generalize hlen:(if x.1=0 then L0 else L1).getD x.2.1 0=len at*
  refine AF s7d hwok (by rw[hbits];simp only;omega) (by omega) (by omega) (fun hb=>by omega) fun _ _ S1 w1 hg1 hc1 hw1=>⟨_,rfl,?_⟩
  rw[I_]at hw1;have hwok1:=mG (v:=(code:Nat)) (n:=len) hwok len;have c2w:=c2d.chg hc1 (by
   rintro(hb|hb)
   ·exact s4 hb
   ·exact(s6 _ hb).2.2.1 rfl)
  refine ap rfl ⟨_,c2w.cell (i:=516) (gk 4 (by omega)),?_⟩
  rw[Oi (show x.2.2.1<2^32 by omega)]
  refine AF hw1 hwok1 (by rw[hbits];simp only;omega) (by omega) (by omega) (fun hb=>by omega) fun _ _ S2 w2 hg2 hc2 hw2=>⟨_,rfl,?_⟩
  rw[I_]at hw2;refine hfin S2 w2 (hg1.trans hg2) (hc1.trans hc2 fun b hb hl=>?_) ?_
  ·rcases hb with hb|hb
   ·exact .inl hb
   ·rcases hg1.2 b hb with hb|hb
    ·exact .inr hb
    ·omega
  ·rw[hpx]
   exact hw2
 ·obtain⟨s1,s2,s3,⟨s4,s5⟩,s8,s5',⟨C,pl0,pl1,pc0,pc1,n0,n1,n2,n3,c1,c2,c3⟩,S,s6,s7⟩:=hS
  have hk:=c2.lt;have hz:=hc.size;obtain⟨base,cap,o1,o2⟩:=s7.obj;have hwlt:=s7.lt;have hSlt:=o2.bd;refine⟨s1.step (hc.mono (T:=fun b=>T b/\b<u.heap.size) fun b hb hl=>⟨hb,hl⟩) fun b hb=>(hT b hb.1 hb.2).2,fun b hb=>?_,s3,⟨s4,s5⟩,fun b hb=>f_ (s8 b hb) hz,s5',⟨C,pl0,pl1,pc0,pc1,n0,n1,n2,n3,c1,c2.chg hc fun ht=>(s2 _ (hT kc ht hk).1).2.1 rfl,c3.chg hc fun b hb hl ht=>(s2 _ (hT b ht hl).1).2.2.2 hb⟩,S,fun b hb=>⟨(s6 b hb).1,?_,(s6 b hb).2.2⟩,?_⟩
  ·rcases hb with hb|hb
   ·have:=s2 b hb;exact⟨by omega,this.2⟩
   ·refine⟨hb.2,by omega,by omega,fun hd=>?_⟩
    have:=s8 b hd;omega
  ·rintro(ha|ha)
   ·exact(s6 b hb).2.1 ha
   ·have:=hSlt b hb;omega
  ·exact⟨s7.ptr,⟨base,cap,o1.chg hc fun ht=>(s2 _ (hT wb ht hwlt).1).2.2.1 rfl,o2.chg (T:=fun b=>T b/\b<u.heap.size) (hc.mono fun b hb hl=>⟨hb,hl⟩) fun b hb ht=>(s6 b hb).2.1 (hT b ht.1 ht.2).1⟩,s7.ne⟩
theorem Ho{α β:Type}{f:α->β}{ka:α->Int}{kb:β->Int}{l:List α}(h:∀x,x∈l->kb (f x)=ka x):fT kb (l.map f)=(fT ka l).map f:=by
 have hp:=dy ka l;refine(wM (key:=kb) (l:=l.map f) (m:=(fT ka l).map f) (fun v=>?_) ?_).symm
 ·have hs:=EN ka l v
  have e:∀m:List α,(∀x,x∈m->x∈l)->(m.map f).filter (fun y=>kb y==v)=(m.filter (fun x=>ka x==v)).map f:=fun m hm=>by
   rw[List.filter_map];congr 1;refine List.filter_congr fun x hx=>?_;show(kb (f x)==v)=(ka x==v);rw[h x (hm x hx)]
  rw[e l fun _ h=>h,e (fT ka l) fun x hx=>hp.mem_iff.1 hx,hs]
 ·have ha:=uA ka l
  unfold mh at*;rw[List.pairwise_map];refine ha.imp_of_mem fun{a b} hma hmb hab=>?_;rw[h a (hp.mem_iff.1 hma),h b (hp.mem_iff.1 hmb)];exact hab
theorem Gv:∀{R:List bR} {t:Nat} {a b:bR},R[2*t]?=some a->R[2*t+1]?=some b->(di R)[t]?=some (a.1+b.1,a.2++b.2)
 |[],t,a,b,h,_=>by simp at h
 |[x],t,a,b,h,h2=>by
  rw[r_ (by simp)]at h2;cases h2
 |x::y::r,0,a,b,h,h2=>by
  obtain rfl:x=a:=by simpa using h
  obtain rfl:y=b:=by simpa using h2
  rw[di];rfl
 |x::y::r,t+1,a,b,h,h2=>by
  rw[show 2*(t+1)=2*t+1+1 by omega,j_,j_]at h
  rw[show 2*(t+1)+1=2*t+1+1+1 by omega,j_,j_]at h2
  rw[di,j_];exact Gv h h2
theorem Dj{cs:List Nat}{M:Nat}(hM:∀s,cs.getD s 0<=M):∀k,(bj (bu cs) k).length<=2*(eQ cs).length/\∀c,c∈bj (bu cs) k->0<=c.1/\c.1<=((M*2^k:Nat):Int)/\c.2.length<=2^k
 |0=>by
  refine⟨by show(bu cs).length<=_;rw[ux];omega,fun c hc=>?_⟩
  obtain⟨s,_,_,rfl⟩:=kO _ c ((dy gO (eQ cs)).mem_iff.1 hc);have:=hM s;simp only[Nat.pow_zero,L_,i_,y_];omega
 |k+1=>by
  obtain⟨i1,i2⟩:=Dj hM k;have hp:=dy gO (bu cs++di (bj (bu cs) k));have hpw:0<2^k:=Nat.pow_pos (by omega)
  refine⟨?_,fun c hc=>?_⟩
  ·have hl:=hp.length_eq
   rw[N_,nD,ux]at hl;show(fT gO (bu cs++di (bj (bu cs) k))).length<=_;omega
  ·have hc:=hp.mem_iff.1 hc
   have e:M*2^(k+1)=M*2^k+M*2^k:=by rw[Nat.pow_succ,<-H_A,Nat.mul_two]
   have e2:2^(k+1)=2^k+2^k:=by rw[Nat.pow_succ,Nat.mul_two]
   rw[e,e2];rcases List.mem_append.1 hc with hc|hc
   ·obtain⟨s,_,_,rfl⟩:=kO _ c ((dy gO (eQ cs)).mem_iff.1 hc)
    have:=hM s;have h2:M<=M*2^k:=k_ _ hpw;simp only[i_,y_];omega
   ·obtain⟨x,y,hx,hy,rfl⟩:=lC _ _ hc
    have h1:=i2 x hx;have h2:=i2 y hy;simp only[N_];omega
theorem Mt{R:List bR}{c:bR}(h:R[i]?=some c)(t:Nat):cnt t (R.take (i+1))=cnt t (R.take i)+c.2.count t:=by
 have hlt:=(List.getElem?_eq_some_iff.1 h).1;have hc:R[i]=c:=(List.getElem?_eq_some_iff.1 h).2;rw[i7 hlt,vf,hc];simp[cnt]
theorem La{m t:Nat}:∀{L:List bR},(∀c,c∈L->c.2.length<=m)->cnt t L<=L.length*m
 |[],_=>by simp[cnt]
 |c::L,h=>by
  have ih:=La (t:=t) (L:=L) fun x hx=>h x (W_ _ hx);have h1:=h c (by simp)
  have h2:c.2.count t<=c.2.length:=P_A;have e:cnt t (c::L)=c.2.count t+cnt t L:=by simp[cnt]
  rw[e,i_,Nat.add_mul];omega
theorem Nn(hs:s<m):(ii ((M_ m).map fun k=>((f k:Nat):Int))).set s (aa ((f s:Nat)+1:Int))=ii ((M_ m).map fun k=>((f k+if k=s then 1 else 0:Nat):Int)):=by
 refine z_ (by simp[ii]) fun j h1 h2=>?_
 rw[O_A];simp only[ii,A_A,B_A];by_cases e:s=j
 ·subst e;rw[if_pos rfl,if_pos rfl];push_cast;rfl
 ·rw[if_neg e,if_neg (fun h=>e h.symm)];simp
theorem KJ{x:Nat}(h:l[j]?=some x)(t:Nat):(l.take (j+1)).count t=(l.take j).count t+if t=x then 1 else 0:=by
 have hlt:=(List.getElem?_eq_some_iff.1 h).1;have hc:l[j]=x:=(List.getElem?_eq_some_iff.1 h).2;rw[i7 hlt,List.count_append,hc,List.count_cons,List.count_nil];by_cases e:t=x
 ·subst e;simp
 ·rw[if_neg e,if_neg (by simpa using fun h=>e h.symm)]
def Px(A:Nat->Prop)(w:D_)(x:Cn)(c:bR):Prop:=x.1=c.1/\x.2.2.1=c.2.length/\aD A w x.2.1 (ii (dG c.2))
def dF(A:Nat->Prop)(w:D_)(z:List (Cn×bR)):Prop:=∀p,p∈z->Px A w p.1 p.2
theorem dF.kp{B:Nat->Prop}{z:List (Cn×bR)}(h:dF A w z)(k:Kp A B w u):dF B u z:=fun p hp=>⟨(h p hp).1,(h p hp).2.1,k _ _ (h p hp).2.2⟩
def Bc(c:Cn):Int:=c.1
theorem dF.sort{z:List (Cn×bR)}(h:dF A w z):∃z',dF A w z'/\z'.map (·.1)=fT Bc (z.map (·.1))/\z'.map (·.2)=fT gO (z.map (·.2))/\z'.length=z.length:=by
 have hp:=dy (fun p:Cn×bR=>p.1.1) z;refine⟨fT (fun p:Cn×bR=>p.1.1) z,fun p hm=>h p (hp.mem_iff.1 hm),?_,?_,hp.length_eq⟩
 ·exact(Ho (f:=fun p:Cn×bR=>p.1) (ka:=fun p=>p.1.1) (kb:=Bc) fun x _=>rfl).symm
 ·exact(Ho (f:=fun p:Cn×bR=>p.2) (ka:=fun p=>p.1.1) (kb:=gO) fun x hx=>(h x hx).1.symm).symm
theorem dF.app{z y:List (Cn×bR)}(h:dF A w z)(k:dF A w y):dF A w (z++y):=fun p hp=>by
 rcases List.mem_append.1 hp with hp|hp
 ·exact h p hp
 ·exact k p hp
theorem Jl(b:Nat):K7 (.func (.func 159) #[] #[]) Bc b fun _=>True:=by
 refine⟨fun u x y R _ hR=>?_,fun _ _ _ _=>trivial⟩;refine mI (by kernel_rfl) (sk _ _ _ _ _ _ _ _ _ _ ?_)
 intro k1 hk1 k2 hk2 w1 hL;have hE:Ext u w1:=hL.ext (by simp;omega)
 refine tz _ _ _ _ ?_;refine mf _ _ _ ⟨_,rfl,?_⟩;refine mf _ _ _ ⟨_,rfl,?_⟩;refine al (by simp) (al (by simp) ?_)
 have key:Bc x=x.1/\Bc y=y.1:=⟨rfl,rfl⟩;refine ak (fun h=>⟨_,rfl,(Ext.refl _).keep _,hR _ _ hE ?_⟩) fun h=>ak (fun h2=>⟨_,rfl,(Ext.refl _).keep _,hR _ _ hE ?_⟩) fun h2=>⟨_,rfl,(Ext.refl _).keep _,hR _ _ hE ?_⟩
 ·have h:=of_decide_eq_true h
  rw[key.1,key.2];omega
 ·have h:=of_decide_eq_false h
  rw[key.1,key.2];omega
 ·have h:=of_decide_eq_false h
  rw[key.1,key.2];omega
def Cj(sa1:aj)(sl1 sc1:Nat)(x1:Int)(w:D_)(R:bV):Prop:=
 ae (decide ((sl1:Int)>4096)) (R (aM #[.slice none 0 0,aa 3]) w) (ae (decide (x1<1)||decide (x1>16)) (R (aM #[.slice none 0 0,aa 2]) w) (H_ P 157 #[.slice sa1 sl1 sc1,.func (Fn.func 158) #[] #[]] w fun e1 w1=>∃c1,(e1=.returned (.bool c1))/\ae (c1) (R (aM #[.slice none 0 0,aa 2]) w1) (∃I1:aw,∃m1:List E_->D_->Nat,(I1 [.slice none 0 0,aa 0] w1)/\∀p1 k1 k2 n1 w2,(I1 [.slice p1 k1 k2,aa n1] w2)->ae (decide (n1<(sl1:Int))) (∃I2:aw,(aq (sa1) (sl1) (n1) (1) fun a1=>∃n2,(w2.cell? a1=some (aa n2))/\ae (decide (n2>0)) (∀k3:Nat,∀w3,(aK w2 (X_ #[aa n1] 3) k3 w3)->∀k4,w3.heap.size<=k4->∀w4,Locl [k4] w3 w4->ay (w4) ([(45,k4,[aa n2,.slice (aH k3) 1 1])]) (p1) (k1) (k2) (1) (2) (32) (251) ([aa 0,.slice none 0 0]) ([aa n2,.slice (aH k3) 1 1]) fun p2 k5 k6 w5=>I2 [.slice p2 k5 k6] w5) (I2 [.slice p1 k1 k2] w2))/\∀p3 k7 k8 w6,(I2 [.slice p3 k7 k8] w6)->(I1 [.slice p3 k7 k8,aa (A_.wrap (n1+1))] w6)/\m1 [.slice p3 k7 k8,aa (A_.wrap (n1+1))] w6<m1 [.slice p1 k1 k2,aa n1] w2) ((0<=(sl1:Int))/\((sl1:Int)<=(sl1:Int))/\((sl1:Int)*8<=281474976710656)/\((sl1:Int)<4611686018427387904)/\∀k9 w7,(aK w2 (X_ (bg [aa 0] (sl1:Int).toNat) 3) k9 w7)->(0<=x1)/\ae (decide ((k1:Int)>an .shl .i64 1 x1)) (R (aM #[.slice none 0 0,aa 31]) w7) (ae ((k1:Int)==0) (R (aM #[.slice (aH k9) (sl1:Int).toNat (sl1:Int).toNat,aa 0]) w7) (ae ((k1:Int)==1) (aq (p1) (k1) (0) (2) fun a2=>∃p4 k10 k11,(w7.cell? (a2.add 1)=some (.slice p4 k10 k11))/\aq (p4) (k10) (0) (1) fun a3=>∃n3,(w7.cell? a3=some (aa n3))/\aq (aH k9) ((sl1:Int).toNat) (n3) (1) fun a4=>aI w7 a4 [aa 1] fun u1=>R (aM #[.slice (aH k9) (sl1:Int).toNat (sl1:Int).toNat,aa 0]) u1) (H_ P 161 #[.slice p1 k1 k2,.func (Fn.func 159) #[] #[]] w7 fun e2 w8=>(e2=.returned (.tuple #[]))/\∃(I3:aw) (m2:List E_->D_->Nat),(I3 [.slice p1 k1 k2,aa 0] w8)/\∀p5 k12 k13 n4 w9,(I3 [.slice p5 k12 k13,aa n4] w9)->ae (decide (n4<A_.wrap (x1-1))) (∃I4:aw,∃m3:List E_->D_->Nat,(I4 [.slice none 0 0,aa 0] w9)/\∀p6 k14 k15 n5 w10,(I4 [.slice p6 k14 k15,aa n5] w10)->ae (decide (A_.wrap (n5+1)<(k12:Int))) (aq (p5) (k12) (n5) (2) fun a5=>∃n6,(w10.drew.cell? a5=some (aa n6))/\aq (p5) (k12) (A_.wrap (n5+1)) (2) fun a6=>∃n7,(w10.drew.cell? a6=some (aa n7))/\aq (p5) (k12) (n5) (2) fun a7=>∃p7 k16 k17,(w10.drew.cell? (a7.add 1)=some (.slice p7 k16 k17))/\aq (p5) (k12) (A_.wrap (n5+1)) (2) fun a8=>∃p8 k18 k19,(w10.drew.cell? (a8.add 1)=some (.slice p8 k18 k19))/\∀k20 w11,(aK (w10.drew) (X_ #[.slice p7 k16 k17,.slice p8 k18 k19] 52) k20 w11)->H_ P 162 #[.slice (aH k20) 2 2] w11 fun e3 w12=>∃p9 k21 k22,(e3=.returned (.slice p9 k21 k22))/\(aU w11 w12)/\∀k23,w12.heap.size<=k23->∀w13,Locl [k23] w12 w13->ay (w13) ([(117,k23,[aa (A_.wrap (n6+n7)),.slice p9 k21 k22])]) (p6) (k14) (k15) (1) (2) (32) (251) ([aa 0,.slice none 0 0]) ([aa (A_.wrap (n6+n7)),.slice p9 k21 k22]) fun p10 k24 k25 w14=>(I4 [.slice p10 k24 k25,aa (A_.wrap (n5+2))] w14)/\m3 [.slice p10 k24 k25,aa (A_.wrap (n5+2))] w14<m3 [.slice p6 k14 k15,aa n5] w10) (∀k26:Nat,∀w15,(aK w10 (X_ #[.slice p1 k1 k2,.slice p6 k14 k15] 249) k26 w15)->H_ P 163 #[.slice (aH k26) 2 2] w15 fun e4 w16=>∃p11 k27 k28,(e4=.returned (.slice p11 k27 k28))/\H_ P 161 #[.slice p11 k27 k28,.func (Fn.func 159) #[] #[]] w16 fun e5 w17=>(e5=.returned (.tuple #[]))/\(I3 [.slice p11 k27 k28,aa (A_.wrap (n4+1))] w17)/\m2 [.slice p11 k27 k28,aa (A_.wrap (n4+1))] w17<m2 [.slice p5 k12 k13,aa n4] w9)) (cO (p5) (k13) (0) (A_.wrap (A_.wrap (2*(k1:Int))-2)) (2) fun p12 k29 k30=>∃(I5:aw) (m4:List E_->D_->Nat),(I5 [aa 0] w9)/\∀n8 w18,(I5 [aa n8] w18)->ae (decide (n8<(k29:Int))) (aq (p12) (k29) (n8) (2) fun a9=>∃(n9:Int) (p13:aj) (k31 k32:Nat),(w18.cell? a9=some (aa n9))/\(w18.cell? (a9.add 1)=some (.slice p13 k31 k32))/\∀k33,w18.heap.size<=k33->∃(I6:aw) (m5:List E_->D_->Nat),(∀w19,Locl [k33] w18 w19->I6 [aa 0] w19)/\∀n10 w20,(I6 [aa n10] w20)->ae (decide (n10<(k31:Int))) (aq (p13) (k31) (n10) (1) fun a10=>∃n11,(w20.cell? a10=some (aa n11))/\aq (aH k9) ((sl1:Int).toNat) (n11) (1) fun a11=>∃n12,(w20.cell? a11=some (aa n12))/\aq (aH k9) ((sl1:Int).toNat) (n11) (1) fun a12=>aI w20 a12 [aa (A_.wrap (n12+1))] fun u2=>(¬a12.block∈[k33])/\(I6 [aa (A_.wrap (n10+1))] u2)/\m5 [aa (A_.wrap (n10+1))] u2<m5 [aa n10] w20) ((I5 [aa (A_.wrap (n8+1))] w20)/\m4 [aa (A_.wrap (n8+1))] w20<m4 [aa n8] w18)) (R (aM #[.slice (aH k9) (sl1:Int).toNat (sl1:Int).toNat,aa 0]) w18)))))))))
theorem yr(sa1:aj)(sl1 sc1:Nat)(x1:Int)(w:D_)(R:bV)(h:Cj sa1 sl1 sc1 x1 w R):H_ P 132 #[.slice sa1 sl1 sc1,aa x1] w R:=
  aF (ac:=BU) Tryz.func132 h
theorem dF.elem{z:List (Cn×bR)}{F:F_->Prop}(hs:aD A u p (d9 (z.map (·.1))))(hi:i<z.length)(hn:n=z.length)
 (hF:∀a,u.cell? a=some (aa (z[i]'hi).1.1)->u.cell? (a.add 1)=some (.slice (z[i]'hi).1.2.1 (z[i]'hi).1.2.2.1 (z[i]'hi).1.2.2.2)->F a):aq p n (i:Nat) 2 F:=by
 refine hs.sl.elem (f:=cn) (sz:=2) (fun _=>rfl) (by omega) (by omega) (by rw[R_,hn]) (a:=(z[i]'hi).1) (by rw[I_,S_,U_ hi];rfl) fun a ha=>?_
 have h0:=ha 0 _ rfl;rw[eg]at h0;exact hF a h0 (ha 1 _ rfl)
theorem dF.mono{B:Nat->Prop}{z:List (Cn×bR)}(h:dF A w z)(hd:∀b,A b->b<w.heap.size->B b):dF B w z:=fun p hp=>⟨(h p hp).1,(h p hp).2.1,(h p hp).2.2.mono hd⟩
theorem dF.chg{T:Nat->Prop}{z:List (Cn×bR)}(h:dF A w z)(hc:Chg T w u)(hd:∀b,A b->b<w.heap.size->¬T b):dF A u z:=fun p hp=>⟨(h p hp).1,(h p hp).2.1,(h p hp).2.2.chg hc hd⟩
theorem dA.block{S:Nat->Prop}{base:Option F_}{len cap sz:Nat}(h:dA S w base len cap sz vs)(h0:0<len):∃b rest,S b/\base=some ⟨b,0,none⟩/\Cs w b (vs++rest):=by
 obtain⟨⟨o1,o2,o3⟩,_⟩:=h;rcases o3 with o3|⟨b,rest,o3,o4,o5,o6⟩
 ·omega
 ·exact⟨b,rest,o3,o4,o6⟩
theorem Gy{len cap:Nat}{cs:List Nat}(h:aD d7 w p (ii (dG cs)))(hl:len=cs.length)(hc:∀s,cs.getD s 0<=2^22)(hsz:len<=4096)
 (hR:R (.returned (.bool false)) w):H_ P 157 #[.slice p len cap,.func (.func 158) #[] #[]] w R:=by
 refine jY _ _ _ _ _ _ ?_;refine lD _ _ _ _ _ _ ?_;have hll:(dG cs).length=cs.length:=by simp[dG]
 refine⟨fun vs u=>∃i:Nat,vs=[aa (i:Nat)]/\i<=len/\u=w,fun vs _=>match vs with|[.int _ i]=>(len-i:Int).toNat|_=>0,⟨0,rfl,by omega,rfl⟩,fun n1 w1 hI=>?_⟩
 obtain⟨i,hv,hi,rfl⟩:=hI;obtain rfl:n1=(i:Nat):=by simpa using hv
 refine ak (fun hlt=>?_) fun hge=>⟨_,rfl,hR⟩;have hlt:i<len:=by have:=of_decide_eq_true hlt;omega
 refine h.sl.get (v:=aa (cs.getD i 0:Nat)) (by omega) (by rw[aG,hll,hl]) (by rw[I_,bz (by omega),pr]) fun a ha=>⟨_,ha,?_⟩
 have:=hc i;refine mI (by kernel_rfl) (sj _ _ _ ⟨_,rfl,al (by rw[decide_eq_false (show¬((cs.getD i 0:Nat):Int)<0 by omega),decide_eq_false (show¬((cs.getD i 0:Nat):Int)>1073741824 by omega)];rfl) ?_⟩)
 rw[ai (x:=(i:Int)+1)];exact⟨⟨i+1,rfl,hlt,rfl⟩,by show((len:Int)-((i:Int)+1)).toNat<((len:Int)-i).toNat;omega⟩
theorem JG{len cap:Nat}{cs:List Nat}(h:aD d7 w p (ii (dG cs)))(hl:len=cs.length)(hc:∀s,cs.getD s 0<=2^22)(hsz:len<=300)(h2:2<=(eQ cs).length)
 (hR:∀b c w',Fg [] w w' 1 b len c (ii (dG (b8 cs 16)))->R (.returned (.tuple #[.slice b len c,aa 0])) w'):H_ P 132 #[.slice p len cap,aa 16] w R:=by
 have hll:(dG cs).length=cs.length:=by simp[dG]
 have hown:(eQ cs).length<=cs.length:=uW cs cs.length;have hbd:=fun k=>Dj (cs:=cs) hc k;refine yr _ _ _ _ _ _ ?_;refine al (decide_eq_false (by omega)) (al rfl ?_)
 refine Gy h hl hc (by omega) ⟨_,rfl,al rfl ?_⟩
 refine⟨fun vs u=>∃(i n:Nat) (b:Option F_) (c:Nat) (A:Nat->Prop) (z:List (Cn×bR)),vs=[.slice b n c,aa (i:Nat)]/\i<=len/\n=z.length/\z.map (·.2)=gC cs i/\gE 2 A [] w u b n c (d9 (z.map (·.1)))/\dF (Da A []) u z,
  fun vs _=>match vs with|[_,.int _ i]=>(len-i:Int).toNat|_=>0,⟨0,0,none,0,_,[],rfl,by omega,rfl,rfl,gE.nil (A:=fun b=>b<w.heap.size) (Ext.refl w) (fun _ h=>h) (by simp),fun p hp=>by cases hp⟩,fun p1 k1 k2 n1 w2 hI=>?_⟩
 obtain⟨i,n,b,c,A,z,hv,hi,hn,hz,hG,hZ⟩:=hI;simp only[Q_,V_,p_.injEq,true_and,and_true]at hv;obtain⟨⟨rfl,rfl,rfl⟩,rfl⟩:=hv;have hE2:=hG.ext;have hzl:z.length=(gC cs i).length:=by rw[<-hz,R_]
 have hul:=uW cs i;refine ak (fun hlt=>?_) fun hge=>?_
 ·have hlt:i<len:=by have:=of_decide_eq_true hlt;omega
  refine⟨fun vs u=>∃(n:Nat) (b:Option F_) (c:Nat) (A:Nat->Prop) (z:List (Cn×bR)),vs=[.slice b n c]/\n=z.length/\z.map (·.2)=gC cs (i+1)/\gE 2 A [] w u b n c (d9 (z.map (·.1)))/\dF (Da A []) u z,?_,fun p3 k7 k8 w6 hI=>?_⟩
  ·refine((h.chg (hE2.chg (S:=fun _=>False)) fun _ _ _=>id).sl).get (v:=aa (cs.getD i 0:Nat)) (by omega) (by rw[aG,hll,hl]) (by rw[I_,bz (by omega),pr]) fun a ha=>⟨_,ha,?_⟩
   refine ak (fun hp=>?_) fun hp=>?_
   ·have hp:cs.getD i 0≠0:=by have:=of_decide_eq_true hp;omega
    intro k3 w3 hn3 k4 hk4 w4 hL4;obtain⟨g1,kp1⟩:=hG.step (T:=fun _=>False) hn3.ext.chg fun _ h=>h.elim;obtain⟨g2,kp2⟩:=g1.addX hL4 (by simp) hk4
    have e3:=hn3.1;have s3:=hn3.size;have hsy:aD (Da (Nw (Nw A w2 w3) w3 w4) [k4]) w4 (some ⟨k3,0,none⟩) (ii (dG [i])):=by
     have h0:aD (fun b=>b=k3) w3 (some ⟨k3,0,none⟩) (ii (dG [i])):=fun j v hj=>by
      refine⟨_,rfl,rfl,?_⟩;rw[af,J_];exact hn3.cs.cell hj
     exact(h0.chg hL4.chg fun b hb hl hm=>by
      have hm:b=k4:=by simpa using hm
      have hb:b=k3:=hb;omega).mono fun b hb _=>by
       have hb:b=k3:=hb;exact⟨.inl (.inr (by omega)),by simp;omega⟩
    have hZ4:=(hZ.kp kp1).kp kp2;have hk4A:Nw (Nw A w2 w3) w3 w4 k4:=(g2.xs k4 (by simp)).1
    generalize Nw (Nw A w2 w3) w3 w4=A4 at*;refine g2.app (fun b hb=>by have hb:b=k4:=(by simpa[am]using hb);rw[hb];exact hk4A) rfl rfl (by omega) (by omega) fun b' c' w5 g3 kp3 _ _=>?_
    refine⟨k1+1,b',c',A4,z++[(((((cs.getD i 0:Nat):Int),some (⟨k3,0,none⟩:F_),1,1):Cn),((((cs.getD i 0:Nat):Int),[i]):bR))],rfl,by rw[N_,hn];rfl,?_,?_,?_⟩
    ·rw[b_,hz]
     show _=if cs.getD i 0=0 then gC cs i else gC cs i++[(((cs.getD i 0:Nat):Int),[i])]
     rw[if_neg hp];rfl
    ·rw[b_,jy]
     exact g3.perm (by simp)
    ·refine dF.mono (A:=Da A4 [k4]) ?_ fun b hb _=>⟨hb.1,by simp⟩
     refine(hZ4.kp kp3).app fun q hq=>?_;rw[List.mem_singleton.1 hq];exact⟨rfl,rfl,kp3 _ _ hsy⟩
   ·have hp:cs.getD i 0=0:=by have:=of_decide_eq_false hp;omega
    refine⟨k1,p1,k2,A,z,rfl,hn,?_,hG,hZ⟩;show _=if cs.getD i 0=0 then gC cs i else _
    rw[if_pos hp];exact hz
  ·obtain⟨n,b,c,A,z,hv,hn,hz,hG,hZ⟩:=hI
   simp only[Q_,p_.injEq,true_and,and_true]at hv;obtain⟨rfl,rfl,rfl⟩:=hv;rw[ai (x:=(i:Int)+1)];exact⟨⟨i+1,k7,p3,k8,A,z,rfl,hlt,hn,hz,hG,hZ⟩,by show((len:Int)-((i:Int)+1)).toNat<((len:Int)-i).toNat;omega⟩
 have hge:i=len:=by have:=of_decide_eq_false hge;omega
 have hz:z.map (·.2)=eQ cs:=by rw[hz,hge,hl];rfl
 have hzl:z.length=(eQ cs).length:=by rw[<-hz,R_]
 refine⟨by omega,by omega,by omega,by omega,?_⟩
 intro k9 w7 hn7;have e7:=hn7.1;have s7:=hn7.size;refine⟨by omega,?_⟩
 have hsh:an .shl .i64 1 16=65536:=by decide
 rw[hsh];refine al (decide_eq_false (by omega)) (al ?_ (al ?_ ?_))
 ·rw[beq_eq_false_iff_ne];omega
 ·rw[beq_eq_false_iff_ne];omega
 obtain⟨G,o1,o2,o3⟩:=hG.own;obtain⟨b1,rest1,q1,rfl,q3⟩:=dA.block o3 (by omega)
 have hb1:=o3.bd b1 q1;have hb1w:=o1 b1 q1;have hcap1:=o3.own.2.1;have hC7:Cs w7 k9 (O_ len (aa 0)):=by
  have:=aK.zeros hn7;rwa[I_]at this
 have hZ7:dF (fun b=>b≠k9/\b≠b1) w7 z:=(hZ.chg (hn7.ext.chg (S:=fun _=>False)) fun _ _ _=>id).mono fun b hb _=>⟨fun e=>by have:=hG.lt b hb.1;omega,fun e=>o2 b hb.1 (by rw[e];exact q1)⟩
 have hxl:(z.map (·.1)).length=k1:=by rw[R_,hn]
 have hSo:Ex w7 b1 (z.map (·.1)):=⟨rest1,q3.ext hn7.ext⟩;have hsort:=EH (cap:=k2) hSo trivial (Jl b1) (by rw[hxl];omega) (R:=fun e w'=>e=.returned (.tuple #[])/\Ex w' b1 (fT Bc (z.map (·.1)))/\Chg (·=b1) w7 w') fun w' h1 h2=>⟨rfl,h1,h2⟩
 rw[hxl]at hsort;refine hsort.mono fun e w8 he=>?_;obtain⟨rfl,hSo8,hc8⟩:=he;refine⟨rfl,?_⟩;obtain⟨z0,hZ8,hz01,hz02,hz0l⟩:=(hZ7.chg hc8 fun b hb _ e=>hb.2 e).sort;rw[hz]at hz02;have hz02:z0.map (·.2)=bu cs:=hz02;have hE8:Ext w w8:=(hE2.trans hn7.ext).step hc8 fun b hb=>by have hb:b=b1:=hb;omega
 have hC8:=hC7.chg hc8 (show k9≠b1 by omega)
 have hk9w:w.heap.size<=k9:=by have:=hE2.size;omega
 have hs8:aD (fun b=>b≠k9) w8 (some ⟨b1,0,none⟩) (d9 (z0.map (·.1))):=fun j v hj=>by
  obtain⟨r,hr⟩:=hSo8;rw[<-hz01]at hr;refine⟨_,rfl,by show b1≠k9;omega,?_⟩
  rw[af,J_];refine hr.cell ?_;rw[a_ (List.getElem?_eq_some_iff.1 hj).1];exact hj
 have hZ8:dF (fun b=>b≠k9) w8 z0:=hZ8.mono fun b hb _=>hb.1;have hk98:k9<w8.heap.size:=hC8.lt;have hz0k:z0.length=k1:=by omega
 refine⟨fun vs u=>∃(j n:Nat) (b:Option F_) (c:Nat) (y:List (Cn×bR)),vs=[.slice b n c,aa (j:Nat)]/\j<=15/\n=y.length/\n<=c/\y.map (·.2)=bj (bu cs) j/\Ext w8 u/\dF (fun b=>b≠k9) u y/\aD (fun b=>b≠k9) u b (d9 (y.map (·.1))),
  fun vs _=>match vs with|[_,.int _ j]=>(15-j:Int).toNat|_=>0,⟨0,k1,_,k2,z0,rfl,by omega,hz0k.symm,hcap1,hz02,Ext.refl _,hZ8,hs8⟩,fun p5 k12 k13 n4 w9 hI=>?_⟩
 obtain⟨j,n',b',c',y,hv,hj,hyn,hyc,hy,hE9,hZ9,hS9⟩:=hI;simp only[Q_,V_,p_.injEq,true_and,and_true]at hv;obtain⟨⟨rfl,rfl,rfl⟩,rfl⟩:=hv;obtain⟨bd1,bd2⟩:=hbd j;have hyl:y.length=(bj (bu cs) j).length:=by rw[<-hy,R_]
 have hpw:2^j<=2^15:=c_ (by omega) hj
 have hpw2:2^22*2^j<=2^22*2^15:=Nat.mul_le_mul_left _ hpw;have hymem:∀(t:Nat) (ht:t<y.length),0<=(y[t]'ht).1.1/\(y[t]'ht).1.1<=2^37/\(y[t]'ht).1.2.2.1=(y[t]'ht).2.2.length/\(y[t]'ht).2.2.length<=2^15/\(y[t]'ht).1.1=(y[t]'ht).2.1:=fun t ht=>by
  have hm:y[t]∈y:=d_ ht;obtain⟨r1,r2,r3⟩:=hZ9 _ hm;have hm2:(y[t]'ht).2∈bj (bu cs) j:=by rw[<-hy];exact N_A hm
  have:=bd2 _ hm2;refine⟨by omega,by omega,r2,by omega,r1⟩
 have e15:A_.wrap ((16:Int)-1)=15:=by decide
 rw[e15];refine ak (fun hlt=>?_) fun hge=>?_
 ·have hlt:j<15:=by have:=of_decide_eq_true hlt;omega
  refine⟨fun vs u=>∃(t n:Nat) (b:Option F_) (c:Nat) (A:Nat->Prop) (x:List (Cn×bR)),vs=[.slice b n c,aa ((2*t:Nat):Int)]/\n=t/\2*t<=k12/\x.length=t/\¬A k9/\x.map (·.2)=(di (bj (bu cs) j)).take t/\gE 2 A [] w9 u b n c (d9 (x.map (·.1)))/\dF (Da A []) u x,
   fun vs _=>match vs with|[_,.int _ i]=>(k12-i:Int).toNat|_=>0,⟨0,0,none,0,fun b=>b<w9.heap.size/\b≠k9,[],rfl,rfl,by omega,rfl,fun h=>h.2 rfl,rfl,gE.nil (Ext.refl w9) (fun _ h=>h.1) (by simp),fun p hp=>by cases hp⟩,fun p6 k14 k15 n5 w10 hI=>?_⟩
  obtain⟨t,n',b',c',A',x,hv,hnt,ht,hxl',hA',hx,hG10,hZ10⟩:=hI;simp only[Q_,V_,p_.injEq,true_and,and_true]at hv;obtain⟨⟨rfl,rfl,rfl⟩,rfl⟩:=hv;have hE10:=hG10.ext;have e1:A_.wrap (((2*t:Nat):Int)+1)=((2*t+1:Nat):Int):=by rw[ai (by omega) (by omega)];omega
  rw[e1];refine ak (fun hlt2=>?_) fun hge2=>?_
  ·have hlt2:2*t+1<k12:=by have:=of_decide_eq_true hlt2;omega
   have hS10:aD (fun b=>b≠k9) w10.drew p5 (d9 (y.map (·.1))):=(hS9.chg (hE10.chg (S:=fun _=>False)) fun _ _ _=>id).chg ((Ext.refl w10).drew.chg (S:=fun _=>False)) fun _ _ _=>id;have ht1:2*t<y.length:=by omega
   have ht2:2*t+1<y.length:=by omega
   obtain⟨a1,a2,a3,a4,a5⟩:=hymem (2*t) ht1;obtain⟨b1',b2,b3,b4,b5⟩:=hymem (2*t+1) ht2;refine dF.elem hS10 ht1 hyn fun a5' g1 _=>⟨_,g1,?_⟩;refine dF.elem hS10 ht2 hyn fun a6' g2 _=>⟨_,g2,?_⟩;refine dF.elem hS10 ht1 hyn fun a7' _ g3=>⟨_,_,_,g3,?_⟩;refine dF.elem hS10 ht2 hyn fun a8' _ g4=>⟨_,_,_,g4,?_⟩;intro k20 w11 hn11;have hE9d:Ext w9 w11:=(hE10.trans (Ext.refl w10).drew).trans hn11.ext;have hm1:y[2*t]'ht1∈y:=d_ _;have hm2:y[2*t+1]'ht2∈y:=d_ _;have hs1:=(hZ9 _ hm1).2.2.chg (hE9d.chg (S:=fun _=>False)) fun _ _ _=>id;have hs2:=(hZ9 _ hm2).2.2.chg (hE9d.chg (S:=fun _=>False)) fun _ _ _=>id;have hyt:(bj (bu cs) j)[2*t]?=some (y[2*t]'ht1).2:=by rw[<-hy,S_,U_ ht1];rfl
   have hyt1:(bj (bu cs) j)[2*t+1]?=some (y[2*t+1]'ht2).2:=by rw[<-hy,S_,U_ ht2];rfl
   have hpa:=Gv hyt hyt1;generalize hy1:y[2*t]'ht1=y1 at*;generalize hy2:y[2*t+1]'ht2=y2 at*;refine GW hn11.cs hs1 hs2 (by rw[a3];simp[dG]) (by rw[b3];simp[dG]) (by omega) fun p9 c9 w12 hF12=>⟨_,_,_,rfl,hF12.ext.keeps,?_⟩
   intro k23 hk23 w13 hL13;have hE12:Ext w10 w12:=((Ext.refl w10).drew.trans hn11.ext).trans hF12.ext;have z11:=hn11.ext.size;have zd:w10.drew.heap.size=w10.heap.size:=rfl;obtain⟨g1',kp1⟩:=hG10.step (T:=fun _=>False) hE12.chg fun _ h=>h.elim;obtain⟨g2',kp2⟩:=g1'.addX hL13 (by simp) hk23
   have hsy:aD (Da (Nw (Nw A' w10 w12) w12 w13) [k23]) w13 p9 (ii (dG (y1.2.2++y2.2.2))):=by
    have h0:=Fg.toS hF12;have e:dG (y1.2.2++y2.2.2)=dG y1.2.2++dG y2.2.2:=by simp[dG]
    rw[e];exact(h0.chg hL13.chg fun b hb hl hm=>by
     have hm:b=k23:=by simpa using hm
     omega).mono fun b hb _=>⟨.inl (.inr (by omega)),by simp;omega⟩
   have hZ13:=(hZ10.kp kp1).kp kp2;have hkA:Nw (Nw A' w10 w12) w12 w13 k23:=(g2'.xs k23 (by simp)).1
   have hA13:¬Nw (Nw A' w10 w12) w12 w13 k9:=by
    have q1:=hE9.size;have q2:=hE10.size;have q3:=hE12.size
    rintro((h|h)|h)
    ·exact hA' h
    ·omega
    ·omega
   generalize Nw (Nw A' w10 w12) w12 w13=A13 at*;rw[ai (x:=y1.1.1+y2.1.1)];refine g2'.app (fun b hb=>by have hb:b=k23:=(by simpa[am]using hb);rw[hb];exact hkA) rfl rfl (by omega) (by omega) fun b' c' w14 g3 kp3 _ _=>?_
   have e2:A_.wrap (((2*t:Nat):Int)+2)=((2*(t+1):Nat):Int):=by rw[ai (by omega) (by omega)];omega
   rw[e2];refine⟨⟨t+1,k14+1,b',c',A13,x++[((y1.1.1+y2.1.1,p9,y1.1.2.2.1+y2.1.2.2.1,c9),(y1.2.1+y2.2.1,y1.2.2++y2.2.2))],rfl,by omega,by omega,by simp[hxl'],hA13,?_,?_,?_⟩,by show((k12:Int)-((2*(t+1):Nat):Int)).toNat<((k12:Int)-((2*t:Nat):Int)).toNat;omega⟩
   ·have hlt3:=(List.getElem?_eq_some_iff.1 hpa).1
    rw[i7 hlt3,b_,hx];congr 1;rw[(List.getElem?_eq_some_iff.1 hpa).2];rfl
   ·rw[b_,jy]
    exact g3.perm (by simp)
   ·refine dF.mono (A:=Da A13 [k23]) ?_ fun b hb _=>⟨hb.1,by simp⟩
    refine(hZ13.kp kp3).app fun q hq=>?_;rw[List.mem_singleton.1 hq];refine⟨?_,?_,kp3 _ _ hsy⟩
    ·show y1.1.1+y2.1.1=y1.2.1+y2.2.1;omega
    ·show y1.1.2.2.1+y2.1.2.2.1=(y1.2.2++y2.2.2).length;rw[N_];omega
  ·have hge2:k12<=2*t+1:=by have:=of_decide_eq_false hge2;omega
   intro k26 w15 hn15;have hS0':aD (fun b=>b≠k9) w15 (some ⟨b1,0,none⟩) (d9 (z0.map (·.1))):=hs8.chg (((hE9.trans hE10).trans hn15.ext).chg (S:=fun _=>False)) fun _ _ _=>id;have hSx:aD d7 w15 p6 (d9 (x.map (·.1))):=(hG10.slS.chg (hn15.ext.chg (S:=fun _=>False)) fun _ _ _=>id).mono fun _ _ _=>trivial;have hpl:=nD (bj (bu cs) j);have htl:t=(bj (bu cs) j).length/2:=by omega
   have hxp:x.map (·.2)=di (bj (bu cs) j):=by rw[hx,u_ (by omega)]
   refine GK (A:=d7) hn15.cs (hS0'.mono fun _ _ _=>trivial) hSx (by rw[R_,hz0k]) (by rw[R_,hxl',hnt]) (by omega) fun p11 c11 w16 hF16=>⟨_,_,_,rfl,?_⟩
   obtain⟨G2,o1,o2,o3⟩:=hF16.own;obtain⟨b2,rest2,q1,rfl,q3⟩:=dA.block o3 (by omega)
   have hb2:=o1 b2 q1;have hcap2:=o3.own.2.1;rw[<-b_]at q3;have hSo2:Ex w16 b2 ((z0++x).map (·.1)):=⟨rest2,q3⟩;have hzx:((z0++x).map (·.1)).length=k1+k14:=by rw[R_,N_];omega
   have z15:=hn15.ext.size;have z10:=hE10.size;have z9:=hE9.size;have hE15:Ext w8 w15:=(hE9.trans hE10).trans hn15.ext;have hZall:dF (fun b=>b≠k9/\b<w15.heap.size) w15 (z0++x):=by
    refine dF.app ?_ ?_
    ·exact(hZ8.chg (hE15.chg (S:=fun _=>False)) fun _ _ _=>id).mono fun b hb hl=>⟨hb,hl⟩
    ·refine(hZ10.chg (hn15.ext.chg (S:=fun _=>False)) fun _ _ _=>id).mono fun b hb hl=>⟨fun e=>hA' (by rw[<-e];exact hb.1),hl⟩
   have hsort2:=EH (cap:=c11) hSo2 trivial (Jl b2) (by rw[hzx];omega) (R:=fun e w'=>e=.returned (.tuple #[])/\Ex w' b2 (fT Bc ((z0++x).map (·.1)))/\Chg (·=b2) w16 w') fun w' h1 h2=>⟨rfl,h1,h2⟩
   rw[hzx]at hsort2;refine hsort2.mono fun e w17 he=>?_;obtain⟨rfl,hSo17,hc17⟩:=he;refine⟨rfl,?_⟩;have hZ17:dF (fun b=>b≠k9/\b<w15.heap.size) w17 (z0++x):=(hZall.chg (hF16.ext.chg (S:=fun _=>False)) fun _ _ _=>id).chg hc17 fun b hb _ e=>by
    have e:b=b2:=e;omega
   obtain⟨y',hZy,hy1,hy2,hyl'⟩:=hZ17.sort;rw[b_,hz02,hxp]at hy2;rw[ai (x:=(j:Int)+1)];have hrow:fT gO (bu cs++di (bj (bu cs) j))=bj (bu cs) (j+1):=rfl;refine⟨⟨j+1,k1+k14,_,c11,y',rfl,by omega,by rw[hyl',N_];omega,hcap2,by rw[hy2,hrow],(hE15.trans hF16.ext).step hc17 fun b hb=>?_,hZy.mono fun b hb _=>hb.1,fun i v hv=>?_⟩,by show((15:Int)-((j:Int)+1)).toNat<((15:Int)-j).toNat;omega⟩
   ·have hb:b=b2:=hb
    omega
   ·obtain⟨r,hr⟩:=hSo17
    rw[<-hy1]at hr;refine⟨_,rfl,by show b2≠k9;omega,?_⟩
    rw[af,J_];refine hr.cell ?_;rw[a_ (List.getElem?_eq_some_iff.1 hv).1];exact hv
 have hge:j=15:=by have:=of_decide_eq_false hge;omega
 subst hge;have hrl:=DE (bu cs) 15;rw[ux]at hrl;have hd0:((eQ cs).length-1)/2^15=0:=v_ (by omega)
 rw[hd0]at hrl;have hk1c:k1=(eQ cs).length:=by omega
 have e2:A_.wrap (A_.wrap (2*((k1:Nat):Int))-2)=((2*k1-2:Nat):Int):=by rw[ai (x:=2*((k1:Nat):Int)),ai (by omega) (by omega)];omega
 rw[e2];refine⟨by omega,by omega,by omega,?_⟩
 simp only[I_,Nat.sub_zero,show(0:Int).toNat=0 from rfl,fP]
 have hS9':aD (fun b=>b≠k9) w9 p5 (d9 ((y.take (2*k1-2)).map (·.1))):=fun i v hv=>hS9 i v (by
  rw[Q_A]at hv;have e:d9 (y.map (·.1))=d9 ((y.map (·.1)).take (2*k1-2))++d9 ((y.map (·.1)).drop (2*k1-2)):=by rw[<-jy,R_A]
  rw[e,a_ (List.getElem?_eq_some_iff.1 hv).1];exact hv)
 have hyT:(y.take (2*k1-2)).map (·.2)=(bj (bu cs) 15).take (2*k1-2):=by rw[Q_A,hy]
 generalize hRow:(bj (bu cs) 15).take (2*k1-2)=RR at*;have hC9:=hC8.ext hE9;have hrowl:(y.take (2*k1-2)).length=2*k1-2:=by rw[C_A];omega
 have hZ9':dF (fun b=>b≠k9) w9 (y.take (2*k1-2)):=fun q hq=>hZ9 q (s_ hq);generalize hyy:y.take (2*k1-2)=yy at*;have hE89:Ext w w9:=hE8.trans hE9;have hRl:RR.length=yy.length:=by rw[<-hyT,R_]
 have hcl:∀(L:List bR) (s:Nat),True:=fun _ _=>trivial
 let out:(Nat->Nat)->List E_:=fun f=>ii ((M_ len).map fun k=>((f k:Nat):Int))
 have hC9':Cs w9 k9 (out fun _=>0):=by
  have e:out (fun _=>0)=O_ len (aa 0):=by
   show ii ((M_ len).map fun k=>((0:Nat):Int))=_;rw[D_A];simp[ii]
  rw[e];exact hC9
 refine⟨fun vs u=>∃i:Nat,vs=[aa (i:Nat)]/\i<=yy.length/\Chg (·=k9) w9 u/\Cs u k9 (out fun s=>cnt s (RR.take i)),fun vs _=>match vs with|[.int _ i]=>(yy.length-i:Int).toNat|_=>0,⟨0,rfl,by omega,Chg.refl _ _,by simpa[cnt]using hC9'⟩,fun n8 w18 hI=>?_⟩
 obtain⟨i,hv,hi,hc18,hC18⟩:=hI;obtain rfl:n8=(i:Nat):=by simpa using hv
 have hrb:=Dj (cs:=cs) hc 15;refine ak (fun hlt=>?_) fun hge=>?_
 rotate_left
 ·have hge:i=yy.length:=by have:=of_decide_eq_false hge;omega
  subst hge;rw[u_ (by omega)]at hC18
  have hE18:Ext w w18:=hE89.step hc18 fun b hb=>by have hb:b=k9:=hb;omega
  have hout:out (fun s=>cnt s RR)=ii (dG (b8 cs 16)):=by
   show ii ((M_ len).map fun k=>((cnt k RR:Nat):Int))=_;unfold b8;rw[if_neg (by omega),<-hRow,hk1c,hl]
   unfold dG;rw[S_A];rfl
  rw[hout]at hC18;have hbl:(ii (dG (b8 cs 16))).length=len:=by rw[aG];unfold dG;rw[R_,uF,hl]
  exact hR _ _ _ (Fg.of_owB (S:=(·=k9)) hE18 ⟨⟨by rw[hbl,L_],T_ _,.inr ⟨k9,[],rfl,rfl,by rw[hbl];simp,by rw[Z_];exact hC18⟩⟩,fun i hi=>by rw[hi];exact hC18.lt⟩ (fun i hi=>by rw[hi];exact hk9w) (by simp) (by simp))
 have hlt:i<yy.length:=by have:=of_decide_eq_true hlt;omega
 have hS18:=hS9'.chg hc18 fun b hb _ e=>hb e;have hZ18:=hZ9'.chg hc18 fun b hb _ e=>hb e;have hm:=d_ hlt;obtain⟨r1,r2,r3⟩:=hZ18 _ hm;have hRi:RR[i]?=some (yy[i]'hlt).2:=by rw[<-hyT,S_,U_ hlt];rfl
 have hmem2:(yy[i]'hlt).2∈bj (bu cs) 15:=by
  have h1:(yy[i]'hlt).2∈RR:=T_A hRi;rw[<-hRow]at h1;exact s_ h1
 have hsyl:=(hrb.2 _ hmem2).2.2;have hsym:=fun t ht=>(qd (cs:=cs) 15 _ hmem2 t ht).1;generalize hyi:yy[i]'hlt=yi at*;refine dF.elem hS18 hlt hrowl.symm fun a9 g1 g2=>?_;rw[hyi]at g1 g2;refine⟨_,_,_,_,g1,g2,?_⟩;intro k33 hk33;have hk9k:k9<w18.heap.size:=hC18.lt;have hlen2:(dG yi.2.2).length=yi.2.2.length:=by simp[dG]
 refine⟨fun vs u=>∃jj:Nat,vs=[aa (jj:Nat)]/\jj<=yi.1.2.2.1/\Chg (·=k9) w9 u/\k33<u.heap.size/\Cs u k9 (out fun s=>cnt s (RR.take i)+(yi.2.2.take jj).count s),fun vs _=>match vs with|[.int _ jj]=>(yi.1.2.2.1-jj:Int).toNat|_=>0,fun w19 hL19=>⟨0,rfl,by omega,hc18.trans hL19.chg fun b hb hl=>?_,hL19.there k33 (by simp),by simpa using hC18.locl hL19 (by simp;omega)⟩,fun n10 w20 hI=>?_⟩
 ·have hb:b=k33:=by simpa using hb
  have:=hc18.size;omega
 obtain⟨jj,hv,hjj,hc20,hk33',hC20⟩:=hI;obtain rfl:n10=(jj:Nat):=by simpa using hv
 refine ak (fun hlt2=>?_) fun hge2=>?_
 ·have hlt2:jj<yi.1.2.2.1:=by have:=of_decide_eq_true hlt2;omega
  have hr20:aD (fun b=>b≠k9) w20 yi.1.2.1 (ii (dG yi.2.2)):=((hZ9' yi (by rw[<-hyi];exact d_ hlt)).2.2).chg hc20 fun b hb _ e=>hb e
  have hjl:jj<yi.2.2.length:=by omega
  have hx:yi.2.2[jj]?=some (yi.2.2.getD jj 0):=by rw[P_,U_ hjl];rfl
  have hxs:=hsym (yi.2.2.getD jj 0) (T_A hx);refine hr20.sl.get (v:=aa (yi.2.2.getD jj 0:Nat)) (by omega) (by rw[aG,hlen2,r2]) (by rw[I_,bz (by omega),pr]) fun a10 ha10=>⟨_,ha10,?_⟩
  generalize hxx:yi.2.2.getD jj 0=x at*;have hb1:cnt x (RR.take i)+(yi.2.2.take jj).count x<=2^40:=by
   have h1:cnt x (RR.take i)<=(RR.take i).length*2^15:=La fun c hcm=>by
    have h1:=s_ hcm;rw[<-hRow]at h1;exact(hrb.2 _ (s_ h1)).2.2
   have h2:(yi.2.2.take jj).count x<=(yi.2.2.take jj).length:=P_A;have h3:(RR.take i).length<=600:=by rw[C_A];omega
   have h4:(RR.take i).length*2^15<=600*2^15:=U_A _ h3;rw[C_A]at h2;omega
  have hcell:(out fun s=>cnt s (RR.take i)+(yi.2.2.take jj).count s)[x]?=some (aa ((cnt x (RR.take i)+(yi.2.2.take jj).count x:Nat):Int)):=by
   show(ii ((M_ len).map fun k=>((cnt k (RR.take i)+(yi.2.2.take jj).count k:Nat):Int)))[x]?=_;unfold ii;rw[S_,S_,h_ (by omega)];rfl
  refine bo (by omega) (by omega) rfl ?_
  simp only[I_,af,J_,L_];refine⟨_,hC20.cell hcell,?_⟩;refine bo (by omega) (by omega) rfl ?_
  simp only[I_,af,J_,L_];refine⟨⟨_,hC20.cell hcell⟩,hC20.frozen _,by simp;omega,?_⟩
  rw[ai (x:=((cnt x (RR.take i)+(yi.2.2.take jj).count x:Nat):Int)+1),ai (x:=(jj:Int)+1)];have g1:=hC20.set1 (off:=x) (v:=aa (((cnt x (RR.take i)+(yi.2.2.take jj).count x:Nat):Int)+1)) (List.getElem?_eq_some_iff.1 hcell).1;have g2:=Chg.setCells w20 ⟨k9,x,none⟩ [aa (((cnt x (RR.take i)+(yi.2.2.take jj).count x:Nat):Int)+1)] 0;refine⟨⟨jj+1,rfl,hlt2,hc20.trans g2 fun b hb _=>hb,f_ hk33' g2.size,?_⟩,by show((yi.1.2.2.1:Int)-((jj:Int)+1)).toNat<((yi.1.2.2.1:Int)-jj).toNat;omega⟩
  have e:=Nn (m:=len) (s:=x) (f:=fun k=>cnt k (RR.take i)+(yi.2.2.take jj).count k) (by omega)
  have e3:(out fun s=>cnt s (RR.take i)+(yi.2.2.take (jj+1)).count s)=ii ((M_ len).map fun k=>((cnt k (RR.take i)+(yi.2.2.take jj).count k+if k=x then 1 else 0:Nat):Int)):=by
   show ii ((M_ len).map fun k=>((cnt k (RR.take i)+(yi.2.2.take (jj+1)).count k:Nat):Int))=_;congr 1;refine E_A fun k _=>?_;rw[KJ hx k,F_A]
  rw[e3,<-e];exact g1
 ·have hge2:jj=yi.2.2.length:=by have:=of_decide_eq_false hge2;omega
  subst hge2;rw[List.take_length]at hC20;rw[ai (x:=(i:Int)+1)];refine⟨⟨i+1,rfl,hlt,hc20,?_⟩,by show((yy.length:Int)-((i:Int)+1)).toNat<((yy.length:Int)-i).toNat;omega⟩
  have e:(out fun s=>cnt s (RR.take (i+1)))=out fun s=>cnt s (RR.take i)+yi.2.2.count s:=by
   show ii ((M_ len).map fun k=>((cnt k (RR.take (i+1)):Nat):Int))=ii ((M_ len).map fun k=>((cnt k (RR.take i)+yi.2.2.count k:Nat):Int));congr 1;refine E_A fun k _=>?_;rw[Mt hRi k]
  rw[e];exact hC20
def BZ(sa1:aj)(sl1 sc1:Nat)(w:D_)(R:bV):Prop:=
 H_ P 153 #[.slice sa1 sl1 sc1] w fun e1 w1=>∃n1,(e1=.returned (aa n1))/\ae (n1 !=0) (R (aM #[.slice none 0 0,aa n1]) w1) (∀k1:Nat,∀w2,(aK w1 (X_ Ph 256) k1 w2)->∃(I1:aw) (m1:List E_->D_->Nat),(I1 [aa 0] w2)/\∀n2 w3,(I1 [aa n2] w3)->ae (decide (n2<(sl1:Int))) (∃I2:aw,(aq (sa1) (sl1) (n2) (1) fun a1=>∃n3,(w3.cell? a1=some (aa n3))/\ae (decide (n3>0)) ((0<=n3)/\(n3<18)/\∃n4,(w3.cell? ({block:=k1,off:=0:F_}.add (n3.toNat*1))=some (.int .u32 n4))/\(0<=n3)/\(n3<18)/\aI w3 ({block:=k1,off:=0:F_}.add (n3.toNat*1)) [.int .u32 (B_.wrap (n4+1))] fun u1=>I2 [] u1) (I2 [] w3))/\∀w4,(I2 [] w4)->(I1 [aa (A_.wrap (n2+1))] w4)/\m1 [aa (A_.wrap (n2+1))] w4<m1 [aa n2] w3) (∀k2:Nat,∀w5,(aK w3 (X_ Ph 256) k2 w5)->∃(I3:aw) (m2:List E_->D_->Nat),(I3 [aa 1] w5)/\∀n5 w6,(I3 [aa n5] w6)->ae (decide (n5<=16)) ((0<=n5)/\(n5<18)/\∃n6,(w6.drew.cell? ({block:=k2,off:=0:F_}.add (n5.toNat*1))=some (.int .u32 n6))/\(0<=n5)/\(n5<18)/\∃n7,(w6.drew.cell? ({block:=k1,off:=0:F_}.add (n5.toNat*1))=some (.int .u32 n7))/\(0<=A_.wrap (n5+1))/\(A_.wrap (n5+1)<18)/\aI w6.drew ({block:=k2,off:=0:F_}.add ((A_.wrap (n5+1)).toNat*1)) [.int .u32 (an .shl .u32 (B_.wrap (n6+n7)) 1)] fun u2=>(I3 [aa (A_.wrap (n5+1))] u2)/\m2 [aa (A_.wrap (n5+1))] u2<m2 [aa n5] w6) ((0<=(sl1:Int))/\((sl1:Int)<=(sl1:Int))/\((sl1:Int)*4<=281474976710656)/\((sl1:Int)<4611686018427387904)/\∀k3 w7,(aK w6 (X_ (bg [.int .u32 0] (sl1:Int).toNat) 98) k3 w7)->∃(I4:aw) (m3:List E_->D_->Nat),(I4 [aa 0] w7)/\∀n8 w8,(I4 [aa n8] w8)->ae (decide (n8<(sl1:Int))) (∃I5:aw,(aq (sa1) (sl1) (n8) (1) fun a2=>∃n9,(w8.cell? a2=some (aa n9))/\ae (decide (n9>0)) ((0<=n9)/\(n9<18)/\∃n10,(w8.cell? ({block:=k2,off:=0:F_}.add (n9.toNat*1))=some (.int .u32 n10))/\aq (aH k3) ((sl1:Int).toNat) (n8) (1) fun a3=>aI w8 a3 [.int .u32 n10] fun u3=>(0<=n9)/\(n9<18)/\∃n11,(u3.cell? ({block:=k2,off:=0:F_}.add (n9.toNat*1))=some (.int .u32 n11))/\(0<=n9)/\(n9<18)/\aI u3 ({block:=k2,off:=0:F_}.add (n9.toNat*1)) [.int .u32 (B_.wrap (n11+1))] fun u4=>I5 [] u4) (I5 [] w8))/\∀w9,(I5 [] w9)->(I4 [aa (A_.wrap (n8+1))] w9)/\m3 [aa (A_.wrap (n8+1))] w9<m3 [aa n8] w8) (R (aM #[.slice (aH k3) (sl1:Int).toNat (sl1:Int).toNat,aa 0]) w8))))
theorem wZ(sa1:aj)(sl1 sc1:Nat)(w:D_)(R:bV)(h:BZ sa1 sl1 sc1 w R):H_ P 133 #[.slice sa1 sl1 sc1] w R:=
  aF (ac:=CX) Tryz.func133 h
theorem F1(l:List Nat):ii (dG l)=ni l:=by simp[ni,ii,dG]
theorem uJ{l:List Nat}(h:∀s,l.getD s 0<=16):∀i,gf l i=65536-((jU l i:Nat):Int)
 |0=>by simp[gf,jU]
 |i+1=>by
  have ih:=uJ h i;have e:jU l (i+1)=jU l i+if l.getD i 0=0 then 0 else 2^(16-l.getD i 0):=by
   simp[jU,l_]
  rw[gf,e,ih];by_cases h0:l.getD i 0=0
  ·rw[if_neg (by omega),if_pos h0];omega
  ·rw[if_pos (by omega),if_neg h0]
   have:((2^(16-l.getD i 0):Nat):Int)=(2:Int)^(16-l.getD i 0):=by simp
   omega
def iQ(L:List Nat)(i k:Nat):E_:=.int .u32 (if k=0 then 0 else((aW L k i).length:Nat))
def mn(L:List Nat)(n k:Nat):E_:=.int .u32 (if 1<=k/\k<=n then(dB L k:Nat)else 0)
def mB(L:List Nat)(i k:Nat):E_:=.int .u32 (if 1<=k then(dB L k+(aW L k i).length:Nat)else 0)
def jq(L:List Nat)(i s:Nat):E_:=.int .u32 (if s<i/\L.getD s 0≠0 then(bO L s:Nat)else 0)
theorem Kf(h0:0<=x)(h1:x<2^32):B_.wrap x=x:=dj (k:=.u32) rfl h0 (by simp[G_.bits];omega)
theorem xZ(L:List Nat):[K_ B_ 0,K_ B_ 0,K_ B_ 0,K_ B_ 0,K_ B_ 0,K_ B_ 0,K_ B_ 0,K_ B_ 0,K_ B_ 0,K_ B_ 0,K_ B_ 0,K_ B_ 0,K_ B_ 0,K_ B_ 0,K_ B_ 0,K_ B_ 0,K_ B_ 0,K_ B_ 0]=aB 18 (iQ L 0):=by
 have:aB 18 (iQ L 0)=aB 18 fun _=>K_ .u32 0:=cN fun k hk=>by
  unfold iQ;rw[ip];split<;>rfl
 rw[this];rfl
theorem Kk(L:List Nat):aB 18 (iQ L 0)=aB 18 (mn L 1):=cN fun k hk=>by
 unfold iQ mn;rw[ip];by_cases h:1<=k/\k<=1
 ·rw[if_pos h,show k=1 by omega];rfl
 ·rw[if_neg h];split<;>rfl
theorem JO{len cap:Nat}(h:aD d7 w p (ni L))(hl:L.length=len)(hsz:len<=4096)(hle:∀s,L.getD s 0<=16)(hu:jU L L.length<=65536)
 (hR:∀b c w',Fg [] w w' 1 b len c (uu ((M_ len).map fun s=>if L.getD s 0=0 then 0 else((bO L s:Nat):Int)))->R (.returned (.tuple #[.slice b len c,aa 0])) w'):H_ P 133 #[.slice p len cap] w R:=by
 have hLens:vr L:=⟨by omega,fun x hx=>by
  obtain⟨i,hi⟩:=L_A hx;have:=hle i;rw[P_,hi]at this;exact this⟩
 refine wZ _ _ _ _ _ ?_;refine xC h.sl hl hLens (by unfold ur;rw[uJ hle];omega) ⟨_,rfl,al rfl ?_⟩
 intro k1 w2 hn2;have e2:=hn2.1;have s2:=hn2.size;have hC2:Cs w2 k1 (aB 18 (iQ L 0)):=by rw[<-xZ];exact hn2.cs
 have hget:∀(u:D_) (i:Nat),aD d7 u p (ni L)->i<len->∀F:F_->Prop,(∀a,u.cell? a=some (aa (L.getD i 0:Nat))->F a)->aq p len (i:Nat) 1 F:=fun u i hs hi F hF=>
  hs.sl.get (by omega) (by rw[fF,hl]) (by rw[I_,qh (by omega)]) hF
 have hsul:∀k i,i<=len->(aW L k i).length<=4096:=fun k i hi=>g_ (jo L k i) (by omega)
 have hEk:∀u,Chg (·=k1) w2 u->aD d7 u p (ni L):=fun u hc=>by
  have hE:Ext w u:=hn2.ext.step hc fun b hb=>by have hb:b=k1:=hb;omega
  exact h.chg (hE.chg (S:=fun _=>False)) fun _ _ _=>id
 refine⟨fun vs u=>∃i:Nat,vs=[aa (i:Nat)]/\i<=len/\Chg (·=k1) w2 u/\Cs u k1 (aB 18 (iQ L i)),fun vs _=>match vs with|[.int _ i]=>(len-i:Int).toNat|_=>0,⟨0,rfl,by omega,Chg.refl _ _,hC2⟩,fun n2 w3 hI=>?_⟩
 obtain⟨i,hv,hi,hc3,hC3⟩:=hI;obtain rfl:n2=(i:Nat):=by simpa using hv
 refine ak (fun hlt=>?_) fun hge=>?_
 ·have hlt:i<len:=by have:=of_decide_eq_true hlt;omega
  have hLi:=hle i;refine⟨fun vs u=>Chg (·=k1) w2 u/\Cs u k1 (aB 18 (iQ L (i+1))),?_,fun w4 hI=>?_⟩
  ·refine hget w3 i (hEk w3 hc3) hlt _ fun a ha=>⟨_,ha,ak (fun hp=>?_) fun hp=>?_⟩
   ·have hp:1<=L.getD i 0:=by have:=of_decide_eq_true hp;omega
    generalize hn:L.getD i 0=n at*;have hg:(aB 18 (iQ L i))[n]?=some (.int .u32 ((aW L n i).length:Nat)):=by
     rw[bL (by omega)];unfold iQ;rw[if_neg (by omega)]
    have hsn:=hsul n i hi;simp only[I_,af,J_,L_];refine⟨by omega,by omega,_,hC3.cell hg,by omega,by omega,⟨_,hC3.cell hg⟩,hC3.frozen _,?_⟩
    rw[Kf (x:=(((aW L n i).length:Nat):Int)+1) (by omega) (by omega)]
    have g1:=hC3.set1 (off:=n) (v:=.int .u32 ((((aW L n i).length:Nat):Int)+1)) (by rw[bC];omega)
    rw[dx (H:=iQ L (i+1)) ?_ ?_]at g1
    ·exact⟨hc3.trans (Chg.setCells w3 ⟨k1,n,none⟩ _ 0) fun b hb _=>hb,g1⟩
    ·unfold iQ
     rw[if_neg (by omega),dN hn,N_];simp
    ·intro j hj hne
     unfold iQ;rw[cL (by omega)]
   ·have hp:L.getD i 0=0:=by have:=of_decide_eq_false hp;omega
    refine⟨hc3,?_⟩;have e:aB 18 (iQ L (i+1))=aB 18 (iQ L i):=cN fun k hk=>by
     unfold iQ;by_cases h0:k=0
     ·rw[if_pos h0,if_pos h0]
     ·rw[cL (by omega)]
    rw[e];exact hC3
  ·rw[ai (x:=(i:Int)+1)]
   exact⟨⟨i+1,rfl,hlt,hI⟩,by show((len:Int)-((i:Int)+1)).toNat<((len:Int)-i).toNat;omega⟩
 have hge:i=len:=by have:=of_decide_eq_false hge;omega
 subst hge;intro k2 w5 hn5;have e5:=hn5.1;have s5:=hn5.size;have hk1l:k1<w3.heap.size:=hC3.lt;have hC5:Cs w5 k2 (aB 18 (mn L 1)):=by rw[<-Kk,<-xZ];exact hn5.cs
 have hC5':=hC3.ext hn5.ext;have hnx:∀k,k<=16->bF L k<=65536:=fun k hk=>by
  have:=HQ hu hk;have h2:2^k<=2^16:=c_ (by omega) hk
  omega
 have hfs:∀k,k<=17->dB L k<=131072:=fun k hk=>by
  cases k with
  |zero=>exact Nat.zero_le _
  |succ k=>have:=hnx k (by omega);show 2*bF L k<=_;omega
 have hE5:Ext w w5:=((hn2.ext).step hc3 fun b hb=>by have hb:b=k1:=hb;omega).trans hn5.ext
 refine⟨fun vs u=>∃n:Nat,vs=[aa (n:Nat)]/\1<=n/\n<=17/\Chg (·=k2) w5 u/\Cs u k2 (aB 18 (mn L n)),fun vs _=>match vs with|[.int _ n]=>(17-n:Int).toNat|_=>0,⟨1,rfl,by omega,by omega,Chg.refl _ _,hC5⟩,fun n5 w6 hI=>?_⟩
 obtain⟨n,hv,hn1,hn,hc6,hC6⟩:=hI;obtain rfl:n5=(n:Nat):=by simpa using hv
 have hk12:k1≠k2:=by omega
 refine ak (fun hlt=>?_) fun hge=>?_
 ·have hlt:n<=16:=by have:=of_decide_eq_true hlt;omega
  have hC6':=(hC5'.chg hc6 hk12).drew;have hC6d:=hC6.drew;have g1:(aB 18 (mn L n))[n]?=some (.int .u32 (dB L n:Nat)):=by rw[bL (by omega)];unfold mn;rw[if_pos ⟨hn1,T_ _⟩]
  have g2:(aB 18 (iQ L i))[n]?=some (.int .u32 ((aW L n i).length:Nat)):=by rw[bL (by omega)];unfold iQ;rw[if_neg (by omega)]
  have g3:(aB 18 (mn L n))[n+1]?=some (mn L n (n+1)):=bL (by omega)
  have hsi:=hsul n i (T_ _);have hf:=hfs n hn;have hsym:aW L n i=aP L n:=by unfold aP;rw[hl]
  have e1:A_.wrap (((n:Nat):Int)+1)=((n+1:Nat):Int):=by rw[ai (by omega) (by omega)];omega
  rw[e1];simp only[I_,af,J_,L_];refine⟨by omega,by omega,_,hC6d.cell g1,by omega,by omega,_,hC6'.cell g2,by omega,by omega,⟨_,hC6d.cell g3⟩,hC6d.frozen _,?_⟩
  have hnxe:bF L n=dB L n+(aW L n i).length:=by
   obtain⟨m,rfl⟩:∃m,n=m+1:=⟨n-1,by omega⟩
   rw[hsym];rfl
  have hval:an .shl .u32 (B_.wrap (((dB L n:Nat):Int)+(((aW L n i).length:Nat):Int))) 1=((dB L (n+1):Nat):Int):=by
   rw[Kf (by omega) (by omega)]
   have:dB L (n+1)=2*bF L n:=rfl;unfold an;show B_.wrap ((((dB L n:Nat):Int)+(((aW L n i).length:Nat):Int))*2^1)=_;rw[Kf (by omega) (by omega)];omega
  rw[hval];have g4:=hC6d.set1 (off:=n+1) (v:=.int .u32 (dB L (n+1):Nat)) (by rw[bC];omega)
  rw[dx (H:=mn L (n+1)) ?_ ?_]at g4
  ·exact⟨⟨n+1,rfl,by omega,by omega,(hc6.trans ((Ext.refl w6).drew.chg (S:=fun _=>False)) fun _ h _=>h.elim).trans (Chg.setCells w6.drew ⟨k2,n+1,none⟩ _ 0) fun b hb _=>hb,g4⟩,by show((17:Int)-((n+1:Nat):Int)).toNat<((17:Int)-n).toNat;omega⟩
  ·unfold mn;rw[if_pos ⟨by omega,T_ _⟩]
  ·intro j hj hne
   unfold mn;by_cases h:1<=j/\j<=n
   ·rw[if_pos h,if_pos ⟨h.1,by omega⟩]
   ·rw[if_neg h,if_neg (by omega)]
 have hge:n=17:=by have:=of_decide_eq_false hge;omega
 subst hge;refine⟨by omega,by omega,by omega,by omega,?_⟩
 intro k3 w7 hn7;have e7:=hn7.1;have s7:=hn7.size;have z6:=hc6.size;have hk2l:k2<w6.heap.size:=hC6.lt;have hC7:Cs w7 k3 (aB i (jq L 0)):=by
  have:=aK.zeros hn7;rw[I_]at this;have e:aB i (jq L 0)=O_ i (K_ .u32 0):=by
   have:aB i (jq L 0)=aB i fun _=>K_ .u32 0:=cN fun k hk=>by unfold jq;rw[if_neg (by omega)]
   rw[this];unfold aB;rw[D_A];simp
  rw[e];exact this
 have hC7':Cs w7 k2 (aB 18 (mB L 0)):=by
  have e:aB 18 (mB L 0)=aB 18 (mn L 17):=cN fun k hk=>by
   unfold mB mn;rw[ip];by_cases h:1<=k
   ·rw[if_pos h,if_pos ⟨h,by omega⟩];simp
   ·rw[if_neg h,if_neg (by omega)]
  rw[e];exact hC6.ext hn7.ext
 have hE7:Ext w w7:=(hE5.step hc6 fun b hb=>by
  have hb:b=k2:=hb;have:=hn2.ext.size;have:=hc3.size;omega).trans hn7.ext
 have hk2w:w.heap.size<=k2:=by
  have:=hn2.ext.size;have:=hc3.size;omega
 have hk3w:w.heap.size<=k3:=by
  have:=hn5.ext.size;omega
 have hk23:k2≠k3:=by omega
 refine⟨fun vs u=>∃j:Nat,vs=[aa (j:Nat)]/\j<=i/\Chg (fun b=>b=k2\/b=k3) w7 u/\Cs u k2 (aB 18 (mB L j))/\Cs u k3 (aB i (jq L j)),fun vs _=>match vs with|[.int _ j]=>(i-j:Int).toNat|_=>0,⟨0,rfl,by omega,Chg.refl _ _,hC7',hC7⟩,fun n8 w8 hI=>?_⟩
 obtain⟨j,hv,hj,hc8,hC8,hC8'⟩:=hI;obtain rfl:n8=(j:Nat):=by simpa using hv
 have hE8:Ext w w8:=hE7.step hc8 fun b hb=>by rcases hb with hb|hb<;>omega
 refine ak (fun hlt=>?_) fun hge=>?_
 ·have hlt:j<i:=by have:=of_decide_eq_true hlt;omega
  have hLi:=hle j;refine⟨fun vs u=>Chg (fun b=>b=k2\/b=k3) w7 u/\Cs u k2 (aB 18 (mB L (j+1)))/\Cs u k3 (aB i (jq L (j+1))),?_,fun w9 hI=>?_⟩
  ·refine hget w8 j (h.chg (hE8.chg (S:=fun _=>False)) fun _ _ _=>id) hlt _ fun a ha=>⟨_,ha,ak (fun hp=>?_) fun hp=>?_⟩
   ·have hp:1<=L.getD j 0:=by have:=of_decide_eq_true hp;omega
    have hcode:bO L j=dB L (L.getD j 0)+(aW L (L.getD j 0) j).length:=rfl;generalize hn:L.getD j 0=n at*;have hf:=hfs n (by omega)
    have hsn:=hsul n j hj;have g1:(aB 18 (mB L j))[n]?=some (.int .u32 (bO L j:Nat)):=by rw[bL (by omega)];unfold mB;rw[if_pos hp,hcode]
    have g2:(aB i (jq L j))[j]?=some (jq L j j):=bL hlt;simp only[I_,af,J_,L_];refine⟨by omega,by omega,_,hC8.cell g1,?_⟩
    refine bo (by omega) (by omega) rfl ?_
    simp only[I_,af,J_,L_];have s1:=hC8'.set1 (off:=j) (v:=.int .u32 (bO L j:Nat)) (by rw[bC];exact hlt)
    have c1:=Chg.setCells w8 ⟨k3,j,none⟩ [.int .u32 (bO L j:Nat)] 0;have s2:=hC8.chg c1 hk23;refine⟨⟨_,hC8'.cell g2⟩,hC8'.frozen _,by omega,by omega,_,s2.cell g1,by omega,by omega,⟨_,s2.cell g1⟩,s2.frozen _,?_⟩
    rw[Kf (x:=((bO L j:Nat):Int)+1) (by omega) (by omega)]
    have s3:=s2.set1 (off:=n) (v:=.int .u32 (((bO L j:Nat):Int)+1)) (by rw[bC];omega)
    have c2:=Chg.setCells (ab w8 ⟨k3,j,none⟩ [.int .u32 (bO L j:Nat)] 0) ⟨k2,n,none⟩ [.int .u32 (((bO L j:Nat):Int)+1)] 0;have s4:=s1.chg c2 (fun e=>hk23 e.symm);rw[dx (H:=mB L (j+1)) ?_ ?_]at s3
    ·rw[dx (H:=jq L (j+1)) ?_ ?_]at s4
     ·exact⟨(hc8.trans c1 fun b hb _=>.inr hb).trans c2 fun b hb _=>.inl hb,s3,s4⟩
     ·unfold jq;rw[if_pos ⟨by omega,by omega⟩]
     ·intro s hs hne
      unfold jq;by_cases h':s<j/\L.getD s 0≠0
      ·rw[if_pos h',if_pos ⟨by omega,h'.2⟩]
      ·rw[if_neg h',if_neg (by omega)]
    ·unfold mB
     rw[if_pos hp,dN hn,N_,hcode];simp;omega
    ·intro k hk hne
     unfold mB;rw[cL (by omega)]
   ·have hp:L.getD j 0=0:=by have:=of_decide_eq_false hp;omega
    refine⟨hc8,?_,?_⟩
    ·have e:aB 18 (mB L (j+1))=aB 18 (mB L j):=cN fun k hk=>by
      unfold mB;by_cases h0:1<=k
      ·rw[cL (by omega)]
      ·rw[if_neg h0,if_neg h0]
     rw[e];exact hC8
    ·have e:aB i (jq L (j+1))=aB i (jq L j):=cN fun s hs=>by
      unfold jq;by_cases h':s<j/\L.getD s 0≠0
      ·rw[if_pos h',if_pos ⟨by omega,h'.2⟩]
      ·rw[if_neg h',if_neg ?_]
       rintro⟨q1,q2⟩
       have:s=j:=by omega
       rw[this]at q2;exact q2 hp
     rw[e];exact hC8'
  ·rw[ai (x:=(j:Int)+1)]
   exact⟨⟨j+1,rfl,hlt,hI⟩,by show((i:Int)-((j:Int)+1)).toNat<((i:Int)-j).toNat;omega⟩
 have hge:j=i:=by have:=of_decide_eq_false hge;omega
 subst hge;have hout:aB j (jq L j)=uu ((M_ j).map fun s=>if L.getD s 0=0 then 0 else((bO L s:Nat):Int)):=by
  unfold aB uu;rw[S_A];refine E_A fun s hs=>?_;have hs:=List.mem_range.1 hs;show jq L j s=.int .u32 (if L.getD s 0=0 then 0 else((bO L s:Nat):Int))
  unfold jq;by_cases h0:L.getD s 0=0
  ·rw[if_pos h0,if_neg (fun h=>h.2 h0)]
  ·rw[if_neg h0,if_pos ⟨hs,h0⟩]
 rw[hout]at hC8';have hbl:(uu ((M_ j).map fun s=>if L.getD s 0=0 then 0 else((bO L s:Nat):Int))).length=j:=by rw[wX];simp
 rw[I_];exact hR _ _ _ (Fg.of_owB (S:=(·=k3)) hE8 ⟨⟨by rw[hbl,L_],T_ _,.inr ⟨k3,[],rfl,rfl,by rw[hbl];simp,by rw[Z_];exact hC8'⟩⟩,fun b hb=>by rw[hb];exact hC8'.lt⟩ (fun b hb=>by rw[hb];exact hk3w) (by simp) (by simp))
theorem Fg.toS2{base:Option F_}{len cap sz:Nat}(h:Fg av w u sz base len cap vs):aD (fun i=>w.heap.size<=i/\i∉av) u base vs:=fun j v hj=>by
 obtain⟨S,h1,h0,h2⟩:=h.own;obtain⟨⟨o1,o2,o3⟩,hb⟩:=h2;have hlt:=(List.getElem?_eq_some_iff.1 hj).1;rcases o3 with o3|⟨b,rest,o3,o4,o5,o6⟩
 ·have:len=0:=by omega
  subst this;omega
 refine⟨_,o4,⟨h1 _ o3,fun hm=>h0 _ hm o3⟩,?_⟩;rw[af,J_];refine o6.cell ?_;rw[a_ hlt];exact hj
theorem sx{len cap:Nat}{xs:List E_}(h:aD d7 w p xs)(hl:len=xs.length)(ho:aN xs=true)(hsz:len<=2^30)
 (hR:∀b c w',Fg [] w w' 1 b len c xs->R (.returned (.slice b len c)) w'):H_ P 126 #[.slice p len cap] w R:=by
 refine sq _ _ _ _ _ ?_;refine ak (fun hn=>?_) fun hn k1 w1 hn1=>?_
 ·have:len=0:=by
   rcases Nat.eq_zero_or_pos len with g|g
   ·exact g
   ·obtain⟨a,ha,_⟩:=h 0 _ (U_ (by omega:0<xs.length))
    subst ha;cases hn
  subst this;have hx:xs=[]:=List.length_eq_zero_iff.1 hl.symm;subst hx;exact hR none 0 w (Fg.nil (Ext.refl w) 1)
 ·refine⟨xs,by omega,ho,((h.chg (hn1.ext.chg (S:=fun _=>False)) fun _ _ _=>id).sl).cells,?_⟩
  refine(Fg.of_owB (av:=[]) (S:=fun _=>False) hn1.ext (dA.nil w1 (some ⟨k1,0,none⟩) 1) (fun _ h=>h.elim) (by simp) (by simp)).app' (by simp[am]) rfl (by omega) (by omega) (by omega) fun b c w4 hF _ _=>?_
  rw[J_,List.nil_append]at hF;have:=hR b c w4 hF;rw[J_];exact this
theorem GP{cs:List Nat}(hl:cs.length=256)(hc:∀s,cs.getD s 0<=2^22)(h2:2<=(eQ (cs++[1])).length)
 (hR:∀b c w',Fg [] w w' 1 b 257 c (ni (b8 (cs++[1]) 16))->R (.returned (.slice b 257 c)) w'):H_ P 89 #[.agg (ni cs).toArray] w R:=by
 refine tF _ _ _ ?_;intro k1 w1 hn1;have e1:=hn1.1;have s1:=hn1.size;refine⟨by omega,by omega,by omega,?_⟩
 intro k4 hk4 w2 hL2;have hnl:(ni cs).length=256:=by rw[fF,hl]
 have hO:=hn1.own (N:=w.heap.size) (M:=w1.heap.size) (vs:=ni cs) (len:=256) (cap:=256) (sz:=1) (by simp) (by rw[hnl]) (by simp[hnl]) (by omega) (by omega) (by omega)
 have hF1:Fg [] w w1 1 (some ⟨k1,0,none⟩) 256 256 (ni cs):=Fg.of_owB hn1.ext (hO.owB (T_ _)) (fun i hi=>hi.1) (by simp) (by simp)
 have hb:aX (some ⟨k1,0,none⟩) (0:Int).toNat 256 1=some ⟨k1,0,none⟩:=fP;rw[hb];refine hF1.app hL2 (fun b hb=>.inr (by have hb:b=k4:=(by simpa using hb);omega)) (fun b hb=>by simpa[am]using hb) rfl rfl (by decide) (by decide) fun p2 c2 w3 hF3=>?_
 have e:ni cs++[aa 1]=ii (dG (cs++[1])):=by rw[F1,rt];rfl
 rw[e]at hF3;have hsl:aD d7 w3 p2 (ii (dG (cs++[1]))):=(Fg.toS hF3).mono fun _ _ _=>trivial;refine JG (len:=257) hsl (by rw[N_,hl];rfl) (fun s=>?_) (by omega) h2 fun b c w4 hF4=>⟨_,_,_,_,rfl,hF4.ext.keep _,?_⟩
 ·rw[P_]
  rcases e_ s 256 with g|g
  ·rw[a_ (by omega),<-P_];exact hc s
  ·rw[q_ (by omega)]
   rcases V_A g with g|g
   ·rw[<-g,hl];decide
   ·rw[r_ (by simp;omega)];simp
 ·rw[F1]at hF4
  exact hR b c w4 (hF4.pre hF3.ext)
def db(l:List Nat):List Int:=l.map fun n=>((n:Nat):Int)
def b9(m:Int)(d:List Int):List Int:=[255,m,((d.length+2)/256:Nat),((d.length+2)%256:Nat)]++d
theorem dw{m:Int}{cap len:Nat}{d:List Int}(h:aD d7 w p (bytes d))(hl:len=d.length)(hsz:len+2<65536)
 (hR:∀b c w',Fg [] w w' 1 b (4+len) c (bytes (b9 m d))->R (.returned (.slice b (4+len) c)) w'):H_ P 33 #[.int .u8 m,.slice p len cap] w R:=by
 refine tj _ _ _ _ _ _ ?_;intro k1 w1 hn1;have e1:=hn1.1;have s1:=hn1.size;have eh:C_.wrap (an BinOp.shr A_ (A_.wrap (((len:Nat):Int)+2)) 8)=(((d.length+2)/256:Nat):Int):=by
  rw[ai (x:=((len:Nat):Int)+2),gm (by omega) (by omega) (by simp[G_.bits]),show(2:Int)^(Int.toNat 8)=256 from rfl,dj (k:=.u8) rfl (by omega) (by simp[G_.bits];omega)]
  omega
 have el:C_.wrap (A_.wrap (((len:Nat):Int)+2))=(((d.length+2)%256:Nat):Int):=by
  rw[ai (x:=((len:Nat):Int)+2)];show(((len:Nat):Int)+2)%256=_;omega
 rw[eh,el]at hn1;refine⟨bytes d,by rw[ar];omega,cj d,((h.chg (hn1.ext.chg (S:=fun _=>False)) fun _ _ _=>id).sl).cells,?_⟩
 have hO:=hn1.own (N:=w.heap.size) (M:=w1.heap.size) (vs:=bytes [255,m,((d.length+2)/256:Nat),((d.length+2)%256:Nat)]) (len:=4) (cap:=4) (sz:=1) (W_A _) rfl rfl (by omega) (by omega) (by omega)
 have hF1:Fg [] w w1 1 (some ⟨k1,0,none⟩) 4 4 (bytes [255,m,((d.length+2)/256:Nat),((d.length+2)%256:Nat)]):=Fg.of_owB hn1.ext (hO.owB (T_ _)) (fun i hi=>hi.1) (by simp) (by simp)
 refine hF1.app' (by simp[am]) rfl (by rw[ar];omega) (by omega) (by omega) fun b c w4 hF _ _=>?_
 have e:bytes (b9 m d)=bytes [255,m,((d.length+2)/256:Nat),((d.length+2)%256:Nat)]++bytes d:=by unfold b9;rw[bY]
 rw[<-e]at hF;exact hR b c w4 hF
def fe(f f':Nat->Nat)(u u':D_)(i:Nat):Prop:=Kp (fun b=>f b=i) (fun b=>f' b=i) u u'
theorem fe.of(hC:Chg Z u u')(hZ:∀b,b<u.heap.size->f b=i->¬Z b):fe f (dz f u.heap.size k) u u' i:=fun p vs hs=>by
 refine fun j v hj=>?_;obtain⟨a,h1,h2,h3⟩:=hs j v hj;have hlt:=te h3;rw[dg]at hlt;refine⟨a,h1,by show dz f u.heap.size k a.block=i;rw[dm hlt];exact h2,?_⟩
 rw[D_.cell?_of_block (w:=u) (hC.block _ (by rw[dg];exact hlt) (by rw[dg];exact hZ _ hlt h2))]
 exact h3
theorem fe.trans{g h:Nat->Nat}{a b c:D_}(x:fe f g a b i)(y:fe g h b c i):fe f h a c i:=fun p vs hs=>y p vs (x p vs hs)
theorem fe.ext(hE:Ext u u'):fe f (dz f u.heap.size k) u u' i:=fe.of (Z:=fun _=>False) hE.chg fun _ _ _=>id
theorem fe.drew:fe f f u u.drew i:=fun p vs hs=>hs.chg ((Ext.refl u).drew.chg (S:=fun _=>False)) fun _ _ _=>id
theorem fM.app2{l:List Tg}{t:Tg}{m:List (Nat×Nat×List E_)}{bytes:Nat}{elem:TypeId}
 (h:fM w u f L (t::l))(hd:∀t',t'∈l->t'.c≠t.c)(hm:∀b,b∈am m->b∈L)(hz:zero.length=t.sz)(hn:fs.length=n*t.sz)
 (hby:(t.len+n)*bytes<=2^47)(h62:t.len+n<2^62)
 (hF:∀base' cap' u',fM w u' (dz f u.heap.size t.c) L (⟨t.c,base',t.len+n,cap',t.sz,t.vs++fs⟩::l)->(∀i,i≠t.c->fe f (dz f u.heap.size t.c) u u' i)->u.heap.size<=u'.heap.size->Chg (IF w u f t.c) u u'->F base' (t.len+n) cap' u'):
  ay u m t.p t.len t.cap n t.sz bytes elem zero fs F:=by
 have ht:=h.th t (by simp)
 refine ht.2.app h.pal ht.1 hm hz hn hby h62 fun base' cap' u' hP hT hC=>hF base' cap' u' ⟨hP,fun t' ht'=>?_⟩ (fun i hi=>fe.of hC fun b _ hb hz=>(hi (hb.symm.trans hz.1))) hC.size hC;rcases List.mem_cons.1 ht' with rfl|ht'
 ·exact⟨ht.1,hT⟩
 ·have h':=h.th t' (W_ _ ht')
  exact⟨h'.1,h'.2.other hC (hd t' ht')⟩
theorem fM.set2{l:List Tg}{t:Tg}(h:fM w u f L (t::l))(hd:∀t',t'∈l->t'.c≠t.c){us:List E_}(hk:k+us.length<=t.vs.length)(h0:0<t.len):
  ∃b,t.p=some ⟨b,0,none⟩/\b∉L/\w.heap.size<=b/\f b=t.c/\dq u ⟨b,k,none⟩ us.length/\fM w (ab u ⟨b,k,none⟩ us 0) f L (⟨t.c,t.p,t.len,t.cap,t.sz,t.vs.take k++us++t.vs.drop (k+us.length)⟩::l)/\∀i,i≠t.c->fe f f u (ab u ⟨b,k,none⟩ us 0) i:=by
 have ht:=h.th t (by simp)
 obtain⟨b,h1,h2,h3,h4,h5⟩:=ht.2.set hk h0;refine⟨b,h1,fun hm=>ht.1 (h2.1.symm.trans (h.pal.av b hm).2.2),h2.2.1,h2.1,h3,⟨h.pal.same h5 fun _ _ hz=>hz.2.1,fun t' ht'=>?_⟩,fun i hi p vs hs=>hs.chg h5 fun b' hb _ hz=>hi (hb.symm.trans hz.1)⟩;rcases List.mem_cons.1 ht' with rfl|ht'
 ·exact⟨ht.1,h4⟩
 ·have h':=h.th t' (W_ _ ht')
  exact⟨h'.1,h'.2.same h5 fun b' _ hf _ hz=>hd t' ht' (hf.symm.trans hz.1)⟩
theorem Th.cs{len:Nat}(h:Th w u f i (some ⟨b,0,none⟩) len len 1 vs)(h0:0<len):Cs u b vs/\f b=i/\w.heap.size<=b:=by
 obtain⟨o1,o2,o3⟩:=h;rcases o3 with o3|⟨b',rest,o3,o4,o5,o6⟩
 ·omega
 cases o4;have:rest=[]:=List.length_eq_zero_iff.1 (by omega)
 subst this;rw[Z_]at o6;exact⟨o6,o3.1,o3.2.1⟩
structure bP(w u:D_)(f:Nat->Nat)(L:List Nat)(k3:Nat)(op:Option F_)(oc:Nat)(ovs:List Int)(rest:List Tg):Prop where
 ths:fM w u f L (⟨1,op,ovs.length,oc,1,bytes ovs⟩::⟨2,some ⟨k3,0,none⟩,1,1,1,[.slice op ovs.length oc]⟩::rest)
 col:∀t,t∈rest->t.c≠1/\t.c≠2
 low:∀b,b<w.heap.size->f b=0
theorem tt(h:∀b,b<w.heap.size->f b=0)(hE:Ext w u)(k:Nat):∀b,b<w.heap.size->dz f u.heap.size k b=0:=fun b hb=>by
 have:=hE.size;rw[dm (by omega)];exact h b hb
section
variable {w u u' : D_} {f : Nat -> Nat} {L : List Nat} {k3 : Nat} {op : Option F_} {oc : Nat} {ovs : List Int} {rest : List Tg}
theorem bP.cell(h:bP w u f L k3 op oc ovs rest):u.cell? ⟨k3,0,none⟩=some (.slice op ovs.length oc)/\k3∉L:=by
 have ht:=(h.ths.th ⟨2,some ⟨k3,0,none⟩,1,1,1,[.slice op ovs.length oc]⟩ (by simp))
 obtain⟨h1,h2,h3⟩:=Th.cs ht.2 (show 0<1 by omega)
 refine⟨h1.cell (i:=0) rfl,fun hm=>?_⟩;have:=(h.ths.pal.av k3 hm).2.2;rw[h2]at this;cases this
theorem bP.ext(h:bP w u f L k3 op oc ovs rest):Ext w u:=h.ths.pal.ext
theorem bP.step(h:bP w u f L k3 op oc ovs rest)(hE:Ext u u')(k:Nat):bP w u' (dz f u.heap.size k) L k3 op oc ovs rest:=⟨h.ths.step hE k,h.col,tt h.low h.ext k⟩
theorem bP.dr(h:bP w u f L k3 op oc ovs rest):bP w u.drew f L k3 op oc ovs rest:=⟨h.ths.dr,h.col,h.low⟩
theorem bP.locl{bs:List Nat}(h:bP w u f L k3 op oc ovs rest)(hL:Locl bs u u')(hb:∀b,b∈bs->b∈L\/u.heap.size<=b):bP w u' (dz f u.heap.size 0) (bs++L) k3 op oc ovs rest:=⟨h.ths.locl hL hb,h.col,tt h.low h.ext 0⟩
theorem bP.mono{L':List Nat}{rest':List Tg}(h:bP w u f L k3 op oc ovs rest)(hL:∀b,b∈L'->b∈L)(hl:∀t,t∈rest'->t∈rest):bP w u f L' k3 op oc ovs rest':=
 ⟨h.ths.mono hL fun t ht=>by
  rcases List.mem_cons.1 ht with e|ht
  ·rw[e];simp
  ·rcases List.mem_cons.1 ht with e|ht
   ·rw[e];simp
   ·exact W_ _ (W_ _ (hl t ht)),fun t ht=>h.col t (hl t ht),h.low⟩
theorem bP.new{base:Option F_}{len cap sz:Nat}(h:bP w u f L k3 op oc ovs rest)(hE:Ext u u')(hi:2<i)(ho:Ow u.heap.size u'.heap.size u' base len cap sz vs):bP w u' (dz f u.heap.size i) L k3 op oc ovs (⟨i,base,len,cap,sz,vs⟩::rest):=
 ⟨(h.ths.new hE (by omega) ho).mono (fun _ h=>h) fun t ht=>by simp at ht⊢;rcases ht with e|e|e|e<;>simp[e],fun t ht=>by
  rcases List.mem_cons.1 ht with rfl|ht
  ·show i≠1/\i≠2;omega
  ·exact h.col t ht,tt h.low h.ext i⟩
theorem bP.putC{d:List Int}{m:List (Nat×Nat×List E_)}(h:bP w u f L k3 op oc ovs rest)(hn:n=d.length)(hm:∀b,b∈am m->b∈L)(hsz:ovs.length+d.length<=2^40)
 (hF:∀p c u' u'' f',u''=ab u' ⟨k3,0,none⟩ [.slice p (ovs.length+n) c] 0->(∃v,u'.cell? ⟨k3,0,none⟩=some v)->u'.frozen? ⟨k3,0,none⟩=false->bP w u'' f' L k3 p c (ovs++d) rest->(∀i,i≠1->i≠2->fe f f' u u'' i)->(∀b,b<u.heap.size->f' b=f b)->u.heap.size<=u''.heap.size->Chg (fun b=>f b=1\/f b=2) u u''->F p (ovs.length+n) c u'):
  ay u m op ovs.length oc n 1 1 5 [u8 0] (bytes d) F:=by
 subst hn;refine fM.app2 (t:=⟨1,op,ovs.length,oc,1,bytes ovs⟩) h.ths (fun t ht=>?_) hm rfl (by rw[ar];simp) (by simp;omega) (by simp;omega) fun p c u1 hT hK hz1 hC1=>?_
 ·rcases List.mem_cons.1 ht with rfl|ht
  ·show 2≠1;omega
  ·exact(h.col t ht).1
 have hT2:fM w u1 (dz f u.heap.size 1) L (⟨2,some ⟨k3,0,none⟩,1,1,1,[.slice op ovs.length oc]⟩::⟨1,p,ovs.length+d.length,c,1,bytes ovs++bytes d⟩::rest):=hT.mono (fun _ h=>h) fun t ht=>by simp at ht⊢;rcases ht with e|e|e<;>simp[e]
 obtain⟨b,q1,q2,q2',q3,q4,q5,q6⟩:=fM.set2 hT2 (fun t ht=>by
  rcases List.mem_cons.1 ht with rfl|ht
  ·show 1≠2;omega
  ·exact(h.col t ht).2) (k:=0) (us:=[.slice p (ovs.length+d.length) c]) (by simp) (by show 0<1;omega)
 have hb:b=k3:=by
  simp only[Option.some.injEq,F_.mk.injEq,and_true]at q1;exact q1.symm
 subst hb;have hc:=q4 0 (by simp)
 rw[eg]at hc;refine hF p c u1 _ (dz f u.heap.size 1) rfl hc.1 hc.2 ⟨?_,h.col,tt h.low h.ext 1⟩ (fun i h1 h2=>(hK i h1).trans (q6 i h2)) (fun b hb=>dm hb) (by rw[(bS _ _ _ _).size];exact hz1) ((hC1.mono fun i hi _=>.inl hi.1).trans (Chg.setCells u1 ⟨b,0,none⟩ _ 0) fun i hi hl=>.inr (by have hi:i=b:=hi;rw[hi]at hl⊢;rw[dm hl]at q3;exact q3))
 have hl:ovs.length+d.length=(ovs++d).length:=N_.symm;rw[<-bY,hl]at q5;rw[hl];refine q5.mono (fun _ h=>h) fun t ht=>?_;simp at ht⊢;rcases ht with e|e|e<;>simp[e]
theorem bP.put{d:List Int}{m:List (Nat×Nat×List E_)}(h:bP w u f L k3 op oc ovs rest)(hn:n=d.length)(hm:∀b,b∈am m->b∈L)(hsz:ovs.length+d.length<=2^40)
 (hF:∀p c u' u'' f',u''=ab u' ⟨k3,0,none⟩ [.slice p (ovs.length+n) c] 0->(∃v,u'.cell? ⟨k3,0,none⟩=some v)->u'.frozen? ⟨k3,0,none⟩=false->bP w u'' f' L k3 p c (ovs++d) rest->(∀i,i≠1->i≠2->fe f f' u u'' i)->(∀b,b<u.heap.size->f' b=f b)->u.heap.size<=u''.heap.size->F p (ovs.length+n) c u'):
  ay u m op ovs.length oc n 1 1 5 [u8 0] (bytes d) F:=h.putC hn hm hsz fun p c u' u'' f' a1 a2 a3 a4 a5 a6 a7 _=>hF p c u' u'' f' a1 a2 a3 a4 a5 a6 a7
end
def sg(q1:aj)(x1:Int)(w:D_)(R:bV):Prop:=
 nn (q1) fun a1=>(0<=x1)/\(x1<2)/\∃l1:List E_,(l1.length=256)/\(iK w (a1.add (x1.toNat*256)) l1)/\H_ P 89 #[.agg l1.toArray] w fun e1 w1=>∃p1 k1 k2,(e1=.returned (.slice p1 k1 k2))/\((0:Int)<=257)/\((257:Int)<=257)/\((2056:Int)<=281474976710656)/\((257:Int)<4611686018427387904)/\∀k3 w2,(aK w1 (X_ (bg [aa 0] 257) 3) k3 w2)->∀k4 w3,(aK w2 (X_ #[aa 0,aa 0,aa 0,aa 0,aa 0,aa 0,aa 0,aa 0,aa 0,aa 0,aa 0,aa 0,aa 0,aa 0,aa 0,aa 0,aa 0] 173) k4 w3)->∃(I1:aw) (m1:List E_->D_->Nat),(I1 [.slice none 0 0,aa 1] w3)/\∀p2 k5 k6 n1 w4,(I1 [.slice p2 k5 k6,aa n1] w4)->ae (decide (n1<=16)) (∃I2:aw,∃m2:List E_->D_->Nat,(I2 [.slice p2 k5 k6,aa 0] w4)/\∀p3 k7 k8 n2 w5,(I2 [.slice p3 k7 k8,aa n2] w5)->ae (decide (n2<(k1:Int))) (∃I3:aw,(aq (p1) (k1) (n2) (1) fun a2=>∃n3,(w5.cell? a2=some (aa n3))/\ae (n3==n1) (aq (aH k3) (257) (n2) (1) fun a3=>aI w5 a3 [aa n1] fun u1=>(0<=n1)/\(n1<17)/\∃n4,(u1.cell? ({block:=k4,off:=0:F_}.add (n1.toNat*1))=some (aa n4))/\(0<=n1)/\(n1<17)/\aI u1 ({block:=k4,off:=0:F_}.add (n1.toNat*1)) [aa (A_.wrap (n4+1))] fun u2=>ae (decide (n2<256)) (∀k9:Nat,(u2.heap.size<=k9)->∀w6:D_,(Locl ([k9]) u2 w6)->ay (w6) ([(51,k9,[u8 (C_.wrap n2)])]) (p3) (k7) (k8) (1) (1) (1) (5) ([u8 0]) ([u8 (C_.wrap n2)]) fun p4 k10 k11 w7=>I3 [.slice p4 k10 k11] w7) (I3 [.slice p3 k7 k8] u2)) (I3 [.slice p3 k7 k8] w5))/\∀p5 k12 k13 w8,(I3 [.slice p5 k12 k13] w8)->(I2 [.slice p5 k12 k13,aa (A_.wrap (n2+1))] w8)/\m2 [.slice p5 k12 k13,aa (A_.wrap (n2+1))] w8<m2 [.slice p3 k7 k8,aa n2] w5) ((I1 [.slice p3 k7 k8,aa (A_.wrap (n1+1))] w5)/\m1 [.slice p3 k7 k8,aa (A_.wrap (n1+1))] w5<m1 [.slice p2 k5 k6,aa n1] w4)) (nn (q1) fun a4=>nn (q1) fun a5=>H_ P 90 #[.slice (aH k3) 257 257,.pointer (aH k4)] (w4.drew) fun e2 w9=>∃p6 k14 k15 p7 k16 k17,(e2=.returned (.tuple #[.slice p6 k14 k15,.slice p7 k16 k17]))/\(0<=x1)/\(x1<2)/\aI w9 ((a4.add 514).add (x1.toNat*1)) [.slice p6 k14 k15] fun u3=>(0<=x1)/\(x1<2)/\aI u3 ((a5.add 512).add (x1.toNat*1)) [.slice p7 k16 k17] fun u4=>∀k18 w10,(aK u4 (X_ #[u8 (C_.wrap (an .shl .i64 x1 4))] 5) k18 w10)->cO (aH k4) (17) (1) (17) (1) fun p8 k19 k20=>∃(I4:aw) (m3:List E_->D_->Nat),(I4 [.slice (aH k18) 1 1,aa 0] w10)/\∀p9 k21 k22 n5 w11,(I4 [.slice p9 k21 k22,aa n5] w11)->ae (decide (n5<(k19:Int))) (aq (p8) (k19) (n5) (1) fun a6=>∃n6,(w11.cell? a6=some (aa n6))/\∀k23,w11.heap.size<=k23->∀w12,Locl [k23] w11 w12->ay (w12) ([(82,k23,[u8 (C_.wrap n6)])]) (p9) (k21) (k22) (1) (1) (1) (5) ([u8 0]) ([u8 (C_.wrap n6)]) fun p10 k24 k25 w13=>(I4 [.slice p10 k24 k25,aa (A_.wrap (n5+1))] w13)/\m3 [.slice p10 k24 k25,aa (A_.wrap (n5+1))] w13<m3 [.slice p9 k21 k22,aa n5] w11) (∃l2:List E_,(l2.length=k5*1)/\(aN l2=true)/\(aV w11 p2 l2)/\ay (w11) ([]) (p9) (k21) (k22) (k5) (1) (1) (5) ([u8 0]) (l2) fun p11 k26 k27 w14=>R (.returned (.slice p11 k26 k27)) w14))
theorem ot(q1:aj)(x1:Int)(w:D_)(R:bV)(h:sg q1 x1 w R):H_ P 36 #[.pointer q1,aa x1] w R:=
  aF (ac:=sD) Tryz.func36 h
theorem LI{k3 k4:Nat}{G:Nat->E_}{c:Int}(h3:Cs w k3 (ni B))(h4:Cs w k4 (aB 17 G))(hB:B.length=257)(hT:bM (B.take 256))(h1:1<=B.getD 256 0)(h16:B.getD 256 0<=16)(hG:G (B.getD 256 0)=aa c)(hc:1<=c/\c<=2^40)(hne:k3≠k4)
 (hR:∀b1 c1 b2 c2 w',Chg (·=k4) w w'->Cs w' k4 ((aB 17 G).set (B.getD 256 0) (aa (c-1)))->aD (fun b=>w.heap.size<=b) w' b1 (uu (kG (B.take 256)))->aD (fun b=>w.heap.size<=b) w' b2 (ni (B.take 256))->
 R (.returned (.tuple #[.slice b1 256 c1,.slice b2 256 c2])) w'):H_ P 90 #[.slice (some ⟨k3,0,none⟩) 257 257,.pointer (some ⟨k4,0,none⟩)] w R:=by
 refine xA _ _ _ _ _ _ ?_;have h3d:=h3.drew;have h4d:=h4.drew;refine bo (by omega) (by omega) rfl ⟨((B.getD 256 0:Nat):Int),h3d.cell (i:=256) (qh (by omega)),?_⟩
 generalize hn:B.getD 256 0=n at*;have hg:(aB 17 G)[n]?=some (aa c):=by rw[bL (by omega),hG]
 refine ap rfl ⟨by omega,by omega,c,?_,ap rfl ⟨by omega,by omega,?_,?_,?_⟩⟩
 ·simp only[I_,af,J_,L_];exact h4d.cell hg
 ·simp only[I_,af,J_,L_];exact⟨_,h4d.cell hg⟩
 ·simp only[I_,af,J_,L_];exact h4d.frozen _
 simp only[I_,af,J_,L_];rw[ai (x:=c-1)];refine⟨by omega,by omega,by omega,?_⟩
 have s4:=h4d.set1 (off:=n) (v:=aa (c-1)) (by rw[bC];omega)
 have c4:=Chg.setCells w.drew ⟨k4,n,none⟩ [aa (c-1)] 0;have s3:=h3d.chg c4 hne;generalize ab w.drew ⟨k4,n,none⟩ [aa (c-1)] 0=u at*;have hcu:Chg (·=k4) w u:=((Ext.refl w).drew.chg (S:=(·=k4))).trans c4 fun b hb _=>hb;have hb:aX (some (⟨k3,0,none⟩:F_)) (0:Int).toNat 257 1=some ⟨k3,0,none⟩:=fP;rw[hb];have hL:(B.take 256).length=256:=hT.len;have hsl:aD d7 u (some ⟨k3,0,none⟩) (ni (B.take 256)):=fun j v hj=>by
  refine⟨_,rfl,trivial,?_⟩;rw[af,J_];refine s3.cell ?_;have e:ni B=ni (B.take 256)++ni (B.drop 256):=by rw[<-rt,R_A]
  rw[e,a_ (List.getElem?_eq_some_iff.1 hj).1];exact hj
 refine sx (len:=256) hsl (by rw[fF,hL]) (LQ _) (by omega) fun b2 c2 w1 hF1=>⟨_,_,_,rfl,?_⟩
 have hs1:aD d7 w1 b2 (ni (B.take 256)):=(Fg.toS hF1).mono fun _ _ _=>trivial;refine JO hs1 hL (by omega) hT.le (Nat.le_of_lt hT.fit) fun b1 c1 w2 hF2=>⟨_,_,_,_,rfl,?_⟩
 have hE1:=hF1.ext;have hE2:=hF2.ext;have zu:=hcu.size;have z1:=hE1.size;refine hR b1 c1 b2 c2 w2 ((hcu.trans (hE1.chg (S:=fun _=>False)) fun _ h _=>h.elim).trans (hE2.chg (S:=fun _=>False)) fun _ h _=>h.elim) ((s4.ext hE1).ext hE2) ?_ ?_
 ·exact(Fg.toS hF2).mono fun b hb _=>by omega
 ·exact((Fg.toS hF1).chg (hE2.chg (S:=fun _=>False)) fun _ _ _=>id).mono fun b hb _=>by omega
def dL(t:Nat)(L:List Nat):List Int:=((16*t:Nat):Int)::((M_ 16).map fun n=>(((aP L (n+1)).length:Nat):Int))++db (aO L 16)
def iR(B:List Nat)(n s j:Nat):E_:=aa (if 1<=B.getD j 0/\(B.getD j 0<n\/B.getD j 0=n/\j<s)then(B.getD j 0:Nat)else 0)
theorem wP(h:j<256):(B.take 256).getD j 0=B.getD j 0:=by
 rw[P_,List.getElem?_take_of_lt h,<-P_]
theorem tW{B:List Nat}{n:Nat}:∀i,i<=256->aW (B.take 256) n i=aW B n i
 |0,_=>rfl
 |i+1,h=>by
  have ih:=tW (B:=B) (n:=n) i (by omega)
  by_cases e:B.getD i 0=n
  ·rw[dN e,dN (by rw[wP (by omega)];exact e),ih]
  ·rw[cL e,cL (by rw[wP (by omega)];exact e),ih]
theorem Jq(h:bM L)(hn:1<=n):(aP L n).length<=255:=by
 unfold aP;rw[h.len,cL (by rw[h.top];omega)]
 exact jo L n 255
theorem N3{l:List (Nat×bb)}{t:Nat}(h:∀x,x∈l->gj x)(hx:∃x,x∈l/\x.1=t):2<=(eQ (mw l t++[1])).length:=by
 obtain⟨x,hx,rfl⟩:=hx;have hs:=(h x hx).sym;exact GN (cs:=iq l x.1) (a:=x.2.1) (b:=256) (by omega) (by rw[kz];omega) (by rw[vu (by omega)];exact Ba hx) (by rw[AI];omega)
theorem Id{kc t:Nat}{l:List (Nat×bb)}(hC:Cs w kc (bN l++T))(hT:T.length=5)(ht:t<2)(hok:∀x,x∈l->gj x)(hx:∃x,x∈l/\x.1=t)(hlen:l.length<=2^22)
 (hR:∀p n c b1 c1 b2 c2 w',Chg (·=kc) w w'->Cs w' kc (bN l++(T.set (2+t) (.slice b1 256 c1)).set t (.slice b2 256 c2))->aD (fun b=>w.heap.size<=b) w' p (bytes (dL t (bw l t)))->n=(dL t (bw l t)).length->
 aD (fun b=>w.heap.size<=b) w' b1 (uu (kG (bw l t)))->aD (fun b=>w.heap.size<=b) w' b2 (ni (bw l t))->R (.returned (.slice p n c)) w'):
  H_ P 36 #[.pointer (some ⟨kc,0,none⟩),aa (t:Nat)] w R:=by
 obtain⟨hTab,_,ht1,ht16⟩:=D8 hok hx;have h2:=N3 hok hx;have hlT:bw l t=(b8 (mw l t++[1]) 16).take 256:=rfl;have ht1:1<=(b8 (mw l t++[1]) 16).getD 256 0:=ht1;have ht16:(b8 (mw l t++[1]) 16).getD 256 0<=16:=ht16;have hBl:(b8 (mw l t++[1]) 16).length=257:=by rw[uF];exact kz l t
 rw[hlT]at hTab hR;have hB256:∀j,j<256->(b8 (mw l t++[1]) 16).getD j 0<=16:=fun j hj=>by rw[<-wP hj];exact hTab.le j
 refine ot _ _ _ _ ?_;have hcl:=gF l;refine ap rfl ⟨by omega,by omega,ni (mw l t),by rw[fF,iv],?_,?_⟩
 ·intro j v hj
  have hlt:=(List.getElem?_eq_some_iff.1 hj).1;rw[fF,iv]at hlt;rw[qh (by rw[iv];exact hlt),Bj hlt]at hj
  cases hj;rw[I_,af,af,J_];refine hC.cell ?_;rw[a_ (by omega),Ha ht hlt]
 refine GP (iv l t) (fun s=>?_) h2 fun p1 c1 w1 hF1=>⟨_,_,_,rfl,by omega,by omega,by omega,by omega,?_⟩
 ·rcases e_ s 256 with g|g
  ·rw[Bj g];exact g_ (IR l t s) hlen
  ·rw[P_,r_ (by rw[iv];exact g)];simp
 generalize hBB:b8 (mw l t++[1]) 16=B at*;have hBle:∀j,B.getD j 0<=16:=fun j=>by
  rcases e_ j 256 with g|g
  ·exact hB256 j g
  ·rcases V_A g with g|g
   ·rw[<-g];exact ht16
   ·rw[P_,r_ (by omega)];simp
 intro k3 w2 hn2 k4 w3 hn3;have e2:=hn2.1;have s2:=hn2.size;have e3:=hn3.1;have s3:=hn3.size;have hE1:=hF1.ext;have z1:=hE1.size;have hE3:Ext w w3:=(hE1.trans hn2.ext).trans hn3.ext;have hC2:Cs w2 k3 (aB 257 (iR B 1 0)):=by
  have:=aK.zeros hn2;have e:aB 257 (iR B 1 0)=O_ 257 (aa 0):=by
   have:aB 257 (iR B 1 0)=aB 257 fun _=>aa 0:=cN fun j hj=>by unfold iR;rw[if_neg (by omega)]
   rw[this];unfold aB;rw[D_A];simp
  rw[e];exact this
 have hC3:Cs w3 k4 (aB 17 fun i=>aa (b7 B 1 0 i:Nat)):=by
  have e:(aB 17 fun i=>aa (b7 B 1 0 i:Nat))=aB 17 fun _=>aa 0:=cN fun j hj=>by
   unfold b7;rw[if_neg (by omega),ip];split<;>rfl
  rw[e];exact hn3.cs
 have hB1:aD d7 w1 p1 (ni B):=(Fg.toS hF1).mono fun _ _ _=>trivial;have hk34:k3≠k4:=by omega
 let vals:Nat->Nat->List Nat:=fun n s=>aO (B.take 256) (n-1)++aW B n (min s 256)
 have hvl:∀n s,n<=17->(vals n s).length<=16*256+256:=fun n s hn=>by
  show(aO (B.take 256) (n-1)++aW B n (min s 256)).length<=_;rw[N_];have h1:=mz (B.take 256) (n-1);have h2:=jo B n (min s 256);rw[hTab.len]at h1;have h3:(n-1)*256<=16*256:=U_A _ (by omega)
  omega
 have hav:∀b,b∈[k3,k4]->w1.heap.size<=b/\b<w3.heap.size:=fun b hb=>by
  have hb:b=k3\/b=k4:=by simpa using hb
  have:=hn3.ext.size;omega
 have hF0:Fg [k3,k4] w1 w3 1 none 0 0 []:=Fg.of_owB (S:=fun _=>False) (hn2.ext.trans hn3.ext) (dA.nil _ _ _) (fun _ h=>h.elim) (fun _ _=>id) hav
 let St:Nat->Nat->List E_->D_->Prop:=fun n s vs u=>∃b c,vs=[.slice b (vals n s).length c]/\Fg [k3,k4] w1 u 1 b (vals n s).length c (bytes (db (vals n s)))/\Cs u k3 (aB 257 (iR B n s))/\Cs u k4 (aB 17 fun i=>aa (b7 B n s i:Nat))
 have hbl:∀n s,(bytes (db (vals n s))).length=(vals n s).length:=fun n s=>by rw[ar];simp[db]
 refine⟨fun vs u=>∃(v:E_) (n:Nat),vs=[v,aa (n:Nat)]/\1<=n/\n<=17/\St n 0 [v] u,fun vs _=>match vs with|[_,.int _ n]=>(17-n:Int).toNat|_=>0,⟨.slice none 0 0,1,rfl,by omega,by omega,none,0,rfl,hF0,hC2.ext hn3.ext,hC3⟩,fun p2 k5 k6 n1 w4 hI=>?_⟩
 obtain⟨v,n,hv,hn1,hn17,hSt⟩:=hI;simp only[Q_,V_,true_and,and_true]at hv;obtain⟨rfl,rfl⟩:=hv;refine ak (fun hlt=>?_) fun hge=>?_
 ·have hlt:n<=16:=by have:=of_decide_eq_true hlt;omega
  refine⟨fun vs u=>∃(v:E_) (s:Nat),vs=[v,aa (s:Nat)]/\s<=257/\St n s [v] u,fun vs _=>match vs with|[_,.int _ s]=>(257-s:Int).toNat|_=>0,⟨_,0,rfl,by omega,hSt⟩,fun p3 k7 k8 n2 w5 hI=>?_⟩
  obtain⟨v,s,hv,hs,hSt⟩:=hI;simp only[Q_,V_,true_and,and_true]at hv;obtain⟨rfl,rfl⟩:=hv;refine ak (fun hlt2=>?_) fun hge2=>?_
  ·have hlt2:s<257:=by have:=of_decide_eq_true hlt2;omega
   refine⟨fun vs u=>∃v:E_,vs=[v]/\St n (s+1) [v] u,?_,fun p5 k12 k13 w8 hI=>?_⟩
   rotate_left
   ·obtain⟨v,hv,hSt⟩:=hI
    simp only[Q_,and_true]at hv;subst hv;rw[ai (x:=(s:Int)+1)];exact⟨⟨_,s+1,rfl,hlt2,hSt⟩,by show((257:Int)-((s:Int)+1)).toNat<((257:Int)-s).toNat;omega⟩
   obtain⟨b,c,hv,hF5,hA5,hK5⟩:=hSt;have hE5:=hF5.ext;simp only[Q_,p_.injEq,and_true]at hv;obtain⟨rfl,rfl,rfl⟩:=hv;refine((hB1.chg (hE5.chg (S:=fun _=>False)) fun _ _ _=>id).sl).get (v:=aa (B.getD s 0:Nat)) (by omega) (by rw[fF,hBl]) (by rw[I_,qh (by omega)]) fun a2 ha2=>⟨_,ha2,?_⟩
   have hBs:=hBle s;refine ak (fun hhit=>?_) fun hmiss=>?_
   ·have hhit:B.getD s 0=n:=by have:((B.getD s 0:Nat):Int)=((n:Nat):Int):=(by simpa using hhit);omega
    refine bo (by omega) (by omega) rfl ?_
    simp only[I_,af,J_,L_];have gA:(aB 257 (iR B n s))[s]?=some (iR B n s s):=bL (by omega)
    have gK:(aB 17 fun i=>aa (b7 B n s i:Nat))[n]?=some (aa (b7 B n s n:Nat)):=bL (by omega)
    have sA:=hA5.set1 (off:=s) (v:=aa (n:Nat)) (by rw[bC];omega)
    have cA:=Chg.setCells w5 ⟨k3,s,none⟩ [aa (n:Nat)] 0;have sK:=hK5.chg cA (fun e=>hk34 e.symm);have hcj:b7 B n s n<=300:=by
     unfold b7;have:=jo B n s;rw[if_neg (by omega)];split<;>omega
    refine⟨⟨_,hA5.cell gA⟩,hA5.frozen _,by omega,by omega,_,sK.cell gK,by omega,by omega,⟨_,sK.cell gK⟩,sK.frozen _,?_⟩
    have hF6:=hF5.push (By (b:=k3) (i:=s) (vs:=[aa (n:Nat)]) hA5.lt) fun b hb=>.inl (by rw[show b=k3 by simpa using hb];simp)
    generalize ab w5 ⟨k3,s,none⟩ [aa (n:Nat)] 0=u6 at*;have sK2:=sK.set1 (off:=n) (v:=aa ((b7 B n s n:Nat)+1:Int)) (by rw[bC];omega)
    have cK:=Chg.setCells u6 ⟨k4,n,none⟩ [aa ((b7 B n s n:Nat)+1:Int)] 0;have sA2:=sA.chg cK hk34;rw[ai (x:=((b7 B n s n:Nat):Int)+1)];have hF7:=hF6.push (By (b:=k4) (i:=n) (vs:=[aa ((b7 B n s n:Nat)+1:Int)]) sK.lt) fun b hb=>.inl (by rw[show b=k4 by simpa using hb];simp)
    generalize ab u6 ⟨k4,n,none⟩ [aa ((b7 B n s n:Nat)+1:Int)] 0=u7 at*;rw[dx (H:=iR B n (s+1)) (by unfold iR;rw[hhit,if_pos ⟨hn1,.inr ⟨rfl,by omega⟩⟩]) (fun j hj hne=>by
     unfold iR;by_cases h':1<=B.getD j 0/\(B.getD j 0<n\/B.getD j 0=n/\j<s)
     ·rw[if_pos h',if_pos ⟨h'.1,by omega⟩]
     ·rw[if_neg h',if_neg (by omega)])]at sA2
    rw[dx (H:=fun i=>aa (b7 B n (s+1) i:Nat)) (by rw[tX hhit hn1,if_pos rfl];push_cast;rfl) (fun j hj hne=>by rw[tX hhit hn1,if_neg hne];rfl)]at sK2
    refine ak (fun h256=>?_) fun h256=>?_
    ·have h256:s<256:=by have:=of_decide_eq_true h256;omega
     intro k9 hk9 w6 hL6;have hav7:∀b,b∈[k9]->b∈[k4]++([k3]++[k3,k4])\/u7.heap.size<=b:=fun b hb=>by
      have hb:b=k9:=by simpa using hb
      right;omega
     have hF8:=hF7.push hL6 hav7;have hu8:C_.wrap ((s:Nat):Int)=((s:Nat):Int):=dj (k:=.u8) rfl (by omega) (by simp[G_.bits];omega)
     rw[hu8];have hlv:=hvl n s hn17;have hbl9:∀b,b∈am [(51,k9,[u8 ((s:Nat):Int)])]->b∈[k9]++([k4]++([k3]++[k3,k4])):=fun b hb=>by
      have hb:b=k9:=by simpa[am]using hb
      rw[hb];simp
     refine hF8.app' hbl9 rfl rfl (by omega) (by omega) fun b' c' w7 hF9 hK9 hz9=>?_
     have hvs:vals n (s+1)=vals n s++[s]:=by
      show aO (B.take 256) (n-1)++aW B n (min (s+1) 256)=aO (B.take 256) (n-1)++aW B n (min s 256)++[s];rw[show min (s+1) 256=s+1 by omega,show min s 256=s by omega,dN hhit,o_]
     have hk3l:=sA2.lt;have hk4l:=sK2.lt;have hA9:Cs w7 k3 _:=(sA2.locl hL6 (by simp;omega)).same (hK9 k3 (by simp) (sA2.locl hL6 (by simp;omega)).lt).2
     have hB9:Cs w7 k4 _:=(sK2.locl hL6 (by simp;omega)).same (hK9 k4 (by simp) (sK2.locl hL6 (by simp;omega)).lt).2
     have hvl1:(vals n (s+1)).length=(vals n s).length+1:=by rw[hvs,N_];rfl
     refine⟨_,rfl,b',c',by rw[hvl1],?_,hA9,hB9⟩
     ·rw[hvl1,hvs]
      have e:bytes (db (vals n s++[s]))=bytes (db (vals n s))++[u8 ((s:Nat):Int)]:=by simp[db,bytes]
      rw[e];exact hF9.mono (by simp)
    ·have h256:s=256:=by have:=of_decide_eq_false h256;omega
     have hvs:vals n (s+1)=vals n s:=by
      show aO (B.take 256) (n-1)++aW B n (min (s+1) 256)=aO (B.take 256) (n-1)++aW B n (min s 256);rw[show min (s+1) 256=256 by omega,show min s 256=256 by omega]
     refine⟨_,rfl,p3,k8,by rw[hvs],by rw[hvs];exact hF7.mono (by simp),sA2,sK2⟩
   ·have hmiss:B.getD s 0≠n:=fun e=>by rw[e]at hmiss;simp at hmiss
    have hvs:vals n (s+1)=vals n s:=by
     show aO (B.take 256) (n-1)++aW B n (min (s+1) 256)=aO (B.take 256) (n-1)++aW B n (min s 256);by_cases h256:s<256
     ·rw[show min (s+1) 256=s+1 by omega,show min s 256=s by omega,cL hmiss]
     ·rw[show min (s+1) 256=256 by omega,show min s 256=256 by omega]
    refine⟨_,rfl,p3,k8,by rw[hvs],by rw[hvs];exact hF5,?_,?_⟩
    ·have e:aB 257 (iR B n (s+1))=aB 257 (iR B n s):=cN fun j hj=>by
      unfold iR;by_cases h':1<=B.getD j 0/\(B.getD j 0<n\/B.getD j 0=n/\j<s)
      ·rw[if_pos h',if_pos ⟨h'.1,by omega⟩]
      ·rw[if_neg h',if_neg ?_]
       rintro⟨q1,q2⟩
       rcases q2 with q2|q2
       ·exact h' ⟨q1,.inl q2⟩
       ·have:j=s:=by
         rcases e_ j s with g|g
         ·exact(h' ⟨q1,.inr ⟨q2.1,g⟩⟩).elim
         ·omega
        rw[this]at q2;exact hmiss q2.1
     rw[e];exact hA5
    ·have e:(aB 17 fun i=>aa (b7 B n (s+1) i:Nat))=aB 17 fun i=>aa (b7 B n s i:Nat):=cN fun j hj=>by rw[Eg hmiss]
     rw[e];exact hK5
  ·have hge2:s=257:=by have:=of_decide_eq_false hge2;omega
   subst hge2;rw[ai (x:=(n:Int)+1)];refine⟨⟨_,n+1,rfl,by omega,by omega,?_⟩,by show((17:Int)-((n:Int)+1)).toNat<((17:Int)-n).toNat;omega⟩
   obtain⟨b,c,hv,hF5,hA5,hK5⟩:=hSt;have hvs:vals (n+1) 0=vals n 257:=by
    show aO (B.take 256) (n+1-1)++aW B (n+1) (min 0 256)=aO (B.take 256) (n-1)++aW B n (min 257 256);obtain⟨m,rfl⟩:∃m,n=m+1:=⟨n-1,by omega⟩
    rw[show min 0 256=0 by omega,ip,Z_,show min 257 256=256 by omega,w_,w_,aO]
    congr 1;unfold aP;rw[hTab.len,tW 256 (T_ _)]
   refine⟨b,c,by rw[hvs];exact hv,by rw[hvs];exact hF5,?_,?_⟩
   ·have e:aB 257 (iR B (n+1) 0)=aB 257 (iR B n 257):=cN fun j hj=>by
     unfold iR;by_cases h':1<=B.getD j 0/\(B.getD j 0<n\/B.getD j 0=n/\j<257)
     ·rw[if_pos h',if_pos ⟨h'.1,by omega⟩]
     ·rw[if_neg h',if_neg (by omega)]
    rw[e];exact hA5
   ·have e:(aB 17 fun i=>aa (b7 B (n+1) 0 i:Nat))=aB 17 fun i=>aa (b7 B n 257 i:Nat):=cN fun j hj=>by
     have:=Ep B n j;rw[hBl]at this;rw[this]
    rw[e];exact hK5
 have hge:n=17:=by have:=of_decide_eq_false hge;omega
 subst hge;obtain⟨b,c,hv,hF4,hA4,hK4⟩:=hSt;simp only[Q_,p_.injEq,and_true]at hv;obtain⟨rfl,rfl,rfl⟩:=hv;have hallE:aB 257 (iR B 17 0)=ni B:=by
  refine z_ (by rw[bC,fF,hBl]) fun j h1 h2=>?_
  have hj:j<257:=by simpa[aB]using h1
  have hb:=hBle j;have e:(ni B)[j]?=some (aa (B.getD j 0:Nat)):=qh (by omega)
  rw[U_ h2]at e;rw[Option.some.inj e];simp only[aB,A_A,B_A];unfold iR;by_cases h0:1<=B.getD j 0
  ·rw[if_pos ⟨h0,.inl (by omega)⟩]
  ·rw[if_neg (fun h=>h0 h.1),show B.getD j 0=0 by omega];rfl
 rw[hallE]at hA4;have hvE:vals 17 0=aO (B.take 256) 16:=by
  show aO (B.take 256) (17-1)++aW B 17 (min 0 256)=_;rw[show min 0 256=0 by omega,ip,Z_]
 rw[hvE]at hF4⊢;have hcE:∀i,1<=i->i<17->b7 B 17 0 i=(aP B i).length:=fun i h1 h2=>by unfold b7;rw[if_pos ⟨h1,h2⟩]
 have hsy:∀i,aP B i=aP (B.take 256) i++if B.getD 256 0=i then[256]else[]:=fun i=>by
  unfold aP;rw[hBl,hTab.len,tW 256 (T_ _)];by_cases e:B.getD 256 0=i
  ·rw[if_pos e,dN e]
  ·rw[if_neg e,cL e,Z_]
 have hm:=hsy (B.getD 256 0);rw[if_pos rfl]at hm;have hml:(aP B (B.getD 256 0)).length=(aP (B.take 256) (B.getD 256 0)).length+1:=by rw[hm,N_];rfl
 have h255:∀i,1<=i->(aP (B.take 256) i).length<=255:=fun i hi=>Jq hTab hi;have hm255:=h255 (B.getD 256 0) ht1;refine ap rfl (ap rfl ?_);have hE4:=hF4.ext;refine LI (G:=fun i=>aa (b7 B 17 0 i:Nat)) (c:=((aP B (B.getD 256 0)).length:Nat)) hA4.drew hK4.drew hBl hTab ht1 ht16 (by show aa _=aa _;rw[hcE _ ht1 (by omega)]) ⟨by omega,by omega⟩ hk34 fun b1 c1' b2 c2' w9 hc9 hK9 hB1' hB2'=>⟨_,_,_,_,_,_,rfl,?_⟩
 have hrow:(aB 17 fun i=>aa (b7 B 17 0 i:Nat)).set (B.getD 256 0) (aa ((((aP B (B.getD 256 0)).length:Nat):Int)-1))=aB 17 fun i=>aa (if i=0 then 0 else((aP (B.take 256) i).length:Nat)):=by
  refine dx ?_ fun j hj hne=>?_
  ·rw[if_neg (by omega)]
   show aa _=aa _;rw[hml];push_cast;congr 1;omega
  ·by_cases h0:j=0
   ·subst h0
    rw[if_pos rfl];show _=aa ((b7 B 17 0 0:Nat):Int);unfold b7;rw[if_neg (by omega),if_neg (by omega)];rfl
   ·rw[if_neg h0,hcE j (by omega) hj,hsy j,if_neg (fun e=>hne e.symm),Z_]
 rw[hrow]at hK9;have hkcl:=hC.lt;have z4:=hE4.size;have hC4:=((hC.ext hE1).ext hE4).drew;have hkc4:kc≠k4:=by omega
 have hC9:=hC4.chg hc9 hkc4;have hsetc:∀(T':List E_) (j:Nat) (v:E_),(bN l++T').set (512+j) v=bN l++T'.set j v:=fun T' j v=>by
  rw[List.set_append_right _ _ (by omega),show 512+j-(bN l).length=j by omega]
 have hgetc:∀(T':List E_) (j:Nat),(bN l++T')[512+j]?=T'[j]?:=fun T' j=>by
  rw[q_ (by omega),show 512+j-(bN l).length=j by omega]
 have eo1:((⟨kc,0,none⟩:F_).add 514).add ((t:Nat):Int).toNat=⟨kc,512+(2+t),none⟩:=by(try rw[I_,af,af])<;>(try (congr 1;omega))
 have eo2:((⟨kc,0,none⟩:F_).add 512).add ((t:Nat):Int).toNat=⟨kc,512+t,none⟩:=by(try rw[I_,af,af])<;>(try (congr 1;omega))
 rw[L_,eo1,eo2];have g1:(bN l++T)[512+(2+t)]?=some (T[2+t]'(by omega)):=by rw[hgetc,U_ (by omega)]
 have s1:=hC9.set1 (off:=512+(2+t)) (v:=.slice b1 256 c1') (by rw[N_];omega)
 rw[hsetc]at s1;have k1':=Chg.setCells w9 ⟨kc,512+(2+t),none⟩ [.slice b1 256 c1'] 0;have g2:(bN l++T.set (2+t) (.slice b1 256 c1'))[512+t]?=some ((T.set (2+t) (.slice b1 256 c1'))[t]'(by rw[X_A];omega)):=by rw[hgetc,U_]
 refine⟨by omega,by omega,⟨_,hC9.cell g1⟩,hC9.frozen _,by omega,by omega,⟨_,s1.cell g2⟩,s1.frozen _,?_⟩
 have s2':=s1.set1 (off:=512+t) (v:=.slice b2 256 c2') (by rw[N_,X_A];omega)
 rw[hsetc]at s2';have k2':=Chg.setCells (ab w9 ⟨kc,512+(2+t),none⟩ [.slice b1 256 c1'] 0) ⟨kc,512+t,none⟩ [.slice b2 256 c2'] 0;generalize ab w9 ⟨kc,512+(2+t),none⟩ [.slice b1 256 c1'] 0=ua at*;generalize ab ua ⟨kc,512+t,none⟩ [.slice b2 256 c2'] 0=ub at*;have hcab:Chg (·=kc) w9 ub:=k1'.trans k2' fun b hb _=>hb;have hw9:Chg (·=k4) w w9:=(((hE1.trans hE4).trans (Ext.refl w4).drew).chg (S:=(·=k4))).trans hc9 fun b hb _=>hb;have hwub:Chg (·=kc) w ub:=(hw9.mono (T:=(·=kc)) fun b hb hl=>by have hb:b=k4:=hb;have:=hn2.ext.size;omega).trans hcab fun b hb _=>hb
 have zd:w4.drew.heap.size=w4.heap.size:=rfl;have z9:=hc9.size;have zub:=hcab.size;have hKub:=hK9.chg hcab (fun e=>hkc4 e.symm);have hB1u:aD (fun b=>w4.heap.size<=b) ub b1 (uu (kG (B.take 256))):=hB1'.chg hcab fun b hb _ e=>by have e:b=kc:=e;have hb:w4.heap.size<=b:=hb;omega
 have hB2u:aD (fun b=>w4.heap.size<=b) ub b2 (ni (B.take 256)):=hB2'.chg hcab fun b hb _ e=>by have e:b=kc:=e;have hb:w4.heap.size<=b:=hb;omega
 have hVu:aD d7 ub p2 (bytes (db (aO (B.take 256) 16))):=by
  have h0:=(Fg.toS2 hF4).chg ((Ext.refl w4).drew.chg (S:=fun _=>False)) fun _ _ _=>id;have h1:=h0.chg hc9 fun b hb _ e=>hb.2 (by have e:b=k4:=e;rw[e];simp)
  exact(h1.chg hcab fun b hb _ e=>by have e:b=kc:=e;have:=hb.1;omega).mono fun _ _ _=>trivial
 intro k18 w10 hn10;have e10:=hn10.1;have s10:=hn10.size;have hsh:C_.wrap (an BinOp.shl A_ ((t:Nat):Int) 4)=((16*t:Nat):Int):=by
  have:t=0\/t=1:=by omega
  rcases this with rfl|rfl<;>decide
 rw[hsh]at hn10;refine⟨by omega,by omega,by omega,?_⟩
 have hpb:aX (some (⟨k4,0,none⟩:F_)) (1:Int).toNat 17 1=some ⟨k4,1,none⟩:=rfl;rw[hpb]
 let D:Nat->List Int:=fun i=>((16*t:Nat):Int)::((M_ i).map fun n=>(((aP (B.take 256) (n+1)).length:Nat):Int))
 have hDl:∀i,(D i).length=1+i:=fun i=>by simp only[D,i_,R_,List.length_range];omega
 have hO:=hn10.own (N:=ub.heap.size) (M:=w10.heap.size) (vs:=bytes (D 0)) (len:=1) (cap:=1) (sz:=1) (W_A _) rfl rfl (by omega) (by omega) (by omega)
 have hFd:Fg [] ub w10 1 (some ⟨k18,0,none⟩) 1 1 (bytes (D 0)):=Fg.of_owB hn10.ext (hO.owB (T_ _)) (fun i hi=>hi.1) (by simp) (by simp)
 refine⟨fun vs u=>∃(i:Nat) (p:Option F_) (c:Nat),vs=[.slice p (1+i) c,aa (i:Nat)]/\i<=16/\Fg [] ub u 1 p (1+i) c (bytes (D i)),fun vs _=>match vs with|[_,.int _ i]=>(16-i:Int).toNat|_=>0,⟨0,_,_,rfl,by omega,hFd⟩,fun p9 k21 k22 n5 w11 hI=>?_⟩
 obtain⟨i,p,c,hv,hi,hF11⟩:=hI;simp only[Q_,V_,p_.injEq,true_and,and_true]at hv;obtain⟨⟨rfl,rfl,rfl⟩,rfl⟩:=hv;have hK11:=hKub.ext hF11.ext;refine ak (fun hlt=>?_) fun hge=>?_
 ·have hlt:i<16:=by have:((i:Nat):Int)<(((17:Int).toNat-(1:Int).toNat:Nat):Int):=of_decide_eq_true hlt;have e:((17:Int).toNat-(1:Int).toNat:Nat)=16:=rfl;omega
  refine bo (by omega) (by show((i:Nat):Int)<((16:Nat):Int);omega) rfl ?_
  simp only[I_,af,L_];have gk:(aB 17 fun i=>aa (if i=0 then 0 else((aP (B.take 256) i).length:Nat)))[1+i]?=some (aa ((aP (B.take 256) (i+1)).length:Nat)):=by
   rw[bL (by omega),if_neg (by omega),Nat.add_comm]
  have h25:=h255 (i+1) (by omega)
  refine⟨_,hK11.cell gk,?_⟩;intro k23 hk23 w12 hL12;have hu8:C_.wrap ((((aP (B.take 256) (i+1)).length:Nat):Int))=(((aP (B.take 256) (i+1)).length:Nat):Int):=dj (k:=.u8) rfl (by omega) (by simp[G_.bits];omega)
  rw[hu8];refine hF11.app hL12 (fun b hb=>.inr (by have hb:b=k23:=(by simpa using hb);omega)) (fun b hb=>by simpa[am]using hb) rfl rfl (by omega) (by omega) fun p' c' w13 hF13=>?_
  have eD:bytes (D (i+1))=bytes (D i)++[u8 (((aP (B.take 256) (i+1)).length:Nat):Int)]:=by
   have eD':D (i+1)=D i++[(((aP (B.take 256) (i+1)).length:Nat):Int)]:=by simp only[D,l_,b_,List.map_cons,List.map_nil,List.cons_append]
   rw[eD',bY];rfl
  rw[ai (x:=(i:Int)+1)];refine⟨⟨i+1,p',c',by rw[F_A];rfl,hlt,?_⟩,by show((16:Int)-((i:Int)+1)).toNat<((16:Int)-i).toNat;omega⟩
  rw[eD,<-F_A];exact hF13.weak
 have hge:i=16:=by
  have:=of_decide_eq_false hge;have e:(((17:Int).toNat-(1:Int).toNat:Nat):Int)=16:=rfl;omega
 subst hge;have htl:(aO (B.take 256) 16).length<=16*256:=by have:=mz (B.take 256) 16;rw[hTab.len]at this;exact this
 have hbl2:(bytes (db (aO (B.take 256) 16))).length=(aO (B.take 256) 16).length:=by rw[ar];simp[db]
 refine⟨bytes (db (aO (B.take 256) 16)),by rw[hbl2,L_],cj _,((hVu.chg (hF11.ext.chg (S:=fun _=>False)) fun _ _ _=>id).sl).cells,?_⟩
 refine hF11.app' (by simp[am]) rfl (by rw[hbl2,L_]) (by omega) (by omega) fun p11 c11 w14 hF14 _ _=>?_
 have eT:bytes (D 16)++bytes (db (aO (B.take 256) 16))=bytes (dL t (B.take 256)):=by
  rw[<-bY];rfl
 rw[eT]at hF14;have hE14:=hF14.ext;have zw:w.heap.size<=ub.heap.size:=hwub.size;refine hR p11 _ c11 b1 c1' b2 c2' w14 (hwub.trans (hE14.chg (S:=fun _=>False)) fun _ h _=>h.elim) (s2'.ext hE14) ((Fg.toS hF14).mono fun b hb _=>by omega) ?_ ((hB1u.chg (hE14.chg (S:=fun _=>False)) fun _ _ _=>id).mono fun b hb _=>by have hb:w4.heap.size<=b:=hb;omega) ((hB2u.chg (hE14.chg (S:=fun _=>False)) fun _ _ _=>id).mono fun b hb _=>by have hb:w4.heap.size<=b:=hb;omega)
 show 1+16+(aO (B.take 256) 16).length=(dL t (B.take 256)).length;unfold dL db;simp;omega
def sQ(q1:aj)(x1 x2 x3:Int)(sa1:aj)(sl1 sc1:Nat)(va1:E_)(w:D_)(R:bV):Prop:=
 ∀k1,w.heap.size<=k1->∀w1,Locl [k1] w w1->H_ P 78 #[.agg #[aa x1,aa x2,aa x3,.slice sa1 sl1 sc1]] w1 fun e1 w2=>∃n1 n2 n3 n4,(e1=.returned (.agg #[aa n1,aa n2,aa n3,aa n4]))/\ao [k1] w1 w2/\∀k2,w2.heap.size<=k2->∀w3,Locl [k2,k1] w2 w3->H_ P 32 #[] w3 fun e2 w4=>∃p1 k3 k4,(e2=.returned (.slice p1 k3 k4))/\ao [k2,k1] w3 w4/\(0<=(sl1:Int))/\((sl1:Int)<=(sl1:Int))/\((sl1:Int)*8<=281474976710656)/\((sl1:Int)<4611686018427387904)/\∀k5 w5,(aK w4 (X_ (bg [aa 0] (sl1:Int).toNat) 3) k5 w5)->∃(I1:aw) (m1:List E_->D_->Nat),(I1 [aa 0,aa 0] w5)/\∀n5 n6 w6,(I1 [aa n5,aa n6] w6)->ae (decide (n6<A_.wrap (n3*n4))) (∃I2:aw,(∃I3:aw,∃m2:List E_->D_->Nat,(I3 [aa 0] w6)/\∀n7 w7,(I3 [aa n7] w7)->ae (decide (n7<(sl1:Int))) (aq (sa1) (sl1) (n7) (4) fun a1=>∃(n8 n9:Int) (p2:aj) (k6 k7:Nat) (p3:aj) (k8 k9:Nat),(w7.cell? a1=some (aa n8))/\(w7.cell? (a1.add 1)=some (aa n9))/\(w7.cell? (a1.add 2)=some (.slice p2 k6 k7))/\(w7.cell? (a1.add 3)=some (.slice p3 k8 k9))/\∀k10,w7.heap.size<=k10->∃(I4:aw) (m3:List E_->D_->Nat),(∀w8,Locl [k10,k2,k1] w7 w8->I4 [aa 0] w8)/\∀n10 w9,(I4 [aa n10] w9)->ae (decide (n10<n9)) (∃I5:aw,∃m4:List E_->D_->Nat,(I5 [aa 0] w9)/\∀n11 w10,(I5 [aa n11] w10)->ae (decide (n11<n8)) ((n3≠0)/\(n3≠0)/\aq (p3) (k8) (A_.wrap (A_.wrap (A_.wrap (A_.wrap (A_.wrap (A_.wrap (ad .quo .i64 n6 n3*n9)+n10)*n3)*n8)+A_.wrap (ad .rem .i64 n6 n3*n8))+n11)) (1) fun a2=>∃p4 k11 k12,(w10.drew.cell? a2=some (.slice p4 k11 k12))/\aq (aH k5) ((sl1:Int).toNat) (n7) (1) fun a3=>∃n12,(w10.drew.cell? a3=some (aa n12))/\H_ P 88 #[.pointer q1,.slice p4 k11 k12,aa n12,.slice p1 k3 k4] (w10.drew) fun e3 w11=>(e3=.returned (.tuple #[]))/\(ao ([k10,k2,k1]) (w10.drew) w11)/\aq (p4) (k11) (0) (1) fun a4=>∃n13,(w11.cell? a4=some (aa n13))/\aq (aH k5) ((sl1:Int).toNat) (n7) (1) fun a5=>aI w11 a5 [aa n13] fun u1=>(¬a5.block∈[k10,k2,k1])/\(I5 [aa (A_.wrap (n11+1))] u1)/\m4 [aa (A_.wrap (n11+1))] u1<m4 [aa n11] w10) ((I4 [aa (A_.wrap (n10+1))] w10)/\m3 [aa (A_.wrap (n10+1))] w10<m3 [aa n10] w9)) ((I3 [aa (A_.wrap (n7+1))] w9)/\m2 [aa (A_.wrap (n7+1))] w9<m2 [aa n7] w7)) (ae (decide (x3>0)) ((x3≠0)/\ae (ad .rem .i64 (A_.wrap (n6+1)) x3==0&&decide (A_.wrap (n6+1)<A_.wrap (n3*n4))) (dO P (va1) [aa n5] w7 fun e4 w12=>(e4=.returned (.tuple #[]))/\ao [k2,k1] w7 w12/\((((sl1:Int).toNat=0)/\I2 [aa (A_.wrap (n5+1))] w12)\/(((sl1:Int).toNat≠0)/\∃a6:F_,(some {block:=k5,off:=0}=some a6)/\(dq w12 a6 ((cY (sl1:Int).toNat ((fun x=>x.cells.toList) (K_ .i64 0))).length))/\(¬a6.block∈[k2,k1])/\I2 [K_ .i64 (A_.wrap (n5+1))] (ab w12 a6 (cY (sl1:Int).toNat ((fun x=>x.cells.toList) (K_ .i64 0))) 0)))) (I2 [aa n5] w7)) (I2 [aa n5] w7)))/\∀n14 w13,(I2 [aa n14] w13)->(I1 [aa n14,aa (A_.wrap (n6+1))] w13)/\m1 [aa n14,aa (A_.wrap (n6+1))] w13<m1 [aa n5,aa n6] w6) (R (aM #[]) w6)
theorem pS(q1:aj)(x1 x2 x3:Int)(sa1:aj)(sl1 sc1:Nat)(va1:E_)(w:D_)(R:bV)(h:sQ q1 x1 x2 x3 sa1 sl1 sc1 va1 w R):H_ P 34 #[.pointer q1,.agg #[aa x1,aa x2,aa x3,.slice sa1 sl1 sc1],va1] w R:=
  aF (ac:=sF) Tryz.func34 h
theorem ru(h:m<=n):∃t,M_ n=M_ m++t:=by
 obtain⟨d,rfl⟩:∃d,n=m+d:=⟨n-m,by omega⟩
 exact⟨_,List.range_add⟩
theorem Mq{sub u y:Nat}(h:m<=n):jc W sub u i y m <+:jc W sub u i y n:=by
 obtain⟨t,ht⟩:=ru h;exact⟨t.map _,by unfold jc;rw[ht,b_]⟩
theorem MB{sub u:Nat}(h:m<=n):jd W sub u i m <+:jd W sub u i n:=by
 obtain⟨t,ht⟩:=ru h;exact⟨t.flatMap _,by unfold jd;rw[ht,G_A]⟩
theorem MC{sub u:Nat}(h:m<=n):i6 W sub u m <+:i6 W sub u n:=by
 obtain⟨t,ht⟩:=ru h;exact⟨t.flatMap _,by unfold i6;rw[ht,G_A]⟩
theorem Mr{sub:Nat}(h:m<=n):bJ W sub m <+:bJ W sub n:=by
 obtain⟨t,ht⟩:=ru h;exact⟨t.flatMap _,by unfold bJ;rw[ht,G_A]⟩
theorem DN{α:Type}{a b c:List α}(h:b <+:c):a++b <+:a++c:=by
 obtain⟨t,rfl⟩:=h;exact⟨t,by rw[o_]⟩
def cW(W sub u i y x:Nat):List (Nat×Nat):=bJ W sub u++(i6 W sub u i++(jd W sub u i y++jc W sub u i y x))
theorem xX{sub u y x:Nat}(hu:u<n)(hi:i<mU sub)(hy:y<hU sub i)(hx:x<=hU sub i):cW W sub u i y x <+:bJ W sub n:=by
 have h1:jd W sub u i y++jc W sub u i y x <+:jd W sub u i (hU sub i):=by
  refine List.IsPrefix.trans (DN (Mq hx)) ?_;rw[<-Er];exact MB hy
 have h2:i6 W sub u i++(jd W sub u i y++jc W sub u i y x) <+:i6 W sub u (mU sub):=by
  refine List.IsPrefix.trans (DN h1) ?_;rw[<-Ev];exact MC hi
 unfold cW;refine List.IsPrefix.trans (DN h2) ?_;rw[<-wE];exact Mr hu
theorem Dd(W sub u i y x:Nat):cW W sub u i y (x+1)=cW W sub u i y x++[(i,kR (aJ W (nU sub)) (hU sub i) u y x)]:=by
 unfold cW;rw[Ly];simp
theorem IU(W sub u i y:Nat):cW W sub u i y (hU sub i)=cW W sub u i (y+1) 0:=by
 unfold cW;rw[Er];simp[jc]
theorem IS(W sub u i:Nat):cW W sub u i (hU sub i) 0=cW W sub u (i+1) 0 0:=by
 unfold cW;rw[Ev];simp[jc,jd]
theorem IC(W sub u:Nat):cW W sub u (mU sub) 0 0=bJ W sub (u+1):=by
 unfold cW;rw[wE];simp[jc,jd]
theorem IM(W sub u:Nat):cW W sub u 0 0 0=bJ W sub u:=by
 unfold cW;simp[jc,jd,i6]
theorem GT{ac h u y x:Nat}(hac:1<=ac)(hh:1<=h)(hb:kR ac h u y x<n)(hn:n<=2^40):
  A_.wrap (A_.wrap (A_.wrap (A_.wrap (A_.wrap (A_.wrap (ad .quo .i64 ((u:Nat):Int) ((ac:Nat):Int)*((h:Nat):Int))+((y:Nat):Int))*((ac:Nat):Int))*((h:Nat):Int))+A_.wrap (ad .rem .i64 ((u:Nat):Int) ((ac:Nat):Int)*((h:Nat):Int)))+((x:Nat):Int))=((kR ac h u y x:Nat):Int):=by
 have b1:(u/ac*h+y)*ac*h<=kR ac h u y x:=by unfold kR;omega
 have b2:(u/ac*h+y)*ac<=(u/ac*h+y)*ac*h:=k_ _ hh;have b3:u/ac*h+y<=(u/ac*h+y)*ac:=k_ _ hac;have b4:u%ac*h<=kR ac h u y x:=by unfold kR;omega
 have hq:ad .quo .i64 ((u:Nat):Int) ((ac:Nat):Int)=((u/ac:Nat):Int):=by
  have:u/ac<=2^40:=by
   have:u/ac<=u/ac*h:=k_ _ hh;omega
  simp only[ad];rw[Int.tdiv_eq_ediv_of_nonneg (by omega),<-K_A,wN]
 rw[hq,rN,<-Y_,wN,<-m_,wN,<-Y_,wN,<-Y_,wN,<-Y_,wN,<-m_,wN (by unfold kR at*;omega),<-m_]
 have e:(u/ac*h+y)*ac*h+u%ac*h+x=kR ac h u y x:=rfl;rw[e,wN]
def jS(w:D_)(Snk:(Nat->Prop)->List (Nat×bb)->D_->Prop)(A Z:Nat->Prop)(bl:Nat->Nat->List Int)(m k5:Nat)(zp:Option F_)(Ss:List (Nat×Nat))(ks:List Nat)(u:D_):Prop:=
 ∃A':Nat->Prop,(∀b,A b\/Z b->A' b)/\Snk A' (bh bl (O_ m 0) Ss).1 u/\Cs u k5 (ii (bh bl (O_ m 0) Ss).2)/\aD Z u zp (ii eG)/\A' k5/\(∀b,b∈ks->A' b/\w.heap.size<=b/\¬Z b)/\Chg (fun b=>¬A b) w u
section
variable {w0 w : D_} {q : Option F_} {Q : Nat × bb -> Prop} {Snk : (Nat -> Prop) -> List (Nat × bb) -> D_ -> Prop} {A Z : Nat -> Prop} {bl : Nat -> Nat -> List Int} {m k5 k : Nat} {zp : Option F_} {Ss : List (Nat × Nat)} {ks bs : List Nat} {u u' : D_}
theorem jS.loc(S:DK w0 q Q Snk)(hw:w0.heap.size<=w.heap.size)(hAw:∀b,A b->b<w.heap.size)
 (h:jS w Snk A Z bl m k5 zp Ss ks u)(hL:Locl (k::bs) u u')(hb:∀b,b∈bs->b∈ks)(hk:u.heap.size<=k)(h5:k5∉bs):jS w Snk A Z bl m k5 zp Ss (k::ks) u':=by
 obtain⟨A',h1,h2,h3,h4,h6,h7,h8⟩:=h;have hkw:w.heap.size<=u.heap.size:=h8.size;have hlt:=S.lt _ _ _ h2;refine⟨Nw A' u u',fun b hb=>.inl (h1 b hb),S.stp A' _ u u' _ h2 hL.chg (fun b hm hl=>?_),h3.locl hL ?_,h4.chg hL.chg fun b hz hl hm=>?_,.inl h6,fun b hm=>?_,h8.trans hL.chg fun b hm hl ha=>?_⟩
 ·rcases List.mem_cons.1 hm with e|hm
  ·omega
  ·have:=h7 b (hb b hm);exact⟨this.1,by omega⟩
 ·intro hm
  rcases List.mem_cons.1 hm with e|hm
  ·have:=h3.lt;omega
  ·exact h5 hm
 ·rcases List.mem_cons.1 hm with e|hm
  ·omega
  ·exact(h7 b (hb b hm)).2.2 hz
 ·rcases List.mem_cons.1 hm with e|hm
  ·subst e;exact⟨.inr ⟨hk,hL.there b (by simp)⟩,by omega,fun hz=>by have:=hlt b (h1 b (.inr hz));omega⟩
  ·exact⟨.inl (h7 b hm).1,(h7 b hm).2⟩
 ·have:=hAw b ha
  rcases List.mem_cons.1 hm with e|hm
  ·omega
  ·have:=(h7 b (hb b hm)).2.1;omega
theorem jS.drew(S:DK w0 q Q Snk)(h:jS w Snk A Z bl m k5 zp Ss ks u):jS w Snk A Z bl m k5 zp Ss ks u.drew:=by
 obtain⟨A',h1,h2,h3,h4,h6,h7,h8⟩:=h;have hc:Chg (fun _=>False) u u.drew:=(Ext.refl u).drew.chg;exact⟨Nw A' u u.drew,fun b hb=>.inl (h1 b hb),S.stp A' _ u _ _ h2 hc fun _ h=>h.elim,h3.drew,h4.chg hc fun _ _ _=>id,.inl h6,fun b hm=>⟨.inl (h7 b hm).1,(h7 b hm).2⟩,h8.trans hc fun _ h _=>h.elim⟩
theorem jS.less{cs:List Nat}(h:jS w Snk A Z bl m k5 zp Ss ks u)(hc:∀b,b∈cs->b∈ks):jS w Snk A Z bl m k5 zp Ss cs u:=by
 obtain⟨A',h1,h2,h3,h4,h6,h7,h8⟩:=h;exact⟨A',h1,h2,h3,h4,h6,fun b hm=>h7 b (hc b hm),h8⟩
end
theorem EP{Q:Nat×bb->Prop}{Snk:(Nat->Prop)->List (Nat×bb)->D_->Prop}(S:DK w0 q Q Snk)(hS:Snk A [] w)
 {c sub:Nat}{qf:Nat->List Int}{bf:Nat->Nat->List Int}{va:E_}(hJ:gD W H sub qf bf)(h:mi w0 p (iB W H sub qf bf))
 (hQ:∀x,x∈(bh (fun i k=>zz (bf i k)) (O_ (mU sub) 0) (bJ W sub (aJ W (nU sub)*aJ H (nU sub)))).1->Q x)
 (hR:∀A' w',(∀b,A b->A' b)->Chg (fun b=>¬A b) w w'->Snk A' (bh (fun i k=>zz (bf i k)) (O_ (mU sub) 0) (bJ W sub (aJ W (nU sub)*aJ H (nU sub)))).1 w'->R (.returned (.tuple #[])) w'):
  H_ P 34 #[.pointer q,.agg #[aa (W:Nat),aa (H:Nat),aa 0,.slice p (mU sub) c],va] w R:=by
 obtain⟨d1,d2,d3,d4,d5⟩:=hJ.dims;have hsub:=hJ.hsub;have hmU:=dM (sub:=sub);have hl:=iJ W H sub qf bf;have hE0:=S.ext _ _ _ hS;have hw:=hE0.size;have hAw:=S.lt _ _ _ hS;have hBl:C8 (fun i k=>zz (bf i k)):=hJ.zz;refine pS _ _ _ _ _ _ _ _ _ _ ?_;intro k1 hk1 w1 hL1;have hsh:=pu (w:=w1) (c:=c) (W:=W) (H:=H) (e:=0) (n:=nU sub) (h.ext (hE0.trans (hL1.ext (by simpa using hk1)))) (Jc W H sub qf bf) (GH hsub) (cX hsub) ⟨d1,d2⟩ ⟨d3,d4⟩ (R:=fun e2 w12=>
  e2=.returned (.agg #[aa (nU sub:Nat),aa (nU sub:Nat),aa (aJ W (nU sub):Nat),aa (aJ H (nU sub):Nat)])/\Ext w1 w12) fun w' hE'=>⟨rfl,hE'⟩
 rw[hl]at hsh;refine hsh.mono fun e2 w2 he2=>?_;obtain⟨rfl,hE2⟩:=he2;refine⟨_,_,_,_,rfl,hE2.keep _,?_⟩;intro k2 hk2 w3 hL3;refine mR fun zp zc w4 hF4=>⟨_,_,_,rfl,hF4.ext.keep _,by omega,by omega,by omega,by omega,?_⟩
 intro k5 w5 hn5;have hE4:=hF4.ext;have z1:=hL1.size;have z2:=hE2.size;have z3:=hL3.size;have z4:=hE4.size;have t1:=hL1.there k1 (by simp)
 have t2:=hL3.there k2 (by simp)
 have e5:=hn5.1;have s5:=hn5.size;have hzc:=Fg.cap hF4;have hc5:Chg (·∈[k2,k1]) w w5:=((((hL1.chg.mono fun b hb _=>W_ _ hb).trans (hE2.chg (S:=fun _=>False)) fun _ h _=>h.elim).trans hL3.chg fun b hb _=>hb).trans (hE4.chg (S:=fun _=>False)) fun _ h _=>h.elim).trans (hn5.ext.chg (S:=fun _=>False)) fun _ h _=>h.elim;have hSt0:jS w Snk A (fun b=>w3.heap.size<=b/\b<w4.heap.size) (fun i k=>zz (bf i k)) (mU sub) k5 zp (bJ W sub 0) [k2,k1] w5:=by
  refine⟨Nw A w w5,fun b hb=>?_,S.stp A _ w w5 _ hS hc5 fun b hb hl=>?_,?_,(Fg.toS hF4).chg (hn5.ext.chg (S:=fun _=>False)) fun _ _ _=>id,.inr ⟨by omega,s5⟩,fun b hb=>?_,hc5.mono fun b hb hl ha=>?_⟩
  ·rcases hb with hb|hb
   ·exact .inl hb
   ·exact .inr ⟨by omega,by omega⟩
  ·have hb:b=k2\/b=k1:=by simpa using hb
   omega
  ·have:=aK.zeros hn5
   have e:ii (bh (fun i k=>zz (bf i k)) (O_ (mU sub) 0) (bJ W sub 0)).2=O_ (mU sub) (aa 0):=by simp[bJ,bh,ii]
   rw[e];exact this
  ·have hb:b=k2\/b=k1:=by simpa using hb
   exact⟨.inr (by omega),by omega,by omega⟩
  ·have hb:b=k2\/b=k1:=by simpa using hb
   omega
 have hk5n:k5∉[k2,k1]:=by simp;omega
 have hZ5:¬(w3.heap.size<=k5/\k5<w4.heap.size):=by omega
 have hk5w:w.heap.size<=k5:=by omega
 clear hc5;generalize hZe:(fun b=>w3.heap.size<=b/\b<w4.heap.size)=Z at*;have hZ5:¬Z k5:=by rw[<-hZe];exact hZ5
 generalize hble:(fun i k=>zz (bf i k))=bl at*;have hblv:∀i k,bl i k=zz (bf i k):=fun i k=>by rw[<-hble]
 generalize hac:aJ W (nU sub)=ac at*;generalize hdn:aJ H (nU sub)=dn at*;have haW:=gW d1 d2 (cX hsub);have haH:=gW d3 d4 (cX hsub);rw[hac]at haW;rw[hdn]at haH;have hund:=hJ.units;rw[hac,hdn]at hund;have hun:ac*dn<=1991:=by
  have:1<=nU sub*nU sub:=Nat.mul_pos (by have:=cX hsub;omega) (by have:=cX hsub;omega)
  exact g_ (k_ _ this) hund
 have hall:A_.wrap (((ac:Nat):Int)*((dn:Nat):Int))=((ac*dn:Nat):Int):=by rw[<-Y_,wN]
 have hsl:=(hJ.blocks).1;rw[hac,hdn]at hsl;have hpre:∀Ss,Ss <+:bJ W sub (ac*dn)->(∀x,x∈(bh bl (O_ (mU sub) 0) Ss).1->Q x)/\(bh bl (O_ (mU sub) 0) Ss).1.length<=64*Ss.length/\Ss.length<=5973:=fun Ss hp=>by
  obtain⟨t,ht⟩:=hp;refine⟨fun x hx=>hQ x ?_,(pX hBl _ Ss fun i=>?_).2,?_⟩
  ·rw[<-ht,lH];exact List.mem_append_left _ hx
  ·rw[P_,Y_A]
   split<;>simp
  ·rw[<-ht,N_]at hsl;omega
 refine⟨fun vs u=>∃n:Nat,vs=[aa 0,aa (n:Nat)]/\n<=ac*dn/\jS w Snk A Z bl (mU sub) k5 zp (bJ W sub n) [k2,k1] u,fun vs _=>match vs with|[_,.int _ n]=>(((ac*dn:Nat):Int)-n:Int).toNat|_=>0,⟨0,rfl,by omega,hSt0⟩,fun n5 n6 w6 hI=>?_⟩
 obtain⟨n,hv,hn,hSt⟩:=hI;simp only[Q_,V_,true_and,and_true]at hv;obtain⟨rfl,rfl⟩:=hv;rw[hall];refine ak (fun hlt=>?_) fun hge=>?_
 rotate_left
 ·have hge:n=ac*dn:=by have:=of_decide_eq_false hge;omega
  subst hge;obtain⟨A',h1,h2,h3,h4,h6,h7,h8⟩:=hSt;exact hR A' _ (fun b hb=>h1 b (.inl hb)) h8 h2
 have hlt:n<ac*dn:=by have:=of_decide_eq_true hlt;omega
 refine⟨fun vs u=>vs=[aa 0]/\jS w Snk A Z bl (mU sub) k5 zp (bJ W sub (n+1)) [k2,k1] u,?_,fun n14 w13 hI=>?_⟩
 rotate_left
 ·obtain⟨hv,hSt⟩:=hI
  obtain rfl:n14=0:=by simpa using hv
  rw[ai (x:=(n:Int)+1)];exact⟨⟨n+1,rfl,hlt,hSt⟩,by show(((ac*dn:Nat):Int)-((n:Int)+1)).toNat<(((ac*dn:Nat):Int)-n).toNat;omega⟩
 rw[<-IM]at hSt;refine⟨fun vs u=>∃i:Nat,vs=[aa (i:Nat)]/\i<=mU sub/\jS w Snk A Z bl (mU sub) k5 zp (cW W sub n i 0 0) [k2,k1] u,fun vs _=>match vs with|[.int _ i]=>(mU sub-i:Int).toNat|_=>0,⟨0,rfl,by omega,hSt⟩,fun n7 w7 hI=>?_⟩
 obtain⟨i,hv,hi,hSt⟩:=hI;obtain rfl:n7=(i:Nat):=by simpa using hv
 refine ak (fun hlt2=>?_) fun hge=>?_
 rotate_left
 ·have hge:i=mU sub:=by have:=of_decide_eq_false hge;omega
  subst hge;rw[IC]at hSt;exact al (by decide) ⟨rfl,hSt⟩
 have hlt2:i<mU sub:=by have:=of_decide_eq_true hlt2;omega
 have hE7:Ext w0 w7:=by obtain⟨A',h1,h2,_⟩:=hSt;exact S.ext _ _ _ h2
 refine h.elem (sI hlt2) hl.symm fun a qp qc bp bc vs hC=>⟨_,_,_,_,_,_,_,_,(hC.ext hE7).h,(hC.ext hE7).v,(hC.ext hE7).q,(hC.ext hE7).b,?_⟩;intro k10 hk10;have hh:=it (i:=i) hsub;have e1:(jN W H sub qf bf i).h=(hU sub i:Nat):=rfl;have e2:(jN W H sub qf bf i).v=(hU sub i:Nat):=rfl;rw[e1,e2];have hk5l:∀(Ss ks) (u:D_),jS w Snk A Z bl (mU sub) k5 zp Ss ks u->k5<u.heap.size:=fun Ss ks u h=>by
  obtain⟨A',h1,h2,h3,_⟩:=h;exact h3.lt
 have hk510:k5∉[k10,k2,k1]:=fun hm=>by
  rcases List.mem_cons.1 hm with e|hm
  ·have:=hk5l _ _ _ hSt;omega
  ·exact hk5n hm
 refine⟨fun vs u=>∃y:Nat,vs=[aa (y:Nat)]/\y<=hU sub i/\jS w Snk A Z bl (mU sub) k5 zp (cW W sub n i y 0) [k10,k2,k1] u,fun vs _=>match vs with|[.int _ y]=>(hU sub i-y:Int).toNat|_=>0,fun w8 hL8=>⟨0,rfl,by omega,hSt.loc S hw hAw hL8 (fun b hb=>hb) hk10 hk5n⟩,fun n10 w9 hI=>?_⟩
 obtain⟨y,hv,hy,hSt⟩:=hI;obtain rfl:n10=(y:Nat):=by simpa using hv
 refine ak (fun hlt3=>?_) fun hge=>?_
 rotate_left
 ·have hge:y=hU sub i:=by have:=of_decide_eq_false hge;omega
  subst hge;rw[IS]at hSt;rw[ai (x:=(i:Int)+1)];exact⟨⟨i+1,rfl,hlt2,hSt.less fun b hb=>W_ _ hb⟩,by show((mU sub:Int)-((i:Int)+1)).toNat<((mU sub:Int)-i).toNat;omega⟩
 have hlt3:y<hU sub i:=by have:=of_decide_eq_true hlt3;omega
 refine⟨fun vs u=>∃x:Nat,vs=[aa (x:Nat)]/\x<=hU sub i/\jS w Snk A Z bl (mU sub) k5 zp (cW W sub n i y x) [k10,k2,k1] u,fun vs _=>match vs with|[.int _ x]=>(hU sub i-x:Int).toNat|_=>0,⟨0,rfl,by omega,hSt⟩,fun n11 w10 hI=>?_⟩
 obtain⟨x,hv,hx,hSt⟩:=hI;obtain rfl:n11=(x:Nat):=by simpa using hv
 refine ak (fun hlt4=>?_) fun hge=>?_
 rotate_left
 ·have hge:x=hU sub i:=by have:=of_decide_eq_false hge;omega
  subst hge;rw[IU]at hSt;rw[ai (x:=(y:Int)+1)];exact⟨⟨y+1,rfl,hlt3,hSt⟩,by show((hU sub i:Int)-((y:Int)+1)).toNat<((hU sub i:Int)-y).toNat;omega⟩
 have hlt4:x<hU sub i:=by have:=of_decide_eq_true hlt4;omega
 have hbi:=KZ (W:=W) (H:=H) (sub:=sub) (u:=n) (i:=i) (y:=y) (x:=x) (by rw[hac,hdn];exact hlt) hlt3 hlt4 (by rw[hac];exact haW.2)
 rw[hac]at hbi;have hnb:=hJ.nB i;refine⟨by omega,by omega,?_⟩
 rw[GT haW.2 (by omega) hbi (by omega)]
 have hSd:=hSt.drew S;obtain⟨A',h1,h2,h3,h4,h6,h7,h8⟩:=hSd;have hE10:=S.ext _ _ _ h2;have hbl':(jN W H sub qf bf i).bl[kR ac (hU sub i) n y x]?=some (bf i (kR ac (hU sub i) n y x)):=by
  show((M_ (nB W H sub i)).map (bf i))[kR ac (hU sub i) n y x]?=_;rw[S_,h_ hbi];rfl
 have hsucc:=Dd W sub n i y x;rw[hac]at hsucc;generalize hkx:kR ac (hU sub i) n y x=kx at*;refine hC.blk hbl' fun a2 p4 cp h21 h22 h23 h24=>⟨_,_,_,hE10.cell h21,?_⟩;have hlen2:(bh bl (O_ (mU sub) 0) (cW W sub n i y x)).2.length=mU sub:=by rw[xo];simp
 refine bo (by omega) (by omega) rfl ?_
 simp only[I_,af,J_,L_];refine⟨_,h3.cell (i:=i) (bz (by rw[hlen2];exact hlt2)),?_⟩
 have hah:=mY (bl:=bl) hBl.dc (O_ (mU sub) 0) (cW W sub n i y x) (fun j=>by
  rw[P_,Y_A]
  split<;>simp) i
 have hp1:=xX (W:=W) (sub:=sub) (u:=n) (i:=i) (y:=y) (x:=x+1) (n:=ac*dn) hlt hlt2 hlt3 hlt4;have hp0:=xX (W:=W) (sub:=sub) (u:=n) (i:=i) (y:=y) (x:=x) (n:=ac*dn) hlt hlt2 hlt3 hx;obtain⟨q1,q2,q3⟩:=hpre _ hp1;obtain⟨_,q5,q6⟩:=hpre _ hp0;rw[hsucc,oC]at q1 q2;have hblk:kD bl (bh bl (O_ (mU sub) 0) (cW W sub n i y x)).2 (i,kx)=(0,(fw ((bh bl (O_ (mU sub) 0) (cW W sub n i y x)).2.getD i 0) (zz (bf i kx))).1)::(fw ((bh bl (O_ (mU sub) 0) (cW W sub n i y x)).2.getD i 0) (zz (bf i kx))).2.map (fun y=>(1,y)):=by
  unfold kD;rw[hblv]
 have hsnoc:=oC bl (O_ (mU sub) 0) (cW W sub n i y x) (i,kx);rw[<-hsucc]at hsnoc;rw[hblk]at hsnoc q1;refine H7 S h2 (b:=bf i kx) (zc:=zc) h24 h23 (h4.mono fun b hb _=>h1 b (.inr hb)) hzc hah (hJ.b0 i kx) (hJ.br i kx) (fun z hz=>q1 z (List.mem_append_right _ hz)) (by omega) fun w11 hc11 hS11=>⟨rfl,hc11.keep fun b hb hn=>hn (h7 b hb).1,?_⟩
 have hE11:=S.ext _ _ _ hS11;refine(po hE11 _ _ h24).sl.get (v:=aa ((bf i kx).getD 0 0)) (by omega) (by rw[aG,h23]) (bz (by omega)) fun a4 ha4=>⟨_,ha4,?_⟩
 refine bo (by omega) (by omega) rfl ?_
 simp only[I_,af,J_,L_];have hC11:=h3.chg hc11 fun hn=>hn h6;refine⟨⟨_,hC11.cell (i:=i) (bz (by rw[hlen2];exact hlt2))⟩,hC11.frozen _,hk510,?_⟩
 have g1:=hC11.set1 (off:=i) (v:=aa ((bf i kx).getD 0 0)) (by rw[aG,hlen2];exact hlt2)
 have g2:=Chg.setCells w11 ⟨k5,i,none⟩ [aa ((bf i kx).getD 0 0)] 0;rw[ai (x:=(x:Int)+1)];refine⟨⟨x+1,rfl,hlt4,?_⟩,by show((hU sub i:Int)-((x:Int)+1)).toNat<((hU sub i:Int)-x).toNat;omega⟩
 refine⟨Nw A' w11 (ab w11 ⟨k5,i,none⟩ [aa ((bf i kx).getD 0 0)] 0),fun b hb=>.inl (h1 b hb),?_,?_,(h4.chg hc11 fun b hb hl hn=>hn (h1 b (.inr hb))).chg g2 fun b hb hl hn=>?_,.inl h6,fun b hb=>⟨.inl (h7 b hb).1,(h7 b hb).2⟩,?_⟩
 ·rw[hsnoc]
  exact S.stp A' _ w11 _ _ hS11 g2 fun b hb hl=>by have hb:b=k5:=hb;rw[hb];exact⟨h6,by omega⟩
 ·rw[hsnoc]
  have e:ii ((bh bl (O_ (mU sub) 0) (cW W sub n i y x)).2.set i ((bl i kx).getD 0 0))=(ii (bh bl (O_ (mU sub) 0) (cW W sub n i y x)).2).set i (aa ((bf i kx).getD 0 0)):=by
   rw[hblv,gM (by omega),K4]
   simp[ii,List.map_set]
  rw[e];exact g1
 ·have hn:b=k5:=hn
  rw[hn]at hb;exact hZ5 hb
 ·refine(h8.trans hc11 fun b hn hl ha=>hn (h1 b (.inl ha))).trans g2 fun b hb hl ha=>?_
  have hb:b=k5:=hb;omega
def bX(W H sub n:Nat):List Int:=[8,((H/256:Nat):Int),((H%256:Nat):Int),((W/256:Nat):Int),((W%256:Nat):Int),((mU sub:Nat):Int)]++(M_ n).flatMap fun i=>[((i+1:Nat):Int),((17*hU sub i:Nat):Int),((i:Nat):Int)]
def bH(sub n:Nat):List Int:=[((mU sub:Nat):Int)]++(M_ n).flatMap fun i=>[((i+1:Nat):Int),0]
def fK(q:Nat->List Int)(i:Nat):List Int:=((i:Nat):Int)::zz (q i)
def jT(q:Nat->List Int)(n:Nat):List Int:=[255,216]++(M_ n).flatMap fun i=>b9 219 (fK q i)
def iM(s:List Int×Nat):List Int:=if 0<s.2%8 then jQ true s.1 s.2 255 (8-s.2%8) (8-s.2%8)else s.1
def b6(L0 L1:List Nat)(l:List (Nat×bb)):List Int:=iM (cT true (bn L0 L1 l) ([],0))
def ll(W H sub:Nat)(q:Nat->List Int)(L0 L1:List Nat)(l:List (Nat×bb)):List Int:=
 jT q (mU sub)++b9 192 (bX W H sub (mU sub))++b9 196 (dL 0 L0)++b9 196 (dL 1 L1)++b9 218 (bH sub (mU sub)++[0,63,0])++be (b6 L0 L1 l)++[255,217]
theorem zP(W H sub n:Nat):bX W H sub (n+1)=bX W H sub n++[((n+1:Nat):Int),((17*hU sub n:Nat):Int),((n:Nat):Int)]:=by simp[bX,l_]
theorem C5(sub n:Nat):bH sub (n+1)=bH sub n++[((n+1:Nat):Int),0]:=by simp[bH,l_]
theorem wV(q:Nat->List Int)(n:Nat):jT q (n+1)=jT q n++b9 219 (fK q n):=by simp[jT,l_]
theorem jC(W H sub:Nat):∀n,(bX W H sub n).length=6+3*n
 |0=>by simp[bX]
 |n+1=>by rw[zP,N_,jC W H sub n];simp;omega
theorem nG(sub:Nat):∀n,(bH sub n).length=1+2*n
 |0=>by simp[bH]
 |n+1=>by rw[C5,N_,nG sub n];simp;omega
theorem ba(m:Int)(d:List Int):(b9 m d).length=4+d.length:=by simp[b9];omega
theorem de(q:Nat->List Int)(i:Nat):(fK q i).length=65:=by simp[fK,gq]
theorem BA(q:Nat->List Int):∀n,(jT q n).length=2+69*n
 |0=>by simp[jT]
 |n+1=>by rw[wV,N_,BA q n,ba,de];omega
theorem F7{t:Nat}(h:bM L):(dL t L).length<=17+4096:=by
 have htl:(aO L 16).length<=16*256:=by have:=mz L 16;rw[h.len]at this;exact this
 unfold dL db;simp;omega
section
variable {w u u' : D_} {f : Nat -> Nat} {L : List Nat} {k3 : Nat} {op : Option F_} {oc : Nat} {ovs : List Int} {rest : List Tg}
theorem bP.app{t:Tg}{m:List (Nat×Nat×List E_)}{bytes:Nat}{elem:TypeId}
 (h:bP w u f L k3 op oc ovs (t::rest))(hd:∀t',t'∈rest->t'.c≠t.c)(hm:∀b,b∈am m->b∈L)(hz:zero.length=t.sz)(hn:fs.length=n*t.sz)
 (hby:(t.len+n)*bytes<=2^47)(h62:t.len+n<2^62)
 (hF:∀base' cap' u',bP w u' (dz f u.heap.size t.c) L k3 op oc ovs (⟨t.c,base',t.len+n,cap',t.sz,t.vs++fs⟩::rest)->(∀i,i≠t.c->fe f (dz f u.heap.size t.c) u u' i)->u.heap.size<=u'.heap.size->F base' (t.len+n) cap' u'):
  ay u m t.p t.len t.cap n t.sz bytes elem zero fs F:=by
 have hc:=h.col t (by simp)
 have hT:fM w u f L (t::⟨1,op,ovs.length,oc,1,Proofs.YtoomejkiagonpaaGreatDoor.bytes ovs⟩::⟨2,some ⟨k3,0,none⟩,1,1,1,[.slice op ovs.length oc]⟩::rest):=h.ths.mono (fun _ h=>h) fun t ht=>by simp at ht⊢;rcases ht with e|e|e|e<;>simp[e]
 refine fM.app2 hT (fun t' ht=>?_) hm hz hn hby h62 fun p c u1 hT1 hK hz1 _=>?_
 ·rcases List.mem_cons.1 ht with rfl|ht
  ·exact fun e=>hc.1 e.symm
  ·rcases List.mem_cons.1 ht with rfl|ht
   ·exact fun e=>hc.2 e.symm
   ·exact hd t' ht
 refine hF p c u1 ⟨hT1.mono (fun _ h=>h) fun t ht=>by simp at ht⊢;rcases ht with e|e|e|e<;>simp[e],fun t' ht=>?_,tt h.low h.ext _⟩ hK hz1
 rcases List.mem_cons.1 ht with rfl|ht
 ·exact hc
 ·exact h.col t' (W_ _ ht)
theorem bP.get{t:Tg}(h:bP w u f L k3 op oc ovs rest)(ht:t∈rest):Th w u f t.c t.p t.len t.cap t.sz t.vs:=(h.ths.th t (W_ _ (W_ _ ht))).2
end
end Go.Proofs.YtoomejkiagonpaaGreatDoor
