/- Coefs: bytes that are taken from the front. -/
import Derived.Test.YtoomejkiagonpaaGreatDoorCP4
import Derived.Test.YtoomejkiagonpaaGreatDoorCP7
import Derived.Test.YtoomejkiagonpaaGreatDoorCP8
set_option linter.unusedVariables false
set_option linter.unusedSimpArgs false
set_option maxRecDepth 100000
set_option maxHeartbeats 4000000
open Go.IntKind renaming i64->A_,u8->B_
open Go renaming World->C_,Value->D_,Addr->E_,IntKind->F_,Calls->G_
open List renaming range->H_,replicate->I_,mem_cons->K_,not_mem_nil->L_,getD_eq_getElem?_getD->M_,length_set->N_,getElem?_eq_getElem->O_,getElem?_set_ne->Q_,length_replicate->S_,length_range->V_,getElem?_set_self->W_,length_append->Z_,getElem?_replicate->a_,getElem?_append_left->b_,set_append_left->c_,getElem?_drop->d_,getElem?_map->e_,mem_append_right->j_,length_cons->k_,getElem?_set->l_,drop_eq_nil_of_le->m_,append_assoc->o_,getElem_mem->p_,append_nil->q_,map_replicate->r_,drop_left'->t_,length_drop->u_,drop_drop->v_,drop_append->w_,mem_cons_of_mem->x_,map_set->y_,replicate_append_replicate->z_,nil_append->B_A,drop_replicate->C_A,countP_cons->D_A,countP_le_length->E_A,getElem?_range->F_A,range_eq_range'->G_A
open Int renaming toNat_natCast->J_
open Nat renaming zero_add->P_,mul_one->Y_,sub_self->f_,add_assoc->n_
open Go.Value renaming iface->R_,string->g_,agg->h_,int->i_,tuple->A_A
open List.cons renaming injEq->T_
open Go.Value.int renaming injEq->U_
open Go.Obj renaming cells->X_
open Option renaming map_some->s_
namespace Go.Proofs.YtoomejkiagonpaaGreatDoor
open Go Go.Vc Go.RowKit Go.Qn
variable {w u u' : C_} {R : Ending -> C_ -> Prop} {n i b k N m W H j s d off : Nat} {vs T fs zero : List D_} {p q : Option E_} {v : D_} {xs bs : List Int} {l L X : List Nat} {Z D : Nat -> Prop} {x : Int} {F : Option E_ -> Nat -> Nat -> C_ -> Prop}
theorem aD.from{S:Nat->Prop}{cap:Nat}(h:aD S u p vs)(hc:vs.length<=cap):aD S u (aX p k cap 1) (vs.drop k):=fun j v hj=>by
 rw[d_]at hj;obtain⟨a,rfl,h2,h3⟩:=h (k+j) v hj;have hlt:=(List.getElem?_eq_some_iff.1 hj).1;refine⟨a.add k,?_,by rw[dg];exact h2,?_⟩
 ·unfold aX
  rw[if_neg (by omega),s_,Y_]
 ·rw[E_.add_add];exact h3
theorem aD.pre{S:Nat->Prop}{us:List D_}(h:aD S u p vs)(hp:us <+:vs):aD S u p us:=fun j v hj=>by
 obtain⟨t,rfl⟩:=hp;exact h j v (by rw[b_ (List.getElem?_eq_some_iff.1 hj).1];exact hj)
theorem aS{b:Bool}(hb:b=false)(hR:R (.returned (.tuple #[])) w):G_ P 27 #[.bool b] w R:=by
 subst hb;exact qt _ _ _ (al rfl hR)
theorem dd{b:Bool}(hb:b=false)(hR:R (.returned (.tuple #[])) w):G_ P 71 #[.bool b] w R:=by
 subst hb;exact oU _ _ _ (al rfl hR)
structure bT(Z:Nat->Prop)(u:C_)(k:Nat)(T:List D_)(bs:List Int):Prop where
 obj:∃p c,Cs u k (.slice p bs.length c::T)/\bs.length<=c/\aD Z u p (bytes bs)
 ne:¬Z k
theorem bT.chg{S:Nat->Prop}(h:bT Z u k T bs)(hc:Chg S u u')(hk:¬S k)(hz:∀b,Z b->b<u.heap.size->¬S b):bT Z u' k T bs:=by
 obtain⟨p,c,h1,h2,h3⟩:=h.obj;exact⟨⟨p,c,h1.chg hc hk,h2,h3.chg hc hz⟩,h.ne⟩
theorem bT.ext(h:bT Z u k T bs)(hE:Ext u u'):bT Z u' k T bs:=h.chg (S:=fun _=>False) hE.chg id fun _ _ _=>id
theorem bT.lt(h:bT Z u k T bs):k<u.heap.size:=by
 obtain⟨p,c,h1,_⟩:=h.obj;exact h1.lt
theorem bT.put{cs:List Int}{c:Nat}(h:bT Z u k T bs)(hs:aD Z u p (bytes cs))(hn:n=cs.length)(hc:n<=c):
  (∃v,u.cell? ⟨k,0,none⟩=some v)/\u.frozen? ⟨k,0,none⟩=false/\bT Z (ab u ⟨k,0,none⟩ [.slice p n c] 0) k T cs/\Chg (·=k) u (ab u ⟨k,0,none⟩ [.slice p n c] 0):=by
 obtain⟨p0,c0,h1,h2,h3⟩:=h.obj;have s1:=h1.set1 (off:=0) (v:=.slice p n c) (by simp)
 have c1:=Chg.setCells u ⟨k,0,none⟩ [.slice p n c] 0;subst hn;refine⟨⟨_,h1.cell (i:=0) rfl⟩,h1.frozen 0,⟨⟨p,c,s1,hc,hs.chg c1 fun b hb _ e=>?_⟩,h.ne⟩,c1⟩;have e:b=k:=e;rw[e]at hb;exact h.ne hb
theorem nq(h:bT Z u k T (x::bs))(hx:0<=x/\x<=255)
 (hR:∀u',bT Z u' k T bs->Chg (·=k) u u'->R (.returned (aa x)) u'):G_ P 119 #[.pointer (some ⟨k,0,none⟩)] u R:=by
 refine rR _ _ _ ?_;obtain⟨p,c,h1,h2,h3⟩:=h.obj;simp only[k_]at h1 h2;refine ap rfl ⟨_,_,_,h1.cell (i:=0) rfl,aS (by rw[beq_eq_false_iff_ne];omega) ⟨rfl,ap rfl ⟨_,_,_,h1.cell (i:=0) rfl,?_⟩⟩⟩
 refine h3.sl.get (v:=u8 x) (by omega) (by rw[ar];rfl) rfl fun a ha=>⟨_,ha,ap rfl ⟨_,_,_,h1.cell (i:=0) rfl,?_⟩⟩
 have hf:=h3.from (k:=1) (cap:=c) (by rw[ar,k_];exact h2)
 have e:(bytes (x::bs)).drop 1=bytes bs:=rfl;rw[e]at hf;obtain⟨q1,q2,q3,q4⟩:=h.put (p:=aX p 1 c 1) (n:=bs.length) (c:=c-1) hf rfl (by omega)
 refine⟨by omega,by omega,by omega,ap rfl ⟨q1,q2,?_⟩⟩
 rw[ai (x:=x)];have e2:((bs.length+1:Nat):Int).toNat-(1:Int).toNat=bs.length:=by rw[J_];rfl
 rw[e2];exact hR _ q3 q4
theorem Hi{y:Int}(h:bT Z u k T (x::y::bs))(hx:0<=x/\x<=255)(hy:0<=y/\y<=255)
 (hR:∀u',bT Z u' k T bs->Chg (·=k) u u'->R (.returned (aa (256*x+y))) u'):G_ P 72 #[.pointer (some ⟨k,0,none⟩)] u R:=by
 refine sa _ _ _ ?_;refine nq h hx fun u1 h1 c1=>⟨_,rfl,nq h1 hy fun u2 h2 c2=>⟨_,rfl,?_⟩⟩;have e1:an BinOp.shl A_ x 8=2^8*x:=by
  unfold an;show A_.wrap (x*2^8)=_;rw[ai (by omega) (by omega)];omega
 have e2:=mT (k:=.i64) (i:=8) (a:=x) (b:=y) (by omega) (by show(2:Int)^8*x+y<2^64;omega) (by omega) (by omega)
 rw[e1,e2,ai (by omega) (by omega)]
 exact hR u2 h2 (c1.trans c2 fun b hb _=>hb)
theorem mj(h:bT Z u k T (xs++bs))(hn:n=xs.length)
 (hR:∀p c u',n<=c->aD Z u' p (bytes xs)->bT Z u' k T bs->Chg (·=k) u u'->R (.returned (.slice p n c)) u'):G_ P 73 #[.pointer (some ⟨k,0,none⟩),aa (n:Nat)] u R:=by
 refine qg _ _ _ _ ?_;obtain⟨p,c,h1,h2,h3⟩:=h.obj;rw[Z_]at h1 h2;refine ap rfl ⟨_,_,_,h1.cell (i:=0) rfl,aS (decide_eq_false (by omega)) ⟨rfl,ap rfl ⟨_,_,_,h1.cell (i:=0) rfl,?_⟩⟩⟩
 refine⟨by omega,by omega,by omega,ap rfl ⟨_,_,_,h1.cell (i:=0) rfl,?_⟩⟩
 have hf:=h3.from (k:=n) (cap:=c) (by rw[ar,Z_];exact h2)
 have e:(bytes (xs++bs)).drop n=bytes bs:=by rw[bY,t_ (by rw[ar,hn])]
 rw[e]at hf;obtain⟨q1,q2,q3,q4⟩:=h.put (p:=aX p n c 1) (n:=bs.length) (c:=c-n) hf rfl (by omega)
 refine⟨by omega,by omega,by omega,ap rfl ⟨?_,?_,?_⟩⟩
 ·exact q1
 ·exact q2
 have e0:((n:Nat):Int).toNat-(0:Int).toNat=n:=by rw[J_];rfl
 have e1:((xs.length+bs.length:Nat):Int).toNat-((n:Nat):Int).toNat=bs.length:=by rw[J_,J_];omega
 have e2:c-((n:Nat):Int).toNat=c-n:=by rw[J_]
 have e3:aX p (0:Int).toNat c 1=p:=fP;have e4:aX p ((n:Nat):Int).toNat c 1=aX p n c 1:=by rw[J_]
 rw[e0,e1,e2,e3,e4];refine hR p _ _ (by show n<=c-(0:Int).toNat;have:(0:Int).toNat=0:=rfl;omega) ((h3.pre (by rw[bY];exact List.prefix_append _ _)).chg q4 fun b hb _ e=>?_) q3 q4
 have e:b=k:=e;rw[e]at hb;exact h.ne hb
def cR(k:Nat)(v:C_):Nat:=match v.cell? ⟨k,0,none⟩with|some (.slice _ n _)=>n|_=>0
theorem kJ{c:Nat}{v:C_}(h:Cs v k (.slice p n c::T)):cR k v=n:=by
 unfold cR;rw[h.cell (i:=0) rfl]
theorem Ef{m:Int}(h:bT Z u k T (255::m::bs))(hm:0<=m/\m<255)
 (hR:∀u',bT Z u' k T bs->Chg (·=k) u u'->R (.returned (aa m)) u'):G_ P 28 #[.pointer (some ⟨k,0,none⟩)] u R:=by
 refine ox _ _ _ ?_;have step:∀(v:C_) (x:Int) (cs:List Int),bT Z v k T (x::cs)->∃p c,Cs v k (.slice p (cs.length+1) c::T)/\cs.length+1<=c/\aD Z v p (bytes (x::cs))/\aD Z v (aX p 1 c 1) (bytes cs):=fun v x cs hv=>by
  obtain⟨p,c,h1,h2,h3⟩:=hv.obj;have hf:=h3.from (k:=1) (cap:=c) (by rw[ar];exact h2)
  exact⟨p,c,h1,h2,h3,hf⟩
 have e1:∀n:Nat,((n+1:Nat):Int).toNat-(1:Int).toNat=n:=fun n=>by rw[J_];rfl
 refine⟨fun vs v=>vs=[]/\v=u,?_,fun w3 hI=>?_⟩
 ·obtain⟨p,c,h1,h2,h3,_⟩:=step u 255 (m::bs) h
  refine ap rfl ⟨_,_,_,h1.cell (i:=0) rfl,al (by rw[beq_eq_false_iff_ne];omega) (ap rfl ⟨_,_,_,h1.cell (i:=0) rfl,?_⟩)⟩
  exact h3.sl.get (v:=u8 255) (by omega) (by rw[ar];rfl) rfl fun a ha=>⟨_,ha,aS rfl ⟨rfl,rfl,rfl⟩⟩
 obtain⟨_,rfl⟩:=hI;refine⟨fun vs v=>vs=[]/\bT Z v k T (m::bs)/\Chg (·=k) w3 v,?_,fun w5 hI=>?_⟩
 ·refine⟨fun vs v=>vs=[]/\((bT Z v k T (255::m::bs)/\v=w3)\/(bT Z v k T (m::bs)/\Chg (·=k) w3 v)),fun _ v=>cR k v,⟨rfl,.inl ⟨h,rfl⟩⟩,fun w4 hI=>?_⟩
  obtain⟨_,hI⟩:=hI;rcases hI with⟨h4,rfl⟩|⟨h4,hc4⟩
  ·obtain⟨p,c,h1,h2,h3,hf⟩:=step w4 255 (m::bs) h4
   refine ap rfl ⟨_,_,_,h1.cell (i:=0) rfl,aY (decide_eq_true (by omega)) (ap rfl ⟨_,_,_,h1.cell (i:=0) rfl,?_⟩)⟩
   refine h3.sl.get (v:=u8 255) (by omega) (by rw[ar];rfl) rfl fun a ha=>⟨_,ha,aY rfl (ap rfl ⟨_,_,_,h1.cell (i:=0) rfl,?_⟩)⟩
   obtain⟨q1,q2,q3,q4⟩:=h4.put (p:=aX p 1 c 1) (n:=(m::bs).length) (c:=c-1) hf rfl (by simp at h2⊢;omega)
   refine⟨by omega,by omega,by omega,ap rfl ⟨q1,q2,?_⟩⟩
   rw[e1];refine⟨⟨rfl,.inr ⟨q3,q4⟩⟩,?_⟩;obtain⟨p',c',h1',_⟩:=step _ m bs q3;refine Nat.lt_of_le_of_lt (Nat.le_of_eq (kJ h1')) ?_;show bs.length+1<cR k w4;rw[kJ h1];simp
  ·obtain⟨p,c,h1,h2,h3,hf⟩:=step w4 m bs h4
   refine ap rfl ⟨_,_,_,h1.cell (i:=0) rfl,aY (decide_eq_true (by omega)) (ap rfl ⟨_,_,_,h1.cell (i:=0) rfl,?_⟩)⟩
   exact h3.sl.get (v:=u8 m) (by omega) (by rw[ar];rfl) rfl fun a ha=>⟨_,ha,al (by rw[beq_eq_false_iff_ne];omega) ⟨rfl,h4,hc4⟩⟩
 obtain⟨_,h5,hc5⟩:=hI;obtain⟨p,c,h1,h2,h3,hf⟩:=step w5 m bs h5;refine ap rfl ⟨_,_,_,h1.cell (i:=0) rfl,aS (by rw[beq_eq_false_iff_ne];omega) ⟨rfl,ap rfl ⟨_,_,_,h1.cell (i:=0) rfl,?_⟩⟩⟩
 refine h3.sl.get (v:=u8 m) (by omega) (by rw[ar];rfl) rfl fun a ha=>⟨_,ha,ap rfl ⟨_,_,_,h1.cell (i:=0) rfl,?_⟩⟩
 obtain⟨q1,q2,q3,q4⟩:=h5.put (p:=aX p 1 c 1) (n:=bs.length) (c:=c-1) hf rfl (by omega)
 refine⟨by omega,by omega,by omega,ap rfl ⟨q1,q2,?_⟩⟩
 rw[e1,ai (x:=m)];exact hR _ q3 (hc5.trans q4 fun b hb _=>hb)
structure cZ(D:Nat->Prop)(u:C_)(kc:Nat)(L:List Nat):Prop where
 obj:∃kd vp c,Cs u kc [.pointer (some ⟨kd,0,none⟩),.slice vp (aO L 16).length c]/\mV u kd D (eo L)/\aD D u vp (bytes (db (aO L 16)))
 own:D kc
theorem cZ.chg{T:Nat->Prop}{kc:Nat}(h:cZ D u kc L)(hc:Chg T u u')(hd:∀b,D b->b<u.heap.size->¬T b):cZ D u' kc L:=by
 obtain⟨kd,vp,c,h1,h2,h3⟩:=h.obj;exact⟨⟨kd,vp,c,h1.chg hc (hd kc h.own h1.lt),h2.chg hc hd,h3.chg hc hd⟩,h.own⟩
theorem cZ.mono{E:Nat->Prop}{kc:Nat}(h:cZ D u kc L)(hE:∀b,D b->b<u.heap.size->E b):cZ E u kc L:=by
 obtain⟨kd,vp,c,h1,h2,h3⟩:=h.obj;exact⟨⟨kd,vp,c,h1,h2.mono hE,h3.mono hE⟩,hE kc h.own h1.lt⟩
theorem um(l:List Nat):(db l).length=l.length:=by simp[db]
theorem JK(h:l[i]?=some s):(db l).getD i 0=((s:Nat):Int):=by
 unfold db;rw[M_,e_,h];rfl
theorem uM{S:Nat->Prop}{kr rb kc:Nat}(hr:Cs u kr (.pointer (some ⟨rb,0,none⟩)::T))(hrd:dZ u (some ⟨rb,0,none⟩) rb S bs (k:Nat) true)(hc:cZ D u kc L)(hD:¬D rb)
 (hT:bM L)(hs:s<256)(h1:1<=L.getD s 0)(hre:cS true bs k [(bO L s,L.getD s 0)])
 (hR:∀u',Chg (·=rb) u u'->dZ u' (some ⟨rb,0,none⟩) rb S bs ((k+L.getD s 0:Nat):Int) true->R (.returned (aa (s:Nat))) u'):G_ P 155 #[.pointer (some ⟨kr,0,none⟩),.pointer (some ⟨kc,0,none⟩)] u R:=by
 refine nS _ _ _ _ ?_;obtain⟨kd,vp,c,c1,c2,c3⟩:=hc.obj;obtain⟨hn,hv⟩:=Mb hT hs h1 hre;have hdr:Chg (fun _=>False) u u.drew:=(Ext.refl u).drew.chg;refine ap rfl ⟨_,c1.drew.cell (i:=0) rfl,ap rfl ⟨_,hr.drew.cell (i:=0) rfl,?_⟩⟩;refine K8 (c2.chg hdr fun _ _ _=>id) (hrd.ext (Ext.refl u).drew) (fun b hb e=>hD (by rw[<-e];exact hb)) (fun s' k' w' hn' hc' hr'=>?_) fun e w' he=>?_
 ·rw[hn]at hn'
  cases hn';have hcu:Chg (·=rb) u w':=((Ext.refl u).drew.chg (S:=(·=rb))).trans hc' fun b hb _=>hb;refine⟨_,_,rfl,aS rfl ⟨rfl,ap rfl ⟨_,_,_,(c1.chg hcu fun e=>hD (by rw[<-e];exact hc.own)).cell (i:=1) rfl,?_⟩⟩⟩
  have hlt:=(List.getElem?_eq_some_iff.1 hv).1;have hs3:=c3.chg hcu fun b hb _ e=>hD (by have e:b=rb:=e;rw[<-e];exact hb)
  refine hs3.sl.get (v:=u8 (s:Nat)) (by omega) (by rw[ar,um]) (by rw[J_,fh (by rw[um];exact hlt),JK hv]) fun a ha=>⟨_,ha,?_⟩
  rw[ai (x:=((s:Nat):Int))];exact hR w' hcu hr'
 ·rw[hn]at he;cases he
theorem xY{S:Nat->Prop}{kr rb:Nat}{v:Int}(hr:Cs u kr (.pointer (some ⟨rb,0,none⟩)::T))(hrd:dZ u (some ⟨rb,0,none⟩) rb S bs (k:Nat) true)
 (hs:aE v<=11)(hre:cS true bs k [(dt v,aE v)])
 (hR:∀u',Chg (·=rb) u u'->dZ u' (some ⟨rb,0,none⟩) rb S bs ((k+aE v:Nat):Int) true->R (.returned (aa v)) u'):G_ P 156 #[.pointer (some ⟨kr,0,none⟩),aa (aE v:Nat)] u R:=by
 refine nN _ _ _ _ ?_;obtain⟨r1,r2,_⟩:=hre;simp only at r1 r2;refine ap rfl ⟨_,hr.cell (i:=0) rfl,?_⟩;refine ES hrd (fun h=>by omega) (fun _ _ h=>by omega) fun _ _ _ w' hc hr'=>⟨_,_,rfl,aS rfl ⟨rfl,?_⟩⟩
 rw[J_,J_,r2];have hb:=uU v;have hnb:=Na v;have hp:2^aE v<=2^11:=Nat.pow_le_pow_right (by omega) hs
 have hu:A_.wrap ((dt v:Nat):Int)=((dt v:Nat):Int):=wN;have hr'':dZ w' (some ⟨rb,0,none⟩) rb S bs ((k+aE v:Nat):Int) true:=by
  have e:((k+aE v:Nat):Int)=((k:Nat):Int)+((aE v:Nat):Int):=by omega
  rw[e];exact hr'
 have hfin:=hR w' hc hr'';rw[hu];unfold Kr at hnb;refine ak (fun hpos=>?_) fun hz=>?_
 ·have hpos:0<aE v:=by have:=of_decide_eq_true hpos;omega
  have e1:A_.wrap (((aE v:Nat):Int)-1)=((aE v-1:Nat):Int):=by rw[ai (by omega) (by omega)];omega
  have e2:an .shr .i64 ((dt v:Nat):Int) ((aE v-1:Nat):Int)=((dt v/2^(aE v-1):Nat):Int):=by
   rw[gm (by omega) (by omega) (by simp[F_.bits];omega),J_,Int.natCast_ediv,Int.natCast_pow];rfl
  rw[e1,e2];refine⟨by omega,ak (fun h0=>?_) fun h0=>?_⟩
  ·have h0:dt v/2^(aE v-1)=0:=by have:((dt v/2^(aE v-1):Nat):Int)=0:=(by simpa using h0);omega
   have hlt:dt v<2^(aE v-1):=by
    rcases Nat.lt_or_ge (dt v) (2^(aE v-1))with g|g
    ·exact g
    ·have:=Nat.div_pos g (Nat.pow_pos (by omega));omega
   rw[if_pos ⟨hpos,hlt⟩]at hnb;have hsl:an .shl .i64 1 ((aE v:Nat):Int)=((2^aE v:Nat):Int):=by
    rw[OA (by omega)];simp
   rw[hsl,ai (x:=((2^aE v:Nat):Int)-1),ai (by omega) (by omega)]
   have e3:((dt v:Nat):Int)-(((2^aE v:Nat):Int)-1)=v:=by
    have:1<=2^aE v:=Nat.pow_pos (by omega)
    omega
   rw[e3];exact⟨by omega,hfin⟩
  ·have h0:dt v/2^(aE v-1)≠0:=fun e=>by rw[e]at h0;simp at h0
   have hlt:¬dt v<2^(aE v-1):=fun g=>h0 (Nat.div_eq_of_lt g);rw[if_neg (fun h=>hlt h.2)]at hnb;rw[hnb];exact hfin
 ·have hz:¬0<aE v:=by have:=of_decide_eq_false hz;omega
  rw[if_neg (fun h=>hz h.1)]at hnb;rw[hnb];exact hfin
def qS(q1 q2:aj)(w:C_)(R:bV):Prop:=
 ((0:Int)<=64)/\((64:Int)<=64)/\((512:Int)<=281474976710656)/\((64:Int)<4611686018427387904)/\∀k1 w1,(aK w (X_ (bg [aa 0] 64) 3) k1 w1)->nn (q2) fun a1=>∃p1,(w1.cell? (a1.add 2)=some (.pointer p1))/\G_ P 155 #[.pointer q1,.pointer p1] w1 fun e1 w2=>∃n1,(e1=.returned (aa n1))/\G_ P 27 #[.bool (decide (n1>11))] w2 fun e2 w3=>(e2=.returned (.tuple #[]))/\∃I1:aw,(nn (q2) fun a2=>(∃n2,(w3.drew.cell? (a2.add 4)=some (aa n2))/\G_ P 156 #[.pointer q1,aa n1] (w3.drew) fun e3 w4=>∃n3,(e3=.returned (aa n3))/\nn (q2) fun a3=>aI w4 (a3.add 4) [aa (A_.wrap (n2+n3))] fun u1=>I1 [] u1)/\G_ P 156 #[.pointer q1,aa n1] (w3.drew) fun e4 w5=>∃n4,(e4=.returned (aa n4))/\∃n5,(w5.cell? (a2.add 4)=some (aa n5))/\nn (q2) fun a4=>aI w5 (a4.add 4) [aa (A_.wrap (n5+n4))] fun u2=>I1 [] u2)/\∀w6,(I1 [] w6)->nn (q2) fun a5=>∃n6,(w6.cell? (a5.add 4)=some (aa n6))/\aq (aH k1) (64) (0) (1) fun a6=>aI w6 a6 [aa n6] fun u3=>∃I2:aw,(aq (aH k1) (64) (0) (1) fun a7=>∃n7,(u3.cell? a7=some (aa n7))/\ae (decide (n7 < -1024)) (G_ P 27 #[.bool true] u3 fun e5 w7=>(e5=.returned (.tuple #[]))/\I2 [] w7) (aq (aH k1) (64) (0) (1) fun a8=>∃n8,(u3.cell? a8=some (aa n8))/\G_ P 27 #[.bool (decide (n8>1023))] u3 fun e6 w8=>(e6=.returned (.tuple #[]))/\I2 [] w8))/\∀w9,(I2 [] w9)->∃I3:aw,(∃I4:aw,∃m1:List D_->C_->Nat,(I4 [aa 1] w9)/\∀n9 w10,(I4 [aa n9] w10)->ae (decide (n9<64)) (∃I5:aw,(nn (q2) fun a9=>∃p2,(w10.cell? (a9.add 3)=some (.pointer p2))/\G_ P 155 #[.pointer q1,.pointer p2] w10 fun e7 w11=>∃n10,(e7=.returned (aa n10))/\ae (n10==0) (I3 [] w11) (ae (A_.wrap (aR .and .i64 n10 15)==0) (G_ P 27 #[.bool (an .shr .i64 n10 4 !=15||decide (A_.wrap (n9+an .shr .i64 n10 4)>62))] w11 fun e8 w12=>(e8=.returned (.tuple #[]))/\I5 [aa (A_.wrap (n9+an .shr .i64 n10 4))] w12) (G_ P 27 #[.bool (decide (A_.wrap (n9+an .shr .i64 n10 4)>63)||decide (A_.wrap (aR .and .i64 n10 15)>10))] w11 fun e9 w13=>(e9=.returned (.tuple #[]))/\nn (q1) fun a10=>(∃p3:aj,∃k2 k3,(w13.drew.cell? (a10.add 1)=some (.slice p3 k2 k3))/\aq (p3) (k2) (A_.wrap (n9+an .shr .i64 n10 4)) (1) fun a11=>(∃n11,(w13.drew.cell? a11=some (aa n11))/\G_ P 156 #[.pointer q1,aa (A_.wrap (aR .and .i64 n10 15))] (w13.drew) fun e10 w14=>∃n12,(e10=.returned (aa n12))/\aq (aH k1) (64) (n11) (1) fun a12=>aI w14 a12 [aa n12] fun u4=>I5 [aa (A_.wrap (n9+an .shr .i64 n10 4))] u4)/\G_ P 156 #[.pointer q1,aa (A_.wrap (aR .and .i64 n10 15))] (w13.drew) fun e11 w15=>∃n13,(e11=.returned (aa n13))/\∃n14,(w15.cell? a11=some (aa n14))/\aq (aH k1) (64) (n14) (1) fun a13=>aI w15 a13 [aa n13] fun u5=>I5 [aa (A_.wrap (n9+an .shr .i64 n10 4))] u5)/\G_ P 156 #[.pointer q1,aa (A_.wrap (aR .and .i64 n10 15))] (w13.drew) fun e12 w16=>∃n15,(e12=.returned (aa n15))/\∃p4 k4 k5,(w16.cell? (a10.add 1)=some (.slice p4 k4 k5))/\aq (p4) (k4) (A_.wrap (n9+an .shr .i64 n10 4)) (1) fun a14=>∃n16,(w16.cell? a14=some (aa n16))/\aq (aH k1) (64) (n16) (1) fun a15=>aI w16 a15 [aa n15] fun u6=>I5 [aa (A_.wrap (n9+an .shr .i64 n10 4))] u6)))/\∀n17 w17,(I5 [aa n17] w17)->(I4 [aa (A_.wrap (n17+1))] w17)/\m1 [aa (A_.wrap (n17+1))] w17<m1 [aa n9] w10) (I3 [] w10))/\∀w18,(I3 [] w18)->R (.returned (.slice (aH k1) 64 64)) w18
theorem oh(q1 q2:aj)(w:C_)(R:bV)(h:qS q1 q2 w R):G_ P 128 #[.pointer q1,.pointer q2] w R:=
  aF (ac:=qH) Tryz.func128 h
theorem F3:∀s,s<256->A_.wrap (aR .and .i64 ((s:Nat):Int) 15)=((s%16:Nat):Int):=by decide+kernel
theorem F5:∀s,s<256->an .shr .i64 ((s:Nat):Int) 4=((s/16:Nat):Int):=by decide+kernel
def ky(b c:List Int)(n:Nat):Prop:=c.length=64/\∀i,i<64->c.getD (bD i) 0=if i<n then b.getD (bD i) 0 else 0
theorem ky.done{b c:List Int}(h:ky b c 64)(hb:b.length=64):c=b:=by
 refine List.ext_getElem (by rw[h.1,hb]) fun j h1 h2=>?_
 obtain⟨i,hi,e⟩:=LH j (by omega)
 have:=h.2 i hi;rw[if_pos hi,e,M_,O_ h1,M_,O_ h2]at this;exact this
theorem ky.more{b c:List Int}(h:ky b c n)(hm:n<=m)(hz:∀i,n<=i->i<m->i<64->b.getD (bD i) 0=0):ky b c m:=⟨h.1,fun i hi=>by
 rw[h.2 i hi];by_cases h1:i<n
 ·rw[if_pos h1,if_pos (by omega)]
 ·rw[if_neg h1]
  by_cases h2:i<m
  ·rw[if_pos h2,hz i (by omega) h2 hi]
  ·rw[if_neg h2]⟩
theorem ky.set{b c:List Int}(h:ky b c n)(hn:n<64):ky b (c.set (bD n) (b.getD (bD n) 0)) (n+1):=⟨by rw[N_];exact h.1,fun i hi=>by
 have hzl:=o9 hn;rw[M_,l_];by_cases e:bD n=bD i
 ·have:=Ga n hn i hi e
  subst this;rw[if_pos rfl,if_pos (by rw[h.1];exact hzl),if_pos (by omega)];rfl
 ·rw[if_neg e,<-M_,h.2 i hi]
  have hne:i≠n:=fun e2=>e (by rw[e2])
  by_cases h1:i<n
  ·rw[if_pos h1,if_pos (by omega)]
  ·rw[if_neg h1,if_neg (by omega)]⟩
theorem My{b:List Int}{t:List Int}(h:(zz b).drop n=I_ m 0++x::t):n+m<64/\(∀i,n<=i->i<n+m->b.getD (bD i) 0=0)/\b.getD (bD (n+m)) 0=x/\(zz b).drop (n+m+1)=t:=by
 have hl:(zz b).length-n=m+1+t.length:=by
  have:=congrArg List.length h;rw[u_,Z_,S_,k_]at this;omega
 rw[gq]at hl;have hget:∀j,(zz b)[n+j]?=(I_ m 0++x::t)[j]?:=fun j=>by rw[<-h,d_]
 refine⟨by omega,fun i h1 h2=>?_,?_,?_⟩
 ·have g:=hget (i-n)
  rw[show n+(i-n)=i by omega,b_ (by rw[S_];omega),a_,if_pos (by omega)]at g
  have:=gM (l:=b) (n:=i) (by omega)
  rw[M_,g]at this;exact this.symm
 ·have g:=hget m
  rw[List.getElem?_append_right (by rw[S_];exact Nat.le_refl _),S_,f_]at g
  have:=gM (l:=b) (n:=n+m) (by omega)
  rw[M_,g]at this;exact this.symm
 ·rw[show n+m+1=n+(m+1) by omega,<-v_,h,w_,S_,m_ (by rw[S_];omega),show m+1-m=1 by omega];rfl
theorem aD.getB{S:Nat->Prop}{base:Option E_}(h:aD S w base vs){len:Nat}(hl:vs.length=len)(hv:vs[i]?=some v){F:E_->Prop}
 (hF:∀a:E_,S a.block->w.cell? a=some v->F a):aq base len (i:Nat) 1 F:=by
 obtain⟨a,rfl,h2,h3⟩:=h i v hv;have hlt:=(List.getElem?_eq_some_iff.1 hv).1;refine bo (by omega) (by omega) rfl ?_
 rw[J_,Y_];exact hF _ (by rw[dg];exact h2) h3
theorem Lc{kr kp rb o kd0 kd1 zc:Nat}{S:Nat->Prop}{L0 L1:List Nat}{PC:List D_}{zp:Option E_}{b:List Int}{ah:Int}
 (hr:Cs u kr [.pointer (some ⟨rb,0,none⟩),.slice zp 64 zc])(hz:aD D u zp (ii eG))(hrd:dZ u (some ⟨rb,0,none⟩) rb S bs (k:Nat) true)(hp:Cs u kp PC)
 (hdc:PC[o+2]?=some (.pointer (some ⟨kd0,0,none⟩)))(hac:PC[o+3]?=some (.pointer (some ⟨kd1,0,none⟩)))(hah:PC[o+4]?=some (aa ah))(hc0:cZ D u kd0 L0)(hc1:cZ D u kd1 L1)
 (hDrb:¬D rb)(hDkp:¬D kp)(n1:kr≠rb)(n2:kr≠kp)(n3:rb≠kp)(hSkp:¬S kp)(hSlt:∀x,S x->x<u.heap.size)(hT0:bM L0)(hT1:bM L1)
 (hbl:b.length=64)(ha: -1024<=ah/\ah<=1023)(h0: -1024<=b.getD 0 0/\b.getD 0 0<=1023)(h1:∀j,1<=j-> -1023<=b.getD j 0/\b.getD j 0<=1023)
 (hcov:∀x,x∈(0,(fw ah (zz b)).1)::(fw ah (zz b)).2.map (fun y=>(1,y))->1<=(if x.1=0 then L0 else L1).getD x.2.1 0)
 (hre:cS true bs k (bn L0 L1 ((0,(fw ah (zz b)).1)::(fw ah (zz b)).2.map (fun y=>(1,y)))))
 (hR:∀k1 u',u.heap.size<=k1->Cs u' k1 (ii b)->Chg (fun x=>x=rb\/x=kp) u u'->Cs u' kp (PC.set (o+4) (aa (b.getD 0 0)))->
 dZ u' (some ⟨rb,0,none⟩) rb S bs ((k+bA (bn L0 L1 ((0,(fw ah (zz b)).1)::(fw ah (zz b)).2.map (fun y=>(1,y)))):Nat):Int) true->R (.returned (.slice (some ⟨k1,0,none⟩) 64 64)) u'):
  G_ P 128 #[.pointer (some ⟨kr,0,none⟩),.pointer (some ⟨kp,o,none⟩)] u R:=by
 refine oh _ _ _ _ ⟨by omega,by omega,by omega,by omega,?_⟩
 intro k1 w1 hn1;have e1:=hn1.1;have hz0:(zz b).getD 0 0=b.getD 0 0:=by rw[gM (by omega)];rfl
 have hzl:=gq b;have hac2:(fw ah (zz b)).2=cJ ((zz b).drop 1) 0:=rfl;have hdcE:(fw ah (zz b)).1=(aE (b.getD 0 0-ah),dt (b.getD 0 0-ah),aE (b.getD 0 0-ah)):=by unfold fw;rw[hz0]
 rw[hac2,hdcE]at hcov hre hR;have hsz:=Dn h0.1 h0.2 ha.1 ha.2;have hsplit:∀(t:Nat) (y:bb) (l:List (Nat×bb)),bn L0 L1 ((t,y)::l)=[(bO (if t=0 then L0 else L1) y.1,(if t=0 then L0 else L1).getD y.1 0)]++([(y.2.1,y.2.2)]++bn L0 L1 l):=fun t y l=>by simp[bn,xR]
 generalize hd:b.getD 0 0-ah=d at*;have hcd:=hcov (0,(aE d,dt d,aE d)) (by simp)
 simp only[if_true]at hcd;rw[hsplit]at hre;simp only[if_true]at hre;obtain⟨re1,re2⟩:=cS.app hre;obtain⟨re2,re3⟩:=cS.app re2;have hb1:bA [(bO L0 (aE d),L0.getD (aE d) 0)]=L0.getD (aE d) 0:=by simp[bA]
 have hb2:bA [(dt d,aE d)]=aE d:=by simp[bA]
 rw[hb1]at re2 re3;rw[hb2]at re3;have htot:bA (bn L0 L1 ((0,(aE d,dt d,aE d))::(cJ ((zz b).drop 1) 0).map (fun y=>(1,y))))=L0.getD (aE d) 0+aE d+bA (bn L0 L1 ((cJ ((zz b).drop 1) 0).map (fun y=>(1,y)))):=by
  rw[hsplit];simp only[if_true];rw[gZ,gZ,hb1,hb2];omega
 rw[htot]at hR;have hW:∀v,Chg (fun x=>x=rb\/x=kp) u v->Cs v kr [.pointer (some ⟨rb,0,none⟩),.slice zp 64 zc]/\aD D v zp (ii eG)/\cZ D v kd0 L0/\cZ D v kd1 L1:=fun v hc=>by
  have hd:∀x,D x->x<u.heap.size->¬(x=rb\/x=kp):=fun x hx _ e=>by
   rcases e with e|e
   ·exact hDrb (by rw[<-e];exact hx)
   ·exact hDkp (by rw[<-e];exact hx)
  exact⟨hr.chg hc (by omega),hz.chg hc hd,hc0.chg hc hd,hc1.chg hc hd⟩
 have hc01:Chg (fun x=>x=rb\/x=kp) u w1:=hn1.ext.chg;have hZ1:Cs w1 k1 (I_ 64 (aa 0)):=aK.zeros hn1;have hk1:u.heap.size<=k1:=by omega
 have hrbl:rb<u.heap.size:=by obtain⟨_,_,q,_⟩:=hrd.obj;exact q.lt
 have hkpl:=hp.lt;have hol:o+4<PC.length:=(List.getElem?_eq_some_iff.1 hah).1;obtain⟨r1,z1,c10,c11⟩:=hW w1 hc01;have hrd1:=hrd.ext hn1.ext;have hp1:=hp.ext hn1.ext;refine ap rfl ⟨some ⟨kd0,0,none⟩,by rw[af];exact hp1.cell hdc,?_⟩
 refine uM r1 hrd1 c10 hDrb hT0 (by omega) hcd re1 fun w2 hc2 hr2=>⟨_,rfl,aS (decide_eq_false (by omega)) ⟨rfl,?_⟩⟩
 have hc02:Chg (fun x=>x=rb\/x=kp) u w2:=hc01.trans hc2 fun x hx _=>.inl hx;obtain⟨r2,z2,c20,c21⟩:=hW w2 hc02;have hp2:=hp1.chg hc2 (fun e=>n3 e.symm);have hZ2:=hZ1.chg hc2 (show k1≠rb by omega)
 have hsum:ah+d=b.getD 0 0:=by omega
 refine⟨fun vs v=>vs=[]/\Chg (fun x=>x=rb\/x=kp) u v/\Cs v kp (PC.set (o+4) (aa (b.getD 0 0)))/\dZ v (some ⟨rb,0,none⟩) rb S bs ((k+(L0.getD (aE d) 0+aE d):Nat):Int) true/\Cs v k1 (I_ 64 (aa 0)),ap rfl ⟨?_,?_⟩,fun w6 hI=>?_⟩
 ·have hd2:=(Ext.refl w2).drew
  refine⟨ah,by rw[af];exact(hp2.ext hd2).cell hah,?_⟩
  refine xY (r2.ext hd2) (hr2.ext hd2) (by omega) (by exact re2) fun w4 hc4 hr4=>⟨_,rfl,ap rfl ?_⟩
  have hc24:Chg (·=rb) w2 w4:=(hd2.chg (S:=(·=rb))).trans hc4 fun x hx _=>hx;have hp4:=hp2.chg hc24 (fun e=>n3 e.symm);rw[af,hsum,ai (x:=b.getD 0 0)];have c5:=Chg.setCells w4 ⟨kp,o+4,none⟩ [aa (b.getD 0 0)] 0;refine⟨⟨_,hp4.cell hah⟩,hp4.frozen _,rfl,(hc02.trans hc24 fun x hx _=>.inl hx).trans c5 fun x hx _=>.inr hx,hp4.set1 hol,?_,?_⟩
  ·have:=hr4.chg c5 (show¬rb=kp from n3) (fun x hx _ e=>hSkp (by have e:x=kp:=e;rw[<-e];exact hx))
   rw[<-n_];exact this
  ·exact(hZ2.chg hc24 (show k1≠rb by omega)).chg c5 (show k1≠kp by omega)
 ·have hd2:=(Ext.refl w2).drew
  refine xY (r2.ext hd2) (hr2.ext hd2) (by omega) (by exact re2) fun w4 hc4 hr4=>⟨_,rfl,ah,?_,ap rfl ?_⟩
  ·rw[af]
   exact((hp2.ext hd2).chg hc4 (fun e=>n3 e.symm)).cell hah
  have hc24:Chg (·=rb) w2 w4:=(hd2.chg (S:=(·=rb))).trans hc4 fun x hx _=>hx;have hp4:=hp2.chg hc24 (fun e=>n3 e.symm);rw[af,hsum,ai (x:=b.getD 0 0)];have c5:=Chg.setCells w4 ⟨kp,o+4,none⟩ [aa (b.getD 0 0)] 0;refine⟨⟨_,hp4.cell hah⟩,hp4.frozen _,rfl,(hc02.trans hc24 fun x hx _=>.inl hx).trans c5 fun x hx _=>.inr hx,hp4.set1 hol,?_,?_⟩
  ·have:=hr4.chg c5 (show¬rb=kp from n3) (fun x hx _ e=>hSkp (by have e:x=kp:=e;rw[<-e];exact hx))
   rw[<-n_];exact this
  ·exact(hZ2.chg hc24 (show k1≠rb by omega)).chg c5 (show k1≠kp by omega)
 obtain⟨_,hc6,hp6,hr6,hZ6⟩:=hI;clear r1 z1 c10 c11 r2 z2 c20 c21 hp2 hZ2 hc02 hr2 hc2 hp1 hrd1 hZ1 hn1 hc01 re1 re2 hre;have hpg:(PC.set (o+4) (aa (b.getD 0 0)))[o+4]?=some (aa (b.getD 0 0)):=by rw[l_,if_pos rfl,if_pos hol]
 refine ap rfl ⟨b.getD 0 0,by rw[af];exact hp6.cell hpg,?_⟩
 refine bo (by omega) (by omega) rfl ?_
 rw[af,show(0+(0:Int).toNat*1)=0 from rfl]
 have s6:=hZ6.set1 (off:=0) (v:=aa (b.getD 0 0)) (by simp)
 have c6:=Chg.setCells w6 ⟨k1,0,none⟩ [aa (b.getD 0 0)] 0;refine⟨⟨aa 0,hZ6.cell (i:=0) rfl⟩,hZ6.frozen 0,?_⟩;generalize ab w6 ⟨k1,0,none⟩ [aa (b.getD 0 0)] 0=v6 at*;have hc7:Chg (fun x=>x=rb\/x=kp) u v6:=hc6.trans c6 fun x hx hl=>by
  have hx:x=k1:=hx;omega
 have hp7:=hp6.chg c6 (show kp≠k1 by omega)
 have hr7:=hr6.chg c6 (show¬rb=k1 by omega) (fun x hx hl e=>by
  have e:x=k1:=e;have:=hSlt x hx;omega)
 have hF1:∃c,(I_ 64 (aa 0)).set 0 (aa (b.getD 0 0))=ii c/\ky b c 1:=by
  refine⟨(I_ 64 (0:Int)).set 0 (b.getD 0 0),?_,?_⟩
  ·simp[ii]
  ·have h00:ky b (I_ 64 0) 0:=⟨by simp,fun i hi=>by
    rw[if_neg (by omega),M_,a_]
    split<;>rfl⟩
   have:=h00.set (n:=0) (by omega)
   exact this
 obtain⟨c1,hce,hF1⟩:=hF1;rw[hce]at s6;refine⟨fun vs v=>vs=[]/\v=v6,?_,fun w9 hI=>?_⟩
 ·have g0:(ii c1)[0]?=some (aa (b.getD 0 0)):=by rw[<-hce];rfl
  refine bo (by omega) (by omega) rfl ?_
  rw[af,show(0+(0:Int).toNat*1)=0 from rfl]
  refine⟨_,s6.cell g0,al (decide_eq_false (by omega)) ?_⟩
  refine bo (by omega) (by omega) rfl ?_
  rw[af,show(0+(0:Int).toNat*1)=0 from rfl]
  exact⟨_,s6.cell g0,aS (decide_eq_false (by omega)) ⟨rfl,rfl,rfl⟩⟩
 obtain⟨_,rfl⟩:=hI
 let rest:Nat->List (Nat×bb):=fun n=>(cJ ((zz b).drop n) 0).map fun y=>(1,y)
 have hEok:∀n,1<=n->∀y,y∈cJ ((zz b).drop n) 0->gj (1,y):=fun n hn=>wJ _ _ fun x hx=>by
  obtain⟨j,hj⟩:=List.getElem?_of_mem hx;rw[d_]at hj;have hlt:=(List.getElem?_eq_some_iff.1 hj).1;rw[gq]at hlt;have e:x=(zz b).getD (n+j) 0:=by rw[M_,hj];rfl
  rw[e,gM (by omega)]
  exact h1 _ (pE (by omega) (by omega))
 refine⟨fun vs v=>vs=[]/\Chg (fun x=>x=rb\/x=kp) u v/\Cs v kp (PC.set (o+4) (aa (b.getD 0 0)))/\dZ v (some ⟨rb,0,none⟩) rb S bs ((k+(L0.getD (aE d) 0+aE d+bA (bn L0 L1 (rest 1))):Nat):Int) true/\Cs v k1 (ii b),?_,fun w18 hI=>?_⟩
 rotate_left
 ·obtain⟨_,q1,q2,q3,q4⟩:=hI
  exact hR k1 w18 hk1 q4 q1 q2 q3
 refine⟨fun vs v=>∃(n kk:Nat) (c:List Int),vs=[aa (n:Nat)]/\1<=n/\n<=64/\Chg (fun x=>x=rb\/x=kp) u v/\Cs v kp (PC.set (o+4) (aa (b.getD 0 0)))/\dZ v (some ⟨rb,0,none⟩) rb S bs (kk:Nat) true/\Cs v k1 (ii c)/\ky b c n/\
   cS true bs kk (bn L0 L1 (rest n))/\kk+bA (bn L0 L1 (rest n))=k+(L0.getD (aE d) 0+aE d+bA (bn L0 L1 (rest 1)))/\(∀y,y∈cJ ((zz b).drop n) 0->1<=L1.getD y.1 0),
  fun vs _=>match vs with|[.int _ n]=>(64-n:Int).toNat|_=>0,⟨1,k+(L0.getD (aE d) 0+aE d),c1,rfl,by omega,by omega,hc7,hp7,hr7,s6,hF1,by rw[<-n_];exact re3,by omega,fun y hy=>?_⟩,fun n9 w10 hI=>?_⟩
 ·have:=hcov (1,y) (x_ _ (List.mem_map_of_mem hy))
  rwa[if_neg (by show¬(1:Nat)=0;omega)]at this
 clear hc6 hp6 hr6 hZ6 s6 c6 hc7 hp7 hr7 hF1 re3;obtain⟨n,kk,c,hv,hn1,hn,hc10,hp10,hr10,hC10,hF10,hRe,hbt,hcv⟩:=hI;obtain rfl:n9=(n:Nat):=by simpa using hv
 refine ak (fun hlt=>?_) fun hge=>?_
 rotate_left
 ·have hge:n=64:=by have:=of_decide_eq_false hge;omega
  subst hge;have hd0:(zz b).drop 64=[]:=m_ (by omega)
  have hr0:rest 64=[]:=by show(cJ ((zz b).drop 64) 0).map _=[];rw[hd0];rfl
  rw[hr0]at hbt;have hb0:bA (bn L0 L1 [])=0:=by simp[bn,bA]
  rw[hb0,Nat.add_zero]at hbt;rw[hF10.done hbl]at hC10;exact⟨rfl,hc10,hp10,by rw[<-hbt];exact hr10,hC10⟩
 have hlt:n<64:=by have:=of_decide_eq_true hlt;omega
 obtain⟨r10,z10,_,c11⟩:=hW w10 hc10;have hpa:(PC.set (o+4) (aa (b.getD 0 0)))[o+3]?=some (.pointer (some ⟨kd1,0,none⟩)):=by rw[l_,if_neg (by omega)];exact hac
 have hsplit1:∀(y:bb) (l:List bb),bn L0 L1 ((y::l).map fun y=>((1:Nat),y))=[(bO L1 y.1,L1.getD y.1 0)]++([(y.2.1,y.2.2)]++bn L0 L1 (l.map fun y=>(1,y))):=fun y l=>by simp[bn,xR]
 refine⟨fun vs v=>∃(m kk:Nat) (c:List Int),vs=[aa (m:Nat)]/\n<=m/\m<64/\Chg (fun x=>x=rb\/x=kp) u v/\Cs v kp (PC.set (o+4) (aa (b.getD 0 0)))/\dZ v (some ⟨rb,0,none⟩) rb S bs (kk:Nat) true/\Cs v k1 (ii c)/\ky b c (m+1)/\
   cS true bs kk (bn L0 L1 (rest (m+1)))/\kk+bA (bn L0 L1 (rest (m+1)))=k+(L0.getD (aE d) 0+aE d+bA (bn L0 L1 (rest 1)))/\(∀y,y∈cJ ((zz b).drop (m+1)) 0->1<=L1.getD y.1 0),?_,fun n17 w17 hI=>?_⟩
 rotate_left
 ·obtain⟨m,kk,c,hv,hm1,hm,q1,q2,q3,q4,q5,q6,q7,q8⟩:=hI
  obtain rfl:n17=(m:Nat):=by simpa using hv
  rw[ai (x:=(m:Int)+1)];exact⟨⟨m+1,kk,c,rfl,by omega,hm,q1,q2,q3,q4,q5,q6,q7,q8⟩,by show((64:Int)-((m:Int)+1)).toNat<((64:Int)-n).toNat;omega⟩
 refine ap rfl ⟨some ⟨kd1,0,none⟩,by rw[af];exact hp10.cell hpa,?_⟩
 have hrest:rest n=(cJ ((zz b).drop n) 0).map fun y=>(1,y):=rfl;have hEn:=hEok n hn1;have hmore:∀(y:bb) (l:List bb),cJ ((zz b).drop n) 0=y::l->cS true bs kk [(bO L1 y.1,L1.getD y.1 0)]/\cS true bs (kk+L1.getD y.1 0) [(y.2.1,y.2.2)]/\cS true bs (kk+L1.getD y.1 0+y.2.2) (bn L0 L1 (l.map fun y=>(1,y)))/\bA (bn L0 L1 (rest n))=L1.getD y.1 0+y.2.2+bA (bn L0 L1 (l.map fun y=>(1,y)))/\gj (1,y)/\1<=L1.getD y.1 0:=fun y l e=>by
  have hre':=hRe;rw[hrest,e,hsplit1]at hre';obtain⟨a1,a2⟩:=cS.app hre';obtain⟨a2,a3⟩:=cS.app a2;have e1:bA [(bO L1 y.1,L1.getD y.1 0)]=L1.getD y.1 0:=by simp[bA]
  have e2:bA [(y.2.1,y.2.2)]=y.2.2:=by simp[bA]
  rw[e1]at a2 a3;rw[e2]at a3;refine⟨a1,a2,a3,?_,hEn y (by rw[e];simp),hcv y (by rw[e];simp)⟩
  rw[hrest,e,hsplit1,gZ,gZ,e1,e2];omega
 have hcvt:∀(y:bb) (l:List bb),cJ ((zz b).drop n) 0=y::l->∀z,z∈l->1<=L1.getD z.1 0:=fun y l e z hz=>hcv z (by rw[e];exact x_ _ hz)
 rcases Cm ((zz b).drop n)with⟨m,hm⟩|⟨m,x,t,hx,hm⟩
 ·-- nothing more
  have hml:m=64-n:=by
   have:=congrArg List.length hm;rw[u_,gq,S_]at this;omega
  have he:=Oe (m:=m) (by omega)
  rw[<-hm]at he;obtain⟨a1,a2,a3,a4,a5,a6⟩:=hmore _ _ he;refine uM r10 hr10 c11 hDrb hT1 (by decide) a6 a1 fun w11 hc11 hr11=>⟨_,rfl,aY rfl ?_⟩
  have hb0:bA (bn L0 L1 (([]:List bb).map fun y=>((1:Nat),y)))=0:=by simp[bn,bA]
  rw[hb0]at a4;have hFz:ky b c 64:=hF10.more hn fun i hi1 hi2 hi3=>by
   have g:(zz b)[n+(i-n)]?=(I_ m (0:Int))[i-n]?:=by rw[<-hm,d_]
   rw[show n+(i-n)=i by omega,a_,if_pos (by omega)]at g
   have:=gM (l:=b) (n:=i) hi3;rw[M_,g]at this;exact this.symm
  have hC11:=hC10.chg hc11 (show k1≠rb by omega)
  rw[hFz.done hbl]at hC11;have e3:kk+L1.getD 0 0=k+(L0.getD (aE d) 0+aE d+bA (bn L0 L1 (rest 1))):=by
   have:((0,0,0):bb).2.2=0:=rfl;simp only at a4;omega
  exact⟨rfl,hc10.trans hc11 fun x hx _=>.inl hx,hp10.chg hc11 (fun e=>n3 e.symm),by rw[<-e3];exact hr11,hC11⟩
 ·obtain⟨p1,p2,p3,p4⟩:=My hm
  by_cases h16:m<16
  ·have he:=On (t:=t) h16 hx
   rw[<-hm]at he;obtain⟨a1,a2,a3,a4,a5,a6⟩:=hmore _ _ he;have hxr:=h1 _ (pE p1 (by omega))
   rw[p3]at hxr;have hsx:=DG hxr.1 hxr.2;have hsx1:=((uK x).2 hx).2;refine uM r10 hr10 c11 hDrb hT1 (by show 16*m+aE x<256;omega) a6 a1 fun w11 hc11 hr11=>⟨_,rfl,al ?_ ?_⟩
   ·rw[beq_eq_false_iff_ne]
    show((16*m+aE x:Nat):Int)≠0;omega
   have ea:=F3 (16*m+aE x) (by omega)
   have es:=F5 (16*m+aE x) (by omega)
   have ea2:(16*m+aE x)%16=aE x:=by omega
   have es2:(16*m+aE x)/16=m:=by omega
   rw[ea2]at ea;rw[es2]at es;have ei:A_.wrap (((n:Nat):Int)+((m:Nat):Int))=((n+m:Nat):Int):=by rw[ai (by omega) (by omega)];omega
   have eS:(AQ m x).1=16*m+aE x:=rfl;simp only[eS]at*;rw[ea,es,ei];refine al ?_ (aS ?_ ⟨rfl,?_⟩)
   ·rw[beq_eq_false_iff_ne];omega
   ·rw[decide_eq_false (by omega),decide_eq_false (by omega)];rfl
   have hc10':=hc10.trans hc11 fun x hx _=>.inl hx;obtain⟨r11,z11,_,_⟩:=hW w11 hc10';have hp11:=hp10.chg hc11 (fun e=>n3 e.symm);have hC11:=hC10.chg hc11 (show k1≠rb by omega)
   have hd2:=(Ext.refl w11).drew;have hzin:∀v,Chg (fun x=>x=rb\/x=kp) u v->∀F:E_->Prop,(∀a,D a.block->v.cell? a=some (aa (bD (n+m):Nat))->F a)->aq zp 64 ((n+m:Nat):Int) 1 F:=fun v hv F hF=>
    (hW v hv).2.1.getB (by rw[aG,io]) (by rw[bz (by rw[io];exact p1),qi p1]) hF
   have hzl2:=o9 p1;have num:∀R':Ending->C_->Prop,(∀v,Chg (fun x=>x=rb\/x=kp) u v->Cs v kp (PC.set (o+4) (aa (b.getD 0 0)))->dZ v (some ⟨rb,0,none⟩) rb S bs ((kk+L1.getD (16*m+aE x) 0+aE x:Nat):Int) true->Cs v k1 (ii c)->Chg (·=rb) w11.drew v->R' (.returned (aa x)) v)->G_ P 156 #[.pointer (some ⟨kr,0,none⟩),aa (aE x:Nat)] w11.drew R':=fun R' hR'=>
    xY (r11.ext hd2) (hr11.ext hd2) (by omega) a2 fun v hcv' hrv=>hR' v (hc10'.trans ((hd2.chg (S:=(·=rb))).trans hcv' fun x hx _=>hx) fun x hx _=>.inl hx) ((hp11.ext hd2).chg hcv' (fun e=>n3 e.symm)) hrv ((hC11.ext hd2).chg hcv' (show k1≠rb by omega)) hcv'
   have fin:∀v,Chg (fun x=>x=rb\/x=kp) u v->Cs v kp (PC.set (o+4) (aa (b.getD 0 0)))->dZ v (some ⟨rb,0,none⟩) rb S bs ((kk+L1.getD (16*m+aE x) 0+aE x:Nat):Int) true->Cs v k1 (ii c)->aq (some ⟨k1,0,none⟩) 64 (bD (n+m):Nat) 1 fun a=>(∃v0,v.cell? a=some v0)/\(v.frozen? a=false)/\
     ∃(m' kk:Nat) (c:List Int),[aa ((n+m:Nat):Int)]=[aa (m':Nat)]/\n<=m'/\m'<64/\Chg (fun x=>x=rb\/x=kp) u (ab v a [aa x] 0)/\Cs (ab v a [aa x] 0) kp (PC.set (o+4) (aa (b.getD 0 0)))/\dZ (ab v a [aa x] 0) (some ⟨rb,0,none⟩) rb S bs (kk:Nat) true/\Cs (ab v a [aa x] 0) k1 (ii c)/\ky b c (m'+1)/\
      cS true bs kk (bn L0 L1 (rest (m'+1)))/\kk+bA (bn L0 L1 (rest (m'+1)))=k+(L0.getD (aE d) 0+aE d+bA (bn L0 L1 (rest 1)))/\(∀y,y∈cJ ((zz b).drop (m'+1)) 0->1<=L1.getD y.1 0):=fun v hv1 hv2 hv3 hv4=>by
    refine bo (by omega) (by omega) rfl ?_
    rw[J_,af,P_,Y_];have g0:(ii c)[bD (n+m)]?=some (aa (c.getD (bD (n+m)) 0)):=bz (by rw[hF10.1];exact hzl2)
    have s1:=hv4.set1 (off:=bD (n+m)) (v:=aa x) (by rw[aG,hF10.1];exact hzl2)
    have cc:=Chg.setCells v ⟨k1,bD (n+m),none⟩ [aa x] 0;have hF2:=(hF10.more (m:=n+m) (by omega) fun i hi1 hi2 _=>p2 i hi1 hi2).set p1
    rw[p3]at hF2;have eset:(ii c).set (bD (n+m)) (aa x)=ii (c.set (bD (n+m)) x):=by simp[ii,y_]
    rw[eset]at s1;have erest:rest (n+m+1)=(cJ t 0).map fun y=>(1,y):=by show(cJ ((zz b).drop (n+m+1)) 0).map _=_;rw[p4]
    refine⟨⟨_,hv4.cell g0⟩,hv4.frozen _,n+m,kk+L1.getD (16*m+aE x) 0+aE x,_,rfl,by omega,p1,hv1.trans cc fun x hx hl=>?_,hv2.chg cc (show kp≠k1 by omega),hv3.chg cc (show¬rb=k1 by omega) (fun x hx _ e=>?_),s1,hF2,?_,?_,?_⟩
    ·have hx:x=k1:=hx
     omega
    ·have e:x=k1:=e
     have:=hSlt x hx;omega
    ·rw[erest];exact a3
    ·rw[erest]
     have:(AQ m x).2.2=aE x:=rfl;rw[this]at a4;omega
    ·rw[p4];exact hcvt _ _ he
   refine ap rfl ⟨⟨zp,64,zc,by rw[af];exact(r11.ext hd2).cell (i:=1) rfl,?_⟩,?_⟩
   ·have hcd:=hc10'.trans (hd2.chg (S:=fun _=>False)) fun _ h _=>h.elim
    refine hzin w11.drew hcd _ fun a hDa ha=>⟨⟨_,ha,num _ fun v q1 q2 q3 q4 _=>⟨_,rfl,fin v q1 q2 q3 q4⟩⟩,num _ fun v q1 q2 q3 q4 q5=>⟨_,rfl,bD (n+m),?_,fin v q1 q2 q3 q4⟩⟩;rw[C_.cell?_of_block (w:=w11.drew) (q5.block _ (te ha) (fun e=>hDrb (by have e:a.block=rb:=e;rw[<-e];exact hDa)))]
    exact ha
   ·refine num _ fun v q1 q2 q3 q4 _=>⟨_,rfl,zp,64,zc,by rw[af];exact(hW v q1).1.cell (i:=1) rfl,?_⟩
    exact hzin v q1 _ fun a _ ha=>⟨_,ha,fin v q1 q2 q3 q4⟩
  ·obtain⟨m',rfl⟩:∃m',m=m'+16:=⟨m-16,by omega⟩
   have he:=OW (m:=m') (t:=t) hx;rw[<-hm]at he;obtain⟨a1,a2,a3,a4,a5,a6⟩:=hmore _ _ he;refine uM r10 hr10 c11 hDrb hT1 (by decide) a6 a1 fun w11 hc11 hr11=>⟨_,rfl,al (by decide) ?_⟩
   have ea:=F3 240 (by decide)
   have es:=F5 240 (by decide)
   have ei:A_.wrap (((n:Nat):Int)+((240/16:Nat):Int))=((n+15:Nat):Int):=by
    have:(240/16:Nat)=15:=rfl;rw[this,ai (by omega) (by omega)];omega
   rw[show((240,0,0):bb).1=240 from rfl]at*
   rw[ea,es,ei];refine aY rfl (aS ?_ ⟨rfl,?_⟩)
   ·rw[decide_eq_false (by omega)];rfl
   have hdrop:(zz b).drop (n+15+1)=I_ m' 0++x::t:=by
    rw[show n+15+1=n+16 by omega,<-v_,hm]
    have:I_ (m'+16) (0:Int)=I_ 16 0++I_ m' 0:=by rw[z_,Nat.add_comm]
    rw[this,o_,t_ (by simp)]
   have erest:rest (n+15+1)=(cJ (I_ m' 0++x::t) 0).map fun y=>(1,y):=by show(cJ ((zz b).drop (n+15+1)) 0).map _=_;rw[hdrop]
   refine⟨n+15,kk+L1.getD 240 0,c,rfl,by omega,by omega,hc10.trans hc11 fun x hx _=>.inl hx,hp10.chg hc11 (fun e=>n3 e.symm),hr11,hC10.chg hc11 (show k1≠rb by omega),hF10.more (by omega) fun i hi1 hi2 _=>p2 i hi1 (by omega),?_,?_,?_⟩
   ·rw[erest];exact a3
   ·rw[erest]
    have:((240,0,0):bb).2.2=0:=rfl;rw[this]at a4;omega
   ·rw[hdrop];exact hcvt _ _ he
theorem aD.ex{S:Nat->Prop}(h:aD S w p vs)(hE:Ext w u):aD S u p vs:=h.chg (T:=fun _=>False) hE.chg fun _ _ _=>id
theorem HX{S:Nat->Prop}{c:Nat}{v:Int}(h:aD S w p (bytes xs))(hl:n=xs.length)(hsz:n<=2^40)(hx:∀x,x∈xs->v≠x)
 (hR:R (.returned (.bool false)) w):G_ P 120 #[.slice p n c,u8 v] w R:=by
 refine nZ _ _ _ _ _ _ ?_;refine qR _ _ _ _ _ _ ⟨fun vs u=>∃i:Nat,vs=[aa (i:Nat)]/\i<=n/\u=w,fun vs _=>match vs with|[.int _ i]=>(n-i:Int).toNat|_=>0,⟨0,rfl,by omega,rfl⟩,fun n1 w1 hI=>?_⟩
 obtain⟨i,hv,hi,rfl⟩:=hI;simp only[T_,U_,true_and,and_true]at hv;obtain rfl:=hv;refine ak (fun hlt=>?_) fun hge=>⟨_,rfl,hR⟩;have hlt:i<xs.length:=by have:=of_decide_eq_true hlt;omega
 refine h.sl.get (v:=u8 (xs.getD i 0)) (by omega) (by rw[ar,hl]) (by rw[J_];exact fh hlt) fun a ha=>⟨_,ha,?_⟩
 refine al (by rw[beq_eq_false_iff_ne];exact hx _ (by rw[M_,O_ hlt];exact p_ _)) ?_
 rw[show A_.wrap (((i:Nat):Int)+1)=((i+1:Nat):Int) by rw[ai (by omega) (by omega)];omega]
 exact⟨⟨i+1,rfl,by omega,rfl⟩,by show(n-((i+1:Nat):Int)).toNat<(n-((i:Nat):Int)).toNat;omega⟩
theorem OJ{l:List Int}(h:x∈zz l)(hl:l.length=64):x∈l:=by
 unfold zz at h;obtain⟨n,hn,rfl⟩:=List.mem_map.1 h;have hn:n<64:=by simpa using hn
 have:=o9 hn;rw[M_,O_ (by omega)]
 exact p_ _
theorem E9{kF c:Nat}{FC:List D_}{q:Nat->List Int}{S:Nat->Prop}(hF:Cs u kF FC)(hFl:FC.length=14)(hs:aD S u p (bytes (fK q i)))(hn:n=65)(hc:n<=c)(hSF:¬S kF)(hi:i<3)
 (ql:(q i).length=64)(qr:∀x,x∈q i->1<=x/\x<=255)
 (hR:∀k u',u.heap.size<=k->Cs u' k (ii (q i))->Cs u' kF (FC.set (1+i) (.slice (some ⟨k,0,none⟩) 64 64))->Chg (·=kF) u u'->R (.returned (.tuple #[])) u'):
  G_ P 74 #[.pointer (some ⟨kF,0,none⟩),.slice p n c] u R:=by
 subst hn;refine lW _ _ _ _ _ _ fun k1 w1 hn1=>?_;have e1:=hn1.1;have hFl1:=hF.lt;refine mR fun zp zc w2 hF2=>⟨_,_,_,rfl,?_⟩;have hE2:Ext u w2:=hn1.ext.trans hF2.ext;have z1:=hn1.size;have z2:=hF2.ext.size;have hz:aD (fun b=>w1.heap.size<=b/\b<w2.heap.size) w2 zp (ii eG):=aD.mono (Fg.toS2 hF2) fun b hb hl=>⟨hb.1,hl⟩;have hL2:bT (fun b=>S b/\b<u.heap.size) w2 k1 [] (fK q i):=⟨⟨p,c,(aK.cs hn1).ext hF2.ext,hc,(aD.mono hs fun b hb hl=>⟨hb,hl⟩).ex hE2⟩,fun h=>by have:=h.2;omega⟩
 have hF2':=hF.ext hE2;refine⟨fun vs v=>vs=[]/\(v=w2\/(bT (fun b=>S b/\b<u.heap.size) v k1 [] []/\∃k,u.heap.size<=k/\Cs v k (ii (q i))/\Cs v kF (FC.set (1+i) (.slice (some ⟨k,0,none⟩) 64 64))/\Chg (·=kF) u v)),fun _ v=>cR k1 v,⟨rfl,.inl rfl⟩,fun w3 hI=>?_⟩;obtain⟨_,hI⟩:=hI;rcases hI with rfl|⟨hL,k,hk,h1,h2,h3⟩
 rotate_left
 ·obtain⟨p',c',q1,_⟩:=hL.obj
  exact⟨_,_,_,q1.cell (i:=0) rfl,al rfl (hR k w3 hk h1 h2 h3)⟩
 obtain⟨p',c',q1,q2,_⟩:=hL2.obj;rw[de]at q1;have hlen0:=kJ q1;refine⟨_,_,_,q1.cell (i:=0) rfl,aY (by decide) ?_⟩
 have hL2':bT (fun b=>S b/\b<u.heap.size) w3 k1 [] (((i:Nat):Int)::zz (q i)):=hL2;refine nq hL2' (by omega) fun w4 h4 c4=>⟨_,rfl,?_⟩
 rw[F3 i (by omega),F5 i (by omega)]
 refine aS (by rw[show i/16=0 by omega,show i%16=i by omega];rw[decide_eq_false (by omega),decide_eq_false (by omega)];rfl) ⟨rfl,dd (by rw[show i/16=0 by omega];rfl) ⟨rfl,?_⟩⟩
 have h4':bT (fun b=>S b/\b<u.heap.size) w4 k1 [] (zz (q i)++[]):=by rw[q_];exact h4
 refine mj (n:=64) h4' (by rw[gq]) fun bp bc w5 hbc hb5 h5 c5=>⟨_,_,_,rfl,?_⟩
 have c35:=c4.trans c5 fun b hb _=>hb;refine HX hb5 (by rw[gq]) (by omega) (fun x hx=>by have:=qr x (OJ hx ql);omega) ⟨_,rfl,aS rfl ⟨rfl,by omega,by omega,by omega,by omega,fun k8 w10 hn10=>?_⟩⟩
 have e10:=hn10.1;have z10:=hn10.size;have z5:=c35.size;have hb10:=hb5.ex hn10.ext;have hz10:=(hz.chg c35 fun b hb hl e=>by have e:b=k1:=e;have:=hb.1;omega).ex hn10.ext
 have hF10:=(hF2'.chg c35 (by omega)).ext hn10.ext
 have h10:=h5.ext hn10.ext;have hZ10:Cs w10 k8 (I_ 64 (aa 0)):=aK.zeros hn10;have hC10:Chg (·=k1) w3 w10:=c35.trans hn10.ext.chg fun b hb _=>hb;have cell0:=hZ10;refine⟨fun vs v=>∃(m:Nat) (cs:List Int),vs=[aa (m:Nat)]/\m<=64/\ky (q i) cs m/\Cs v k8 (ii cs)/\Chg (·=k8) w10 v,fun vs _=>match vs with|[.int _ i]=>(64-i:Int).toNat|_=>0,⟨0,I_ 64 0,rfl,by omega,⟨by simp,fun j hj=>?_⟩,?_,Chg.refl _ _⟩,fun n2 w11 hI=>?_⟩
 ·rw[if_neg (by omega)]
  rw[M_,a_];split<;>rfl
 ·have:ii (I_ 64 0)=I_ 64 (aa 0):=rfl
  rw[this];exact hZ10
 obtain⟨m,cs,hv,hm,hfi,hcs,hch⟩:=hI;simp only[T_,U_,true_and,and_true]at hv;obtain rfl:=hv;have hb11:=hb10.chg hch fun b hb hl e=>by have e:b=k8:=e;have:=hb.2;omega
 have hz11:=hz10.chg hch fun b hb hl e=>by
  have e:b=k8:=e;subst e;have:=hb.2;omega
 have hF11:=hF10.chg hch (show kF≠k8 by omega)
 have h11:=h10.chg hch (show k1≠k8 by omega) fun b hb hl e=>by have e:b=k8:=e;have:=hb.2;omega
 refine ak (fun hlt=>?_) fun hge=>?_
 ·have hlt:m<64:=by have:=of_decide_eq_true hlt;omega
  have hzl:=o9 hlt;refine hb11.getB (i:=m) (v:=u8 ((q i).getD (bD m) 0)) (by rw[ar,gq]) (by rw[fh (by rw[gq];exact hlt),gM hlt]) fun a1 _ ha1=>⟨_,ha1,?_⟩
  refine hz11.getB (i:=m) (v:=aa (bD m:Nat)) (by rw[aG,io]) (by rw[bz (by rw[io];exact hlt),qi hlt]) fun a2 _ ha2=>⟨_,ha2,?_⟩
  have hval:1<=(q i).getD (bD m) 0/\(q i).getD (bD m) 0<=255:=qr _ (by rw[M_,O_ (by omega)];exact p_ _)
  refine bo (by omega) (by omega) rfl ?_
  rw[J_,Y_,af,P_,ai (x:=(q i).getD (bD m) 0)];have hs1:=hcs.set1 (off:=bD m) (v:=aa ((q i).getD (bD m) 0)) (by rw[aG,hfi.1];exact hzl)
  rw[<-show ii (cs.set (bD m) ((q i).getD (bD m) 0))=(ii cs).set (bD m) (aa ((q i).getD (bD m) 0))from y_ ..]at hs1
  refine⟨⟨_,hcs.cell (bz (by rw[hfi.1];exact hzl))⟩,hcs.frozen _,⟨m+1,_,?_,by omega,hfi.set hlt,hs1,hch.trans (Chg.setCells w11 ⟨k8,bD m,none⟩ _ 0) fun b hb _=>hb⟩,?_⟩
  ·rw[show A_.wrap (((m:Nat):Int)+1)=((m+1:Nat):Int) by rw[ai (by omega) (by omega)];omega]
  ·show(64-A_.wrap (((m:Nat):Int)+1)).toNat<(64-((m:Nat):Int)).toNat
   rw[ai (by omega) (by omega)];omega
 ·have hge:m=64:=by have:=of_decide_eq_false hge;omega
  subst hge;have:=hfi.done ql;subst this;rw[show((i%16:Nat):Int)=((i:Nat):Int) by omega]
  refine ap rfl ⟨by omega,by omega,?_⟩
  rw[J_,Y_,af,af,P_];have hlt:1+i<FC.length:=by omega
  have hs1:=hF11.set1 (off:=1+i) (v:=.slice (some ⟨k8,0,none⟩) 64 64) hlt;have hcf:=Chg.setCells w11 ⟨kF,1+i,none⟩ [.slice (some ⟨k8,0,none⟩) 64 64] 0;have hL':=h11.chg hcf (show k1≠kF by omega) fun b hb hl e=>hSF (by have e:b=kF:=e;rw[<-e];exact hb.1)
  refine⟨⟨_,hF11.cell (O_ hlt)⟩,hF11.frozen _,⟨rfl,.inr ⟨hL',k8,by omega,hcs.chg hcf (show k8≠kF by omega),hs1,?_⟩⟩,?_⟩
  ·refine(((hE2.chg (S:=(·=kF))).trans hC10 fun b hb hl=>?_).trans hch fun b hb hl=>?_).trans hcf fun b hb hl=>hb
   ·have hb:b=k1:=hb;omega
   ·have hb:b=k8:=hb;omega
  ·obtain⟨p9,c9,r1,_⟩:=hL'.obj
   show cR k1 _<cR k1 w3;rw[kJ r1,hlen0];simp
def uC(sa1:aj)(sl1 sc1:Nat)(x1:Int)(w:C_)(R:bV):Prop:=
 ae (decide (x1<0)) ((∃y1:TypeId,∃v1:D_,R_ 9 (g_ {data:=#[99,97,110,110,111,116,32,98,101,32,110,101,103,97,116,105,118,101]})=R_ y1 v1)/\R (.panicked [{v:=R_ 9 (g_ {data:=#[99,97,110,110,111,116,32,98,101,32,110,101,103,97,116,105,118,101]}),recovered:=false}]) w) (G_ P 152 #[.int .u64 (F_.u64.wrap (sl1:Int)),.int .u64 (F_.u64.wrap x1)] w fun e1 w1=>∃n1 n2,(e1=.returned (.tuple #[.int .u64 n1,.int .u64 n2]))/\ae (decide (n1>0)||decide (n2>9223372036854775807)) ((∃y2:TypeId,∃v2:D_,R_ 9 (g_ {data:=#[116,104,101,32,114,101,115,117,108,116,32,111,102,32,40,108,101,110,40,120,41,32,42,32,99,111,117,110,116,41,32,111,118,101,114,102,108,111,119,115]})=R_ y2 v2)/\R (.panicked [{v:=R_ 9 (g_ {data:=#[116,104,101,32,114,101,115,117,108,116,32,111,102,32,40,108,101,110,40,120,41,32,42,32,99,111,117,110,116,41,32,111,118,101,114,102,108,111,119,115]}),recovered:=false}]) w1) ((0<=A_.wrap n2)/\(A_.wrap n2<=A_.wrap n2)/\(A_.wrap n2*8<=281474976710656)/\(A_.wrap n2<4611686018427387904)/\∀k1 w2,(aK w1 (X_ (bg [aa 0] (A_.wrap n2).toNat) 3) k1 w2)->∃l1:List D_,(l1.length=min sl1 (A_.wrap n2).toNat*1)/\(aN l1=true)/\(aV w2 sa1 l1)/\(((l1=[])/\∃(I1:aw) (m1:List D_->C_->Nat),(I1 [aa (↑(min sl1 (A_.wrap n2).toNat):Int)] w2)/\∀n3 w3,(I1 [aa n3] w3)->ae (decide (n3<(↑(A_.wrap n2).toNat:Int))) (cO (aH k1) ((A_.wrap n2).toNat) (n3) ((↑(A_.wrap n2).toNat:Int)) (1) fun p1 k2 k3=>cO (aH k1) ((A_.wrap n2).toNat) (0) (n3) (1) fun p2 k4 k5=>∃l2:List D_,(l2.length=min k4 k2*1)/\(aN l2=true)/\(aV (w3.drew) p2 l2)/\(((l2=[])/\(I1 [aa (A_.wrap (n3+(↑(min k4 k2):Int)))] w3.drew)/\m1 [aa (A_.wrap (n3+(↑(min k4 k2):Int)))] w3.drew<m1 [aa n3] w3)\/(∃a1:E_,(p1=some a1)/\(dq (w3.drew) a1 (l2.length))/\(I1 [aa (A_.wrap (n3+(↑(min k4 k2):Int)))] (ab w3.drew a1 l2 0))/\m1 [aa (A_.wrap (n3+(↑(min k4 k2):Int)))] (ab w3.drew a1 l2 0)<m1 [aa n3] w3))) (R (.returned (.slice (aH k1) (A_.wrap n2).toNat (A_.wrap n2).toNat)) w3))\/(∃a2:E_,(some {block:=k1,off:=0}=some a2)/\(dq w2 a2 (l1.length))/\∃(I2:aw) (m2:List D_->C_->Nat),(I2 [aa (↑(min sl1 (A_.wrap n2).toNat):Int)] (ab w2 a2 l1 0))/\∀n4 w4,(I2 [aa n4] w4)->ae (decide (n4<(↑(A_.wrap n2).toNat:Int))) (cO (aH k1) ((A_.wrap n2).toNat) (n4) ((↑(A_.wrap n2).toNat:Int)) (1) fun p3 k6 k7=>cO (aH k1) ((A_.wrap n2).toNat) (0) (n4) (1) fun p4 k8 k9=>∃l3:List D_,(l3.length=min k8 k6*1)/\(aN l3=true)/\(aV (w4.drew) p4 l3)/\(((l3=[])/\(I2 [aa (A_.wrap (n4+(↑(min k8 k6):Int)))] w4.drew)/\m2 [aa (A_.wrap (n4+(↑(min k8 k6):Int)))] w4.drew<m2 [aa n4] w4)\/(∃a3:E_,(p3=some a3)/\(dq (w4.drew) a3 (l3.length))/\(I2 [aa (A_.wrap (n4+(↑(min k8 k6):Int)))] (ab w4.drew a3 l3 0))/\m2 [aa (A_.wrap (n4+(↑(min k8 k6):Int)))] (ab w4.drew a3 l3 0)<m2 [aa n4] w4))) (R (.returned (.slice (aH k1) (A_.wrap n2).toNat (A_.wrap n2).toNat)) w4)))))
theorem qF(sa1:aj)(sl1 sc1:Nat)(x1:Int)(w:C_)(R:bV)(h:uC sa1 sl1 sc1 x1 w R):G_ P 121 #[.slice sa1 sl1 sc1,aa x1] w R:=
  aF (ac:=uG) Tryz.func121 h
theorem Po{a b c d:Int}(h:a=c/\b=d):A_A #[.int .u64 a,.int .u64 b]=A_A #[.int .u64 c,.int .u64 d]:=by rw[h.1,h.2]
theorem Ls(hn:n<256)(hR:R (.returned (.tuple #[.int .u64 0,.int .u64 (n:Nat)])) w):G_ P 152 #[.int .u64 1,.int .u64 (n:Nat)] w R:=by
 refine wl _ _ _ _ ?_;refine tB _ _ _ _ ?_;refine⟨0,n,congrArg Ending.returned (Po ?_),hR⟩;clear hR
 revert n
 decide+kernel
theorem Iw{c:Nat}{v:Int}(hk:Cs w k [aa v])(hn:n<256)
 (hR:∀k' w',w.heap.size<=k'->Cs w' k' (ii (I_ n v))->Ext w w'->R (.returned (.slice (some ⟨k',0,none⟩) n n)) w'):G_ P 121 #[.slice (some ⟨k,0,none⟩) 1 c,aa (n:Nat)] w R:=by
 refine qF _ _ _ _ _ _ ?_;refine al (decide_eq_false (by omega)) ?_
 rw[show F_.u64.wrap (((1:Nat):Int))=1 by decide,show F_.u64.wrap ((n:Nat):Int)=((n:Nat):Int)from dj (k:=.u64) rfl (by omega) (by simp[F_.bits];omega)]
 refine Ls hn ⟨_,_,rfl,al ?_ ?_⟩
 ·rw[decide_eq_false (by omega),decide_eq_false (by omega)];rfl
 rw[wN,J_];refine⟨by omega,by omega,by omega,by omega,fun k1 w2 hn2=>?_⟩
 have e2:=hn2.1;have hZ:=aK.zeros hn2;have hk2:=hk.ext hn2.ext;have hkl:=hk.lt;have hii:∀m x,ii (I_ m x)=I_ m (aa x):=fun m x=>r_;rcases Nat.eq_zero_or_pos n with h0|h0
 ·subst h0
  refine⟨[],by simp,rfl,fun j v h=>by simp at h,.inl ⟨rfl,fun vs u=>vs=[aa (0:Nat)]/\u=w2,fun _ _=>0,⟨rfl,rfl⟩,fun n3 w3 hI=>?_⟩⟩
  obtain⟨hv,rfl⟩:=hI;simp only[T_,U_,true_and,and_true]at hv;subst hv;exact al (by decide) (hR k1 w3 (by omega) hZ hn2.ext)
 rw[show min 1 n=1 by omega]
 have h2:Cs (ab w2 ⟨k1,0,none⟩ [aa v] 0) k1 (I_ 1 (aa v)++I_ (n-1) (aa 0)):=by
  have:=hZ.set (off:=0) (us:=[aa v]) (by simp;omega)
  rw[List.take_zero,B_A,C_A]at this;simpa using this
 refine⟨[aa v],rfl,rfl,fun j x h=>?_,.inr ⟨_,rfl,hZ.canSet (by simp;omega),fun vs u=>∃m:Nat,vs=[aa (m:Nat)]/\1<=m/\m<=n/\Cs u k1 (I_ m (aa v)++I_ (n-m) (aa 0))/\Chg (·=k1) w2 u,
  fun vs _=>match vs with|[.int _ i]=>(n-i:Int).toNat|_=>0,⟨1,rfl,by omega,h0,h2,Chg.setCells w2 ⟨k1,0,none⟩ _ 0⟩,fun n4 w4 hI=>?_⟩⟩
 ·have hlt:=(List.getElem?_eq_some_iff.1 h).1
  obtain rfl:j=0:=by simp at hlt;omega
  cases h;exact⟨_,rfl,hk2.cell (i:=0) rfl⟩
 obtain⟨m,hv,h1m,hmn,hC,hch⟩:=hI;simp only[T_,U_,true_and,and_true]at hv;subst hv;have hx1:Ext w w4:=by
  refine hn2.ext.step hch fun i hi=>?_;have hi:i=k1:=hi;omega
 refine ak (fun hlt=>?_) fun hge=>?_
 ·have hlt:m<n:=by have:=of_decide_eq_true hlt;omega
  refine⟨by omega,by omega,by omega,by omega,by omega,by omega,?_⟩
  have ep:aX (some ⟨k1,0,none⟩) ((m:Nat):Int).toNat n 1=some ⟨k1,m,none⟩:=by
   unfold aX;rw[J_,if_neg (by omega),s_,af,Y_,P_]
  have ep0:aX (some ⟨k1,0,none⟩) (0:Int).toNat n 1=some ⟨k1,0,none⟩:=fP;have ek:((n:Nat):Int).toNat-((m:Nat):Int).toNat=n-m:=by rw[J_,J_]
  have ek0:((m:Nat):Int).toNat-(0:Int).toNat=m:=by rw[J_];rfl
  rw[ep,ep0,ek,ek0];have hd:=hC.ext (Ext.refl w4).drew;have hlen:(I_ m (aa v)++I_ (n-m) (aa 0)).length=n:=by simp;omega
  have hnew:Cs (ab w4.drew ⟨k1,m,none⟩ (I_ (min m (n-m)) (aa v)) 0) k1 (I_ (m+min m (n-m)) (aa v)++I_ (n-(m+min m (n-m))) (aa 0)):=by
   have:=hd.set (off:=m) (us:=I_ (min m (n-m)) (aa v)) (by rw[hlen];simp;omega)
   rw[List.take_left' (by simp),z_,S_,w_,S_,m_ (by simp),B_A,C_A]at this
   rw[show n-(m+min m (n-m))=n-m-(m+min m (n-m)-m) by omega]
   exact this
  have ew:A_.wrap (((m:Nat):Int)+((min m (n-m):Nat):Int))=((m+min m (n-m):Nat):Int):=by rw[ai (by omega) (by omega)];omega
  simp only[ew];refine⟨I_ (min m (n-m)) (aa v),by simp,by simp[aN,D_.oneCell'],fun j x h=>?_,.inr ⟨_,rfl,hd.canSet (by rw[hlen];simp;omega),⟨_,rfl,by omega,by omega,hnew,?_⟩,?_⟩⟩
  ·rw[a_]at h
   split at h
   ·cases h
    refine⟨_,rfl,?_⟩;rw[af,P_];exact hd.cell (by rw[b_ (by simp;omega),a_,if_pos (by omega)])
   ·cases h
  ·exact(hch.trans ((Ext.refl w4).drew.chg (S:=(·=k1))) fun b hb _=>hb).trans (Chg.setCells w4.drew ⟨k1,m,none⟩ _ 0) fun b hb _=>hb
  ·show(n-((m+min m (n-m):Nat):Int)).toNat<(n-((m:Nat):Int)).toNat
   omega
 ·have:m=n:=by have:=of_decide_eq_false hge;omega
  subst this;rw[f_,List.replicate_zero,q_,<-hii]at hC;exact hR k1 w4 (by omega) hC hx1
def ss(q1 sa1:aj)(sl1 sc1:Nat)(w:C_)(R:bV):Prop:=
 ∀k1 w1,(aK w (X_ #[.slice sa1 sl1 sc1] 152) k1 w1)->∃(I1:aw) (m1:List D_->C_->Nat),(I1 [] w1)/\∀w2,(I1 [] w2)->∃p1 k2 k3,(w2.cell? {block:=k1,off:=0}=some (.slice p1 k2 k3))/\ae (decide ((k2:Int)>0)) (G_ P 119 #[.pointer (aH k1)] w2 fun e1 w3=>∃n1,(e1=.returned (aa n1))/\G_ P 27 #[.bool (decide (an .shr .i64 n1 4>1)||decide (A_.wrap (aR .and .i64 n1 15)>3))] w3 fun e2 w4=>(e2=.returned (.tuple #[]))/\G_ P 71 #[.bool (decide (A_.wrap (aR .and .i64 n1 15)>1))] w4 fun e3 w5=>(e3=.returned (.tuple #[]))/\G_ P 73 #[.pointer (aH k1),aa 16] w5 fun e4 w6=>∃p2 k4 k5,(e4=.returned (.slice p2 k4 k5))/\∃(I2:aw) (m2:List D_->C_->Nat),(I2 [.slice none 0 0,aa 0] w6)/\∀p3 k6 k7 n2 w7,(I2 [.slice p3 k6 k7,aa n2] w7)->ae (decide (n2<(k4:Int))) (aq (p2) (k4) (n2) (1) fun a1=>∃n3,(w7.cell? a1=some (u8 n3))/\∀k8 w8,(aK w7 (X_ #[aa (A_.wrap (n2+1))] 3) k8 w8)->G_ P 121 #[.slice (aH k8) 1 1,aa (A_.wrap n3)] w8 fun e5 w9=>∃p4 k9 k10,(e5=.returned (.slice p4 k9 k10))/\∃l1:List D_,(l1.length=k9*1)/\(aN l1=true)/\(aV w9 p4 l1)/\ay (w9) ([]) (p3) (k6) (k7) (k9) (1) (8) (3) ([aa 0]) (l1) fun p5 k11 k12 w10=>(I2 [.slice p5 k11 k12,aa (A_.wrap (n2+1))] w10)/\m2 [.slice p5 k11 k12,aa (A_.wrap (n2+1))] w10<m2 [.slice p3 k6 k7,aa n2] w7) (G_ P 122 #[.slice p3 k6 k7] w7 fun e6 w11=>∃n4 n5,(e6=.returned (.tuple #[aa n4,aa n5]))/\G_ P 27 #[.bool (n5 !=0||decide (n4<=0)||decide ((k6:Int)>256))] w11 fun e7 w12=>(e7=.returned (.tuple #[]))/\G_ P 73 #[.pointer (aH k1),aa (k6:Int)] w12 fun e8 w13=>∃p6 k13 k14,(e8=.returned (.slice p6 k13 k14))/\∀k15 w14,(aK w13 (X_ #[.pointer none,.slice p6 k13 k14] 211) k15 w14)->G_ P 123 #[.slice p3 k6 k7] w14 fun e9 w15=>∃p7 n6,(e9=.returned (.tuple #[.pointer p7,aa n6]))/\aI w15 {block:=k15,off:=0} [.pointer p7] fun u1=>nn (q1) fun a2=>(0<=an .shr .i64 n1 4)/\(an .shr .i64 n1 4<2)/\(0<=A_.wrap (aR .and .i64 n1 15))/\(A_.wrap (aR .and .i64 n1 15)<2)/\aI u1 (((a2.add 5).add ((an .shr .i64 n1 4).toNat*2)).add ((A_.wrap (aR .and .i64 n1 15)).toNat*1)) [.pointer (aH k15)] fun u2=>(I1 [] u2)/\m1 [] u2<m1 [] w2)) (R (aM #[]) w2)
theorem ov(q1 sa1:aj)(sl1 sc1:Nat)(w:C_)(R:bV)(h:ss q1 sa1 sl1 sc1 w R):G_ P 75 #[.pointer q1,.slice sa1 sl1 sc1] w R:=
  aF (ac:=rY) Tryz.func75 h
theorem ET(n:Nat):∀L:List Nat,L.countP (fun x=>decide (1<=x/\x<=n+1))=L.countP (fun x=>decide (1<=x/\x<=n))+L.count (n+1)
 |[]=>rfl
 |a::L=>by
  rw[D_A,D_A,List.count_cons,ET n L];simp only[decide_eq_true_eq,beq_iff_eq]
  split<;>split<;>split<;>omega
theorem AK(L:List Nat):∀n,(aO L n).length=L.countP (fun x=>decide (1<=x/\x<=n))
 |0=>by
  have:L.countP (fun x=>decide (1<=x/\x<=0))=0:=by
   rw[List.countP_eq_zero];intro a _;simp;omega
  rw[this];rfl
 |n+1=>by
  rw[aO,Z_,AK L n,ET];have h:=oz L (n+1) L.length (Nat.le_refl _);rw[List.take_length]at h;unfold aP;rw[h]
theorem xk(h:bM L):(aO L 16).length<=256:=by
 rw[AK];have:=E_A (p:=fun x=>decide (1<=x/\x<=16)) (l:=L);rw[h.len]at this;exact this
theorem bM.lens(h:bM L):vr (eo L):=⟨by
 have:=xk h;unfold eo;rw[nw];omega,fun x hx=>(nI L 16 x hx).2⟩
theorem bM.room(h:bM L):0<ur (eo L):=by
 unfold ur;rw[uJ fun s=>h.lens.at s,Ei h.le];have:=h.fit;omega
theorem KX{kF c t:Nat}{FC:List D_}{S:Nat->Prop}(hF:Cs u kF FC)(hFl:FC.length=14)(hs:aD S u p (bytes (dL t L)))(hn:n=(dL t L).length)(hc:n<=c)(hSF:¬S kF)(ht:t<2)(hT:bM L)
 (hR:∀k u',u.heap.size<=k->cZ (fun b=>(S b/\b<u.heap.size)\/u.heap.size<=b) u' k L->Cs u' kF (FC.set (5+2*t) (.pointer (some ⟨k,0,none⟩)))->Chg (·=kF) u u'->R (.returned (.tuple #[])) u'):
  G_ P 75 #[.pointer (some ⟨kF,0,none⟩),.slice p n c] u R:=by
 have h256:=xk hT;have hlen:(dL t L).length=17+(aO L 16).length:=by simp[dL,db];omega
 refine ov _ _ _ _ _ _ fun k1 w1 hn1=>?_;have e1:=hn1.1;have hFl1:=hF.lt;have z1:=hn1.size;subst hn;have hL1:bT (fun b=>S b/\b<u.heap.size) w1 k1 [] (dL t L):=⟨⟨p,c,aK.cs hn1,hc,(aD.mono hs fun b hb hl=>⟨hb,hl⟩).ex hn1.ext⟩,fun h=>by have:=h.2;omega⟩
 have hF1:=hF.ext hn1.ext;refine⟨fun vs v=>vs=[]/\(v=w1\/(bT (fun b=>S b/\b<u.heap.size) v k1 [] []/\∃k,u.heap.size<=k/\cZ (fun b=>(S b/\b<u.heap.size)\/u.heap.size<=b) v k L/\Cs v kF (FC.set (5+2*t) (.pointer (some ⟨k,0,none⟩)))/\Chg (·=kF) u v)),fun _ v=>cR k1 v,⟨rfl,.inl rfl⟩,fun w2 hI=>?_⟩;obtain⟨_,hI⟩:=hI;rcases hI with rfl|⟨hL,k,hk,h1,h2,h3⟩
 rotate_left
 ·obtain⟨p',c',q1,_⟩:=hL.obj
  exact⟨_,_,_,q1.cell (i:=0) rfl,al rfl (hR k w2 hk h1 h2 h3)⟩
 obtain⟨p',c',q1,q2,_⟩:=hL1.obj;have hlen0:=kJ q1;refine⟨_,_,_,q1.cell (i:=0) rfl,aY (decide_eq_true (by omega)) ?_⟩
 have hL1':bT (fun b=>S b/\b<u.heap.size) w2 k1 [] (((16*t:Nat):Int)::(((H_ 16).map fun n=>(((aP L (n+1)).length:Nat):Int))++db (aO L 16))):=hL1;refine nq hL1' (by omega) fun w3 h3 c3=>⟨_,rfl,?_⟩
 rw[F3 (16*t) (by omega),F5 (16*t) (by omega),show 16*t/16=t by omega,show 16*t%16=0 by omega]
 refine aS (by rw[decide_eq_false (by omega),decide_eq_false (by omega)];rfl) ⟨rfl,dd (by rw[decide_eq_false (by omega)]) ⟨rfl,?_⟩⟩
 refine mj (n:=16) h3 (by simp) fun bp bc w6 hbc hb6 h6 c6=>⟨_,_,_,rfl,?_⟩
 have c26:=c3.trans c6 fun b hb _=>hb;have z6:=c26.size;have hF6:=hF1.chg c26 (show¬kF=k1 by omega)
 have hcnt:∀m,m<16->(bytes ((H_ 16).map fun n=>(((aP L (n+1)).length:Nat):Int)))[m]?=some (u8 (((aP L (m+1)).length:Nat):Int)):=fun m hm=>by
  unfold bytes;rw[e_,e_,F_A hm];rfl
 refine⟨fun vs v=>∃(m:Nat) (q:Option E_) (qc:Nat),vs=[.slice q (dC L m).length qc,aa (m:Nat)]/\m<=16/\Fg [] w6 v 1 q (dC L m).length qc (ni (dC L m)),fun vs _=>match vs with|[_,.int _ i]=>(16-i:Int).toNat|_=>0,⟨0,none,0,rfl,by omega,Fg.nil (Ext.refl _) 1⟩,fun p3 k6 k7 n2 w7 hI=>?_⟩
 obtain⟨m,q,qc,hv,hm,hF7⟩:=hI;simp only[T_,U_,D_.slice.injEq,true_and,and_true]at hv;obtain⟨⟨rfl,rfl,rfl⟩,rfl⟩:=hv;have hE7:=hF7.ext;have z7:=hE7.size;refine ak (fun hlt=>?_) fun hge=>?_
 ·have hlt:m<16:=by have:=of_decide_eq_true hlt;omega
  have h255:=Jq hT (n:=m+1) (by omega)
  refine(hb6.ex hE7).getB (i:=m) (v:=u8 (((aP L (m+1)).length:Nat):Int)) (by simp[bytes]) (hcnt m hlt) fun a1 _ ha1=>⟨_,ha1,?_⟩
  rw[show A_.wrap (((m:Nat):Int)+1)=((m+1:Nat):Int) by rw[ai (by omega) (by omega)];omega,wN]
  intro k8 w8 hn8;refine Iw (aK.cs hn8) (by omega) fun k9 w9 hk9 hC9 hE9=>⟨_,_,_,rfl,ii (I_ (aP L (m+1)).length ((m+1:Nat):Int)),by rw[aG];simp,fE _,?_,?_⟩
  ·exact Sl.cells (N:=w9.heap.size) (hC9.sl (off:=0) (by simp) hC9.lt)
  have hF9:=hF7.step (hn8.ext.trans hE9);have hll:(dC L m).length<=256:=by
   have h1:=nw L m;have h2:=AK L m;have h3:=E_A (p:=fun x=>decide (1<=x/\x<=m)) (l:=L);rw[hT.len]at h3;omega
  refine hF9.app' (by simp[am]) rfl (by rw[aG];simp) (by omega) (by omega) fun b c w10 hF10 _ _=>?_
  have el:(dC L (m+1)).length=(dC L m).length+(aP L (m+1)).length:=by rw[dC,Z_,S_]
  have ev:ni (dC L (m+1))=ni (dC L m)++ii (I_ (aP L (m+1)).length ((m+1:Nat):Int)):=by
   rw[dC,rt];congr 1;unfold ni ii;rw[r_,r_]
  rw[<-ev,<-el]at hF10;rw[<-el];refine⟨⟨m+1,b,c,rfl,by omega,hF10⟩,?_⟩
  show(16-((m+1:Nat):Int)).toNat<(16-((m:Nat):Int)).toNat;omega
 ·have:m=16:=by have:=of_decide_eq_false hge;omega
  subst this;have hll:(dC L 16).length=(aO L 16).length:=nw L 16;have hk:=hT.lens;have hrm:=hT.room;have hsl:=hF7.sl;refine ER hsl rfl hk ⟨_,_,rfl,?_⟩;have hrm':0<ur (dC L 16):=hrm;refine aS (by rw[decide_eq_false (by omega),decide_eq_false (by omega)];rfl) ⟨rfl,?_⟩
  have h7:bT (fun b=>S b/\b<u.heap.size) w7 k1 [] (db (aO L 16)++[]):=by rw[q_];exact h6.ext hE7
  refine mj h7 (by rw[um];exact hll) fun vp vc w13 hvc hb13 h13 c13=>⟨_,_,_,rfl,fun k15 w14 hn14=>?_⟩
  have e14:=hn14.1;have z13:=c13.size;have hsl14:Sl w14.heap.size w14 p3 (ni (dC L 16)):=by
   have g:aD (fun i=>w6.heap.size<=i/\i∉[]) w14 p3 (ni (dC L 16)):=((Fg.toS2 hF7).chg c13 fun b hb hl e=>by have e:b=k1:=e;have:=hb.1;omega).ex hn14.ext
   exact g.sl
  refine Ns hsl14 rfl hk (Int.le_of_lt hrm') fun kd w15 hE15 hD15=>⟨_,_,rfl,?_⟩;have hC14:=aK.cs hn14;have hC15:=hC14.ext hE15;have z14:=hn14.size;have z15:=hE15.size;refine⟨⟨_,hC15.cell (i:=0) rfl⟩,hC15.frozen _,ap rfl ⟨by omega,by omega,by omega,by omega,?_⟩⟩
  have hs15:=hC15.set1 (off:=0) (v:=.pointer (some ⟨kd,0,none⟩)) (by simp)
  have cc:=Chg.setCells w15 ⟨k15,0,none⟩ [.pointer (some ⟨kd,0,none⟩)] 0;have hF15:=((((hF6.ext hE7).chg c13 (show¬kF=k1 by omega)).ext hn14.ext).ext hE15).chg cc (show¬kF=k15 by omega)
  have hea:((((⟨kF,0,none⟩:E_).add 5).add ((((t:Nat):Int)).toNat*2)).add ((((0:Nat):Int)).toNat*1))=⟨kF,5+2*t,none⟩:=by
   rw[af,af,af,J_,J_,show 0+5+t*2+0*1=5+2*t by omega]
  rw[hea];have hlt:5+2*t<FC.length:=by omega
  have hsF:=hF15.set1 (off:=5+2*t) (v:=.pointer (some ⟨k15,0,none⟩)) hlt;have cf:=Chg.setCells (ab w15 ⟨k15,0,none⟩ [.pointer (some ⟨kd,0,none⟩)] 0) ⟨kF,5+2*t,none⟩ [.pointer (some ⟨k15,0,none⟩)] 0;have hd15:∀b,(w14.heap.size<=b)->b<w15.heap.size->¬b=k15:=fun b hb _ e=>by omega
  have hv15:=hb13.ex (hn14.ext.trans hE15);have h15:=(h13.ext hn14.ext).ext hE15;have hLf:=(h15.chg cc (show¬k1=k15 by omega) fun b hb hl e=>by have e:b=k15:=e;have:=hb.2;omega).chg cf (show¬k1=kF by omega) fun b hb hl e=>hSF (by have e:b=kF:=e;rw[<-e];exact hb.1)
  have hcode:cZ (fun b=>(S b/\b<u.heap.size)\/u.heap.size<=b) (ab w15 ⟨k15,0,none⟩ [.pointer (some ⟨kd,0,none⟩)] 0) k15 L:=
   ⟨⟨kd,vp,vc,by rw[<-hll];exact hs15,(hD15.chg cc fun b hb hl e=>hd15 b hb hl e).mono fun b hb hl=>.inr (by omega),(aD.chg hv15 cc fun b hb hl e=>by have e:b=k15:=e;have:=hb.2;omega).mono fun b hb hl=>.inl hb⟩,.inr (by omega)⟩
  refine⟨⟨_,hF15.cell (O_ hlt)⟩,hF15.frozen _,⟨rfl,.inr ⟨hLf,k15,by omega,hcode.chg cf fun b hb hl e=>?_,hsF,?_⟩⟩,?_⟩
  ·have e:b=kF:=e
   rw[e]at hb;rcases hb with hb|hb
   ·exact hSF hb.1
   ·omega
  ·refine((((((hn1.ext.chg (S:=(·=kF))).trans c26 fun b hb hl=>?_).trans (hE7.chg (S:=fun _=>False)) fun b hb=>hb.elim).trans c13 fun b hb hl=>?_).trans ((hn14.ext.trans hE15).chg (S:=fun _=>False)) fun b hb=>hb.elim).trans cc fun b hb hl=>?_).trans cf fun b hb hl=>hb
   ·have hb:b=k1:=hb;omega
   ·have hb:b=k1:=hb;omega
   ·have hb:b=k15:=hb;omega
  ·obtain⟨p9,c9,r1,_⟩:=hLf.obj
   show cR k1 _<cR k1 w2;rw[kJ r1,hlen0];simp;omega
def tA(q1 sa1:aj)(sl1 sc1:Nat)(x1:Int)(w:C_)(R:bV):Prop:=
 ∀k1 w1,(aK w (X_ #[.slice sa1 sl1 sc1] 152) k1 w1)->∃I1:aw,(nn (q1) fun a1=>∃p1 k2 k3,(w1.cell? (a1.add 13)=some (.slice p1 k2 k3))/\ae (decide ((k2:Int)>0)) (G_ P 27 #[.bool true] w1 fun e1 w2=>(e1=.returned (.tuple #[]))/\I1 [] w2) (∃p2:aj,∃k4 k5,(w1.cell? {block:=k1,off:=0}=some (.slice p2 k4 k5))/\G_ P 27 #[.bool (decide ((k4:Int)<6))] w1 fun e2 w3=>(e2=.returned (.tuple #[]))/\I1 [] w3))/\∀w4,(I1 [] w4)->G_ P 119 #[.pointer (aH k1)] w4 fun e3 w5=>∃n1,(e3=.returned (aa n1))/\G_ P 71 #[.bool (n1 !=8)] w5 fun e4 w6=>(e4=.returned (.tuple #[]))/\G_ P 72 #[.pointer (aH k1)] w6 fun e5 w7=>∃n2,(e5=.returned (aa n2))/\G_ P 72 #[.pointer (aH k1)] w7 fun e6 w8=>∃n3,(e6=.returned (aa n3))/\nn (q1) fun a2=>aI w8 ((a2.add 9).add 1) [aa n2] fun u1=>nn (q1) fun a3=>aI u1 (a3.add 9) [aa n3] fun u2=>nn (q1) fun a4=>∃n4,(u2.cell? ((a4.add 9).add 1)=some (aa n4))/\G_ P 71 #[.bool (n4==0)] u2 fun e7 w9=>(e7=.returned (.tuple #[]))/\nn (q1) fun a5=>∃n5,(w9.cell? (a5.add 9)=some (aa n5))/\G_ P 27 #[.bool (n5==0)] w9 fun e8 w10=>(e8=.returned (.tuple #[]))/\G_ P 119 #[.pointer (aH k1)] w10 fun e9 w11=>∃n6,(e9=.returned (aa n6))/\G_ P 71 #[.bool (n6 !=1&&n6 !=3)] w11 fun e10 w12=>(e10=.returned (.tuple #[]))/\∃(I2:aw) (m1:List D_->C_->Nat),(I2 [aa 0] w12)/\∀n7 w13,(I2 [aa n7] w13)->ae (decide (n7<n6)) (∃I3:aw,(G_ P 73 #[.pointer (aH k1),aa 3] w13 fun e11 w14=>∃p3 k6 k7,(e11=.returned (.slice p3 k6 k7))/\aq (p3) (k6) (0) (1) fun a6=>∃n8,(w14.drew.cell? a6=some (u8 n8))/\aq (p3) (k6) (2) (1) fun a7=>∃n9,(w14.drew.cell? a7=some (u8 n9))/\∀k8 w15,(aK (w14.drew) (X_ #[u8 0,aa 0,.pointer none,.pointer none,aa 0] 166) k8 w15)->aI w15 {block:=k8,off:=0} [u8 n8,aa (A_.wrap n9),.pointer none,.pointer none,aa 0] fun u3=>(∃v4,w15.cell? {block:=k8,off:=1}=some v4)/\(w15.frozen? {block:=k8,off:=1}=false)/\(∃v5,w15.cell? {block:=k8,off:=2}=some v5)/\(w15.frozen? {block:=k8,off:=2}=false)/\(∃v6,w15.cell? {block:=k8,off:=3}=some v6)/\(w15.frozen? {block:=k8,off:=3}=false)/\(∃v7,w15.cell? {block:=k8,off:=4}=some v7)/\(w15.frozen? {block:=k8,off:=4}=false)/\nn (q1) fun a8=>∃p4 k9 k10,(u3.cell? (a8.add 13)=some (.slice p4 k9 k10))/\G_ P 124 #[.slice p4 k9 k10,.func (Fn.func 125) #[] #[.pointer (aH k8)]] u3 fun e12 w16=>∃c1,(e12=.returned (.bool c1))/\G_ P 27 #[.bool c1] w16 fun e13 w17=>(e13=.returned (.tuple #[]))/\aq (p3) (k6) (1) (1) fun a9=>∃n10,(w17.drew.cell? a9=some (u8 n10))/\aq (p3) (k6) (1) (1) fun a10=>∃n11,(w17.drew.cell? a10=some (u8 n11))/\∀k11,(w17.drew.heap.size<=k11)->∃I4:aw,(ae (decide (min (A_.wrap (an .shr .u8 n10 4)) (A_.wrap (B_.wrap (aR .and .u8 n11 15)))<1)||decide (max (A_.wrap (an .shr .u8 n10 4)) (A_.wrap (B_.wrap (aR .and .u8 n11 15)))>4)) (∀w18:C_,(Locl ([k11]) (w17.drew) w18)->G_ P 27 #[.bool true] w18 fun e14 w19=>(e14=.returned (.tuple #[]))/\ao [k11] w18 w19/\I4 [] w19) (∀w20:C_,(Locl ([k11]) (w17.drew) w20)->∃n12,(w20.cell? {block:=k8,off:=1}=some (aa n12))/\G_ P 27 #[.bool (decide (n12>3))] w20 fun e15 w21=>(e15=.returned (.tuple #[]))/\ao [k11] w20 w21/\I4 [] w21))/\∀w22,(I4 [] w22)->G_ P 71 #[.bool (decide (max (A_.wrap (an .shr .u8 n10 4)) (A_.wrap (B_.wrap (aR .and .u8 n11 15)))>2))] w22 fun e16 w23=>(e16=.returned (.tuple #[]))/\ao [k11] w22 w23/\∃I5:aw,(ae (n6==1) (∀w24,Locl [k11] w23 w24->I5 [aa 1,aa 1,.slice none 0 0,.slice none 0 0] w24) (I5 [aa (A_.wrap (an .shr .u8 n10 4)),aa (A_.wrap (B_.wrap (aR .and .u8 n11 15))),.slice none 0 0,.slice none 0 0] w23))/\∀n13 n14 p5 k12 k13 p6 k14 k15 w25,(I5 [aa n13,aa n14,.slice p5 k12 k13,.slice p6 k14 k15] w25)->nn (q1) fun a11=>∃p7 k16 k17,(w25.drew.cell? (a11.add 13)=some (.slice p7 k16 k17))/\∃(n15 n16:Int) (p8 p9:aj) (n17:Int),(w25.drew.cell? {block:=k8,off:=0}=some (u8 n15))/\(w25.drew.cell? {block:=k8,off:=1}=some (aa n16))/\(w25.drew.cell? {block:=k8,off:=2}=some (.pointer p8))/\(w25.drew.cell? {block:=k8,off:=3}=some (.pointer p9))/\(w25.drew.cell? {block:=k8,off:=4}=some (aa n17))/\nn (q1) fun a12=>(∀k18,(w25.drew.heap.size<=k18)->(∀w26:C_,(Locl ([k18,k11]) (w25.drew) w26)->ay (w26) ([(125,k18,[u8 n15,aa n16,.pointer p8,.pointer p9,aa n17]),(9,k11,[aa n13,aa n14,.slice p5 k12 k13,.slice p6 k14 k15])]) (p7) (k16) (k17) (1) (5) (40) (166) ([u8 0,aa 0,.pointer none,.pointer none,aa 0]) ([u8 n15,aa n16,.pointer p8,.pointer p9,aa n17]) fun p10 k19 k20 w27=>∃p11 k21 k22,(w27.cell? ((a12.add 9).add 3)=some (.slice p11 k21 k22))/\∀k23,w27.heap.size<=k23->∀w28,Locl [k23,k18,k11] w27 w28->ay (w28) ([(133,k23,[aa n13,aa n14,.slice p5 k12 k13,.slice p6 k14 k15]),(125,k18,[u8 n15,aa n16,.pointer p8,.pointer p9,aa n17]),(9,k11,[aa n13,aa n14,.slice p5 k12 k13,.slice p6 k14 k15])]) (p11) (k21) (k22) (1) (4) (64) (55) ([aa 0,aa 0,.slice none 0 0,.slice none 0 0]) ([aa n13,aa n14,.slice p5 k12 k13,.slice p6 k14 k15]) fun p12 k24 k25 w29=>nn (q1) fun a13=>aI w29 (a13.add 13) [.slice p10 k19 k20] fun u4=>(¬(a13.add 13).block∈[k23,k18,k11])/\nn (q1) fun a14=>aI u4 ((a14.add 9).add 3) [.slice p12 k24 k25] fun u5=>(¬((a14.add 9).add 3).block∈[k23,k18,k11])/\I3 [] u5)/\(∀w30:C_,(Locl ([k18,k11]) (w25.drew) w30)->∃p13 k26 k27,(w30.cell? ((a12.add 9).add 3)=some (.slice p13 k26 k27))/\(ay (w30) ([(125,k18,[u8 n15,aa n16,.pointer p8,.pointer p9,aa n17]),(9,k11,[aa n13,aa n14,.slice p5 k12 k13,.slice p6 k14 k15])]) (p7) (k16) (k17) (1) (5) (40) (166) ([u8 0,aa 0,.pointer none,.pointer none,aa 0]) ([u8 n15,aa n16,.pointer p8,.pointer p9,aa n17]) fun p14 k28 k29 w31=>∀k30,w31.heap.size<=k30->∀w32,Locl [k30,k18,k11] w31 w32->ay (w32) ([(133,k30,[aa n13,aa n14,.slice p5 k12 k13,.slice p6 k14 k15]),(125,k18,[u8 n15,aa n16,.pointer p8,.pointer p9,aa n17]),(9,k11,[aa n13,aa n14,.slice p5 k12 k13,.slice p6 k14 k15])]) (p13) (k26) (k27) (1) (4) (64) (55) ([aa 0,aa 0,.slice none 0 0,.slice none 0 0]) ([aa n13,aa n14,.slice p5 k12 k13,.slice p6 k14 k15]) fun p15 k31 k32 w33=>nn (q1) fun a15=>aI w33 (a15.add 13) [.slice p14 k28 k29] fun u6=>(¬(a15.add 13).block∈[k30,k18,k11])/\nn (q1) fun a16=>aI u6 ((a16.add 9).add 3) [.slice p15 k31 k32] fun u7=>(¬((a16.add 9).add 3).block∈[k30,k18,k11])/\I3 [] u7)/\∀k33,w30.heap.size<=k33->∀w34,Locl [k33,k18,k11] w30 w34->ay (w34) ([(133,k33,[aa n13,aa n14,.slice p5 k12 k13,.slice p6 k14 k15]),(125,k18,[u8 n15,aa n16,.pointer p8,.pointer p9,aa n17]),(9,k11,[aa n13,aa n14,.slice p5 k12 k13,.slice p6 k14 k15])]) (p7) (k16) (k17) (1) (5) (40) (166) ([u8 0,aa 0,.pointer none,.pointer none,aa 0]) ([u8 n15,aa n16,.pointer p8,.pointer p9,aa n17]) fun p16 k34 k35 w35=>ay (w35) ([(133,k33,[aa n13,aa n14,.slice p5 k12 k13,.slice p6 k14 k15]),(125,k18,[u8 n15,aa n16,.pointer p8,.pointer p9,aa n17]),(9,k11,[aa n13,aa n14,.slice p5 k12 k13,.slice p6 k14 k15])]) (p13) (k26) (k27) (1) (4) (64) (55) ([aa 0,aa 0,.slice none 0 0,.slice none 0 0]) ([aa n13,aa n14,.slice p5 k12 k13,.slice p6 k14 k15]) fun p17 k36 k37 w36=>nn (q1) fun a17=>aI w36 (a17.add 13) [.slice p16 k34 k35] fun u8=>(¬(a17.add 13).block∈[k33,k18,k11])/\nn (q1) fun a18=>aI u8 ((a18.add 9).add 3) [.slice p17 k36 k37] fun u9=>(¬((a18.add 9).add 3).block∈[k33,k18,k11])/\I3 [] u9)/\∀k38,(w25.drew.heap.size<=k38)->(∀w37:C_,(Locl ([k38,k18,k11]) (w25.drew) w37)->ay (w37) ([(133,k38,[aa n13,aa n14,.slice p5 k12 k13,.slice p6 k14 k15]),(125,k18,[u8 n15,aa n16,.pointer p8,.pointer p9,aa n17]),(9,k11,[aa n13,aa n14,.slice p5 k12 k13,.slice p6 k14 k15])]) (p7) (k16) (k17) (1) (5) (40) (166) ([u8 0,aa 0,.pointer none,.pointer none,aa 0]) ([u8 n15,aa n16,.pointer p8,.pointer p9,aa n17]) fun p18 k39 k40 w38=>∃p19 k41 k42,(w38.cell? ((a12.add 9).add 3)=some (.slice p19 k41 k42))/\ay (w38) ([(133,k38,[aa n13,aa n14,.slice p5 k12 k13,.slice p6 k14 k15]),(125,k18,[u8 n15,aa n16,.pointer p8,.pointer p9,aa n17]),(9,k11,[aa n13,aa n14,.slice p5 k12 k13,.slice p6 k14 k15])]) (p19) (k41) (k42) (1) (4) (64) (55) ([aa 0,aa 0,.slice none 0 0,.slice none 0 0]) ([aa n13,aa n14,.slice p5 k12 k13,.slice p6 k14 k15]) fun p20 k43 k44 w39=>nn (q1) fun a19=>aI w39 (a19.add 13) [.slice p18 k39 k40] fun u10=>(¬(a19.add 13).block∈[k38,k18,k11])/\nn (q1) fun a20=>aI u10 ((a20.add 9).add 3) [.slice p20 k43 k44] fun u11=>(¬((a20.add 9).add 3).block∈[k38,k18,k11])/\I3 [] u11)/\∀w40:C_,(Locl ([k38,k18,k11]) (w25.drew) w40)->∃p21 k45 k46,(w40.cell? ((a12.add 9).add 3)=some (.slice p21 k45 k46))/\ay (w40) ([(133,k38,[aa n13,aa n14,.slice p5 k12 k13,.slice p6 k14 k15]),(125,k18,[u8 n15,aa n16,.pointer p8,.pointer p9,aa n17]),(9,k11,[aa n13,aa n14,.slice p5 k12 k13,.slice p6 k14 k15])]) (p7) (k16) (k17) (1) (5) (40) (166) ([u8 0,aa 0,.pointer none,.pointer none,aa 0]) ([u8 n15,aa n16,.pointer p8,.pointer p9,aa n17]) fun p22 k47 k48 w41=>ay (w41) ([(133,k38,[aa n13,aa n14,.slice p5 k12 k13,.slice p6 k14 k15]),(125,k18,[u8 n15,aa n16,.pointer p8,.pointer p9,aa n17]),(9,k11,[aa n13,aa n14,.slice p5 k12 k13,.slice p6 k14 k15])]) (p21) (k45) (k46) (1) (4) (64) (55) ([aa 0,aa 0,.slice none 0 0,.slice none 0 0]) ([aa n13,aa n14,.slice p5 k12 k13,.slice p6 k14 k15]) fun p23 k49 k50 w42=>nn (q1) fun a21=>aI w42 (a21.add 13) [.slice p22 k47 k48] fun u12=>(¬(a21.add 13).block∈[k38,k18,k11])/\nn (q1) fun a22=>aI u12 ((a22.add 9).add 3) [.slice p23 k49 k50] fun u13=>(¬((a22.add 9).add 3).block∈[k38,k18,k11])/\I3 [] u13)/\(∃p24:aj,∃k51 k52,(w25.drew.cell? ((a12.add 9).add 3)=some (.slice p24 k51 k52))/\(∀k53,(w25.drew.heap.size<=k53)->(∀w43:C_,(Locl ([k53,k11]) (w25.drew) w43)->ay (w43) ([(125,k53,[u8 n15,aa n16,.pointer p8,.pointer p9,aa n17]),(9,k11,[aa n13,aa n14,.slice p5 k12 k13,.slice p6 k14 k15])]) (p7) (k16) (k17) (1) (5) (40) (166) ([u8 0,aa 0,.pointer none,.pointer none,aa 0]) ([u8 n15,aa n16,.pointer p8,.pointer p9,aa n17]) fun p25 k54 k55 w44=>∀k56,w44.heap.size<=k56->∀w45,Locl [k56,k53,k11] w44 w45->ay (w45) ([(133,k56,[aa n13,aa n14,.slice p5 k12 k13,.slice p6 k14 k15]),(125,k53,[u8 n15,aa n16,.pointer p8,.pointer p9,aa n17]),(9,k11,[aa n13,aa n14,.slice p5 k12 k13,.slice p6 k14 k15])]) (p24) (k51) (k52) (1) (4) (64) (55) ([aa 0,aa 0,.slice none 0 0,.slice none 0 0]) ([aa n13,aa n14,.slice p5 k12 k13,.slice p6 k14 k15]) fun p26 k57 k58 w46=>nn (q1) fun a23=>aI w46 (a23.add 13) [.slice p25 k54 k55] fun u14=>(¬(a23.add 13).block∈[k56,k53,k11])/\nn (q1) fun a24=>aI u14 ((a24.add 9).add 3) [.slice p26 k57 k58] fun u15=>(¬((a24.add 9).add 3).block∈[k56,k53,k11])/\I3 [] u15)/\∀k59,(w25.drew.heap.size<=k59)->∀w47:C_,(Locl ([k59,k53,k11]) (w25.drew) w47)->ay (w47) ([(133,k59,[aa n13,aa n14,.slice p5 k12 k13,.slice p6 k14 k15]),(125,k53,[u8 n15,aa n16,.pointer p8,.pointer p9,aa n17]),(9,k11,[aa n13,aa n14,.slice p5 k12 k13,.slice p6 k14 k15])]) (p7) (k16) (k17) (1) (5) (40) (166) ([u8 0,aa 0,.pointer none,.pointer none,aa 0]) ([u8 n15,aa n16,.pointer p8,.pointer p9,aa n17]) fun p27 k60 k61 w48=>ay (w48) ([(133,k59,[aa n13,aa n14,.slice p5 k12 k13,.slice p6 k14 k15]),(125,k53,[u8 n15,aa n16,.pointer p8,.pointer p9,aa n17]),(9,k11,[aa n13,aa n14,.slice p5 k12 k13,.slice p6 k14 k15])]) (p24) (k51) (k52) (1) (4) (64) (55) ([aa 0,aa 0,.slice none 0 0,.slice none 0 0]) ([aa n13,aa n14,.slice p5 k12 k13,.slice p6 k14 k15]) fun p28 k62 k63 w49=>nn (q1) fun a25=>aI w49 (a25.add 13) [.slice p27 k60 k61] fun au=>(¬(a25.add 13).block∈[k59,k53,k11])/\nn (q1) fun a26=>aI au ((a26.add 9).add 3) [.slice p28 k62 k63] fun u17=>(¬((a26.add 9).add 3).block∈[k59,k53,k11])/\I3 [] u17)/\∀k64,(w25.drew.heap.size<=k64)->∀k65,(w25.drew.heap.size<=k65)->∀w50:C_,(Locl ([k65,k64,k11]) (w25.drew) w50)->ay (w50) ([(125,k65,[u8 n15,aa n16,.pointer p8,.pointer p9,aa n17]),(133,k64,[aa n13,aa n14,.slice p5 k12 k13,.slice p6 k14 k15]),(9,k11,[aa n13,aa n14,.slice p5 k12 k13,.slice p6 k14 k15])]) (p7) (k16) (k17) (1) (5) (40) (166) ([u8 0,aa 0,.pointer none,.pointer none,aa 0]) ([u8 n15,aa n16,.pointer p8,.pointer p9,aa n17]) fun p29 k66 k67 w51=>ay (w51) ([(125,k65,[u8 n15,aa n16,.pointer p8,.pointer p9,aa n17]),(133,k64,[aa n13,aa n14,.slice p5 k12 k13,.slice p6 k14 k15]),(9,k11,[aa n13,aa n14,.slice p5 k12 k13,.slice p6 k14 k15])]) (p24) (k51) (k52) (1) (4) (64) (55) ([aa 0,aa 0,.slice none 0 0,.slice none 0 0]) ([aa n13,aa n14,.slice p5 k12 k13,.slice p6 k14 k15]) fun p30 k68 k69 w52=>nn (q1) fun a27=>aI w52 (a27.add 13) [.slice p29 k66 k67] fun u18=>(¬(a27.add 13).block∈[k65,k64,k11])/\nn (q1) fun a28=>aI u18 ((a28.add 9).add 3) [.slice p30 k68 k69] fun u19=>(¬((a28.add 9).add 3).block∈[k65,k64,k11])/\I3 [] u19)/\∀k70,(w25.drew.heap.size<=k70)->(∀k71,(w25.drew.heap.size<=k71)->(∀w53:C_,(Locl ([k71,k70,k11]) (w25.drew) w53)->ay (w53) ([(125,k71,[u8 n15,aa n16,.pointer p8,.pointer p9,aa n17]),(133,k70,[aa n13,aa n14,.slice p5 k12 k13,.slice p6 k14 k15]),(9,k11,[aa n13,aa n14,.slice p5 k12 k13,.slice p6 k14 k15])]) (p7) (k16) (k17) (1) (5) (40) (166) ([u8 0,aa 0,.pointer none,.pointer none,aa 0]) ([u8 n15,aa n16,.pointer p8,.pointer p9,aa n17]) fun p31 k72 k73 w54=>∃p32 k74 k75,(w54.cell? ((a12.add 9).add 3)=some (.slice p32 k74 k75))/\ay (w54) ([(125,k71,[u8 n15,aa n16,.pointer p8,.pointer p9,aa n17]),(133,k70,[aa n13,aa n14,.slice p5 k12 k13,.slice p6 k14 k15]),(9,k11,[aa n13,aa n14,.slice p5 k12 k13,.slice p6 k14 k15])]) (p32) (k74) (k75) (1) (4) (64) (55) ([aa 0,aa 0,.slice none 0 0,.slice none 0 0]) ([aa n13,aa n14,.slice p5 k12 k13,.slice p6 k14 k15]) fun p33 k76 k77 w55=>nn (q1) fun a29=>aI w55 (a29.add 13) [.slice p31 k72 k73] fun u20=>(¬(a29.add 13).block∈[k71,k70,k11])/\nn (q1) fun a30=>aI u20 ((a30.add 9).add 3) [.slice p33 k76 k77] fun u21=>(¬((a30.add 9).add 3).block∈[k71,k70,k11])/\I3 [] u21)/\∀w56:C_,(Locl ([k71,k70,k11]) (w25.drew) w56)->∃p34 k78 k79,(w56.cell? ((a12.add 9).add 3)=some (.slice p34 k78 k79))/\ay (w56) ([(125,k71,[u8 n15,aa n16,.pointer p8,.pointer p9,aa n17]),(133,k70,[aa n13,aa n14,.slice p5 k12 k13,.slice p6 k14 k15]),(9,k11,[aa n13,aa n14,.slice p5 k12 k13,.slice p6 k14 k15])]) (p7) (k16) (k17) (1) (5) (40) (166) ([u8 0,aa 0,.pointer none,.pointer none,aa 0]) ([u8 n15,aa n16,.pointer p8,.pointer p9,aa n17]) fun p35 k80 k81 w57=>ay (w57) ([(125,k71,[u8 n15,aa n16,.pointer p8,.pointer p9,aa n17]),(133,k70,[aa n13,aa n14,.slice p5 k12 k13,.slice p6 k14 k15]),(9,k11,[aa n13,aa n14,.slice p5 k12 k13,.slice p6 k14 k15])]) (p34) (k78) (k79) (1) (4) (64) (55) ([aa 0,aa 0,.slice none 0 0,.slice none 0 0]) ([aa n13,aa n14,.slice p5 k12 k13,.slice p6 k14 k15]) fun p36 k82 k83 w58=>nn (q1) fun a31=>aI w58 (a31.add 13) [.slice p35 k80 k81] fun u22=>(¬(a31.add 13).block∈[k71,k70,k11])/\nn (q1) fun a32=>aI u22 ((a32.add 9).add 3) [.slice p36 k82 k83] fun u23=>(¬((a32.add 9).add 3).block∈[k71,k70,k11])/\I3 [] u23)/\∀w59:C_,(Locl ([k70,k11]) (w25.drew) w59)->∃p37 k84 k85,(w59.cell? ((a12.add 9).add 3)=some (.slice p37 k84 k85))/\∀k86,w59.heap.size<=k86->∀w60,Locl [k86,k70,k11] w59 w60->ay (w60) ([(125,k86,[u8 n15,aa n16,.pointer p8,.pointer p9,aa n17]),(133,k70,[aa n13,aa n14,.slice p5 k12 k13,.slice p6 k14 k15]),(9,k11,[aa n13,aa n14,.slice p5 k12 k13,.slice p6 k14 k15])]) (p7) (k16) (k17) (1) (5) (40) (166) ([u8 0,aa 0,.pointer none,.pointer none,aa 0]) ([u8 n15,aa n16,.pointer p8,.pointer p9,aa n17]) fun p38 k87 k88 w61=>ay (w61) ([(125,k86,[u8 n15,aa n16,.pointer p8,.pointer p9,aa n17]),(133,k70,[aa n13,aa n14,.slice p5 k12 k13,.slice p6 k14 k15]),(9,k11,[aa n13,aa n14,.slice p5 k12 k13,.slice p6 k14 k15])]) (p37) (k84) (k85) (1) (4) (64) (55) ([aa 0,aa 0,.slice none 0 0,.slice none 0 0]) ([aa n13,aa n14,.slice p5 k12 k13,.slice p6 k14 k15]) fun p39 k89 k90 w62=>nn (q1) fun a33=>aI w62 (a33.add 13) [.slice p38 k87 k88] fun u24=>(¬(a33.add 13).block∈[k86,k70,k11])/\nn (q1) fun a34=>aI u24 ((a34.add 9).add 3) [.slice p39 k89 k90] fun u25=>(¬((a34.add 9).add 3).block∈[k86,k70,k11])/\I3 [] u25)/\∀w63,(I3 [] w63)->(I2 [aa (A_.wrap (n7+1))] w63)/\m1 [aa (A_.wrap (n7+1))] w63<m1 [aa n7] w13) (∃p40:aj,∃k91 k92,(w13.cell? {block:=k1,off:=0}=some (.slice p40 k91 k92))/\G_ P 27 #[.bool (decide ((k91:Int)>0))] w13 fun e17 ai=>(e17=.returned (.tuple #[]))/\nn (q1) fun a35=>∃n18,(ai.drew.cell? (a35.add 9)=some (aa n18))/\nn (q1) fun a36=>∃n19,(ai.drew.cell? ((a36.add 9).add 1)=some (aa n19))/\ae (decide (max n18 n19>4096)) ((∃y1:TypeId,∃v30:D_,R_ 67 (h_ #[i_ .i64 11])=R_ y1 v30)/\R (.panicked [{v:=R_ 67 (h_ #[i_ .i64 11]),recovered:=false}]) ai.drew) (nn (q1) fun a37=>∃n20,(ai.drew.cell? (a37.add 9)=some (aa n20))/\nn (q1) fun a38=>∃n21,(ai.drew.cell? ((a38.add 9).add 1)=some (aa n21))/\ae (decide (A_.wrap (n20*n21)>min x1 65536)) ((∃y2:TypeId,∃v31:D_,R_ 67 (h_ #[i_ .i64 11])=R_ y2 v31)/\R (.panicked [{v:=R_ 67 (h_ #[i_ .i64 11]),recovered:=false}]) ai.drew) (R (aM #[]) ai.drew)))
theorem pU(q1 sa1:aj)(sl1 sc1:Nat)(x1:Int)(w:C_)(R:bV)(h:tA q1 sa1 sl1 sc1 x1 w R):G_ P 76 #[.pointer q1,.slice sa1 sl1 sc1,aa x1] w R:=
  aF (ac:=sO) Tryz.func76 h
theorem N6{P:Program}{f:FuncId}{args:List D_}{c:D_}(hok:rX P f=true)(h:G_ P f (args++[c]).toArray w R):dO P (.func (.func f) #[] #[c]) args w R:=by
 unfold dO;simp only[hok];simpa using h
def gI(j:Nat):List D_:=[u8 ((j+1:Nat):Int),aa (j:Nat),.pointer none,.pointer none,aa 0]
def lj(sub j:Nat):List D_:=[aa (hU sub j:Nat),aa (hU sub j:Nat),.slice none 0 0,.slice none 0 0]
theorem m6{f:Nat->List D_}(n:Nat):ax f (H_ (n+1))=ax f (H_ n)++f n:=by simp[ax,List.range_succ]
theorem nz{f:Nat->List D_}{sz:Nat}(hf:∀a,(f a).length=sz)(hj:j<n)(hk:k<sz):(ax f (H_ n))[j*sz+k]?=(f j)[k]?:=oE hf (by rw[F_A hj]) hk
structure fG(N:Nat)(u0:C_)(kF k1:Nat)(FC:List D_)(X:List Nat)(u:C_)(pb:Option E_)(pl pc:Nat)(pv:List D_)(cb:Option E_)(cl cc:Nat)(cv:List D_):Prop where
 file:Cs u kF FC
 old:kF<N
 nu:N<=u0.heap.size
 own:∃G H:Nat->Prop,dA G u pb pl pc 5 pv/\dA H u cb cl cc 4 cv/\(∀b,G b->N<=b/\¬H b/\b∉X)/\(∀b,H b->N<=b/\b∉X)
 xs:∀b,b∈X->b<u.heap.size/\b≠kF
 kx:k1∈X
 chg:Chg (fun b=>b=kF\/(N<=b/\b≠k1)) u0 u
section
variable {N : Nat} {u0 u : C_} {kF k1 : Nat} {FC : List D_} {X : List Nat} {pb : Option E_} {pl pc : Nat} {pv : List D_} {cb : Option E_} {cl cc : Nat} {cv : List D_}
theorem fG.ext(h:fG N u0 kF k1 FC X u pb pl pc pv cb cl cc cv)(hE:Ext u u'):fG N u0 kF k1 FC X u' pb pl pc pv cb cl cc cv:=by
 obtain⟨G,H,g1,g2,g3,g4⟩:=h.own;have hz:=hE.size;exact⟨h.file.ext hE,h.old,h.nu,⟨G,H,g1.ext hE,g2.ext hE,g3,g4⟩,fun b hb=>⟨by have:=(h.xs b hb).1;omega,(h.xs b hb).2⟩,h.kx,h.chg.trans (hE.chg (S:=fun _=>False)) fun _ h _=>h.elim⟩
theorem fG.sub(h:fG N u0 kF k1 FC X u pb pl pc pv cb cl cc cv){Y:List Nat}(hY:∀b,b∈Y->b∈X)(hk:k1∈Y):fG N u0 kF k1 FC Y u pb pl pc pv cb cl cc cv:=by
 obtain⟨G,H,g1,g2,g3,g4⟩:=h.own;exact⟨h.file,h.old,h.nu,⟨G,H,g1,g2,fun b hb=>⟨(g3 b hb).1,(g3 b hb).2.1,fun hm=>(g3 b hb).2.2 (hY b hm)⟩,fun b hb=>⟨(g4 b hb).1,fun hm=>(g4 b hb).2 (hY b hm)⟩⟩,fun b hb=>h.xs b (hY b hb),hk,h.chg⟩
theorem fG.loc(h:fG N u0 kF k1 FC X u pb pl pc pv cb cl cc cv){bs:List Nat}(hL:Locl bs u u')(hb:∀b,b∈bs->(b∈X/\b≠k1/\N<=b)\/u.heap.size<=b):fG N u0 kF k1 FC (bs++X) u' pb pl pc pv cb cl cc cv:=by
 obtain⟨G,H,g1,g2,g3,g4⟩:=h.own;have hz:=hL.size;have hz0:=h.chg.size;have hnu:=h.nu;have hold:=h.old;have hkl:=h.file.lt;have hne:∀b,b∈bs->b≠kF:=fun b hm=>by
  rcases hb b hm with g|g
  ·exact(h.xs b g.1).2
  ·omega
 have d1:∀b,G b->b∉bs:=fun b hg hm=>by
  rcases hb b hm with g|g
  ·exact(g3 b hg).2.2 g.1
  ·have:=g1.bd b hg;omega
 have d2:∀b,H b->b∉bs:=fun b hg hm=>by
  rcases hb b hm with g|g
  ·exact(g4 b hg).2 g.1
  ·have:=g2.bd b hg;omega
 refine⟨h.file.chg hL.chg fun hm=>hne kF hm rfl,h.old,h.nu,⟨G,H,g1.chg hL.chg d1,g2.chg hL.chg d2,fun b hg=>⟨(g3 b hg).1,(g3 b hg).2.1,fun hm=>?_⟩,fun b hg=>⟨(g4 b hg).1,fun hm=>?_⟩⟩,fun b hm=>?_,j_ _ h.kx,h.chg.trans hL.chg fun b hm hl=>?_⟩
 ·rcases List.mem_append.1 hm with hm|hm
  ·exact d1 b hg hm
  ·exact(g3 b hg).2.2 hm
 ·rcases List.mem_append.1 hm with hm|hm
  ·exact d2 b hg hm
  ·exact(g4 b hg).2 hm
 ·rcases List.mem_append.1 hm with hm|hm
  ·exact⟨hL.there b hm,hne b hm⟩
  ·exact⟨by have:=(h.xs b hm).1;omega,(h.xs b hm).2⟩
 ·rcases hb b hm with g|g
  ·exact .inr ⟨g.2.2,g.2.1⟩
  ·omega
theorem fG.app1{l:List (Nat×Nat×List D_)}{bytes:Nat}{elem:TypeId}
 (h:fG N u0 kF k1 FC X u pb pl pc pv cb cl cc cv)(hl:∀b,b∈am l->b∈X)(hz:zero.length=5)(hn:fs.length=5)(hby:(pl+1)*bytes<=2^47)(h62:pl+1<2^62)
 (hF:∀pb' pc' u',fG N u0 kF k1 FC X u' pb' (pl+1) pc' (pv++fs) cb cl cc cv->F pb' (pl+1) pc' u'):ay u l pb pl pc 1 5 bytes elem zero fs F:=by
 obtain⟨G,H,g1,g2,g3,g4⟩:=h.own;refine g1.app (fun b hb hg=>(g3 b hg).2.2 (hl b hb)) hz (by omega) hby h62 fun S' pb' pc' u' hg ho hc=>hF pb' pc' u' ?_
 have hzz:=hc.size;have hz0:=h.chg.size;have hnu:=h.nu;have hold:=h.old;have hkl:=h.file.lt;have hnk:¬G kF:=fun e=>by have:=(g3 kF e).1;have:=h.old;omega
 refine⟨h.file.chg hc hnk,h.old,h.nu,⟨S',H,ho,g2.chg hc fun i hi hg=>(g3 i hg).2.1 hi,fun b hb=>?_,g4⟩,fun b hb=>⟨by have:=(h.xs b hb).1;omega,(h.xs b hb).2⟩,h.kx,h.chg.trans hc fun b hb _=>.inr ⟨(g3 b hb).1,fun e=>(g3 b hb).2.2 (by rw[e];exact h.kx)⟩⟩
 rcases hg.2 b hb with hb|hb
 ·exact g3 b hb
 ·exact⟨by omega,fun hh=>by have:=g2.bd b hh;omega,fun hx=>by have:=(h.xs b hx).1;omega⟩
theorem fG.app2{l:List (Nat×Nat×List D_)}{bytes:Nat}{elem:TypeId}
 (h:fG N u0 kF k1 FC X u pb pl pc pv cb cl cc cv)(hl:∀b,b∈am l->b∈X)(hz:zero.length=4)(hn:fs.length=4)(hby:(cl+1)*bytes<=2^47)(h62:cl+1<2^62)
 (hF:∀cb' cc' u',fG N u0 kF k1 FC X u' pb pl pc pv cb' (cl+1) cc' (cv++fs)->F cb' (cl+1) cc' u'):ay u l cb cl cc 1 4 bytes elem zero fs F:=by
 obtain⟨G,H,g1,g2,g3,g4⟩:=h.own;refine g2.app (fun b hb hg=>(g4 b hg).2 (hl b hb)) hz (by omega) hby h62 fun S' cb' cc' u' hg ho hc=>hF cb' cc' u' ?_
 have hzz:=hc.size;have hz0:=h.chg.size;have hnu:=h.nu;have hold:=h.old;have hkl:=h.file.lt;have hnk:¬H kF:=fun e=>by have:=(g4 kF e).1;have:=h.old;omega
 refine⟨h.file.chg hc hnk,h.old,h.nu,⟨G,S',g1.chg hc fun i hi hg=>(g3 i hi).2.1 hg,ho,fun b hb=>⟨(g3 b hb).1,fun hs=>?_,(g3 b hb).2.2⟩,fun b hb=>?_⟩,fun b hb=>⟨by have:=(h.xs b hb).1;omega,(h.xs b hb).2⟩,h.kx,h.chg.trans hc fun b hb _=>.inr ⟨(g4 b hb).1,fun e=>(g4 b hb).2 (by rw[e];exact h.kx)⟩⟩
 ·rcases hg.2 b hs with hs|hs
  ·exact(g3 b hb).2.1 hs
  ·have:=g1.bd b hb;omega
 ·rcases hg.2 b hb with hb|hb
  ·exact g4 b hb
  ·exact⟨by omega,fun hx=>by have:=(h.xs b hx).1;omega⟩
theorem fG.put(h:fG N u0 kF k1 FC X u pb pl pc pv cb cl cc cv)(ho:off<FC.length):fG N u0 kF k1 (FC.set off v) X (ab u ⟨kF,off,none⟩ [v] 0) pb pl pc pv cb cl cc cv:=by
 obtain⟨G,H,g1,g2,g3,g4⟩:=h.own;have c1:=Chg.setCells u ⟨kF,off,none⟩ [v] 0;have hz:=c1.size;have hold:=h.old;exact⟨h.file.set1 ho,h.old,h.nu,⟨G,H,g1.chg c1 fun i hi e=>by have e:i=kF:=e;have:=(g3 i hi).1;omega,g2.chg c1 fun i hi e=>by have e:i=kF:=e;have:=(g4 i hi).1;omega,g3,g4⟩,fun b hb=>⟨by have:=(h.xs b hb).1;omega,(h.xs b hb).2⟩,h.kx,h.chg.trans c1 fun b hb _=>.inl hb⟩
theorem fG.fin{I:C_->Prop}{ks:List Nat}(h:fG N u0 kF k1 FC X u pb pl pc pv cb cl cc cv)(hFl:FC.length=14)(hks:∀k,k∈ks->k∈X)
 (hI:∀u',fG N u0 kF k1 ((FC.set 13 (.slice pb pl pc)).set 12 (.slice cb cl cc)) X u' pb pl pc pv cb cl cc cv->I u'):
  nn (some ⟨kF,0,none⟩) fun a=>(∃v,u.cell? (a.add 13)=some v)/\u.frozen? (a.add 13)=false/\(¬(a.add 13).block∈ks)/\nn (some ⟨kF,0,none⟩) fun b=>
   (∃v,(ab u (a.add 13) [.slice pb pl pc] 0).cell? ((b.add 9).add 3)=some v)/\((ab u (a.add 13) [.slice pb pl pc] 0).frozen? ((b.add 9).add 3)=false)/\(¬((b.add 9).add 3).block∈ks)/\I (ab (ab u (a.add 13) [.slice pb pl pc] 0) ((b.add 9).add 3) [.slice cb cl cc] 0):=by
 have hk:kF∉ks:=fun hm=>(h.xs kF (hks kF hm)).2 rfl;have p1:=h.put (off:=13) (v:=.slice pb pl pc) (by omega)
 have p2:=p1.put (off:=12) (v:=.slice cb cl cc) (by rw[N_];omega)
 refine ap rfl ?_;rw[af,P_];refine⟨⟨_,h.file.cell (O_ (by omega))⟩,h.file.frozen _,hk,ap rfl ?_⟩
 rw[af,af,show 0+9+3=12 by omega]
 exact⟨⟨_,p1.file.cell (O_ (by rw[N_];omega))⟩,p1.file.frozen _,hk,hI _ p2⟩
theorem fG.read(h:fG N u0 kF k1 FC X u pb pl pc pv cb cl cc cv)(hc:Chg (·=k1) u u'):fG N u' kF k1 FC X u' pb pl pc pv cb cl cc cv:=by
 obtain⟨G,H,g1,g2,g3,g4⟩:=h.own;have hz:=hc.size;have hz0:=h.chg.size;have hnu:=h.nu;exact⟨h.file.chg hc fun e=>(h.xs k1 h.kx).2 e.symm,h.old,by omega,⟨G,H,g1.chg hc fun i hi e=>by
  have e:i=k1:=e;exact(g3 i hi).2.2 (by rw[e];exact h.kx),g2.chg hc fun i hi e=>by
  have e:i=k1:=e;exact(g4 i hi).2 (by rw[e];exact h.kx),g3,g4⟩,fun b hb=>⟨by have:=(h.xs b hb).1;omega,(h.xs b hb).2⟩,h.kx,Chg.refl _ _⟩
theorem fG.part(h:fG N u0 kF k1 FC X u pb pl pc (ax gI (H_ pl)) cb cl cc cv)(hj:j<pl){P:E_->Prop}(hP:∀a:E_,(∀k v,k<5->(gI j)[k]?=some v->u.cell? (a.add k)=some v)->P a):aq pb pl (j:Nat) 5 P:=by
 obtain⟨G,H,g1,g2,g3,g4⟩:=h.own;obtain⟨b,rest,q1,rfl,q3⟩:=dA.block g1 (by omega)
 refine bo (by omega) (by omega) rfl ?_
 rw[J_];refine hP _ fun k v hk hv=>?_;rw[af,af,P_];refine q3.cell ?_;rw[b_ (by rw[bi (sz:=5) fun _=>rfl,V_];omega),nz (f:=gI) (sz:=5) (fun _=>rfl) hj hk,hv]
end
theorem Of{u0:C_}{kF k1 k8 pl pc:Nat}{FC:List D_}{pb cb:Option E_}{cl cc:Nat}{cv:List D_}(h:fG N u0 kF k1 FC X u pb pl pc (ax gI (H_ pl)) cb cl cc cv)(h8:Cs u k8 (u8 ((pl+1:Nat):Int)::T))(hpl:pl<=3)
 (hR:∀u',Ext u u'->R (.returned (.bool false)) u'):G_ P 124 #[.slice pb pl pc,.func (.func 125) #[] #[.pointer (some ⟨k8,0,none⟩)]] u R:=by
 refine iT _ _ _ _ _ _ ?_;refine jE _ _ _ _ _ _ ⟨fun vs v=>∃i:Nat,vs=[aa (i:Nat)]/\i<=pl/\Ext u v,fun vs _=>match vs with|[.int _ i]=>(pl-i:Int).toNat|_=>0,⟨0,rfl,by omega,Ext.refl u⟩,fun n1 w1 hI=>?_⟩
 obtain⟨i,hv,hi,hE⟩:=hI;simp only[T_,U_,true_and,and_true]at hv;subst hv;refine ak (fun hlt=>?_) fun hge=>⟨_,rfl,hR w1 hE⟩;have hlt:i<pl:=by have:=of_decide_eq_true hlt;omega
 refine(h.ext hE).part hlt fun a ha=>⟨_,_,_,_,_,(by have:=ha 0 _ (by omega) rfl;rwa[eg]at this),ha 1 _ (by omega) rfl,ha 2 _ (by omega) rfl,ha 3 _ (by omega) rfl,ha 4 _ (by omega) rfl,?_⟩
 refine N6 (by kernel_rfl) (ml _ _ _ _ _ _ _ _ fun k hk w2 hL2=>?_)
 have hE2:=hE.trans (hL2.ext fun b hb=>by simp at hb;omega)
 refine⟨_,(h8.ext hE2).cell (i:=0) rfl,_,rfl,al (by rw[beq_eq_false_iff_ne];omega) ?_⟩
 rw[show A_.wrap (((i:Nat):Int)+1)=((i+1:Nat):Int) by rw[ai (by omega) (by omega)];omega]
 exact⟨⟨i+1,rfl,by omega,hE2⟩,by show(pl-((i+1:Nat):Int)).toNat<(pl-((i:Nat):Int)).toNat;omega⟩
def tN(sub i k:Nat):List Int:=(List.range' i k).flatMap fun i=>[((i+1:Nat):Int),((17*hU sub i:Nat):Int),((i:Nat):Int)]
theorem KD(sub i k:Nat):tN sub i (k+1)=[((i+1:Nat):Int),((17*hU sub i:Nat):Int),((i:Nat):Int)]++tN sub (i+1) k:=rfl
theorem HZ(W H sub n:Nat):bX W H sub n=[8,((H/256:Nat):Int),((H%256:Nat):Int),((W/256:Nat):Int),((W%256:Nat):Int),((mU sub:Nat):Int)]++tN sub 0 n:=by
 unfold bX tN;rw[G_A]
theorem Pq{h:Nat}(hh:h=1\/h=2):A_.wrap (an BinOp.shr B_ ((17*h:Nat):Int) 4)=(h:Nat)/\A_.wrap (B_.wrap (aR BinOp.and B_ ((17*h:Nat):Int) 15))=(h:Nat):=by
 rcases hh with rfl|rfl<;>decide
theorem rm(bs:List Nat)(w:C_):ao bs w w:=fun b _ hlt=>⟨hlt,rfl⟩
theorem _root_.Go.Vc.Locl.tr{bs:List Nat}{a b c:C_}(h:Locl bs a b)(k:Locl bs b c):Locl bs a c:=by
 have hc:=h.chg.trans k.chg fun i hi _=>hi;exact⟨hc.os,hc.tape,hc.output,hc.size,hc.block,k.there⟩
theorem Mh{kF c sub:Nat}{FC:List D_}{S:Nat->Prop}{most:Int}(hF:Cs u kF FC)(hFl:FC.length=14)(h12:FC[12]?=some (.slice none 0 0))(h13:FC[13]?=some (.slice none 0 0))
 (hs:aD S u p (bytes (bX W H sub (mU sub))))(hn:n=(bX W H sub (mU sub)).length)(hc:n<=c)(hSF:¬S kF)(hW:1<=W/\W<=4096)(hH:1<=H/\H<=4096)(hWH:W*H<=65536)(hsub:sub<=2)(hmost:((W*H:Nat):Int)<=most)
 (hR:∀kp kc pc cc FC' rp rc u',u.heap.size<=kp->u.heap.size<=kc->kp≠kc->Cs u' kp (ax gI (H_ (mU sub))++rp)->Cs u' kc (ax (lj sub) (H_ (mU sub))++rc)->Cs u' kF FC'->FC'.length=14->
 FC'[9]?=some (aa (W:Nat))->FC'[10]?=some (aa (H:Nat))->FC'[12]?=some (.slice (some ⟨kc,0,none⟩) (mU sub) cc)->FC'[13]?=some (.slice (some ⟨kp,0,none⟩) (mU sub) pc)->(∀j,j≠9->j≠10->j≠12->j≠13->FC'[j]?=FC[j]?)->
 Chg (·=kF) u u'->R (.returned (.tuple #[])) u'):
  G_ P 76 #[.pointer (some ⟨kF,0,none⟩),.slice p n c,aa most] u R:=by
 have hmU:=dM (sub:=sub);have hlen:=jC W H sub (mU sub);refine pU _ _ _ _ _ _ _ fun k1 w1 hn1=>?_;have e1:=hn1.1;have hFl1:=hF.lt;have z1:=hn1.size;subst hn;have hL1:bT (fun b=>S b/\b<u.heap.size) w1 k1 [] (bX W H sub (mU sub)):=⟨⟨p,c,aK.cs hn1,hc,(aD.mono hs fun b hb hl=>⟨hb,hl⟩).ex hn1.ext⟩,fun h=>by have:=h.2;omega⟩
 have hF1:=hF.ext hn1.ext;have hc1:Chg (·=kF) u w1:=hn1.ext.chg;have h9l:9<FC.length:=by omega
 refine⟨fun vs v=>vs=[]/\v=w1,?_,fun w4 hI=>?_⟩
 ·refine ap rfl ⟨none,0,0,?_,al rfl ?_⟩
  ·rw[af,P_];exact hF1.cell h13
  ·obtain⟨p',c',q1,_⟩:=hL1.obj
   exact⟨_,_,_,q1.cell (i:=0) rfl,aS (decide_eq_false (by omega)) ⟨rfl,rfl,rfl⟩⟩
 obtain⟨_,rfl⟩:=hI;rw[HZ]at hL1;have hL1:bT (fun b=>S b/\b<u.heap.size) w4 k1 [] (8::((H/256:Nat):Int)::((H%256:Nat):Int)::((W/256:Nat):Int)::((W%256:Nat):Int)::((mU sub:Nat):Int)::tN sub 0 (mU sub)):=hL1;refine nq hL1 (by omega) fun w5 h5 c5=>⟨_,rfl,dd rfl ⟨rfl,?_⟩⟩
 refine Hi h5 (by omega) (by omega) fun w7 h7 c7=>⟨_,rfl,Hi h7 (by omega) (by omega) fun w8 h8 c8=>⟨_,rfl,?_⟩⟩
 rw[show(256:Int)*((H/256:Nat):Int)+((H%256:Nat):Int)=((H:Nat):Int) by omega,show(256:Int)*((W/256:Nat):Int)+((W%256:Nat):Int)=((W:Nat):Int) by omega]
 have c48:=(c5.trans c7 fun b hb _=>hb).trans c8 fun b hb _=>hb;have hF8:=hF1.chg c48 (show¬kF=k1 by omega)
 have s1:=hF8.set1 (off:=10) (v:=aa (H:Nat)) (by omega)
 have d1:=Chg.setCells w8 ⟨kF,10,none⟩ [aa (H:Nat)] 0;have s2:=s1.set1 (off:=9) (v:=aa (W:Nat)) (by rw[N_];omega)
 have d2:=Chg.setCells (ab w8 ⟨kF,10,none⟩ [aa (H:Nat)] 0) ⟨kF,9,none⟩ [aa (W:Nat)] 0;have hnz:∀b,(S b/\b<u.heap.size)->¬b=kF:=fun b hb e=>hSF (by rw[<-e];exact hb.1)
 have h8':=(h8.chg d1 (show¬k1=kF by omega) fun b hb _=>hnz b hb).chg d2 (show¬k1=kF by omega) fun b hb _=>hnz b hb
 have hc8:Chg (·=kF) u (ab (ab w8 ⟨kF,10,none⟩ [aa (H:Nat)] 0) ⟨kF,9,none⟩ [aa (W:Nat)] 0):=((hc1.trans c48 fun b hb hl=>by have hb:b=k1:=hb;omega).trans d1 fun b hb _=>hb).trans d2 fun b hb _=>hb
 refine ap rfl ?_;rw[af,af,show 0+9+1=10 by omega]
 refine⟨⟨_,hF8.cell (O_ (by omega))⟩,hF8.frozen _,ap rfl ?_⟩
 rw[af,show 0+9=9 by omega]
 refine⟨⟨_,s1.cell (O_ (by rw[N_];omega))⟩,s1.frozen _,ap rfl ⟨((H:Nat):Int),?_,?_⟩⟩
 ·rw[af,af,show 0+9+1=10 by omega]
  exact s2.cell (by rw[Q_ (by omega),W_ (by omega)])
 generalize hu8:ab (ab w8 ⟨kF,10,none⟩ [aa (H:Nat)] 0) ⟨kF,9,none⟩ [aa (W:Nat)] 0=u8' at*;clear hu8 d1 d2 s1;refine dd (by rw[beq_eq_false_iff_ne];omega) ⟨rfl,ap rfl ⟨((W:Nat):Int),?_,aS (by rw[beq_eq_false_iff_ne];omega) ⟨rfl,?_⟩⟩⟩
 ·rw[af,show 0+9=9 by omega]
  exact s2.cell (by rw[W_ (by rw[N_];omega)])
 refine nq h8' (by omega) fun w11 h11 c11=>⟨_,rfl,?_⟩
 refine dd (by rcases hmU with e|e<;>rw[e]<;>decide) ⟨rfl,?_⟩
 obtain⟨FC0,hFC0⟩:∃l,l=(FC.set 10 (aa (H:Nat))).set 9 (aa (W:Nat)):=⟨_,rfl⟩;have f0l:FC0.length=14:=by rw[hFC0,N_,N_];exact hFl
 have f09:FC0[9]?=some (aa (W:Nat)):=by rw[hFC0,W_ (by rw[N_];omega)]
 have f010:FC0[10]?=some (aa (H:Nat)):=by rw[hFC0,Q_ (by omega),W_ (by omega)]
 have f0o:∀j,j≠9->j≠10->FC0[j]?=FC[j]?:=fun j h9 h10=>by rw[hFC0,Q_ (by omega),Q_ (by omega)]
 rw[<-hFC0]at s2;clear hFC0;have s11:=s2.chg c11 (show¬kF=k1 by omega)
 have hc11:Chg (·=kF) u w11:=hc8.trans c11 fun b hb hl=>by have hb:b=k1:=hb;omega
 have zc11:=hc11.size;have k1l:=h11.lt;clear s2 hF8 h8 h8' h7 h5 c5 c7 c8 c48 hL1 hF1 hc1 hc8 c11;refine⟨fun vs v=>∃(i:Nat) (pb cb:Option E_) (pc cc:Nat) (FCi:List D_),vs=[aa (i:Nat)]/\i<=mU sub/\bT (fun b=>S b/\b<u.heap.size) v k1 [] (tN sub i (mU sub-i))/\FCi.length=14/\FCi[12]?=some (.slice cb i cc)/\FCi[13]?=some (.slice pb i pc)/\(∀j,j≠12->j≠13->FCi[j]?=FC0[j]?)/\
   fG u.heap.size v kF k1 FCi [k1] v pb i pc (ax gI (H_ i)) cb i cc (ax (lj sub) (H_ i))/\Chg (·=kF) u v,fun vs _=>match vs with|[.int _ i]=>(mU sub-i:Int).toNat|_=>0,
  ⟨0,none,none,0,0,FC0,rfl,by omega,h11,f0l,by rw[f0o 12 (by omega) (by omega)];exact h12,by rw[f0o 13 (by omega) (by omega)];exact h13,fun _ _ _=>rfl,⟨s11,hFl1,by omega,⟨fun _=>False,fun _=>False,dA.nil _ _ _,dA.nil _ _ _,fun _ h=>h.elim,fun _ h=>h.elim⟩,fun b hb=>by simp at hb;omega,by simp,Chg.refl _ _⟩,hc11⟩,fun n7 w13 hI=>?_⟩
 obtain⟨i,pb,cb,pc,cc,FCi,hv,hi,hL,fl,f12,f13,fo,hT,hcc⟩:=hI;simp only[T_,U_,true_and,and_true]at hv;subst hv;refine ak (fun hlt=>?_) fun hge=>?_
 rotate_left
 ·have:i=mU sub:=by have:=of_decide_eq_false hge;omega
  subst this;rw[f_]at hL;obtain⟨p',c',q1,_⟩:=hL.obj;refine⟨_,_,_,q1.cell (i:=0) rfl,aS rfl ⟨rfl,?_⟩⟩;have hd:fG u.heap.size w13 kF k1 FCi [k1] w13.drew _ _ _ _ _ _ _ _:=hT.ext (Ext.refl w13).drew;have g9:w13.drew.cell? ⟨kF,9,none⟩=some (aa (W:Nat)):=hd.file.cell (by rw[fo 9 (by omega) (by omega)];exact f09)
  have g10:w13.drew.cell? ⟨kF,10,none⟩=some (aa (H:Nat)):=hd.file.cell (by rw[fo 10 (by omega) (by omega)];exact f010)
  have a9:(⟨kF,0,none⟩:E_).add 9=⟨kF,9,none⟩:=af _ _ _;have a10:((⟨kF,0,none⟩:E_).add 9).add 1=⟨kF,10,none⟩:=by rw[af,af]
  refine ap rfl ⟨_,by rw[a9];exact g9,ap rfl ⟨_,by rw[a10];exact g10,al (decide_eq_false (by omega)) (ap rfl ⟨_,by rw[a9];exact g9,ap rfl ⟨_,by rw[a10];exact g10,al (decide_eq_false ?_) ?_⟩⟩)⟩⟩
  ·rw[<-Int.natCast_mul,wN];omega
  obtain⟨G,HH,g1,g2,g3,g4⟩:=hd.own;obtain⟨kp,rp,q1,rfl,q3⟩:=dA.block g1 (by omega)
  obtain⟨kc,rc,r1,rfl,r3⟩:=dA.block g2 (by omega)
  exact hR kp kc pc cc FCi rp rc _ (g3 kp q1).1 (g4 kc r1).1 (fun e=>(g3 kp q1).2.1 (by rw[e];exact r1)) q3 r3 hd.file fl (by rw[fo 9 (by omega) (by omega)];exact f09) (by rw[fo 10 (by omega) (by omega)];exact f010) f12 f13 (fun j h9 h10 h12 h13=>by rw[fo j h12 h13,f0o j h9 h10]) (hcc.trans ((Ext.refl w13).drew.chg (S:=(·=kF))) fun b hb _=>hb)
 have hlt:i<mU sub:=by have:=of_decide_eq_true hlt;omega
 obtain⟨m,hm⟩:∃m,mU sub-i=m+1:=⟨mU sub-i-1,by omega⟩
 rw[hm,KD]at hL;have hN0:u.heap.size<=k1:=by omega
 have hh:=it (i:=i) hsub;obtain⟨v1,v2⟩:=Pq hh;obtain⟨I3,eI3⟩:∃I:List D_->C_->Prop,I=fun vs v=>vs=[]/\∃(pb cb:Option E_) (pc cc:Nat) (FCi:List D_),bT (fun b=>S b/\b<u.heap.size) v k1 [] (tN sub (i+1) (mU sub-(i+1)))/\FCi.length=14/\FCi[12]?=some (.slice cb (i+1) cc)/\FCi[13]?=some (.slice pb (i+1) pc)/\(∀j,j≠12->j≠13->FCi[j]?=FC0[j]?)/\
   fG u.heap.size v kF k1 FCi [k1] v pb (i+1) pc (ax gI (H_ (i+1))) cb (i+1) cc (ax (lj sub) (H_ (i+1)))/\Chg (·=kF) u v:=⟨_,rfl⟩
 refine⟨I3,?_,fun w63 hI=>?_⟩
 rotate_left
 ·rw[eI3]at hI
  obtain⟨_,pb,cb,pc,cc,FCi,g⟩:=hI;rw[show A_.wrap (((i:Nat):Int)+1)=((i+1:Nat):Int) by rw[ai (by omega) (by omega)];omega]
  exact⟨⟨i+1,pb,cb,pc,cc,FCi,rfl,by omega,g⟩,by show(mU sub-((i+1:Nat):Int)).toNat<(mU sub-((i:Nat):Int)).toNat;omega⟩
 refine mj (n:=3) hL rfl fun bp bc w14 hbc hb14 h14 c14=>⟨_,_,_,rfl,?_⟩;have hT14:=hT.read c14;have hcc14:Chg (·=kF) u w14:=hcc.trans c14 fun b hb hl=>by have hb:b=k1:=hb;omega
 have hg:∀(v:C_) (j:Nat) (x:Int),aD (fun b=>S b/\b<u.heap.size) v bp (bytes [((i+1:Nat):Int),((17*hU sub i:Nat):Int),((i:Nat):Int)])->[((i+1:Nat):Int),((17*hU sub i:Nat):Int),((i:Nat):Int)][j]?=some x->∀{F:E_->Prop},(∀a,v.cell? a=some (u8 x)->F a)->aq bp 3 (j:Nat) 1 F:=fun v j x hb hx F hF=>by
  refine hb.getB (v:=u8 x) rfl ?_ fun a _ ha=>hF a ha;unfold bytes;rw[e_,hx];rfl
 have hd14:=hb14.ex (Ext.refl w14).drew;refine hg _ 0 _ hd14 rfl fun a6 ha6=>⟨_,ha6,hg _ 2 _ hd14 rfl fun a7 ha7=>⟨_,ha7,fun k8 w15 hn15=>?_⟩⟩;have e15:=hn15.1;have e15:k8=w14.heap.size:=e15;have z15:=hn15.size;have C15:=aK.cs hn15;have hE15:Ext w14 w15:=(Ext.refl w14).drew.trans hn15.ext;refine⟨⟨_,C15.cell (i:=0) rfl⟩,C15.frozen _,⟨_,C15.cell (i:=1) rfl⟩,C15.frozen _,⟨_,C15.cell (i:=2) rfl⟩,C15.frozen _,⟨_,C15.cell (i:=3) rfl⟩,C15.frozen _,⟨_,C15.cell (i:=4) rfl⟩,C15.frozen _,?_⟩;rw[show A_.wrap ((i:Nat):Int)=((i:Nat):Int)from wN]
 have zc14:=hcc14.size;have S16:=C15.set (off:=0) (us:=[u8 ((i+1:Nat):Int),aa (i:Nat),.pointer none,.pointer none,aa 0]) (by simp)
 have d16:=Chg.setCells w15 ⟨k8,0,none⟩ [u8 ((i+1:Nat):Int),aa (i:Nat),.pointer none,.pointer none,aa 0] 0;have hE16:Ext w14 (ab w15 ⟨k8,0,none⟩ [u8 ((i+1:Nat):Int),aa (i:Nat),.pointer none,.pointer none,aa 0] 0):=hE15.step d16 fun b hb=>by have hb:b=k8:=hb;omega
 have z16:=hE16.size;have S16:Cs (ab w15 ⟨k8,0,none⟩ [u8 ((i+1:Nat):Int),aa (i:Nat),.pointer none,.pointer none,aa 0] 0) k8 (gI i):=S16;generalize hu16:ab w15 ⟨k8,0,none⟩ [u8 ((i+1:Nat):Int),aa (i:Nat),.pointer none,.pointer none,aa 0] 0=au at*;clear hu16 d16 C15;have k8l:=S16.lt;have k1l14:=h14.lt;have a13:(⟨kF,0,none⟩:E_).add 13=⟨kF,13,none⟩:=af _ _ _;have a12:((⟨kF,0,none⟩:E_).add 9).add 3=⟨kF,12,none⟩:=by rw[af,af]
 have hT16:=hT14.ext hE16;refine ap rfl ⟨_,_,_,by rw[a13];exact hT16.file.cell f13,?_⟩
 refine Of hT16 S16 (by omega) fun w17 hE17=>⟨_,rfl,aS rfl ⟨rfl,?_⟩⟩
 have hE17d:=hE16.trans (hE17.trans (Ext.refl w17).drew);have hT17:=hT14.ext hE17d;have hb17:=hb14.ex hE17d;have h17:=h14.ext hE17d;have S17:=S16.ext (hE17.trans (Ext.refl w17).drew);have z17:=hE17d.size;have zz17:=(hE17.trans (Ext.refl w17).drew).size;refine hg _ 1 _ hb17 rfl fun a9 ha9=>⟨_,ha9,hg _ 1 _ hb17 rfl fun a10 ha10=>⟨_,ha10,?_⟩⟩;rw[v1,v2];intro k11 hk11;generalize w17.drew=v17 at*;refine⟨fun vs v=>vs=[]/\Locl [k11] v17 v,al ?_ fun w20 hL20=>⟨_,(S17.ext (hL20.ext fun b hb=>by simp at hb;omega)).cell (i:=1) rfl,aS (decide_eq_false (by omega)) ⟨rfl,rm _ _,rfl,hL20⟩⟩,fun w22 hI=>?_⟩
 ·rw[decide_eq_false (by omega),decide_eq_false (by omega)];rfl
 obtain⟨_,hL22⟩:=hI;refine dd (decide_eq_false (by omega)) ⟨rfl,rm _ _,?_⟩
 refine⟨fun vs v=>vs=[aa (hU sub i:Nat),aa (hU sub i:Nat),.slice none 0 0,.slice none 0 0]/\Locl [k11] v17 v,ak (fun h1 w24 hL24=>⟨?_,hL22.tr hL24⟩) fun _=>⟨rfl,hL22⟩,fun n13 n14 p5 k12 k13 p6 k14 k15 w25 hI=>?_⟩
 ·have:mU sub=1:=by
   have:((mU sub:Nat):Int)=1:=by simpa using h1
   omega
  have:hU sub i=1:=by
   unfold hU;unfold mU at this;have:sub=0:=by split at this<;>omega
   subst this
   split<;>rfl
  rw[this];rfl
 obtain⟨hv,hL25⟩:=hI;simp only[T_,U_,D_.slice.injEq,true_and,and_true]at hv;obtain⟨rfl,rfl,⟨rfl,rfl,rfl⟩,rfl,rfl,rfl⟩:=hv;have hE25:Ext v17 w25.drew:=(hL25.ext fun b hb=>by simp at hb;omega).trans (Ext.refl w25).drew
 have hL25d:Locl [k11] v17 w25.drew:=⟨hL25.os,hL25.tape,hL25.output,hL25.size,hL25.block,hL25.there⟩;have S25:=S17.ext hE25;have z25:=hE25.size;have hX:fG u.heap.size w14 kF k1 FCi ([k11]++([k8]++[k1])) w25.drew pb i pc (ax gI (H_ i)) cb i cc (ax (lj sub) (H_ i)):=
  (hT14.loc (bs:=[k8]) ⟨hE17d.os,hE17d.tape,hE17d.output,hE17d.size,fun k hk _=>hE17d.block k hk,fun b hb=>by simp at hb;omega⟩ fun b hb=>.inr (by simp at hb;omega)).loc hL25d fun b hb=>.inr (by simp at hb;omega)
 have h25:=(h17.ext hE25);generalize w25.drew=v25 at*;have k1l25:=h25.lt;have k8l25:=S25.lt;have k11l25:=(hX.xs k11 (by simp)).1
 have hI3:∀(pb':Option E_) (pc':Nat) (cb':Option E_) (cc':Nat) (X:List Nat) (v:C_),(∀b,b∈[k11]++([k8]++[k1])->b∈X)->fG u.heap.size w14 kF k1 ((FCi.set 13 (.slice pb' (i+1) pc')).set 12 (.slice cb' (i+1) cc')) X v pb' (i+1) pc' (ax gI (H_ i)++gI i) cb' (i+1) cc' (ax (lj sub) (H_ i)++lj sub i)->
   I3 [] v:=fun pb' pc' cb' cc' X v hXX h=>by
  have hc:=h.chg;have hzc:=hc.size;rw[eI3];refine⟨rfl,pb',cb',pc',cc',(FCi.set 13 (.slice pb' (i+1) pc')).set 12 (.slice cb' (i+1) cc'),?_,by rw[N_,N_];exact fl,by rw[W_ (by rw[N_];omega)],by rw[Q_ (by omega),W_ (by omega)],fun j h1 h2=>by rw[Q_ (by omega),Q_ (by omega),fo j h1 h2],?_,hcc14.trans hc fun b hb hl=>?_⟩
  ·have e:mU sub-(i+1)=m:=by omega
   rw[e];refine h14.chg hc (fun e=>?_) fun b hb hl e=>?_
   ·rcases e with e|e
    ·omega
    ·exact e.2 rfl
   ·rcases e with e|e
    ·exact hnz b hb e
    ·omega
  ·rw[m6,m6]
   have h':=h.sub (Y:=[k1]) (fun b hb=>hXX b (j_ _ (j_ _ hb))) (by simp)
   obtain⟨G,HH,g1,g2,g3,g4⟩:=h'.own;exact⟨h'.file,h'.old,by omega,⟨G,HH,g1,g2,g3,g4⟩,h'.xs,h'.kx,Chg.refl _ _⟩
  ·rcases hb with hb|hb
   ·exact hb
   ·omega
 have f5:(gI i).length=5:=rfl;have f4:(lj sub i).length=4:=rfl;refine ap rfl ⟨_,_,_,by rw[a13];exact hX.file.cell f13,_,_,_,_,_,S25.cell (i:=0) rfl,S25.cell (i:=1) rfl,S25.cell (i:=2) rfl,S25.cell (i:=3) rfl,S25.cell (i:=4) rfl,ap rfl ?_⟩
 rw[a12];refine⟨fun k18 hk18=>⟨fun w26 hL26=>?_,fun w30 hL30=>⟨cb,i,cc,?_,?_,fun k33 hk33 w34 hL34=>?_⟩,fun k38 hk38=>⟨fun w37 hL37=>?_,fun w40 hL40=>⟨cb,i,cc,?_,?_⟩⟩⟩,
  ⟨cb,i,cc,hX.file.cell f12,fun k53 hk53=>⟨fun w43 hL43=>?_,fun k59 hk59 w47 hL47=>?_⟩,fun k64 hk64 k65 hk65 w50 hL50=>?_⟩,fun k70 hk70=>⟨fun k71 hk71=>⟨fun w53 hL53=>?_,fun w56 hL56=>⟨cb,i,cc,?_,?_⟩⟩,fun w59 hL59=>⟨cb,i,cc,?_,fun k86 hk86 w60 hL60=>?_⟩⟩⟩
 clear hR hL1 hn1 hn15 S16 hT17 hT16 hb17 hd14 hg ha9 ha10 ha6 ha7 h11 s11 hT hL
 ·exact(hX.loc hL26 (fun b hb=>by
   simp only[K_,L_,or_false]at hb;rcases hb with hb|hb<;>first|exact .inr (by omega)|exact .inl ⟨by subst hb;simp,by omega,by omega⟩)).app1 (fun b hb=>by simp[am]at hb;rcases hb with hb|hb<;>(subst hb;simp)) rfl rfl (by omega) (by omega) fun pb' pc' w27 h27=>⟨cb,i,cc,h27.file.cell f12,fun k23 hk23 w28 hL28=>(h27.loc hL28 (fun b hb=>by
   simp only[K_,L_,or_false]at hb;rcases hb with hb|hb|hb<;>first|exact .inr (by omega)|exact .inl ⟨by subst hb;simp,by omega,by omega⟩)).app2 (fun b hb=>by simp[am]at hb;rcases hb with hb|hb|hb<;>(subst hb;simp)) rfl rfl (by omega) (by omega) fun cb' cc' w29 h29=>h29.fin (I:=I3 []) fl (fun b hb=>by simp at hb;rcases hb with hb|hb|hb<;>(subst hb;simp)) fun u' hu'=>hI3 _ _ _ _ _ u' (fun b hb=>by simp at hb;rcases hb with hb|hb|hb<;>(subst hb;simp)) hu'⟩
 ·exact(hX.loc hL30 (fun b hb=>by
   simp only[K_,L_,or_false]at hb;rcases hb with hb|hb<;>first|exact .inr (by omega)|exact .inl ⟨by subst hb;simp,by omega,by omega⟩)).file.cell f12
 ·exact(hX.loc hL30 (fun b hb=>by
   simp only[K_,L_,or_false]at hb;rcases hb with hb|hb<;>first|exact .inr (by omega)|exact .inl ⟨by subst hb;simp,by omega,by omega⟩)).app1 (fun b hb=>by simp[am]at hb;rcases hb with hb|hb<;>(subst hb;simp)) rfl rfl (by omega) (by omega) fun pb' pc' w31 h31 k30 hk30 w32 hL32=>(h31.loc hL32 (fun b hb=>by
   simp only[K_,L_,or_false]at hb;rcases hb with hb|hb|hb<;>first|exact .inr (by omega)|exact .inl ⟨by subst hb;simp,by omega,by omega⟩)).app2 (fun b hb=>by simp[am]at hb;rcases hb with hb|hb|hb<;>(subst hb;simp)) rfl rfl (by omega) (by omega) fun cb' cc' w33 h33=>h33.fin (I:=I3 []) fl (fun b hb=>by simp at hb;rcases hb with hb|hb|hb<;>(subst hb;simp)) fun u' hu'=>hI3 _ _ _ _ _ u' (fun b hb=>by simp at hb;rcases hb with hb|hb|hb<;>(subst hb;simp)) hu'
 ·have h30:=(hX.loc hL30 (fun b hb=>by
   simp only[K_,L_,or_false]at hb;rcases hb with hb|hb<;>first|exact .inr (by omega)|exact .inl ⟨by subst hb;simp,by omega,by omega⟩))
  have z30:=hL30.size;exact(h30.loc hL34 (fun b hb=>by
   simp only[K_,L_,or_false]at hb;rcases hb with hb|hb|hb<;>first|exact .inr (by omega)|exact .inl ⟨by subst hb;simp,by omega,by omega⟩)).app1 (fun b hb=>by simp[am]at hb;rcases hb with hb|hb|hb<;>(subst hb;simp)) rfl rfl (by omega) (by omega) fun pb' pc' w35 h35=>h35.app2 (fun b hb=>by simp[am]at hb;rcases hb with hb|hb|hb<;>(subst hb;simp)) rfl rfl (by omega) (by omega) fun cb' cc' w36 h36=>h36.fin (I:=I3 []) fl (fun b hb=>by simp at hb;rcases hb with hb|hb|hb<;>(subst hb;simp)) fun u' hu'=>hI3 _ _ _ _ _ u' (fun b hb=>by simp at hb;rcases hb with hb|hb|hb<;>(subst hb;simp)) hu'
 ·exact(hX.loc hL37 (fun b hb=>by
   simp only[K_,L_,or_false]at hb;rcases hb with hb|hb|hb<;>first|exact .inr (by omega)|exact .inl ⟨by subst hb;simp,by omega,by omega⟩)).app1 (fun b hb=>by simp[am]at hb;rcases hb with hb|hb|hb<;>(subst hb;simp)) rfl rfl (by omega) (by omega) fun pb' pc' w38 h38=>⟨cb,i,cc,h38.file.cell f12,h38.app2 (fun b hb=>by simp[am]at hb;rcases hb with hb|hb|hb<;>(subst hb;simp)) rfl rfl (by omega) (by omega) fun cb' cc' w39 h39=>h39.fin (I:=I3 []) fl (fun b hb=>by simp at hb;rcases hb with hb|hb|hb<;>(subst hb;simp)) fun u' hu'=>hI3 _ _ _ _ _ u' (fun b hb=>by simp at hb;rcases hb with hb|hb|hb<;>(subst hb;simp)) hu'⟩
 ·exact(hX.loc hL40 (fun b hb=>by
   simp only[K_,L_,or_false]at hb;rcases hb with hb|hb|hb<;>first|exact .inr (by omega)|exact .inl ⟨by subst hb;simp,by omega,by omega⟩)).file.cell f12
 ·exact(hX.loc hL40 (fun b hb=>by
   simp only[K_,L_,or_false]at hb;rcases hb with hb|hb|hb<;>first|exact .inr (by omega)|exact .inl ⟨by subst hb;simp,by omega,by omega⟩)).app1 (fun b hb=>by simp[am]at hb;rcases hb with hb|hb|hb<;>(subst hb;simp)) rfl rfl (by omega) (by omega) fun pb' pc' w41 h41=>h41.app2 (fun b hb=>by simp[am]at hb;rcases hb with hb|hb|hb<;>(subst hb;simp)) rfl rfl (by omega) (by omega) fun cb' cc' w42 h42=>h42.fin (I:=I3 []) fl (fun b hb=>by simp at hb;rcases hb with hb|hb|hb<;>(subst hb;simp)) fun u' hu'=>hI3 _ _ _ _ _ u' (fun b hb=>by simp at hb;rcases hb with hb|hb|hb<;>(subst hb;simp)) hu'
 ·exact(hX.loc hL43 (fun b hb=>by
   simp only[K_,L_,or_false]at hb;rcases hb with hb|hb<;>first|exact .inr (by omega)|exact .inl ⟨by subst hb;simp,by omega,by omega⟩)).app1 (fun b hb=>by simp[am]at hb;rcases hb with hb|hb<;>(subst hb;simp)) rfl rfl (by omega) (by omega) fun pb' pc' w44 h44 k56 hk56 w45 hL45=>(h44.loc hL45 (fun b hb=>by
   simp only[K_,L_,or_false]at hb;rcases hb with hb|hb|hb<;>first|exact .inr (by omega)|exact .inl ⟨by subst hb;simp,by omega,by omega⟩)).app2 (fun b hb=>by simp[am]at hb;rcases hb with hb|hb|hb<;>(subst hb;simp)) rfl rfl (by omega) (by omega) fun cb' cc' w46 h46=>h46.fin (I:=I3 []) fl (fun b hb=>by simp at hb;rcases hb with hb|hb|hb<;>(subst hb;simp)) fun u' hu'=>hI3 _ _ _ _ _ u' (fun b hb=>by simp at hb;rcases hb with hb|hb|hb<;>(subst hb;simp)) hu'
 ·exact(hX.loc hL47 (fun b hb=>by
   simp only[K_,L_,or_false]at hb;rcases hb with hb|hb|hb<;>first|exact .inr (by omega)|exact .inl ⟨by subst hb;simp,by omega,by omega⟩)).app1 (fun b hb=>by simp[am]at hb;rcases hb with hb|hb|hb<;>(subst hb;simp)) rfl rfl (by omega) (by omega) fun pb' pc' w48 h48=>h48.app2 (fun b hb=>by simp[am]at hb;rcases hb with hb|hb|hb<;>(subst hb;simp)) rfl rfl (by omega) (by omega) fun cb' cc' w49 h49=>h49.fin (I:=I3 []) fl (fun b hb=>by simp at hb;rcases hb with hb|hb|hb<;>(subst hb;simp)) fun u' hu'=>hI3 _ _ _ _ _ u' (fun b hb=>by simp at hb;rcases hb with hb|hb|hb<;>(subst hb;simp)) hu'
 ·exact(hX.loc hL50 (fun b hb=>by
   simp only[K_,L_,or_false]at hb;rcases hb with hb|hb|hb<;>first|exact .inr (by omega)|exact .inl ⟨by subst hb;simp,by omega,by omega⟩)).app1 (fun b hb=>by simp[am]at hb;rcases hb with hb|hb|hb<;>(subst hb;simp)) rfl rfl (by omega) (by omega) fun pb' pc' w51 h51=>h51.app2 (fun b hb=>by simp[am]at hb;rcases hb with hb|hb|hb<;>(subst hb;simp)) rfl rfl (by omega) (by omega) fun cb' cc' w52 h52=>h52.fin (I:=I3 []) fl (fun b hb=>by simp at hb;rcases hb with hb|hb|hb<;>(subst hb;simp)) fun u' hu'=>hI3 _ _ _ _ _ u' (fun b hb=>by simp at hb;rcases hb with hb|hb|hb<;>(subst hb;simp)) hu'
 ·exact(hX.loc hL53 (fun b hb=>by
   simp only[K_,L_,or_false]at hb;rcases hb with hb|hb|hb<;>first|exact .inr (by omega)|exact .inl ⟨by subst hb;simp,by omega,by omega⟩)).app1 (fun b hb=>by simp[am]at hb;rcases hb with hb|hb|hb<;>(subst hb;simp)) rfl rfl (by omega) (by omega) fun pb' pc' w54 h54=>⟨cb,i,cc,h54.file.cell f12,h54.app2 (fun b hb=>by simp[am]at hb;rcases hb with hb|hb|hb<;>(subst hb;simp)) rfl rfl (by omega) (by omega) fun cb' cc' w55 h55=>h55.fin (I:=I3 []) fl (fun b hb=>by simp at hb;rcases hb with hb|hb|hb<;>(subst hb;simp)) fun u' hu'=>hI3 _ _ _ _ _ u' (fun b hb=>by simp at hb;rcases hb with hb|hb|hb<;>(subst hb;simp)) hu'⟩
 ·exact(hX.loc hL56 (fun b hb=>by
   simp only[K_,L_,or_false]at hb;rcases hb with hb|hb|hb<;>first|exact .inr (by omega)|exact .inl ⟨by subst hb;simp,by omega,by omega⟩)).file.cell f12
 ·exact(hX.loc hL56 (fun b hb=>by
   simp only[K_,L_,or_false]at hb;rcases hb with hb|hb|hb<;>first|exact .inr (by omega)|exact .inl ⟨by subst hb;simp,by omega,by omega⟩)).app1 (fun b hb=>by simp[am]at hb;rcases hb with hb|hb|hb<;>(subst hb;simp)) rfl rfl (by omega) (by omega) fun pb' pc' w57 h57=>h57.app2 (fun b hb=>by simp[am]at hb;rcases hb with hb|hb|hb<;>(subst hb;simp)) rfl rfl (by omega) (by omega) fun cb' cc' w58 h58=>h58.fin (I:=I3 []) fl (fun b hb=>by simp at hb;rcases hb with hb|hb|hb<;>(subst hb;simp)) fun u' hu'=>hI3 _ _ _ _ _ u' (fun b hb=>by simp at hb;rcases hb with hb|hb|hb<;>(subst hb;simp)) hu'
 ·exact(hX.loc hL59 (fun b hb=>by
   simp only[K_,L_,or_false]at hb;rcases hb with hb|hb<;>first|exact .inr (by omega)|exact .inl ⟨by subst hb;simp,by omega,by omega⟩)).file.cell f12
 ·have h59:=(hX.loc hL59 (fun b hb=>by
   simp only[K_,L_,or_false]at hb;rcases hb with hb|hb<;>first|exact .inr (by omega)|exact .inl ⟨by subst hb;simp,by omega,by omega⟩))
  have z59:=hL59.size;exact(h59.loc hL60 (fun b hb=>by
   simp only[K_,L_,or_false]at hb;rcases hb with hb|hb|hb<;>first|exact .inr (by omega)|exact .inl ⟨by subst hb;simp,by omega,by omega⟩)).app1 (fun b hb=>by simp[am]at hb;rcases hb with hb|hb|hb<;>(subst hb;simp)) rfl rfl (by omega) (by omega) fun pb' pc' w61 h61=>h61.app2 (fun b hb=>by simp[am]at hb;rcases hb with hb|hb|hb<;>(subst hb;simp)) rfl rfl (by omega) (by omega) fun cb' cc' w62 h62=>h62.fin (I:=I3 []) fl (fun b hb=>by simp at hb;rcases hb with hb|hb|hb<;>(subst hb;simp)) fun u' hu'=>hI3 _ _ _ _ _ u' (fun b hb=>by simp at hb;rcases hb with hb|hb|hb<;>(subst hb;simp)) hu'
def tO(q1 sa1:aj)(sl1 sc1:Nat)(w:C_)(R:bV):Prop:=
 ∀k1 w1,(aK w (X_ #[.slice sa1 sl1 sc1] 152) k1 w1)->nn (q1) fun a1=>∃p1 k2 k3,(w1.cell? (a1.add 13)=some (.slice p1 k2 k3))/\G_ P 27 #[.bool ((k2:Int)==0)] w1 fun e1 w2=>(e1=.returned (.tuple #[]))/\∃I1:aw,(nn (q1) fun a2=>(G_ P 119 #[.pointer (aH k1)] (w2.drew) fun e2 w3=>∃n1,(e2=.returned (aa n1))/\∃p2 k4 k5,(w3.cell? (a2.add 13)=some (.slice p2 k4 k5))/\G_ P 71 #[.bool (n1 !=(k4:Int))] w3 fun e3 w4=>(e3=.returned (.tuple #[]))/\I1 [] w4)/\∃p3 k6 k7,(w2.drew.cell? (a2.add 13)=some (.slice p3 k6 k7))/\G_ P 119 #[.pointer (aH k1)] (w2.drew) fun e4 w5=>∃n2,(e4=.returned (aa n2))/\G_ P 71 #[.bool (n2 !=(k6:Int))] w5 fun e5 w6=>(e5=.returned (.tuple #[]))/\I1 [] w6)/\∀w7,(I1 [] w7)->nn (q1) fun a3=>∃p4 k8 k9,(w7.cell? (a3.add 13)=some (.slice p4 k8 k9))/\∃(I2:aw) (m1:List D_->C_->Nat),(I2 [aa 0] w7)/\∀n3 w8,(I2 [aa n3] w8)->ae (decide (n3<(k8:Int))) (∃I3:aw,(nn (q1) fun a4=>∃p5 k10 k11,(w8.cell? (a4.add 13)=some (.slice p5 k10 k11))/\aq (p5) (k10) (n3) (5) fun a5=>G_ P 73 #[.pointer (aH k1),aa 2] w8 fun e6 w9=>∃p6 k12 k13,(e6=.returned (.slice p6 k12 k13))/\∃I4:aw,(aq (p6) (k12) (0) (1) fun a6=>∃n4,(w9.drew.cell? a6=some (u8 n4))/\∃n5,(w9.drew.cell? a5=some (u8 n5))/\ae (n4 !=n5) (G_ P 27 #[.bool true] (w9.drew) fun e7 w10=>(e7=.returned (.tuple #[]))/\I4 [] w10) (aq (p6) (k12) (1) (1) fun a7=>∃n6,(w9.drew.cell? a7=some (u8 n6))/\ae (decide (an .shr .u8 n6 4>1)) (G_ P 27 #[.bool true] (w9.drew) fun e8 w11=>(e8=.returned (.tuple #[]))/\I4 [] w11) (aq (p6) (k12) (1) (1) fun a8=>∃n7,(w9.drew.cell? a8=some (u8 n7))/\G_ P 27 #[.bool (decide (B_.wrap (aR .and .u8 n7 15)>1))] (w9.drew) fun e9 w12=>(e9=.returned (.tuple #[]))/\I4 [] w12)))/\∀w13,(I4 [] w13)->aq (p6) (k12) (1) (1) fun a9=>∃n8,(w13.drew.cell? a9=some (u8 n8))/\nn (q1) fun a10=>((0:Int)<=0)/\((0:Int)<2)/\(0<=an .shr .u8 n8 4)/\(an .shr .u8 n8 4<2)/\∃p7,(w13.drew.cell? ((a10.add 5).add ((an .shr .u8 n8 4).toNat*1))=some (.pointer p7))/\aq (p6) (k12) (1) (1) fun a11=>∃n9,(w13.drew.cell? a11=some (u8 n9))/\nn (q1) fun a12=>((0:Int)<=1)/\((1:Int)<2)/\(0<=B_.wrap (aR .and .u8 n9 15))/\(B_.wrap (aR .and .u8 n9 15)<2)/\∃p8,(w13.drew.cell? (((a12.add 5).add 2).add ((B_.wrap (aR .and .u8 n9 15)).toNat*1))=some (.pointer p8))/\aI w13.drew (a5.add 2) [.pointer p7] fun u1=>aI u1 (a5.add 3) [.pointer p8] fun u2=>∃n10,(u2.drew.cell? (a5.add 1)=some (aa n10))/\nn (q1) fun a13=>(0<=n10)/\(n10<4)/\∃p9 k14 k15,(u2.drew.cell? ((a13.add 1).add (n10.toNat*1))=some (.slice p9 k14 k15))/\∃I5:aw,(∃p10,(u2.drew.cell? (a5.add 2)=some (.pointer p10))/\ae (p10.isNone) (G_ P 27 #[.bool true] (u2.drew) fun e10 w14=>(e10=.returned (.tuple #[]))/\I5 [] w14) (∃p11,(u2.drew.cell? (a5.add 3)=some (.pointer p11))/\G_ P 27 #[.bool (p11.isNone||p9.isNone)] (u2.drew) fun e11 w15=>(e11=.returned (.tuple #[]))/\I5 [] w15))/\∀w16,(I5 [] w16)->nn (q1) fun a14=>(∃p12:aj,∃k16 k17,(w16.drew.cell? ((a14.add 9).add 3)=some (.slice p12 k16 k17))/\G_ P 126 #[.slice p9 k14 k15] (w16.drew) fun e12 w17=>∃p13 k18 k19,(e12=.returned (.slice p13 k18 k19))/\aq (p12) (k16) (n3) (4) fun a15=>aI w17 (a15.add 2) [.slice p13 k18 k19] fun u3=>I3 [] u3)/\G_ P 126 #[.slice p9 k14 k15] (w16.drew) fun e13 w18=>∃p14 k20 k21,(e13=.returned (.slice p14 k20 k21))/\∃p15 k22 k23,(w18.cell? ((a14.add 9).add 3)=some (.slice p15 k22 k23))/\aq (p15) (k22) (n3) (4) fun a16=>aI w18 (a16.add 2) [.slice p14 k20 k21] fun u4=>I3 [] u4)/\∀w19,(I3 [] w19)->(I2 [aa (A_.wrap (n3+1))] w19)/\m1 [aa (A_.wrap (n3+1))] w19<m1 [aa n3] w8) (∃p16:aj,∃k24 k25,(w8.cell? {block:=k1,off:=0}=some (.slice p16 k24 k25))/\∀k26 w20,(aK w8 (X_ #[u8 0,u8 63,u8 0] 5) k26 w20)->G_ P 127 #[.slice p16 k24 k25,.slice (aH k26) 3 3] w20 fun e14 w21=>∃c1,(e14=.returned (.bool c1))/\G_ P 27 #[.bool !c1] w21 fun e15 w22=>(e15=.returned (.tuple #[]))/\R (aM #[]) w22)
theorem qu(q1 sa1:aj)(sl1 sc1:Nat)(w:C_)(R:bV)(h:tO q1 sa1 sl1 sc1 w R):G_ P 77 #[.pointer q1,.slice sa1 sl1 sc1] w R:=
  aF (ac:=vH) Tryz.func77 h
theorem eB{f g:Nat->List D_}(h:∀j,j<m->f j=g j):ax f (H_ m)=ax g (H_ m):=by
 unfold ax;rw[List.map_congr_left fun j hj=>h j (by simpa using hj)]
theorem kQ{f:Nat->List D_}{sz i k:Nat}{v:D_}(hf:∀a,(f a).length=sz)(hk:k<sz):∀m,i<m->(ax f (H_ m)).set (i*sz+k) v=ax (fun j=>if j=i then(f j).set k v else f j) (H_ m)
 |0,h=>by omega
 |m+1,h=>by
  have hl:=bi (f:=f) hf (H_ m);rw[V_]at hl;rw[m6,m6];rcases Nat.lt_or_ge i m with g|g
  ·have:i*sz+k<m*sz:=by
    have:=Nat.mul_le_mul_right sz (show i+1<=m by omega)
    rw[Nat.add_mul]at this;omega
   rw[c_ _ _ (by omega),kQ hf hk m g,if_neg (by omega)]
  ·obtain rfl:i=m:=by omega
   rw[List.set_append_right _ _ (by omega),hl,Nat.add_sub_cancel_left,if_pos rfl]
   congr 1;exact eB fun j hj=>by rw[if_neg (by omega)]
theorem LP{S T:Nat->Prop}{c:Nat}(h:aD S w p (bytes xs))(k:aD T w q (bytes xs))(hn:n=xs.length)(hm:m=xs.length)(hsz:n<=2^40)
 (hR:∀w',Ext w w'->R (.returned (.bool true)) w'):G_ P 127 #[.slice p n c,.slice q m d] w R:=by
 refine qA _ _ _ _ _ _ _ _ (al (by rw[bne_eq_false_iff_eq];omega) ⟨fun vs u=>∃i:Nat,vs=[aa (i:Nat)]/\i<=n/\Ext w u,fun vs _=>match vs with|[.int _ i]=>(n-i:Int).toNat|_=>0,⟨0,rfl,by omega,Ext.refl _⟩,fun n1 w1 hI=>?_⟩)
 obtain⟨i,hv,hi,hE⟩:=hI;simp only[T_,U_,true_and,and_true]at hv;subst hv;have hE':=hE.trans (Ext.refl w1).drew;refine ak (fun hlt=>?_) fun hge=>hR w1 hE;have hlt:i<xs.length:=by have:=of_decide_eq_true hlt;omega
 refine(h.ex hE').getB (by rw[ar,hn]) (fh hlt) fun a _ ha=>⟨_,ha,(k.ex hE').getB (by rw[ar,hm]) (fh hlt) fun b _ hb=>⟨_,hb,al (by simp) ?_⟩⟩
 rw[show A_.wrap (((i:Nat):Int)+1)=((i+1:Nat):Int) by rw[ai (by omega) (by omega)];omega]
 exact⟨⟨i+1,rfl,by omega,hE'⟩,by show(n-((i+1:Nat):Int)).toNat<(n-((i:Nat):Int)).toNat;omega⟩
theorem Cs.slS(h:Cs w b vs){S:Nat->Prop}(hS:S b):aD S w (some ⟨b,0,none⟩) vs:=fun j v hj=>⟨_,rfl,hS,by rw[af,P_];exact h.cell hj⟩
def uY(d0 d1 j:Nat):List D_:=[u8 ((j+1:Nat):Int),aa (j:Nat),.pointer (some ⟨d0,0,none⟩),.pointer (some ⟨d1,0,none⟩),aa 0]
def jz(sub:Nat)(Q:Nat->Option E_×Nat)(j:Nat):List D_:=[aa (hU sub j:Nat),aa (hU sub j:Nat),.slice (Q j).1 64 (Q j).2,.slice none 0 0]
def lL(d0 d1 n j:Nat):List D_:=if j<n then uY d0 d1 j else gI j
def yq(sub:Nat)(Q:Nat->Option E_×Nat)(n j:Nat):List D_:=if j<n then jz sub Q j else lj sub j
theorem jg(d0 d1 n j:Nat):(lL d0 d1 n j).length=5:=by unfold lL;split<;>rfl
theorem AH(sub:Nat)(Q:Nat->Option E_×Nat)(n j:Nat):(yq sub Q n j).length=4:=by unfold yq;split<;>rfl
theorem Ma{d0 d1:Nat}(h:i<m):((ax (lL d0 d1 i) (H_ m)).set (i*5+2) (.pointer (some ⟨d0,0,none⟩))).set (i*5+3) (.pointer (some ⟨d1,0,none⟩))=ax (lL d0 d1 (i+1)) (H_ m):=by
 rw[kQ (jg d0 d1 i) (by omega) m h,kQ (sz:=5) (fun j=>by split;rw[N_];exact jg d0 d1 i j;exact jg d0 d1 i j) (by omega) m h]
 refine eB fun j hj=>?_;unfold lL;by_cases e:j=i
 ·subst e
  rw[if_pos rfl,if_pos rfl,if_neg (by omega),if_pos (by omega)];rfl
 ·rw[if_neg e,if_neg e]
  by_cases g:j<i
  ·rw[if_pos g,if_pos (by omega)]
  ·rw[if_neg g,if_neg (by omega)]
theorem LJ{sub:Nat}{Q:Nat->Option E_×Nat}{b:Option E_}{c:Nat}(h:i<m):(ax (yq sub Q i) (H_ m)).set (i*4+2) (.slice b 64 c)=ax (yq sub (fun j=>if j=i then(b,c)else Q j) (i+1)) (H_ m):=by
 rw[kQ (AH sub Q i) (by omega) m h]
 refine eB fun j hj=>?_;unfold yq;by_cases e:j=i
 ·subst e
  rw[if_pos rfl,if_neg (by omega),if_pos (by omega)]
  unfold jz lj;simp
 ·rw[if_neg e]
  by_cases g:j<i
  ·rw[if_pos g,if_pos (by omega)]
   unfold jz;simp[e]
  ·rw[if_neg g,if_neg (by omega)]
def vE(i k:Nat):List Int:=(List.range' i k).flatMap fun i=>[((i+1:Nat):Int),0]
theorem KR(i k:Nat):vE i (k+1)=[((i+1:Nat):Int),0]++vE (i+1) k:=rfl
theorem Kh(sub n:Nat):bH sub n=((mU sub:Nat):Int)::vE 0 n:=by
 unfold bH vE;rw[G_A];rfl
theorem NU{kF kp kc c sub d0 d1 pc cc:Nat}{FC rp rc:List D_}{q:Nat->List Int}{kq:Nat->Nat}{S:Nat->Prop}(hF:Cs u kF FC)(hFl:FC.length=14)(h12:FC[12]?=some (.slice (some ⟨kc,0,none⟩) (mU sub) cc))(h13:FC[13]?=some (.slice (some ⟨kp,0,none⟩) (mU sub) pc))
 (h5:FC[5]?=some (.pointer (some ⟨d0,0,none⟩)))(h7:FC[7]?=some (.pointer (some ⟨d1,0,none⟩)))(hq:∀i,i<mU sub->FC[1+i]?=some (.slice (some ⟨kq i,0,none⟩) 64 64)/\Cs u (kq i) (ii (q i))/\kq i≠kp/\kq i≠kc)(ql:∀i,(q i).length=64)
 (hp:Cs u kp (ax gI (H_ (mU sub))++rp))(hcc:Cs u kc (ax (lj sub) (H_ (mU sub))++rc))(n1:kp≠kc)(n2:kp≠kF)(n3:kc≠kF)
 (hs:aD S u p (bytes (bH sub (mU sub)++[0,63,0])))(hn:n=(bH sub (mU sub)++[0,63,0]).length)(hc:n<=c)(hSp:¬S kp)(hSc:¬S kc)
 (hR:∀Q u',Cs u' kp (ax (uY d0 d1) (H_ (mU sub))++rp)->Cs u' kc (ax (jz sub Q) (H_ (mU sub))++rc)->(∀i,i<mU sub->aD (fun b=>u.heap.size<b) u' (Q i).1 (ii (q i)))->Chg (fun b=>b=kp\/b=kc) u u'->R (.returned (.tuple #[])) u'):
  G_ P 77 #[.pointer (some ⟨kF,0,none⟩),.slice p n c] u R:=by
 have hmU:=dM (sub:=sub);refine qu _ _ _ _ _ _ fun k1 w1 hn1=>?_;have e1:=hn1.1;have z1:=hn1.size;have lF:=hF.lt;have lp:=hp.lt;have lc:=hcc.lt;subst hn;have hL1:bT (fun b=>S b/\b<u.heap.size) w1 k1 [] (bH sub (mU sub)++[0,63,0]):=⟨⟨p,c,aK.cs hn1,hc,(aD.mono hs fun b hb hl=>⟨hb,hl⟩).ex hn1.ext⟩,fun h=>by have:=h.2;omega⟩
 rw[Kh]at hL1;have a13:(⟨kF,0,none⟩:E_).add 13=⟨kF,13,none⟩:=af _ _ _;have a12:((⟨kF,0,none⟩:E_).add 9).add 3=⟨kF,12,none⟩:=by rw[af,af]
 have hF1:=hF.ext hn1.ext;refine ap rfl ⟨_,_,_,by rw[a13];exact hF1.cell h13,aS (by rw[beq_eq_false_iff_ne];omega) ⟨rfl,?_⟩⟩
 have hF1d:=hF1.drew;have hL1d:=hL1.ext (Ext.refl w1).drew;have hLd:bT (fun b=>S b/\b<u.heap.size) w1.drew k1 [] (((mU sub:Nat):Int)::(vE 0 (mU sub)++[0,63,0])):=hL1d;obtain⟨St,eSt⟩:∃St:Nat->C_->Prop,St=fun n v=>∃Q,bT (fun b=>S b/\b<u.heap.size) v k1 [] (vE n (mU sub-n)++[0,63,0])/\Cs v kp (ax (lL d0 d1 n) (H_ (mU sub))++rp)/\Cs v kc (ax (yq sub Q n) (H_ (mU sub))++rc)/\(∀j,j<n->aD (fun b=>u.heap.size<b) v (Q j).1 (ii (q j)))/\Chg (fun b=>b=kp\/b=kc) u v:=⟨_,rfl⟩;have hin:∀v,bT (fun b=>S b/\b<u.heap.size) v k1 [] (vE 0 (mU sub)++[0,63,0])->Chg (·=k1) w1.drew v->St 0 v:=fun v h hch=>by
  have hcu:Chg (fun b=>b=kp\/b=kc) u v:=(((hn1.ext.trans (Ext.refl w1).drew).chg (S:=fun b=>b=kp\/b=kc)).trans hch fun b hb hl=>by have hb:b=k1:=hb;omega)
  have hcu':Chg (fun b=>b=k1) u v:=(((hn1.ext.trans (Ext.refl w1).drew).chg (S:=fun b=>b=k1)).trans hch fun b hb hl=>hb);rw[eSt];refine⟨fun _=>(none,0),h,?_,?_,fun j hj=>by omega,hcu⟩
  ·exact hp.chg hcu' (show¬kp=k1 by omega)
  ·exact hcc.chg hcu' (show¬kc=k1 by omega)
 refine⟨fun vs v=>vs=[]/\St 0 v,ap rfl ⟨?_,?_⟩,fun w7 hI=>?_⟩
 ·refine nq hLd (by omega) fun w3 h3 c3=>⟨_,rfl,_,_,_,by rw[a13];exact(hF1d.chg c3 (show¬kF=k1 by omega)).cell h13,dd (by simp) ⟨rfl,rfl,hin _ h3 c3⟩⟩
 ·exact⟨_,_,_,by rw[a13];exact hF1d.cell h13,nq hLd (by omega) fun w3 h3 c3=>⟨_,rfl,dd (by simp) ⟨rfl,rfl,hin _ h3 c3⟩⟩⟩
 obtain⟨_,hS7⟩:=hI;have hFS:∀v n,St n v->Cs v kF FC:=fun v n h=>by
  rw[eSt]at h;obtain⟨Q,g1,g2,g3,g4,g5⟩:=h;exact hF.chg g5 fun e=>by rcases e with e|e<;>omega
 refine ap rfl ⟨_,_,_,by rw[a13];exact(hFS _ _ hS7).cell h13,?_⟩
 clear hin hLd hL1d hF1d hL1 hF1;refine⟨fun vs v=>∃i:Nat,vs=[aa (i:Nat)]/\i<=mU sub/\St i v,fun vs _=>match vs with|[.int _ i]=>(mU sub-i:Int).toNat|_=>0,⟨0,rfl,by omega,hS7⟩,fun n3 w8 hI=>?_⟩
 obtain⟨i,hv,hi,hS8⟩:=hI;simp only[T_,U_,true_and,and_true]at hv;subst hv;refine ak (fun hlt=>?_) fun hge=>?_
 rotate_left
 ·have:i=mU sub:=by have:=of_decide_eq_false hge;omega
  subst this;rw[eSt]at hS8;obtain⟨Q,g1,g2,g3,g4,g5⟩:=hS8;rw[f_]at g1;obtain⟨p',c',q1,q2,q3⟩:=g1.obj;refine⟨_,_,_,q1.cell (i:=0) rfl,fun k26 w20 hn20=>?_⟩;have hC:Cs w20 k26 (bytes [0,63,0]):=aK.cs hn20;refine LP (q3.ex hn20.ext) (Cs.slS (S:=d7) hC trivial) rfl rfl (by show 3<=2^40;omega) fun w21 hE21=>⟨_,rfl,aS rfl ⟨rfl,?_⟩⟩
  have hE:=hn20.ext.trans hE21;refine hR Q w21 ?_ ?_ (fun j hj=>(g4 j hj).ex hE) (g5.trans (hE.chg (S:=fun b=>b=kp\/b=kc)) fun b hb _=>hb)
  ·rw[<-eB (f:=lL d0 d1 (mU sub)) fun j hj=>if_pos hj]
   exact g2.ext hE
  ·rw[<-eB (f:=yq sub Q (mU sub)) fun j hj=>if_pos hj]
   exact g3.ext hE
 have hlt:i<mU sub:=by have:=of_decide_eq_true hlt;omega
 have hF8:=hFS _ _ hS8;rw[eSt]at hS8;obtain⟨Q,g1,g2,g3,g4,g5⟩:=hS8;obtain⟨m,hm⟩:∃m,mU sub-i=m+1:=⟨mU sub-i-1,by omega⟩
 rw[hm,KR,o_]at g1;refine⟨fun vs v=>vs=[]/\St (i+1) v,?_,fun w19 hI=>?_⟩
 rotate_left
 ·rw[show A_.wrap (((i:Nat):Int)+1)=((i+1:Nat):Int) by rw[ai (by omega) (by omega)];omega]
  exact⟨⟨i+1,rfl,by omega,hI.2⟩,by show(mU sub-((i+1:Nat):Int)).toNat<(mU sub-((i:Nat):Int)).toNat;omega⟩
 refine ap rfl ⟨_,_,_,by rw[a13];exact hF8.cell h13,?_⟩
 refine bo (by omega) (by omega) rfl ?_
 rw[J_,af,P_];have zg5:=g5.size;have hcl:(ax (lL d0 d1 i) (H_ (mU sub))++rp).length=mU sub*5+rp.length:=by rw[Z_,bi (jg d0 d1 i),V_]
 have hclc:(ax (yq sub Q i) (H_ (mU sub))++rc).length=mU sub*4+rc.length:=by rw[Z_,bi (AH sub Q i),V_]
 have hPC:∀k v,k<5->(gI i)[k]?=some v->(ax (lL d0 d1 i) (H_ (mU sub))++rp)[i*5+k]?=some v:=fun k v hk hv=>by
  rw[b_ (by rw[bi (jg d0 d1 i),V_];omega),nz (jg d0 d1 i) hlt hk]
  unfold lL;rw[if_neg (by omega)];exact hv
 refine mj (n:=2) g1 rfl fun bp bc w9 hbc hb9 h9 c9=>⟨_,_,_,rfl,?_⟩;have p9:=g2.chg c9 (show¬kp=k1 by omega)
 have q9:=g3.chg c9 (show¬kc=k1 by omega)
 have F9:=hF8.chg c9 (show¬kF=k1 by omega)
 have s9:∀j,j<i->aD (fun b=>u.heap.size<b) w9 (Q j).1 (ii (q j)):=fun j hj=>(g4 j hj).chg c9 fun b hb hl e=>by have e:b=k1:=e;omega
 have ch9:Chg (fun b=>b=kp\/b=kc) u w9:=g5.trans c9 fun b hb hl=>by have hb:b=k1:=hb;omega
 have hE9:Ext w9 w9.drew:=(Ext.refl w9).drew;refine⟨fun vs v=>vs=[]/\v=w9.drew,?_,fun w13 hI=>?_⟩
 ·have hb':=hb9.ex hE9
  refine hb'.getB (i:=0) (v:=u8 ((i+1:Nat):Int)) rfl rfl fun a6 _ ha6=>⟨_,ha6,_,(p9.ext hE9).cell (by have:=hPC 0 _ (by omega) rfl;rwa[Nat.add_zero]at this),al (by simp) ?_⟩
  refine hb'.getB (i:=1) (v:=u8 0) rfl rfl fun a7 _ ha7=>⟨_,ha7,al (by decide) (hb'.getB (i:=1) (v:=u8 0) rfl rfl fun a8 _ ha8=>⟨_,ha8,aS (by decide) ⟨rfl,rfl,rfl⟩⟩)⟩
 obtain⟨_,rfl⟩:=hI;have hE13:Ext w9 w9.drew.drew:=hE9.trans (Ext.refl w9.drew).drew;have hb13:=hb9.ex hE13;have F13:=F9.ext hE13;have p13:=p9.ext hE13;have q13:=q9.ext hE13;refine hb13.getB (i:=1) (v:=u8 0) rfl rfl fun a9 _ ha9=>⟨_,ha9,ap rfl ⟨by omega,by omega,by decide,by decide,some ⟨d0,0,none⟩,?_,?_⟩⟩
 ·exact F13.cell h5
 refine hb13.getB (i:=1) (v:=u8 0) rfl rfl fun a11 _ ha11=>⟨_,ha11,ap rfl ⟨by omega,by omega,by decide,by decide,some ⟨d1,0,none⟩,?_,?_⟩⟩
 ·exact F13.cell h7
 have h9e:=h9.ext hE13;have s13:∀j,j<i->aD (fun b=>u.heap.size<b) w9.drew.drew (Q j).1 (ii (q j)):=fun j hj=>(s9 j hj).ex hE13;have ch13:Chg (fun b=>b=kp\/b=kc) u w9.drew.drew:=ch9.trans (hE13.chg (S:=fun b=>b=kp\/b=kc)) fun b hb _=>hb;generalize w9.drew.drew=v13 at*;rw[af,af,af];have t1:=p13.set1 (off:=i*5+2) (v:=.pointer (some ⟨d0,0,none⟩)) (by rw[hcl];omega)
 have e1':=Chg.setCells v13 ⟨kp,i*5+2,none⟩ [.pointer (some ⟨d0,0,none⟩)] 0;have t2:=t1.set1 (off:=i*5+3) (v:=.pointer (some ⟨d1,0,none⟩)) (by rw[N_,hcl];omega)
 have e2':=Chg.setCells (ab v13 ⟨kp,i*5+2,none⟩ [.pointer (some ⟨d0,0,none⟩)] 0) ⟨kp,i*5+3,none⟩ [.pointer (some ⟨d1,0,none⟩)] 0;have e12:Chg (·=kp) v13 (ab (ab v13 ⟨kp,i*5+2,none⟩ [.pointer (some ⟨d0,0,none⟩)] 0) ⟨kp,i*5+3,none⟩ [.pointer (some ⟨d1,0,none⟩)] 0):=e1'.trans e2' fun b hb _=>hb;refine⟨⟨_,p13.cell (hPC 2 _ (by omega) rfl)⟩,p13.frozen _,⟨_,t1.cell (by rw[Q_ (by omega)];exact hPC 3 _ (by omega) rfl)⟩,t1.frozen _,((i:Nat):Int),t2.cell (by rw[Q_ (by omega),Q_ (by omega)];exact hPC 1 _ (by omega) rfl),ap rfl ⟨by omega,by omega,?_⟩⟩
 have hst:((ax (lL d0 d1 i) (H_ (mU sub))++rp).set (i*5+2) (.pointer (some ⟨d0,0,none⟩))).set (i*5+3) (.pointer (some ⟨d1,0,none⟩))=ax (lL d0 d1 (i+1)) (H_ (mU sub))++rp:=by
  rw[c_ _ _ (by rw[bi (jg d0 d1 i),V_];omega),c_ _ _ (by rw[N_,bi (jg d0 d1 i),V_];omega),Ma hlt]
 have tp2:(((ax (lL d0 d1 i) (H_ (mU sub))++rp).set (i*5+2) (.pointer (some ⟨d0,0,none⟩))).set (i*5+3) (.pointer (some ⟨d1,0,none⟩)))[i*5+2]?=some (.pointer (some ⟨d0,0,none⟩)):=by
  rw[Q_ (by omega),W_ (by rw[hcl];omega)]
 have tp3:(((ax (lL d0 d1 i) (H_ (mU sub))++rp).set (i*5+2) (.pointer (some ⟨d0,0,none⟩))).set (i*5+3) (.pointer (some ⟨d1,0,none⟩)))[i*5+3]?=some (.pointer (some ⟨d1,0,none⟩)):=by
  rw[W_ (by rw[N_,hcl];omega)]
 generalize hu2:ab (ab v13 ⟨kp,i*5+2,none⟩ [.pointer (some ⟨d0,0,none⟩)] 0) ⟨kp,i*5+3,none⟩ [.pointer (some ⟨d1,0,none⟩)] 0=v15 at*;clear hu2 e1' e2' t1;have F15:=F13.chg e12 (show¬kF=kp by omega)
 have q15:=q13.chg e12 (show¬kc=kp by omega)
 have h15:=h9e.chg e12 (show¬k1=kp by omega) fun b hb hl e=>hSp (by have e:b=kp:=e;rw[<-e];exact hb.1)
 have s15:∀j,j<i->aD (fun b=>u.heap.size<b) v15 (Q j).1 (ii (q j)):=fun j hj=>(s13 j hj).chg e12 fun b hb hl e=>by have e:b=kp:=e;omega
 have ch15:Chg (fun b=>b=kp\/b=kc) u v15:=ch13.trans e12 fun b hb _=>.inl hb;obtain⟨k1q,k2q,k3q,k4q⟩:=hq i hlt;have hkq:Cs v15 (kq i) (ii (q i)):=k2q.chg ch15 fun e=>by rcases e with e|e<;>omega
 refine⟨some ⟨kq i,0,none⟩,64,64,?_,?_⟩
 ·rw[J_,Y_,af,af,P_]
  exact F15.cell k1q
 refine⟨fun vs v=>vs=[]/\v=v15.drew,⟨some ⟨d0,0,none⟩,t2.cell tp2,al rfl ⟨some ⟨d1,0,none⟩,t2.cell tp3,aS rfl ⟨rfl,rfl,rfl⟩⟩⟩,fun w16 hI=>?_⟩;obtain⟨_,rfl⟩:=hI;have hE16:Ext v15 v15.drew.drew:=(Ext.refl v15).drew.trans (Ext.refl v15.drew).drew;have F16:=F15.ext hE16;have q16:=q15.ext hE16;have h16:=h15.ext hE16;have t16:=t2.ext hE16;have k16:=hkq.ext hE16;have z16:=hE16.size;have s16:∀j,j<i->aD (fun b=>u.heap.size<b) v15.drew.drew (Q j).1 (ii (q j)):=fun j hj=>(s15 j hj).ex hE16;have ch16:Chg (fun b=>b=kp\/b=kc) u v15.drew.drew:=ch15.trans (hE16.chg (S:=fun b=>b=kp\/b=kc)) fun b hb _=>hb;generalize v15.drew.drew=v16 at*;rw[hst]at t16;have k1l:=h16.lt;have fin:∀b c w17,Fg [] v16 w17 1 b 64 c (ii (q i))->w17.cell? ⟨kF,12,none⟩=some (.slice (some ⟨kc,0,none⟩) (mU sub) cc)/\aq (some ⟨kc,0,none⟩) (mU sub) (i:Nat) 4 fun a=>(∃v,w17.cell? (a.add 2)=some v)/\(w17.frozen? (a.add 2)=false)/\(([]:List D_)=[]/\St (i+1) (ab w17 (a.add 2) [.slice b 64 c] 0)):=fun b c w17 hF17=>by
  have hE:=hF17.ext;refine⟨(F16.ext hE).cell h12,bo (by omega) (by omega) rfl ?_⟩
  rw[J_,af,af,P_];have q17:=q16.ext hE;have cs:=q17.set1 (off:=i*4+2) (v:=.slice b 64 c) (by rw[hclc];omega)
  have cg:=Chg.setCells w17 ⟨kc,i*4+2,none⟩ [.slice b 64 c] 0;rw[c_ _ _ (by rw[bi (AH sub Q i),V_];omega),LJ hlt]at cs
  refine⟨⟨_,q17.cell (O_ (by rw[hclc];omega))⟩,q17.frozen _,rfl,?_⟩
  rw[eSt];refine⟨_,?_,(t16.ext hE).chg cg (show¬kp=kc from n1),cs,fun j hj=>?_,(ch16.trans (hE.chg (S:=fun b=>b=kp\/b=kc)) fun b hb _=>hb).trans cg fun b hb _=>.inr hb⟩
  ·have e:mU sub-(i+1)=m:=by omega
   rw[e];exact(h16.ext hE).chg cg (show¬k1=kc by omega) fun b hb hl e=>hSc (by have e:b=kc:=e;rw[<-e];exact hb.1)
  ·by_cases e:j=i
   ·subst e
    simp only[if_true];exact((Fg.toS2 hF17).chg cg fun b hb hl e=>by have e:b=kc:=e;have:=hb.1;omega).mono fun b hb hl=>by have:=hb.1;omega
   ·simp only[e,if_false]
    exact((s16 j (by omega)).ex hE).chg cg fun b hb hl e=>by have e:b=kc:=e;omega
 have hsl:aD d7 v16 (some ⟨kq i,0,none⟩) (ii (q i)):=Cs.slS k16 trivial;refine ap rfl ⟨⟨some ⟨kc,0,none⟩,mU sub,cc,?_,sx hsl (by rw[aG,ql]) (fE _) (by omega) fun b c w17 hF17=>⟨_,_,_,rfl,(fin b c w17 hF17).2⟩⟩,sx hsl (by rw[aG,ql]) (fE _) (by omega) fun b c w17 hF17=>⟨_,_,_,rfl,some ⟨kc,0,none⟩,mU sub,cc,?_,(fin b c w17 hF17).2⟩⟩
 ·rw[a12];exact F16.cell h12
 ·rw[a12];exact(fin b c w17 hF17).1
def im(d0 d1:Nat)(ah:List Int)(j:Nat):List D_:=[u8 ((j+1:Nat):Int),aa (j:Nat),.pointer (some ⟨d0,0,none⟩),.pointer (some ⟨d1,0,none⟩),aa (ah.getD j 0)]
def oP(W H sub:Nat)(Q:Nat->Option E_×Nat)(K:Nat->Nat)(j:Nat):List D_:=[aa (hU sub j:Nat),aa (hU sub j:Nat),.slice (Q j).1 64 (Q j).2,.slice (some ⟨K j,0,none⟩) (nB W H sub j) (nB W H sub j)]
theorem Es{d0 d1:Nat}{ah:List Int}{v:Int}(hi:i<m)(hl:ah.length=m):(ax (im d0 d1 ah) (H_ m)).set (i*5+4) (aa v)=ax (im d0 d1 (ah.set i v)) (H_ m):=by
 rw[kQ (f:=im d0 d1 ah) (sz:=5) (fun _=>rfl) (by omega) m hi]
 refine eB fun j hj=>?_;by_cases e:j=i
 ·subst e
  rw[if_pos rfl];unfold im;rw[M_ (l:=ah.set j v),W_ (by omega)];rfl
 ·rw[if_neg e]
  unfold im;rw[M_ (l:=ah.set i v),Q_ (fun h=>e h.symm),<-M_]
structure ik where
 (kF kp kc kr rb d0 d1 pc cc zc W H sub:Nat)
 (FC rp rc:List D_)
 Q:Nat->Option E_×Nat
 K:Nat->Nat
 zp:Option E_
 bs:List Int
 (L0 L1:List Nat)
 q:Nat->List Int
 b:Nat->Nat->List Int
 (S D:Nat->Prop)
def ik.bl(x:ik)(i k:Nat):List Int:=zz (x.b i k)
def ik.sc(x:ik)(l:List (Nat×Nat)):List (Nat×bb)×List Int:=bh x.bl (I_ (mU x.sub) 0) l
def ik.all(x:ik):Nat:=aJ x.W (nU x.sub)*aJ x.H (nU x.sub)
def ik.mut(x:ik)(b:Nat):Prop:=b=x.rb\/b=x.kp\/∃i,i<mU x.sub/\b=x.K i
structure Bx(x:ik)(u0:C_):Prop where
 jm:gD x.W x.H x.sub x.q x.b
 file:Cs u0 x.kF x.FC
 f12:x.FC[12]?=some (.slice (some ⟨x.kc,0,none⟩) (mU x.sub) x.cc)
 f13:x.FC[13]?=some (.slice (some ⟨x.kp,0,none⟩) (mU x.sub) x.pc)
 comps:Cs u0 x.kc (ax (oP x.W x.H x.sub x.Q x.K) (H_ (mU x.sub))++x.rc)
 rdr:Cs u0 x.kr [.pointer (some ⟨x.rb,0,none⟩),.slice x.zp 64 x.zc]
 zig:aD x.D u0 x.zp (ii eG)
 c0:cZ x.D u0 x.d0 x.L0
 c1:cZ x.D u0 x.d1 x.L1
 t0:bM x.L0
 t1:bM x.L1
 dD:∀y,x.D y->¬x.mut y
 dS:∀y,x.S y->y<u0.heap.size/\¬x.mut y
 nF:¬x.mut x.kF
 nc:¬x.mut x.kc
 nr:¬x.mut x.kr
 np:x.rb≠x.kp
 nK:∀i,i<mU x.sub->x.K i≠x.rb/\x.K i≠x.kp
 inj:∀i j,i<mU x.sub->j<mU x.sub->x.K i=x.K j->i=j
 lt:∀y,x.mut y->y<u0.heap.size
 cov:∀y,y∈(x.sc (bJ x.W x.sub x.all)).1->1<=(if y.1=0 then x.L0 else x.L1).getD y.2.1 0
 rds:cS true x.bs 0 (bn x.L0 x.L1 (x.sc (bJ x.W x.sub x.all)).1)
structure US(x:ik)(u0:C_)(ks:List Nat)(l:List (Nat×Nat))(v:C_):Prop where
 parts:Cs v x.kp (ax (im x.d0 x.d1 (x.sc l).2) (H_ (mU x.sub))++x.rp)
 rd:dZ v (some ⟨x.rb,0,none⟩) x.rb x.S x.bs (bA (bn x.L0 x.L1 (x.sc l).1):Nat) true
 blk:∀i,i<mU x.sub->∃bv,Cs v (x.K i) bv/\bv.length=nB x.W x.H x.sub i/\∀k,(i,k)∈l->∃kb,bv[k]?=some (.slice (some ⟨kb,0,none⟩) 64 64)/\Cs v kb (ii (x.b i k))/\u0.heap.size<=kb/\kb∉ks
 chg:Chg x.mut u0 v
 loc:∀k,k∈ks->u0.heap.size<=k/\k<v.heap.size
theorem xU(x:ik):x.mut x.kp:=.inr (.inl rfl)
theorem CB(x:ik):x.mut x.rb:=.inl rfl
theorem ug(x:ik)(h:i<mU x.sub):x.mut (x.K i):=.inr (.inr ⟨i,h,rfl⟩)
theorem US.oth{x:ik}{u0 v v':C_}{ks:List Nat}{l:List (Nat×Nat)}{T:Nat->Prop}(h:US x u0 ks l v)(ho:Bx x u0)(hc:Chg T v v')(hT:∀b,T b->b<v.heap.size->b∈ks):US x u0 ks l v':=by
 have hz:=h.chg.size;have hz2:=hc.size;have hm:∀y,x.mut y->¬(T y/\y<v.heap.size):=fun y hy ht=>by
  have h1:=ho.lt y hy;have h2:=(h.loc y (hT y ht.1 ht.2)).1;omega
 have hc':Chg (fun b=>T b/\b<v.heap.size) v v':=hc.mono fun i hi hl=>⟨hi,hl⟩;refine⟨h.parts.chg hc' (hm _ (xU x)),h.rd.chg hc' (hm _ (CB x)) fun b hb hl ht=>?_,fun i hi=>?_,h.chg.trans hc' fun b hb hl=>?_,fun k hk=>⟨(h.loc k hk).1,by have:=(h.loc k hk).2;omega⟩⟩
 ·have h1:=(ho.dS b hb).1
  have h2:=(h.loc b (hT b ht.1 ht.2)).1;omega
 ·obtain⟨bv,g1,g2,g3⟩:=h.blk i hi
  refine⟨bv,g1.chg hc' (hm _ (ug x hi)),g2,fun k hk=>?_⟩;obtain⟨kb,r1,r2,r3,r4⟩:=g3 k hk;exact⟨kb,r1,r2.chg hc' fun ht=>r4 (hT kb ht.1 ht.2),r3,r4⟩
 ·have h2:=(h.loc b (hT b hb.1 hb.2)).1
  omega
theorem US.less{x:ik}{u0 v:C_}{ks cs:List Nat}{l:List (Nat×Nat)}(h:US x u0 ks l v)(hk:∀k,k∈cs->k∈ks):US x u0 cs l v:=
 ⟨h.parts,h.rd,fun i hi=>by
  obtain⟨bv,g1,g2,g3⟩:=h.blk i hi;exact⟨bv,g1,g2,fun k hkk=>by
   obtain⟨kb,r1,r2,r3,r4⟩:=g3 k hkk;exact⟨kb,r1,r2,r3,fun hm=>r4 (hk kb hm)⟩⟩,h.chg,fun k hm=>h.loc k (hk k hm)⟩
theorem US.more{x:ik}{u0 v v':C_}{ks bs:List Nat}{l:List (Nat×Nat)}(h:US x u0 ks l v)(ho:Bx x u0)(hL:Locl bs v v')(hb:∀k,k∈bs->k∈ks\/v.heap.size<=k):US x u0 (bs++ks) l v':=by
 have h':=h.oth ho hL.chg fun b hm hl=>(hb b hm).elim id fun g=>by omega
 have hz:=h.chg.size;refine⟨h'.parts,h'.rd,fun i hi=>?_,h'.chg,fun k hm=>?_⟩
 ·obtain⟨bv,g1,g2,g3⟩:=h.blk i hi
  obtain⟨bv',g1',g2',g3'⟩:=h'.blk i hi;have e:bv'=bv:=by
   have hn:x.K i∉bs:=fun hm=>by
    have h1:=ho.lt _ (ug x hi);rcases hb _ hm with g|g
    ·have:=(h.loc _ g).1;omega
    ·omega
   have c2:=g1.chg hL.chg hn;obtain⟨e1,r1⟩:=g1';obtain⟨e2,r2⟩:=c2;rw[r1]at r2;simp only[Option.some.injEq,X_.injEq]at r2;have:=r2.1;simpa using this
  subst e;refine⟨bv',g1',g2',fun k hk=>?_⟩;obtain⟨kb,r1,r2,r3,r4⟩:=g3 k hk;obtain⟨kb',r1',r2',r3',r4'⟩:=g3' k hk;rw[r1]at r1';cases r1';refine⟨kb,r1,r2',r3,fun hm=>?_⟩;rcases List.mem_append.1 hm with hm|hm
  ·rcases hb _ hm with g|g
   ·exact r4 g
   ·have:=r2.lt;omega
  ·exact r4 hm
 ·rcases List.mem_append.1 hm with hm|hm
  ·exact⟨by
    rcases hb _ hm with g|g
    ·exact(h.loc k g).1
    ·omega,hL.there k hm⟩
  ·exact h'.loc k hm
theorem D7(x:ik)(l:List (Nat×Nat))(i k:Nat):x.sc (l++[(i,k)])=((x.sc l).1++kD x.bl (x.sc l).2 (i,k),(x.sc l).2.set i ((x.bl i k).getD 0 0)):=oC _ _ _ _
theorem OV(x:ik)(l:List (Nat×Nat)):(x.sc l).2.length=mU x.sub:=by unfold ik.sc;rw[xo,S_]
theorem IA(x:ik)(i k:Nat):(x.bl i k).getD 0 0=(x.b i k).getD 0 0:=by
 unfold ik.bl;rw[gM (by omega)];rfl
theorem M9{x:ik}{u0:C_}(ho:Bx x u0)(l:List (Nat×Nat))(i:Nat): -1024<=(x.sc l).2.getD i 0/\(x.sc l).2.getD i 0<=1023:=
 mY (fun i k=>by have:=ho.jm.b0 i k;rw[IA];exact this) _ l (fun j=>by
  rw[M_,a_]
  split<;>simp) i
theorem Ld{x:ik}{u0 v:C_}{ks:List Nat}{l:List (Nat×Nat)}(ho:Bx x u0)(h:US x u0 ks l v)(hi:i<mU x.sub)(hk:k<nB x.W x.H x.sub i)(hp:l++[(i,k)] <+:bJ x.W x.sub x.all)
 (hR:∀kb v',v.heap.size<=kb->Chg x.mut v v'->(∃w,v'.cell? ⟨x.K i,k,none⟩=some w)->v'.frozen? ⟨x.K i,k,none⟩=false->US x u0 ks (l++[(i,k)]) (ab v' ⟨x.K i,k,none⟩ [.slice (some ⟨kb,0,none⟩) 64 64] 0)->R (.returned (.slice (some ⟨kb,0,none⟩) 64 64)) v'):
  G_ P 128 #[.pointer (some ⟨x.kr,0,none⟩),.pointer (some ⟨x.kp,i*5,none⟩)] v R:=by
 have hz:=h.chg.size;have hlen:=OV x l;obtain⟨rest,hrest⟩:=hp;have hsc:(x.sc (bJ x.W x.sub x.all)).1=(x.sc l).1++(kD x.bl (x.sc l).2 (i,k)++(bh x.bl (x.sc (l++[(i,k)])).2 rest).1):=by
  rw[<-hrest];show(bh x.bl _ ((l++[(i,k)])++rest)).1=_;rw[lH,oC,o_];show(x.sc l).1++(kD x.bl (x.sc l).2 (i,k)++_)=_;rw[D7];rfl
 have hcov:=ho.cov;have hrds:=ho.rds;rw[hsc]at hcov hrds;rw[mM,mM]at hrds;obtain⟨_,hrds⟩:=cS.app hrds;obtain⟨hrds,_⟩:=cS.app hrds;rw[P_]at hrds;have hget:∀r w,r<5->(im x.d0 x.d1 (x.sc l).2 i)[r]?=some w->(ax (im x.d0 x.d1 (x.sc l).2) (H_ (mU x.sub))++x.rp)[i*5+r]?=some w:=fun r w hr hw=>by
  rw[b_ (by rw[bi (sz:=5) fun _=>rfl,V_];omega),nz (f:=im x.d0 x.d1 (x.sc l).2) (sz:=5) (fun _=>rfl) hi hr];exact hw
 have hD:∀b,x.D b->b<u0.heap.size->¬x.mut b:=fun b hb _=>ho.dD b hb;refine Lc (S:=x.S) (D:=x.D) (b:=x.b i k) (L0:=x.L0) (L1:=x.L1) (kd0:=x.d0) (kd1:=x.d1) (zp:=x.zp) (zc:=x.zc) (k:=bA (bn x.L0 x.L1 (x.sc l).1)) (ah:=(x.sc l).2.getD i 0) (ho.rdr.chg h.chg ho.nr) (ho.zig.chg h.chg hD) h.rd h.parts (hget 2 _ (by omega) rfl) (hget 3 _ (by omega) rfl) (hget 4 _ (by omega) rfl) (ho.c0.chg h.chg hD) (ho.c1.chg h.chg hD)
  (fun hd=>ho.dD _ hd (CB x)) (fun hd=>ho.dD _ hd (xU x)) (fun e=>ho.nr (by rw[e];exact CB x)) (fun e=>ho.nr (by rw[e];exact xU x)) ho.np (fun hs=>(ho.dS _ hs).2 (xU x)) (fun y hy=>by have:=(ho.dS y hy).1;omega) ho.t0 ho.t1
  (ho.jm.bl i k) (M9 ho l i) (ho.jm.b0 i k) (ho.jm.br i k) (fun y hy=>hcov y (j_ _ (List.mem_append_left _ hy))) hrds fun kb v' hkb hC hch hP hr=>?_
 have hz':=hch.size;have hch':Chg x.mut v v':=hch.mono fun b hb _=>by
  rcases hb with hb|hb
  ·rw[hb];exact CB x
  ·rw[hb];exact xU x
 obtain⟨bv,g1,g2,g3⟩:=h.blk i hi;have nKi:=ho.nK i hi;have hKi:=ho.lt _ (ug x hi);have g1':=g1.chg hch (fun e=>by rcases e with e|e;exact nKi.1 e;exact nKi.2 e)
 refine hR kb v' hkb hch' ⟨_,g1'.cell (O_ (by omega))⟩ (g1'.frozen _) ?_
 have cg:=Chg.setCells v' ⟨x.K i,k,none⟩ [.slice (some ⟨kb,0,none⟩) 64 64] 0;have hs1:=g1'.set1 (off:=k) (v:=.slice (some ⟨kb,0,none⟩) 64 64) (by omega)
 have hall:Chg x.mut v (ab v' ⟨x.K i,k,none⟩ [.slice (some ⟨kb,0,none⟩) 64 64] 0):=hch'.trans cg fun b hb _=>by
  have hb:b=x.K i:=hb;rw[hb];exact ug x hi
 refine⟨?_,?_,fun j hj=>?_,h.chg.trans hall fun b hb _=>hb,fun y hy=>⟨(h.loc y hy).1,by have:=(h.loc y hy).2;have:=hall.size;omega⟩⟩
 ·rw[D7,IA,<-Es hi hlen]
  rw[c_ _ _ (by rw[bi (sz:=5) fun _=>rfl,V_];omega)]at hP
  exact hP.chg cg (fun e=>nKi.2 e.symm)
 ·rw[D7,mM,gZ]
  exact hr.chg cg (fun e=>nKi.1 e.symm) fun b hb _ e=>by
   have e:b=x.K i:=e;exact(ho.dS b hb).2 (by rw[e];exact ug x hi)
 ·by_cases e:j=i
  ·subst e
   refine⟨_,hs1,by rw[N_];exact g2,fun k' hk'=>?_⟩
   by_cases e2:k'=k
   ·subst e2
    refine⟨kb,W_ (by omega),hC.chg cg (show¬kb=x.K j by omega),by omega,fun hm=>by have:=(h.loc kb hm).2;omega⟩
   ·have hm:(j,k')∈l:=by
     rcases List.mem_append.1 hk' with hm|hm
     ·exact hm
     ·exact absurd (by simpa using hm) e2
    obtain⟨kb',r1,r2,r3,r4⟩:=g3 k' hm;refine⟨kb',by rw[Q_ (fun e=>e2 e.symm)];exact r1,(r2.chg hch' fun hmut=>by have:=ho.lt _ hmut;omega).chg cg (show¬kb'=x.K j by omega),r3,r4⟩
  ·obtain⟨bv',q1,q2,q3⟩:=h.blk j hj
   have nKj:=ho.nK j hj;refine⟨bv',(q1.chg hch (fun e=>by rcases e with e|e;exact nKj.1 e;exact nKj.2 e)).chg cg (fun e'=>e (ho.inj j i hj hi e')),q2,fun k' hk'=>?_⟩
   have hm:(j,k')∈l:=by
    rcases List.mem_append.1 hk' with hm|hm
    ·exact hm
    ·simp only[List.mem_singleton,Prod.mk.injEq]at hm
     exact absurd hm.1 e
   obtain⟨kb',r1,r2,r3,r4⟩:=q3 k' hm;exact⟨kb',r1,(r2.chg hch' fun hmut=>by have:=ho.lt _ hmut;omega).chg cg (show¬kb'=x.K i by omega),r3,r4⟩
end Go.Proofs.YtoomejkiagonpaaGreatDoor
