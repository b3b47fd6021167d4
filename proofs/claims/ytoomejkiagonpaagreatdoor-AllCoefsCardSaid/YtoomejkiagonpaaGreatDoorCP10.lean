/- Coefs: a unit is read. -/
import Derived.Test.YtoomejkiagonpaaGreatDoorCP4
import Derived.Test.YtoomejkiagonpaaGreatDoorCP8
import Derived.Test.YtoomejkiagonpaaGreatDoorCP9
set_option linter.unusedVariables false
set_option linter.unusedSimpArgs false
set_option maxRecDepth 100000
set_option maxHeartbeats 8000000
open Go.IntKind renaming i64->A_,u32->B_
open Go renaming World->C_,Value->D_,Addr->E_,IntKind->F_,Calls->G_
open List renaming range->H_,replicate->M_,length_append->N_,getElem?_cons_succ->P_,getElem?_eq_getElem->Q_,length_range->R_,getElem?_append_left->S_,getElem?_set_ne->U_,mem_cons->V_,getElem?_map->W_,getElem?_range->X_,mem_append_left->Y_,getD_eq_getElem?_getD->b_,getElem?_replicate->c_,range'->d_,length_cons->e_,nil_append->f_,not_mem_nil->g_,mem_cons_of_mem->h_,prefix_append->i_,set_append_left->j_,append_assoc->k_,getElem?_set_self->l_,set_cons_succ->m_,length_set->n_,take_length->o_,getElem_mem->p_,take_append_getElem->q_,length_drop->r_
open List.cons renaming injEq->I_
open Go.Value.int renaming injEq->J_
open Int renaming toNat_natCast->K_
open Nat renaming zero_add->L_,le_refl->T_,mul_one->Z_
open Go.Obj renaming cells->O_
open Option.some renaming injEq->a_
namespace Go.Proofs.YtoomejkiagonpaaGreatDoor
open Go Go.Vc Go.RowKit Go.Qn
variable {w u w' w0 : C_} {R : Ending -> C_ -> Prop} {n i b k m W H d : Nat} {vs T fs zero : List D_} {p q : Option E_} {xs bs : List Int} {L : List Nat} {A Z D : Nat -> Prop} {x : Int} {f : Nat -> Nat} {F : Option E_ -> Nat -> Nat -> C_ -> Prop}
theorem Og{x:ik}{u0:C_}(ho:Bx x u0)(hn:n<x.all)(h:US x u0 [] (bJ x.W x.sub n) w)
 (hR:∀v',US x u0 [] (bJ x.W x.sub (n+1)) v'->Chg x.mut w v'->R (.returned (.tuple #[])) v'):
  G_ P 81 #[.pointer (some ⟨x.kF,0,none⟩),.pointer (some ⟨x.kr,0,none⟩),.agg #[aa (nU x.sub:Nat),aa (nU x.sub:Nat),aa (aJ x.W (nU x.sub):Nat),aa (aJ x.H (nU x.sub):Nat)],aa (n:Nat)] w R:=by
 obtain⟨d1,d2,d3,d4,d5⟩:=ho.jm.dims;have hsub:=ho.jm.hsub;have hmU:=dM (sub:=x.sub);have hnU:=cX hsub;have haW:=gW d1 d2 hnU;refine qz _ _ _ _ _ _ _ _ _ fun k1 hk1=>ap rfl fun w1 hL1=>?_;have a13:(⟨x.kF,0,none⟩:E_).add 13=⟨x.kF,13,none⟩:=af _ _ _;have a12:((⟨x.kF,0,none⟩:E_).add 9).add 3=⟨x.kF,12,none⟩:=by rw[af,af]
 have hz:=h.chg.size;have hfile:∀v,Chg x.mut u0 v->Cs v x.kF x.FC:=fun v hc=>ho.file.chg hc ho.nF;have h1:US x u0 [k1] (cW x.W x.sub n 0 0 0) w1:=by
  rw[IM];exact h.more ho hL1 fun k hk=>.inr (by simp at hk;omega)
 have c1:Chg x.mut w w1:=(hL1.ext fun b hb=>by simp at hb;omega).chg
 have k1l:=(h1.loc k1 (by simp)).2
 have hk1u:u0.heap.size<=k1:=by omega
 have hnm:∀k,u0.heap.size<=k->¬x.mut k:=fun k hk hm=>by have:=ho.lt k hm;omega
 refine⟨_,_,_,by rw[a13];exact(hfile _ h1.chg).cell ho.f13,?_⟩
 refine⟨fun vs v=>∃i:Nat,vs=[aa (i:Nat)]/\i<=mU x.sub/\US x u0 [k1] (cW x.W x.sub n i 0 0) v/\Chg x.mut w v,fun vs _=>match vs with|[.int _ i]=>(mU x.sub-i:Int).toNat|_=>0,⟨0,rfl,by omega,h1,c1⟩,fun n1 w2 hI=>?_⟩
 obtain⟨i,hv,hi,h2,c2⟩:=hI;simp only[I_,J_,true_and,and_true]at hv;subst hv;refine ak (fun hlt=>?_) fun hge=>?_
 rotate_left
 ·have:i=mU x.sub:=by have:=of_decide_eq_false hge;omega
  subst this;rw[IC]at h2;exact hR w2 (h2.less fun k hk=>by simp at hk) c2
 have hlt:i<mU x.sub:=by have:=of_decide_eq_true hlt;omega
 have hh:=it (i:=i) hsub;have hnB:=ho.jm.nB i;have hcc:=ho.comps.chg h2.chg ho.nc;have hcget:∀r v,r<4->(oP x.W x.H x.sub x.Q x.K i)[r]?=some v->w2.cell? ⟨x.kc,i*4+r,none⟩=some v:=fun r v hr hv=>hcc.cell (by
  rw[S_ (by rw[bi (sz:=4) fun _=>rfl,R_];omega),nz (f:=oP x.W x.H x.sub x.Q x.K) (sz:=4) (fun _=>rfl) hlt hr];exact hv)
 refine ap rfl ⟨_,_,_,by rw[a12];exact(hfile _ h2.chg).cell ho.f12,bo (by omega) (by omega) rfl ?_⟩
 rw[K_,af,af,af,af,L_];refine⟨_,_,_,_,_,_,_,_,hcget 0 _ (by omega) rfl,hcget 1 _ (by omega) rfl,hcget 2 _ (by omega) rfl,hcget 3 _ (by omega) rfl,fun k10 hk10=>?_⟩
 have hk10u:u0.heap.size<=k10:=by have:=h2.chg.size;omega
 refine⟨fun vs v=>∃y:Nat,vs=[aa (y:Nat)]/\y<=hU x.sub i/\US x u0 [k10,k1] (cW x.W x.sub n i y 0) v/\Chg x.mut w v,fun vs _=>match vs with|[.int _ y]=>(hU x.sub i-y:Int).toNat|_=>0,fun w3 hL3=>⟨0,rfl,by omega,?_,?_⟩,fun n4 w4 hI=>?_⟩
 ·exact(h2.more ho hL3 fun k hk=>by
   simp only[V_,g_,or_false]at hk;rcases hk with rfl|rfl
   ·exact .inr hk10
   ·exact .inl (by simp)).less fun k hk=>by simp at hk⊢;rcases hk with e|e<;>simp[e]
 ·exact c2.trans (hL3.chg.mono (T:=fun b=>b=k1) fun b hb hl=>by
   simp at hb;rcases hb with e|e
   ·omega
   ·exact e) fun b hb hl=>by have hb:b=k1:=hb;omega
 obtain⟨y,hv,hy,h4,c4⟩:=hI;simp only[I_,J_,true_and,and_true]at hv;subst hv;have wr:∀z:Nat,z<=100->A_.wrap (((z:Nat):Int)+1)=((z+1:Nat):Int):=fun z hz=>by rw[ai (by omega) (by omega)];omega
 refine ak (fun hlty=>?_) fun hgey=>?_
 rotate_left
 ·have:y=hU x.sub i:=by have:=of_decide_eq_false hgey;omega
  subst this;rw[IS]at h4;rw[wr i (by omega)]
  exact⟨⟨i+1,rfl,by omega,h4.less fun k hk=>by simp at hk⊢;exact .inr hk,c4⟩,by show(mU x.sub-((i+1:Nat):Int)).toNat<(mU x.sub-((i:Nat):Int)).toNat;omega⟩
 have hlty:y<hU x.sub i:=by have:=of_decide_eq_true hlty;omega
 refine⟨fun vs v=>∃z:Nat,vs=[aa (z:Nat)]/\z<=hU x.sub i/\US x u0 [k10,k1] (cW x.W x.sub n i y z) v/\Chg x.mut w v,fun vs _=>match vs with|[.int _ z]=>(hU x.sub i-z:Int).toNat|_=>0,⟨0,rfl,by omega,h4,c4⟩,fun n5 w5 hI=>?_⟩
 obtain⟨z,hv,hzz,h5,c5⟩:=hI;simp only[I_,J_,true_and,and_true]at hv;subst hv;refine ak (fun hltz=>?_) fun hgez=>?_
 rotate_left
 ·have:z=hU x.sub i:=by have:=of_decide_eq_false hgez;omega
  subst this;rw[IU]at h5;rw[wr y (by omega)]
  exact⟨⟨y+1,rfl,by omega,h5,c5⟩,by show(hU x.sub i-((y+1:Nat):Int)).toNat<(hU x.sub i-((y:Nat):Int)).toNat;omega⟩
 have hltz:z<hU x.sub i:=by have:=of_decide_eq_true hltz;omega
 have h5d:US x u0 [k10,k1] (cW x.W x.sub n i y z) w5.drew:=h5.oth ho ((Ext.refl w5).drew.chg (S:=fun _=>False)) fun _ h _=>h.elim;have c5d:Chg x.mut w w5.drew:=c5.trans ((Ext.refl w5).drew.chg (S:=fun _=>False)) fun _ h _=>h.elim;refine ap rfl ⟨_,_,_,by rw[a13];exact(hfile _ h5d.chg).cell ho.f13,bo (by omega) (by omega) rfl ?_⟩
 rw[K_,af,L_];have hix:=KZ (W:=x.W) (H:=x.H) (sub:=x.sub) (u:=n) (i:=i) (y:=y) (x:=z) hn hlty hltz haW.2;refine⟨by omega,by omega,Ld ho h5d hlt hix (by rw[<-Dd];exact xX hn hlt hlty (by omega)) fun kb w6 hkb hch hcell hfr hus=>⟨_,_,_,rfl,hch.keep fun b hb=>hnm b (by simp at hb;rcases hb with e|e<;>omega),?_⟩⟩
 rw[GT haW.2 (by omega) hix (by omega)]
 refine bo (by omega) (by omega) rfl ?_
 rw[K_,af,L_,Z_];have hKi:=ho.lt _ (ug x hlt);refine⟨hcell,hfr,by simp;omega,⟨z+1,by rw[wr z (by omega)],by omega,by rw[Dd];exact hus,(c5d.trans hch fun b hb _=>hb).trans (Chg.setCells w6 ⟨x.K i,_,none⟩ _ 0) fun b hb _=>by have hb:b=x.K i:=hb;rw[hb];exact ug x hlt⟩,?_⟩
 rw[wr z (by omega)]
 show(hU x.sub i-((z+1:Nat):Int)).toNat<(hU x.sub i-((z:Nat):Int)).toNat;omega
def tG(q1:aj)(w:C_)(R:bV):Prop:=
 nn (q1) fun a1=>∃(n1 n2 n3:Int) (p1:aj) (k1 k2:Nat),(w.cell? (a1.add 9)=some (aa n1))/\(w.cell? ((a1.add 9).add 1)=some (aa n2))/\(w.cell? ((a1.add 9).add 2)=some (aa n3))/\(w.cell? ((a1.add 9).add 3)=some (.slice p1 k1 k2))/\G_ P 78 #[.agg #[aa n1,aa n2,aa n3,.slice p1 k1 k2]] w fun e1 w1=>∃n4 n5 n6 n7,(e1=.returned (.agg #[aa n4,aa n5,aa n6,aa n7]))/\∀k3,w1.heap.size<=k3->nn (q1) fun a2=>∀w2,Locl [k3] w1 w2->∃p2 k4 k5,(w2.cell? ((a2.add 9).add 3)=some (.slice p2 k4 k5))/\∃(I1:aw) (m1:List D_->C_->Nat),(I1 [aa 0] w2)/\∀n8 w3,(I1 [aa n8] w3)->ae (decide (n8<(k4:Int))) (nn (q1) fun a3=>∃p3 k6 k7,(w3.cell? ((a3.add 9).add 3)=some (.slice p3 k6 k7))/\aq (p3) (k6) (n8) (4) fun a4=>∃n9,(w3.drew.cell? a4=some (aa n9))/\∃n10,(w3.drew.cell? (a4.add 1)=some (aa n10))/\(0<=A_.wrap (A_.wrap (A_.wrap (n6*n9)*n7)*n10))/\(A_.wrap (A_.wrap (A_.wrap (n6*n9)*n7)*n10)<=A_.wrap (A_.wrap (A_.wrap (n6*n9)*n7)*n10))/\(A_.wrap (A_.wrap (A_.wrap (n6*n9)*n7)*n10)*24<=281474976710656)/\(A_.wrap (A_.wrap (A_.wrap (n6*n9)*n7)*n10)<4611686018427387904)/\∀k8 w4,(aK (w3.drew) (O_ (bg [.slice none 0 0] (A_.wrap (A_.wrap (A_.wrap (n6*n9)*n7)*n10)).toNat) 52) k8 w4)->aI w4 (a4.add 3) [.slice (some {block:=k8,off:=0}) (A_.wrap (A_.wrap (A_.wrap (n6*n9)*n7)*n10)).toNat (A_.wrap (A_.wrap (A_.wrap (n6*n9)*n7)*n10)).toNat] fun u1=>(¬(a4.add 3).block∈[k3])/\(I1 [aa (A_.wrap (n8+1))] u1)/\m1 [aa (A_.wrap (n8+1))] u1<m1 [aa n8] w3) (G_ P 32 #[] w3 fun e2 w5=>∃p4 k9 k10,(e2=.returned (.slice p4 k9 k10))/\ao [k3] w3 w5/\∃(I2:aw) (m2:List D_->C_->Nat),(I2 [aa 0,aa 0] w5)/\∀n11 n12 w6,(I2 [aa n11,aa n12] w6)->ae (decide (n12<A_.wrap (n6*n7))) (∃I3:aw,(nn (q1) fun a5=>∃p5 k11 k12,(w6.cell? a5=some (.slice p5 k11 k12))/\G_ P 79 #[.slice p5 k11 k12] w6 fun e3 w7=>∃p6 k13 k14 n13,(e3=.returned (.tuple #[.slice p6 k13 k14,aa n13]))/\ao [k3] w6 w7/\nn (q1) fun a6=>∃p7 k15 k16,(w7.cell? a6=some (.slice p7 k15 k16))/\cO (p7) (k16) (n13) ((k15:Int)) (1) fun p8 k17 k18=>nn (q1) fun a7=>aI w7 a7 [.slice p8 k17 k18] fun u2=>(¬a7.block∈[k3])/\G_ P 80 #[.slice p6 k13 k14,.bool true] u2 fun e4 w8=>∃p9,(e4=.returned (.pointer p9))/\(ao ([k3]) u2 w8)/\∀k19 w9,(aK w8 (O_ #[.pointer p9,.slice p4 k9 k10] 164) k19 w9)->nn (q1) fun a8=>∃p10 k20 k21,(w9.cell? (a8.add 13)=some (.slice p10 k20 k21))/\∃(I4:aw) (m3:List D_->C_->Nat),(I4 [aa 0] w9)/\∀n14 w10,(I4 [aa n14] w10)->ae (decide (n14<(k20:Int))) (nn (q1) fun a9=>∃p11 k22 k23,(w10.cell? (a9.add 13)=some (.slice p11 k22 k23))/\aq (p11) (k22) (n14) (5) fun a10=>aI w10 (a10.add 4) [aa 0] fun u3=>(¬(a10.add 4).block∈[k3])/\(I4 [aa (A_.wrap (n14+1))] u3)/\m3 [aa (A_.wrap (n14+1))] u3<m3 [aa n14] w10) (∃I5:aw,(nn (q1) fun a11=>∃n15,(w10.cell? ((a11.add 9).add 2)=some (aa n15))/\ae (decide (n15>0)) (nn (q1) fun a12=>∃n16,(w10.cell? ((a12.add 9).add 2)=some (aa n16))/\I5 [aa (min (A_.wrap (A_.wrap (n6*n7)-n12)) n16)] w10) (I5 [aa (A_.wrap (A_.wrap (n6*n7)-n12))] w10))/\∀n17 w11,(I5 [aa n17] w11)->∃(I6:aw) (m4:List D_->C_->Nat),(I6 [aa n12,aa 0] w11)/\∀n18 n19 w12,(I6 [aa n18,aa n19] w12)->ae (decide (n19<n17)) (G_ P 81 #[.pointer q1,.pointer (some {block:=k19,off:=0}),.agg #[aa n4,aa n5,aa n6,aa n7],aa n18] w12 fun e5 w13=>(e5=.returned (.tuple #[]))/\ao [k3] w12 w13/\(I6 [aa (A_.wrap (n18+1)),aa (A_.wrap (n19+1))] w13)/\m4 [aa (A_.wrap (n18+1)),aa (A_.wrap (n19+1))] w13<m4 [aa n18,aa n19] w12) (∃p12,(w12.cell? {block:=k19,off:=0}=some (.pointer p12))/\G_ P 82 #[.pointer p12] w12 fun e6 w14=>∃n20,(e6=.returned (aa n20))/\ao [k3] w12 w14/\G_ P 27 #[.bool (decide (n20>7))] w14 fun e7 w15=>(e7=.returned (.tuple #[]))/\ao [k3] w14 w15/\ae (decide (n18<A_.wrap (n6*n7))) (G_ P 28 #[.pointer q1] w15 fun e8 w16=>∃n21,(e8=.returned (aa n21))/\ao [k3] w15 w16/\G_ P 27 #[.bool (n21 !=A_.wrap (208+ad .rem .i64 n11 8))] w16 fun e9 w17=>(e9=.returned (.tuple #[]))/\ao [k3] w16 w17/\I3 [aa (A_.wrap (n11+1)),aa n18] w17) (I3 [aa n11,aa n18] w15))))/\∀n22 n23 w18,(I3 [aa n22,aa n23] w18)->(I2 [aa n22,aa n23] w18)/\m2 [aa n22,aa n23] w18<m2 [aa n11,aa n12] w6) (G_ P 28 #[.pointer q1] w6 fun e10 w19=>∃n24,(e10=.returned (aa n24))/\ao [k3] w6 w19/\G_ P 71 #[.bool (n24 !=217)] w19 fun e11 w20=>(e11=.returned (.tuple #[]))/\ao [k3] w19 w20/\R (aM #[]) w20))
theorem pA(q1:aj)(w:C_)(R:bV)(h:tG q1 w R):G_ P 30 #[.pointer q1] w R:=
  aF (ac:=ti) Tryz.func30 h
section
variable {w u u' : C_} {f : Nat -> Nat} {L : List Nat} {k3 : Nat} {op : Option E_} {oc : Nat} {ovs : List Int} {rest : List Tg}
theorem bP.chg(h:bP w u f L k3 op oc ovs rest)(hC:Chg Z u u')(hZ:∀b,b<u.heap.size->Z b->w.heap.size<=b/\f b≠1/\f b≠2/\∀t,t∈rest->t.c≠f b):bP w u' (dz f u.heap.size k) L k3 op oc ovs rest:=by
 refine⟨⟨h.ths.pal.chg hC fun b hb hz=>(hZ b hb hz).1,fun t ht=>?_⟩,h.col,tt h.low h.ext k⟩;have h':=h.ths.th t ht;refine⟨h'.1,h'.2.chg hC fun b hb hc _ hz=>?_⟩;have hz':=hZ b hb hz;rcases V_.1 ht with rfl|ht
 ·exact hz'.2.1 hc
 ·rcases V_.1 ht with rfl|ht
  ·exact hz'.2.2.1 hc
  ·exact hz'.2.2.2 t ht hc.symm
theorem Th.ofCs{len:Nat}(h:Cs u b vs)(hl:len=vs.length)(hf:f b=i)(hb:w.heap.size<=b):Th w u f i (some ⟨b,0,none⟩) len len 1 vs:=
 ⟨by omega,T_ _,.inr ⟨b,[],⟨hf,hb,h.lt⟩,rfl,by simp;omega,by rw[List.append_nil];exact h⟩⟩
theorem bP.add{t:Tg}(h:bP w u f L k3 op oc ovs rest)(ht:Th w u f t.c t.p t.len t.cap t.sz t.vs)(hc:2<t.c):bP w u f L k3 op oc ovs (t::rest):=
 ⟨⟨h.ths.pal,fun t' ht'=>by
  simp only[V_]at ht';rcases ht' with rfl|rfl|rfl|ht'
  ·exact h.ths.th _ (by simp)
  ·exact h.ths.th _ (by simp)
  ·exact⟨by omega,ht⟩
  ·exact h.ths.th t' (by simp[ht'])⟩,fun t' ht'=>by
  rcases V_.1 ht' with rfl|ht'
  ·exact⟨by omega,by omega⟩
  ·exact h.col t' ht',h.low⟩
theorem bP.set{t:Tg}(h:bP w u f L k3 op oc ovs (t::rest))(hd:∀t',t'∈rest->t'.c≠t.c){us:List D_}(hk:k+us.length<=t.vs.length)(h0:0<t.len):
  ∃b,t.p=some ⟨b,0,none⟩/\b∉L/\f b=t.c/\dq u ⟨b,k,none⟩ us.length/\bP w (ab u ⟨b,k,none⟩ us 0) f L k3 op oc ovs (⟨t.c,t.p,t.len,t.cap,t.sz,t.vs.take k++us++t.vs.drop (k+us.length)⟩::rest)/\∀i,i≠t.c->fe f f u (ab u ⟨b,k,none⟩ us 0) i:=by
 have hc:=h.col t (by simp)
 have hT:fM w u f L (t::⟨1,op,ovs.length,oc,1,bytes ovs⟩::⟨2,some ⟨k3,0,none⟩,1,1,1,[.slice op ovs.length oc]⟩::rest):=h.ths.mono (fun _ h=>h) fun t ht=>by simp at ht⊢;rcases ht with e|e|e|e<;>simp[e]
 obtain⟨b,q1,q2,q2',q3,q4,q5,q6⟩:=fM.set2 hT (fun t' ht=>by
  rcases V_.1 ht with rfl|ht
  ·exact fun e=>hc.1 e.symm
  ·rcases V_.1 ht with rfl|ht
   ·exact fun e=>hc.2 e.symm
   ·exact hd t' ht) hk h0
 refine⟨b,q1,q2,q3,q4,⟨q5.mono (fun _ h=>h) fun t ht=>by simp at ht⊢;rcases ht with e|e|e|e<;>simp[e],fun t' ht=>?_,h.low⟩,q6⟩
 rcases V_.1 ht with rfl|ht
 ·exact hc
 ·exact h.col t' (h_ _ ht)
end
theorem L9{wb:Nat}{S:Nat->Prop}{up:Bool}(h:eP w q wb S bs n up)(hR:R (.returned (aa (n:Nat))) w):G_ P 39 #[.pointer q] w R:=by
 refine to _ _ _ ?_;obtain rfl:=h.ptr;obtain⟨base,cap,h3,h4⟩:=h.obj;exact al rfl (ap rfl ⟨_,h3.cell (i:=1) rfl,hR⟩)
theorem D2{s:List Int×Nat}(h:oo true s.1 s.2):Bs (iM s)/\8*(iM s).length<s.2+8+8/\s.2<=8*(iM s).length/\8*(iM s).length<=s.2+7/\∀j,j<s.2->ce (iM s) true j=ce s.1 true j:=by
 have h1:=h.lo;have h2:=h.hi;unfold iM;by_cases h0:0<s.2%8
 ·rw[if_pos h0]
  have hk:=mG (v:=255) (n:=8-s.2%8) h (8-s.2%8);have k1:=hk.lo;have k2:=hk.hi;refine⟨hk.fit,by omega,by omega,by omega,fun j hj=>?_⟩
  rw[rA h,if_neg (by omega)]
 ·rw[if_neg h0]
  exact⟨h.fit,by omega,by omega,by omega,fun _ _=>rfl⟩
theorem JA{k3 k48 k49 wb:Nat}{op:Option E_}{oc:Nat}{ovs:List Int}{rest:List Tg}{C:List D_}{S:Nat->Prop}{s:List Int×Nat}
 (h:bP w u f L k3 op oc ovs (⟨6,some ⟨k48,0,none⟩,517,517,1,C⟩::⟨9,some ⟨k49,0,none⟩,1,1,1,[.pointer (some ⟨k48,0,none⟩)]⟩::rest))(hC:C.length=517)(hp:C[516]?=some (.pointer (some ⟨wb,0,none⟩)))(hr:∀t,t∈rest->t.c≠6/\t.c≠10)
 (hw:eP u (some ⟨wb,0,none⟩) wb S s.1 s.2 true)(hs:oo true s.1 s.2)(hcol:∀b,b=wb\/S b->w.heap.size<=b/\f b=10)(hsz:s.2<=2^30)(ho:ovs.length<=2^30)
 (hR:∀f' p c u',bP w u' f' L k3 p c (ovs++be (iM s)) []->(∀b,b<u.heap.size->f' b=f b)->Chg (fun b=>b=wb\/S b\/f b=1\/f b=2\/b=k48) u u'->R (.returned (.tuple #[])) u'):
  G_ P 38 #[.pointer (some ⟨k49,0,none⟩),.pointer (some ⟨k3,0,none⟩)] u R:=by
 refine sd _ _ _ _ ?_;have h9:=Th.cs (h.get (t:=⟨9,some ⟨k49,0,none⟩,1,1,1,[.pointer (some ⟨k48,0,none⟩)]⟩) (by simp)) (show 0<1 by omega)
 have h6:=Th.cs (h.get (t:=⟨6,some ⟨k48,0,none⟩,517,517,1,C⟩) (by simp)) (show 0<517 by omega)
 have hrem:ad .rem .i64 ((s.2:Nat):Int) 8=((s.2%8:Nat):Int):=by
  have:(8:Int)=((8:Nat):Int):=rfl;rw[this,rN]
 have hpad:=D2 hs;refine⟨fun vs u'=>vs=[]/\∃S',Gr S S' u u'/\Chg (fun k=>k=wb\/S k) u u'/\∃m,eP u' (some ⟨wb,0,none⟩) wb S' (iM s) m true,?_,fun w3 hI=>?_⟩
 ·refine⟨_,h9.1.cell (i:=0) rfl,ap rfl ⟨_,h6.1.cell (i:=516) hp,?_⟩⟩
  refine L9 hw ⟨_,rfl,?_⟩;rw[hrem];refine ak (fun h0=>?_) fun h0=>?_
  ·have h0:0<s.2%8:=by have:=of_decide_eq_true h0;omega
   refine⟨_,h9.1.cell (i:=0) rfl,ap rfl ⟨_,h6.1.cell (i:=516) hp,?_⟩⟩;have e8:A_.wrap (8-((s.2%8:Nat):Int))=((8-s.2%8:Nat):Int):=by rw[ai (by omega) (by omega)];omega
   rw[e8];refine AF hw hs (by omega) (by omega) (by omega) (fun hb=>by omega) fun _ _ S2 w2 hg2 hc2 hw2=>?_
   rw[K_]at hw2;have hpe:iM s=jQ true s.1 s.2 255 (8-s.2%8) (8-s.2%8):=if_pos h0;exact⟨_,rfl,rfl,S2,hg2,hc2,s.2+(8-s.2%8),by rw[hpe];exact hw2⟩
  ·have h0:¬0<s.2%8:=by have:=of_decide_eq_false h0;omega
   refine⟨rfl,S,Gr.refl _ _,Chg.refl _ _,s.2,?_⟩;unfold iM;rw[if_neg h0];exact hw
 obtain⟨_,S',hg3,hc3,m,hw3⟩:=hI;have hZ:∀b,b<u.heap.size->(b=wb\/S b)->w.heap.size<=b/\f b≠1/\f b≠2/\∀t,t∈(⟨6,some ⟨k48,0,none⟩,517,517,1,C⟩:Tg)::⟨9,some ⟨k49,0,none⟩,1,1,1,[.pointer (some ⟨k48,0,none⟩)]⟩::rest->t.c≠f b:=fun b _ hb=>by
  obtain⟨q1,q2⟩:=hcol b hb;refine⟨q1,by omega,by omega,fun t ht=>?_⟩
  rw[q2];simp only[V_]at ht;rcases ht with rfl|rfl|ht
  ·show 6≠10;omega
  ·show 9≠10;omega
  ·exact(hr t ht).2
 have h3:=(h.chg (k:=10) hc3 hZ).dr;have z3:=hc3.size;have zd:w3.drew.heap.size=w3.heap.size:=rfl;refine⟨_,_,_,h3.cell.1,?_⟩;have h9':=Th.cs (h3.get (t:=⟨9,some ⟨k49,0,none⟩,1,1,1,[.pointer (some ⟨k48,0,none⟩)]⟩) (by simp)) (show 0<1 by omega)
 have h6':=Th.cs (h3.get (t:=⟨6,some ⟨k48,0,none⟩,517,517,1,C⟩) (by simp)) (show 0<517 by omega)
 refine⟨_,h9'.1.cell (i:=0) rfl,ap rfl ⟨_,h6'.1.cell (i:=516) hp,?_⟩⟩;have hw3d:=hw3.ext (Ext.refl w3).drew;refine Ia hw3d (by omega) fun p8 k8 w4 hE4 ho4=>⟨_,_,_,rfl,hE4.keeps,?_⟩
 refine JL ho4.sl rfl (by omega) fun p9 c9 w5 hF5=>⟨_,_,_,rfl,hF5.ext.keeps,?_⟩
 have hst:=iC (iM s);refine⟨bytes (be (iM s)),by rw[ar];omega,cj _,hF5.sl.cells,?_⟩
 have h5:=(h3.step hE4 10).step hF5.ext 10;refine h5.putC rfl (by simp[am]) (by omega) fun p c u1 u2 f1 eu hcl hfz h7 hkp hsame hz7 hC7=>?_
 subst eu;have h7d:=h7.dr;refine⟨hcl,hfz,?_⟩;have h9'':=Th.cs (h7d.get (t:=⟨9,some ⟨k49,0,none⟩,1,1,1,[.pointer (some ⟨k48,0,none⟩)]⟩) (by simp)) (show 0<1 by omega)
 refine⟨_,h9''.1.cell (i:=0) rfl,?_⟩;refine mq fun wb2 w7 hE7 hwb hw7=>⟨_,rfl,hE7.keeps,ap rfl ?_⟩;have h8:=h7d.step hE7 10;obtain⟨b,q1,q2,q3,q4,q5,q6⟩:=h8.set (t:=⟨6,some ⟨k48,0,none⟩,517,517,1,C⟩) (fun t ht=>by
  rcases V_.1 ht with rfl|ht
  ·show 9≠6;omega
  ·exact(hr t ht).1) (k:=516) (us:=[.pointer (some ⟨wb2,0,none⟩)]) (by show 516+1<=C.length;omega) (show 0<517 by omega)
 have hb:b=k48:=by
  simp only[a_,E_.mk.injEq,and_true]at q1;exact q1.symm
 subst hb;have hcs:=q4 0 (by simp)
 rw[eg]at hcs;have e516:(⟨b,0,none⟩:E_).add 516=⟨b,516,none⟩:=af _ _ _;rw[e516];have z4:=hE4.size;have z5:=hF5.ext.size;have z7:=hE7.size;refine⟨hcs.1,hcs.2,hR _ p c _ (q5.mono (fun _ h=>h) (by simp)) (fun b' hb'=>?_) ?_⟩
 ·have zu:(ab u1 ⟨k3,0,none⟩ [.slice p (ovs.length+(be (iM s)).length) c] 0).drew.heap.size=(ab u1 ⟨k3,0,none⟩ [.slice p (ovs.length+(be (iM s)).length) c] 0).heap.size:=rfl
  rw[dm (by omega),hsame b' (by omega),dm (by omega),dm (by omega),dm hb']
 ·have zu:(ab u1 ⟨k3,0,none⟩ [.slice p (ovs.length+(be (iM s)).length) c] 0).drew.heap.size=(ab u1 ⟨k3,0,none⟩ [.slice p (ovs.length+(be (iM s)).length) c] 0).heap.size:=rfl
  refine((((((hc3.mono (fun i hi _=>?_)).trans ((Ext.refl w3).drew.chg (S:=fun _=>False)) fun _ h _=>h.elim).trans (hE4.chg (S:=fun _=>False)) fun _ h _=>h.elim).trans (hF5.ext.chg (S:=fun _=>False)) fun _ h _=>h.elim).trans hC7 fun i hi hl=>?_).trans (((Ext.refl _).drew.trans hE7).chg (S:=fun _=>False)) fun _ h _=>h.elim).trans (Chg.setCells w7 ⟨b,516,none⟩ _ 0) fun i hi hl=>.inr (.inr (.inr (.inr hi)))
  ·rcases hi with hi|hi
   ·exact .inl hi
   ·exact .inr (.inl hi)
  ·rw[dm (by omega),dm (by omega),dm hl]at hi
   rcases hi with hi|hi
   ·exact .inr (.inr (.inl hi))
   ·exact .inr (.inr (.inr (.inl hi)))
theorem zZ{L0 L1:List Nat}{l:List (Nat×bb)}(h0:bM L0)(h1:bM L1)(hok:∀x,x∈l->gj x)(hc:∀x,x∈l->1<=(if x.1=0 then L0 else L1).getD x.2.1 0):
  Bs (b6 L0 L1 l)/\cS true (b6 L0 L1 l) 0 (bn L0 L1 l)/\8*(b6 L0 L1 l).length<=bA (bn L0 L1 l)+7/\bA (bn L0 L1 l)<=8*(b6 L0 L1 l).length:=by
 have hw:=(ny (up:=true) (bn L0 L1 l) ([],0) yR).1;obtain⟨p1,p2,p3,p4,p5⟩:=D2 hw;have hb:=mL (up:=true) (bn L0 L1 l) ([],0);rw[L_]at hb;have hr:=xf (up:=true) (bn L0 L1 l) ([],0) yR (Mv h0 h1 hok hc);rw[hb]at p2 p3 p4 p5;exact⟨p1,cS.same (m:=bA (bn L0 L1 l)) p5 p3 (by rw[L_];exact T_ _) hr,p4,p3⟩
def jh(A:Nat->Prop)(w:C_)(p:Option E_)(l:List CM):Prop:=∃css,cP A w css l/\aD A w p (ax id css)
theorem jh.chg{T:Nat->Prop}{l:List CM}(h:jh A w p l)(hc:Chg T w u)(hd:∀b,A b->b<w.heap.size->¬T b):jh A u p l:=by
 obtain⟨css,h1,h2⟩:=h;have k:Kp A A w u:=fun p vs hs=>hs.chg hc hd;exact⟨css,h1.kp k,k _ _ h2⟩
theorem jh.any{l:List CM}(h:jh A w p l):mi w p l:=by
 obtain⟨css,h1,h2⟩:=h;have k:Kp A d7 w w:=fun p vs hs=>hs.mono fun _ _ _=>trivial;exact⟨css,h1.kp k,k _ _ h2⟩
theorem jh.new{l:List CM}(h:jh A w p l)(ha:∀b,A b->w0.heap.size<=b):jV w0 w p l:=by
 obtain⟨css,h1,h2⟩:=h;have k:Kp A (fun b=>w0.heap.size<=b) w w:=fun p vs hs=>hs.mono fun b hb _=>ha b hb;exact⟨css,h1.kp k,k _ _ h2⟩
theorem EX{f:Nat->List D_}(l:List Nat):ax id (l.map f)=ax f l:=by simp[ax]
def xn(sub:Nat)(q:Nat->List Int):List CM:=(H_ (mU sub)).map fun i=>⟨(hU sub i:Nat),(hU sub i:Nat),q i,[]⟩
theorem IN(sub:Nat)(q:Nat->List Int):(xn sub q).length=mU sub:=by simp[xn]
theorem NW{sub:Nat}(q:Nat->List Int)(h:sub<=2):ij ((xn sub q).map (·.h))=(nU sub:Nat)/\ij ((xn sub q).map (·.v))=(nU sub:Nat):=by
 have:=GH (W:=1) (H:=1) (q:=q) (b:=fun _ _=>[]) h;have e1:(xn sub q).map (·.h)=(iB 1 1 sub q fun _ _=>[]).map (·.h):=by simp[xn,iB,jN]
 have e2:(xn sub q).map (·.v)=(iB 1 1 sub q fun _ _=>[]).map (·.v):=by simp[xn,iB,jN]
 rw[e1,e2];exact this
theorem OS{kc sub:Nat}{Q:Nat->Option E_×Nat}{q:Nat->List Int}{rc:List D_}(hc:Cs u kc (ax (jz sub Q) (H_ (mU sub))++rc))(hq:∀i,i<mU sub->aD D u (Q i).1 (ii (q i)))(ql:∀i,(q i).length=64):mi u (some ⟨kc,0,none⟩) (xn sub q):=by
 refine⟨(H_ (mU sub)).map (jz sub Q),⟨by simp[xn],fun i c hi=>?_⟩,?_⟩
 ·have hlt:=(List.getElem?_eq_some_iff.1 hi).1
  rw[IN]at hlt;unfold xn at hi;rw[W_,X_ hlt]at hi;cases hi;refine⟨jz sub Q i,by rw[W_,X_ hlt];rfl,(Q i).1,(Q i).2,none,0,[],rfl,ql i,(hq i hlt).mono fun _ _ _=>trivial,T_ _,fun j v hj=>by simp at hj,gh.nil _ _⟩
 ·rw[EX]
  exact aD.pre (Cs.slS hc trivial) (i_ _ _)
def pJ(W H sub:Nat)(Q:Nat->Option E_×Nat)(K:Nat->Nat)(n j:Nat):List D_:=if j<n then oP W H sub Q K j else jz sub Q j
theorem pt(W H sub:Nat)(Q:Nat->Option E_×Nat)(K:Nat->Nat)(n j:Nat):(pJ W H sub Q K n j).length=4:=by unfold pJ;split<;>rfl
theorem LB{sub:Nat}{Q:Nat->Option E_×Nat}{K:Nat->Nat}(h:i<m):(ax (pJ W H sub Q K i) (H_ m)).set (i*4+3) (.slice (some ⟨k,0,none⟩) (nB W H sub i) (nB W H sub i))=ax (pJ W H sub Q (fun j=>if j=i then k else K j) (i+1)) (H_ m):=by
 rw[kQ (pt W H sub Q K i) (by omega) m h]
 refine eB fun j hj=>?_;unfold pJ;by_cases e:j=i
 ·subst e
  rw[if_pos rfl,if_neg (by omega),if_pos (by omega)]
  unfold jz oP;simp
 ·rw[if_neg e]
  by_cases g:j<i
  ·rw[if_pos g,if_pos (by omega)]
   unfold oP;simp[e]
  ·rw[if_neg g,if_neg (by omega)]
theorem Om(d0 d1 m:Nat):ax (uY d0 d1) (H_ m)=ax (im d0 d1 (M_ m 0)) (H_ m):=eB fun j hj=>by
 unfold uY im;rw[b_,c_,if_pos hj];rfl
theorem KK{d0 d1:Nat}(hi:i<m):(ax (im d0 d1 (M_ m 0)) (H_ m)).set (i*5+4) (aa 0)=ax (im d0 d1 (M_ m 0)) (H_ m):=by
 rw[Es hi (by simp)]
 congr 2;refine List.ext_getElem (by simp) fun j h1 h2=>?_
 rw[List.getElem_set,List.getElem_replicate]
 split<;>rfl
theorem US.done{x:ik}{u0 v:C_}(ho:Bx x u0)(h:US x u0 [] (bJ x.W x.sub x.all) v)(hA:∀b,u0.heap.size<=b->A b)(hKA:∀i,i<mU x.sub->A (x.K i))(hc:A x.kc){B:Nat->Prop}(hB:∀b,B b->A b)(hq:∀i,i<mU x.sub->aD B v (x.Q i).1 (ii (x.q i))):
  jh A v (some ⟨x.kc,0,none⟩) (iB x.W x.H x.sub x.q x.b):=by
 have hcc:=ho.comps.chg h.chg ho.nc;refine⟨(H_ (mU x.sub)).map (oP x.W x.H x.sub x.Q x.K),⟨by rw[iJ];simp,fun i c hi=>?_⟩,?_⟩
 ·have hlt:=(List.getElem?_eq_some_iff.1 hi).1
  rw[iJ]at hlt;rw[sI hlt]at hi;cases hi;obtain⟨bv,g1,g2,g3⟩:=h.blk i hlt;have hl:(jN x.W x.H x.sub x.q x.b i).bl.length=nB x.W x.H x.sub i:=G0;refine⟨oP x.W x.H x.sub x.Q x.K i,by rw[W_,X_ hlt];rfl,(x.Q i).1,(x.Q i).2,some ⟨x.K i,0,none⟩,nB x.W x.H x.sub i,bv,by rw[hl];rfl,ho.jm.ql i,(hq i hlt).mono fun b hb _=>hB b hb,by rw[hl];exact T_ _,Cs.slS g1 (hKA i hlt),by rw[hl,g2],fun k l hk=>?_⟩
  have hkl:=(List.getElem?_eq_some_iff.1 hk).1;rw[hl]at hkl;have hk2:(jN x.W x.H x.sub x.q x.b i).bl[k]?=some (x.b i k):=by
   show((H_ (nB x.W x.H x.sub i)).map (x.b i))[k]?=_;rw[W_,X_ hkl];rfl
  rw[hk2]at hk;cases hk;obtain⟨u,y,z,r1,r2,r3,r4⟩:=Nx hkl;obtain⟨kb,s1,s2,s3,_⟩:=g3 k (MO.2 ⟨hlt,u,y,z,r1,r2,r3,r4⟩);exact⟨ho.jm.bl i k,some ⟨kb,0,none⟩,64,s1,T_ _,Cs.slS s2 (hA kb s3)⟩
 ·rw[EX]
  exact aD.pre (Cs.slS hcc hc) (i_ _ _)
theorem Nb{kF kp kc d0 d1 pc cc sub:Nat}{rp rc:List D_}{Q:Nat->Option E_×Nat}{q:Nat->List Int}{b:Nat->Nat->List Int}{L0 L1:List Nat}{D':Nat->Prop}{SE:List (Nat×bb)}
 (jm:gD W H sub q b)(hSE:SE=(bh (fun i k=>zz (b i k)) (M_ (mU sub) 0) (bJ W sub (aJ W (nU sub)*aJ H (nU sub)))).1)(hL:bT Z u kF T (be (b6 L0 L1 SE)++[255,217]))(hTl:T.length=13)
 (t8:T[8]?=some (aa (W:Nat)))(t9:T[9]?=some (aa (H:Nat)))(t10:T[10]?=some (aa 0))(t11:T[11]?=some (.slice (some ⟨kc,0,none⟩) (mU sub) cc))(t12:T[12]?=some (.slice (some ⟨kp,0,none⟩) (mU sub) pc))
 (hp:Cs u kp (ax (uY d0 d1) (H_ (mU sub))++rp))(hc:Cs u kc (ax (jz sub Q) (H_ (mU sub))++rc))(hq:∀i,i<mU sub->aD D' u (Q i).1 (ii (q i)))(c0:cZ D u d0 L0)(c1:cZ D u d1 L1)(h0:bM L0)(h1:bM L1)
 (hD:∀y,D y->y≠kF/\y≠kp/\y≠kc)(hD':∀y,D' y->kF<y/\y≠kp/\y≠kc)(n1:kF<kp)(n2:kF<kc)(n3:kp≠kc)(hZ:∀y,Z y->y<kF)
 (hcov:∀x,x∈SE->1<=(if x.1=0 then L0 else L1).getD x.2.1 0)(hsz:(b6 L0 L1 SE).length<=2^30)
 (hR:∀w',jh (fun y=>kF<y) w' (some ⟨kc,0,none⟩) (iB W H sub q b)->bT Z w' kF T []->Chg (fun y=>y=kF\/y=kp\/y=kc) u w'->R (.returned (.tuple #[])) w'):
  G_ P 30 #[.pointer (some ⟨kF,0,none⟩)] u R:=by
 obtain⟨e1,e2,e3,e4,e5⟩:=jm.dims;have hsub:=jm.hsub;have hmU:=dM (sub:=sub);have hnU:=cX hsub;have haW:=gW e1 e2 hnU;have haH:=gW e3 e4 hnU;have hunits:=jm.units;have hnn:1<=nU sub*nU sub:=Nat.mul_pos (by omega) (by omega)
 have hall:aJ W (nU sub)*aJ H (nU sub)<=1991:=Nat.le_trans (Nat.le_mul_of_pos_right _ hnn) hunits;have hall1:1<=aJ W (nU sub)*aJ H (nU sub):=Nat.mul_pos haW.2 haH.2;have hst:=iC (b6 L0 L1 SE);have hok:∀x,x∈SE->gj x:=by
  rw[hSE];exact(pX jm.zz _ _ fun i=>by
   rw[b_,c_]
   split<;>simp).1
 obtain⟨s1,s2,s3,s4⟩:=zZ h0 h1 hok hcov;refine pA _ _ _ (ap rfl ?_);have a9:(⟨kF,0,none⟩:E_).add 9=⟨kF,9,none⟩:=af _ _ _;have a10:(⟨kF,9,none⟩:E_).add 1=⟨kF,10,none⟩:=af _ _ _;have a11:(⟨kF,9,none⟩:E_).add 2=⟨kF,11,none⟩:=af _ _ _;have a12:(⟨kF,9,none⟩:E_).add 3=⟨kF,12,none⟩:=af _ _ _;have a13:(⟨kF,0,none⟩:E_).add 13=⟨kF,13,none⟩:=af _ _ _;rw[a9,a10,a11,a12];have hfc:∀{v:C_} {bs:List Int},bT Z v kF T bs->∀j x,T[j]?=some x->v.cell? ⟨kF,j+1,none⟩=some x:=fun h j x hx=>by
  obtain⟨p',c',q1,_⟩:=h.obj;exact q1.cell (by rw[P_];exact hx)
 refine⟨_,_,_,_,_,_,hfc hL 8 _ t8,hfc hL 9 _ t9,hfc hL 10 _ t10,hfc hL 11 _ t11,?_⟩;have hj0:=OS hc hq jm.ql;have hl0:=IN sub q;have hsh:=pu (w:=u) (c:=cc) (W:=W) (H:=H) (e:=0) (n:=nU sub) hj0 (by omega) (NW q hsub) hnU ⟨e1,e2⟩ ⟨e3,e4⟩ (R:=fun e2 w12=>
  e2=.returned (.agg #[aa (nU sub:Nat),aa (nU sub:Nat),aa (aJ W (nU sub):Nat),aa (aJ H (nU sub):Nat)])/\Ext u w12) fun w' hE'=>⟨rfl,hE'⟩
 rw[hl0]at hsh;refine hsh.mono fun ee w1 he2=>?_;obtain⟨rfl,hE1⟩:=he2;clear hsh hj0;have z1:=hE1.size;have lF:=hL.lt;have lp:=hp.lt;have lc:=hc.lt;refine⟨_,_,_,_,rfl,fun k3 hk3=>ap rfl fun w2 hL2=>?_⟩;rw[a9,a12];have hE2:Ext u w2:=hE1.trans (hL2.ext fun b hb=>by simp at hb;omega)
 have z2:=hL2.size;have k3l:=hL2.there k3 (by simp)
 have hk3u:u.heap.size<=k3:=by omega
 refine⟨_,_,_,hfc (hL.ext hE2) 11 _ t11,?_⟩;obtain⟨Bs',eBs⟩:∃P:Nat->C_->Prop,P=fun n v=>∃K:Nat->Nat,Cs v kc (ax (pJ W H sub Q K n) (H_ (mU sub))++rc)/\(∀j,j<n->Cs v (K j) (M_ (nB W H sub j) (.slice none 0 0))/\w2.heap.size<=K j/\K j<v.heap.size)/\(∀i j,i<n->j<n->K i=K j->i=j)/\Chg (·=kc) w2 v:=⟨_,rfl⟩;refine⟨fun vs v=>∃i:Nat,vs=[aa (i:Nat)]/\i<=mU sub/\Bs' i v,fun vs _=>match vs with|[.int _ i]=>(mU sub-i:Int).toNat|_=>0,⟨0,rfl,by omega,?_⟩,fun n8 w3 hI=>?_⟩
 ·rw[eBs]
  refine⟨fun _=>0,?_,fun j hj=>by omega,fun i j hi=>by omega,Chg.refl _ _⟩
  rw[eB (f:=pJ W H sub Q (fun _=>0) 0) (g:=jz sub Q) fun j hj=>if_neg (by omega)]
  exact hc.ext hE2
 obtain⟨i,hv,hi,hB⟩:=hI;simp only[I_,J_,true_and,and_true]at hv;subst hv;have hBc:Chg (·=kc) w2 w3:=by
  rw[eBs]at hB;obtain⟨K,_,_,_,g⟩:=hB;exact g
 have c3:Chg (·=kc) u w3:=(hE2.chg (S:=(·=kc))).trans hBc fun b hb _=>hb;have hL3:bT Z w3 kF T (be (b6 L0 L1 SE)++[255,217]):=hL.chg c3 (show¬kF=kc by omega) fun b hb _ e=>by have:=hZ b hb;have e:b=kc:=e;omega
 refine ak (fun hlt=>?_) fun hge=>?_
 ·have hlt:i<mU sub:=by have:=of_decide_eq_true hlt;omega
  rw[eBs]at hB;obtain⟨K,g1,g2,g3,g4⟩:=hB;have hh:=it (i:=i) hsub;have hnBl:=jm.nB i;have hcl:(ax (pJ W H sub Q K i) (H_ (mU sub))++rc).length=mU sub*4+rc.length:=by rw[N_,bi (pt W H sub Q K i),R_]
  have hget:∀r v,r<4->(jz sub Q i)[r]?=some v->(ax (pJ W H sub Q K i) (H_ (mU sub))++rc)[i*4+r]?=some v:=fun r v hr hv=>by
   rw[S_ (by rw[bi (pt W H sub Q K i),R_];omega),nz (pt W H sub Q K i) hlt hr]
   unfold pJ;rw[if_neg (by omega)];exact hv
  refine ap rfl ?_;rw[a9,a12];refine⟨_,_,_,hfc hL3 11 _ t11,bo (by omega) (by omega) rfl ?_⟩
  rw[K_,af,af,af,L_];have gd:=g1.ext (Ext.refl w3).drew;refine⟨_,gd.cell (hget 0 _ (by omega) rfl),_,gd.cell (hget 1 _ (by omega) rfl),?_⟩
  rw[II hsub ⟨e1,e2⟩ ⟨e3,e4⟩,K_];refine⟨by omega,by omega,by omega,by omega,fun k8 w4 hn4=>?_⟩
  have e8:k8=w3.heap.size:=hn4.1;have z4:=hn4.size;have hz4:=hBc.size;have hE4:Ext w3 w4:=(Ext.refl w3).drew.trans hn4.ext;have g14:=g1.ext hE4;have cs:=g14.set1 (off:=i*4+3) (v:=.slice (some ⟨k8,0,none⟩) (nB W H sub i) (nB W H sub i)) (by rw[hcl];omega)
  have cg:=Chg.setCells w4 ⟨kc,i*4+3,none⟩ [.slice (some ⟨k8,0,none⟩) (nB W H sub i) (nB W H sub i)] 0;rw[j_ _ _ (by rw[bi (pt W H sub Q K i),R_];omega),LB hlt]at cs
  have hZ8:Cs w4 k8 (M_ (nB W H sub i) (.slice none 0 0)):=aK.zeros hn4;rw[show A_.wrap (((i:Nat):Int)+1)=((i+1:Nat):Int) by rw[ai (by omega) (by omega)];omega]
  refine⟨⟨_,g14.cell (Q_ (by rw[hcl];omega))⟩,g14.frozen _,by simp;omega,⟨i+1,rfl,by omega,?_⟩,?_⟩
  ·rw[eBs]
   refine⟨_,cs,fun j hj=>?_,fun i' j' hi' hj' e=>?_,(g4.trans (hE4.chg (S:=fun _=>False)) fun _ h _=>h.elim).trans cg fun b hb _=>hb⟩
   ·by_cases e:j=i
    ·subst e
     simp only[if_true];exact⟨hZ8.chg cg (show¬k8=kc by omega),by omega,Nat.lt_of_lt_of_le z4 cg.size⟩
    ·simp only[e,if_false]
     obtain⟨r1,r2,r3⟩:=g2 j (by omega)
     have:=hE4.size;exact⟨(r1.ext hE4).chg cg (show¬K j=kc by omega),r2,by have:=cg.size;omega⟩
   ·by_cases ei:i'=i
    ·by_cases ej:j'=i
     ·omega
     ·simp only[ei,ej,if_true,if_false]at e
      have:=(g2 j' (by omega)).2.2
      omega
    ·by_cases ej:j'=i
     ·simp only[ei,ej,if_true,if_false]at e
      have:=(g2 i' (by omega)).2.2
      omega
     ·simp only[ei,ej,if_false]at e
      exact g3 i' j' (by omega) (by omega) e
  ·show(mU sub-((i+1:Nat):Int)).toNat<(mU sub-((i:Nat):Int)).toNat
   omega
 have:i=mU sub:=by have:=of_decide_eq_false hge;omega
 subst this;rw[eBs]at hB;obtain⟨K,g1,g2,g3,_⟩:=hB;rw[eB (f:=pJ W H sub Q K (mU sub)) (g:=oP W H sub Q K) fun j hj=>if_pos hj]at g1;clear eBs;refine mR fun zp zc w5 hF5=>⟨_,_,_,rfl,hF5.ext.keep _,?_⟩;have hE5:=hF5.ext;have z5:=hE5.size;have z3:=hBc.size;have c5:Chg (·=kc) u w5:=c3.trans (hE5.chg (S:=fun _=>False)) fun _ h _=>h.elim;have hL5:=hL3.ext hE5;have hz5:aD (fun b=>w3.heap.size<=b/\b<w5.heap.size) w5 zp (ii eG):=aD.mono (Fg.toS2 hF5) fun b hb hl=>⟨hb.1,hl⟩;have g15:=g1.ext hE5;have p5:Cs w5 kp (ax (uY d0 d1) (H_ (mU sub))++rp):=hp.chg c5 n3;have q5:∀i,i<mU sub->aD (fun y=>D' y/\y<u.heap.size) w5 (Q i).1 (ii (q i)):=fun i hi=>((hq i hi).mono (T:=fun y=>D' y/\y<u.heap.size) fun y hy hl=>⟨hy,hl⟩).chg c5 fun b hb _ e=>(hD' b hb.1).2.2 e;have c05:cZ D w5 d0 L0:=c0.chg c5 fun b hb _ e=>(hD b hb).2.2 e;have c15:cZ D w5 d1 L1:=c1.chg c5 fun b hb _ e=>(hD b hb).2.2 e;have c05:cZ (fun y=>D y/\y<u.heap.size) w5 d0 L0:=(c0.mono (E:=fun y=>D y/\y<u.heap.size) fun b hb hl=>⟨hb,hl⟩).chg c5 fun b hb _ e=>(hD b hb.1).2.2 e;have c15:cZ (fun y=>D y/\y<u.heap.size) w5 d1 L1:=(c1.mono (E:=fun y=>D y/\y<u.heap.size) fun b hb hl=>⟨hb,hl⟩).chg c5 fun b hb _ e=>(hD b hb.1).2.2 e;have hKs:∀j,j<mU sub->Cs w5 (K j) (M_ (nB W H sub j) (.slice none 0 0))/\w2.heap.size<=K j/\K j<w3.heap.size:=fun j hj=>⟨(g2 j hj).1.ext hE5,(g2 j hj).2⟩;have ew:A_.wrap (((aJ W (nU sub):Nat):Int)*((aJ H (nU sub):Nat):Int))=((aJ W (nU sub)*aJ H (nU sub):Nat):Int):=by rw[<-Int.natCast_mul,wN]
 rw[ew];obtain⟨Fin,eFin⟩:∃P:C_->Prop,P=fun v=>bT Z v kF T [255,217]/\jh (fun y=>kF<y) v (some ⟨kc,0,none⟩) (iB W H sub q b)/\Chg (fun y=>y=kF\/y=kp\/y=kc) u v:=⟨_,rfl⟩;refine⟨fun vs v=>(vs=[aa 0,aa (0:Nat)]/\v=w5)\/(vs=[aa 0,aa (aJ W (nU sub)*aJ H (nU sub):Nat)]/\Fin v),fun vs _=>match vs with|[_,.int _ n]=>(((aJ W (nU sub)*aJ H (nU sub):Nat):Int)-n).toNat|_=>0,.inl ⟨rfl,rfl⟩,fun n11 n12 w6 hI=>?_⟩
 rcases hI with⟨hv,hw6⟩|⟨hv,hfin⟩
 rotate_left
 ·simp only[I_,J_,true_and,and_true]at hv
  obtain⟨rfl,rfl⟩:=hv;rw[eFin]at hfin;obtain⟨r1,r2,r3⟩:=hfin;refine al (decide_eq_false (by omega)) (Ef r1 (by omega) fun w19 h19 c19=>⟨_,rfl,c19.keep fun b hb e=>by simp at hb;have e:b=kF:=e;omega,dd rfl ⟨rfl,rm _ _,?_⟩⟩)
  exact hR w19 (r2.chg c19 fun b hb _ e=>by have e:b=kF:=e;have hb:kF<b:=hb;omega) h19 (r3.trans c19 fun b hb _=>.inl hb)
 simp only[I_,J_,true_and,and_true]at hv;obtain⟨rfl,rfl⟩:=hv;obtain rfl:w5=w6:=hw6.symm;refine aY (decide_eq_true (by omega)) ⟨fun vs v=>vs=[aa 0,aa (aJ W (nU sub)*aJ H (nU sub):Nat)]/\Fin v,?_,fun n22 n23 w18 hI=>?_⟩
 rotate_left
 ·obtain⟨hv,hfin⟩:=hI
  simp only[I_,J_,true_and,and_true]at hv;obtain⟨rfl,rfl⟩:=hv;exact⟨.inr ⟨rfl,hfin⟩,by show(((aJ W (nU sub)*aJ H (nU sub):Nat):Int)-((aJ W (nU sub)*aJ H (nU sub):Nat):Int)).toNat<(((aJ W (nU sub)*aJ H (nU sub):Nat):Int)-((0:Nat):Int)).toNat;omega⟩
 obtain⟨pF,cF,f1,f2,f3⟩:=hL5.obj;refine ap rfl ⟨_,_,_,f1.cell (i:=0) rfl,?_⟩;have hul:(be (b6 L0 L1 SE)++[255,217]).length=(be (b6 L0 L1 SE)).length+2:=by simp
 refine HK f3.sl rfl (by rw[hul];omega) fun p7 c7 w7 hF7=>⟨_,_,_,_,rfl,hF7.ext.keep _,ap rfl ⟨_,_,_,(f1.ext hF7.ext).cell (i:=0) rfl,?_⟩⟩
 have hum:du (be (b6 L0 L1 SE)++[255,217])=(b6 L0 L1 SE,(be (b6 L0 L1 SE)).length):=E1 217 [] (by omega) _
 have hum1:(du (be (b6 L0 L1 SE)++[255,217])).1=b6 L0 L1 SE:=by rw[hum]
 have hum2:(du (be (b6 L0 L1 SE)++[255,217])).2=(be (b6 L0 L1 SE)).length:=by rw[hum]
 rw[hum1]at hF7⊢;rw[hum2];have hE7:=hF7.ext;have z7:=hE7.size;have hL7:=hL5.ext hE7;refine⟨by omega,by omega,by omega,ap rfl ?_⟩
 have hlen2:(((be (b6 L0 L1 SE)++[255,217]).length:Nat):Int).toNat-(((be (b6 L0 L1 SE)).length:Nat):Int).toNat=2:=by rw[K_,K_];omega
 rw[hlen2];have hs2:aD Z w7 (aX pF (((be (b6 L0 L1 SE)).length:Nat):Int).toNat cF 1) (bytes [255,217]):=by
  have:=aD.from (k:=(be (b6 L0 L1 SE)).length) (cap:=cF) (f3.ex hE7) (by rw[ar];omega)
  rw[bY,List.drop_left' (by rw[ar])]at this
  rw[K_];exact this
 obtain⟨u1,u2,u3,u4⟩:=hL7.put (cs:=[255,217]) (n:=2) (c:=cF-(((be (b6 L0 L1 SE)).length:Nat):Int).toNat) hs2 rfl (by omega)
 refine⟨u1,u2,by simp;omega,?_⟩
 generalize ab w7 ⟨kF,0,none⟩ [.slice (aX pF (((be (b6 L0 L1 SE)).length:Nat):Int).toNat cF 1) 2 (cF-(((be (b6 L0 L1 SE)).length:Nat):Int).toNat)] 0=v7 at*;clear u1 u2 f1 f3 hs2;have zv7:=u4.size;have hdat:aD (fun i=>w5.heap.size<=i/\i∉[]) v7 p7 (bytes (b6 L0 L1 SE)):=(Fg.toS2 hF7).chg u4 fun b hb _ e=>by have e:b=kF:=e;have:=hb.1;omega
 refine DY hdat.sl rfl (by omega) s1 fun rb w8 hE8 hrb hrd8=>⟨_,rfl,hE8.keep _,fun k19 w9 hn9=>?_⟩
 have e9:=hn9.1;have z8:=hE8.size;have z9:=hn9.size;have hC9:=aK.cs hn9;have rbl:rb<w8.heap.size:=by obtain⟨_,_,g,_⟩:=hrd8.obj;exact g.lt
 have cc9:Chg (·=kF) w5 w9:=(((hE7.chg (S:=(·=kF))).trans u4 fun b hb _=>hb).trans (hE8.chg (S:=(·=kF))) fun b hb _=>hb).trans (hn9.ext.chg (S:=(·=kF))) fun b hb _=>hb;have hL9:=(u3.ext hE8).ext hn9.ext;have p9:=p5.chg cc9 (show¬kp=kF by omega)
 rw[Om]at p9;refine ap rfl ?_;rw[a13];refine⟨_,_,_,hfc hL9 12 _ t12,?_⟩;refine⟨fun vs v=>∃j:Nat,vs=[aa (j:Nat)]/\j<=mU sub/\Cs v kp (ax (im d0 d1 (M_ (mU sub) 0)) (H_ (mU sub))++rp)/\Chg (·=kp) w9 v,fun vs _=>match vs with|[.int _ j]=>(mU sub-j:Int).toNat|_=>0,⟨0,rfl,by omega,p9,Chg.refl _ _⟩,fun n14 w10 hI=>?_⟩
 obtain⟨j,hv,hj,p10,c10⟩:=hI;simp only[I_,J_,true_and,and_true]at hv;subst hv;have hL10:=hL9.chg c10 (show¬kF=kp by omega) fun b hb _ e=>by have e:b=kp:=e;have:=hZ b hb;omega
 have z10:=c10.size;have hclp:(ax (im d0 d1 (M_ (mU sub) 0)) (H_ (mU sub))++rp).length=mU sub*5+rp.length:=by rw[N_,bi (sz:=5) fun _=>rfl,R_]
 refine ak (fun hlt=>?_) fun hge=>?_
 ·have hlt:j<mU sub:=by have:=of_decide_eq_true hlt;omega
  refine ap rfl ?_;rw[a13];refine⟨_,_,_,hfc hL10 12 _ t12,bo (by omega) (by omega) rfl ?_⟩
  rw[K_,af,af,L_];have cs:=p10.set1 (off:=j*5+4) (v:=aa 0) (by rw[hclp];omega)
  rw[j_ _ _ (by rw[bi (sz:=5) fun _=>rfl,R_];omega),KK hlt]at cs
  rw[show A_.wrap (((j:Nat):Int)+1)=((j+1:Nat):Int) by rw[ai (by omega) (by omega)];omega]
  exact⟨⟨_,p10.cell (Q_ (by rw[hclp];omega))⟩,p10.frozen _,by simp;omega,⟨j+1,rfl,by omega,cs,c10.trans (Chg.setCells w10 ⟨kp,j*5+4,none⟩ _ 0) fun b hb _=>hb⟩,by show(mU sub-((j+1:Nat):Int)).toNat<(mU sub-((j:Nat):Int)).toNat;omega⟩
 refine⟨fun vs v=>vs=[aa (aJ W (nU sub)*aJ H (nU sub):Nat)]/\v=w10,?_,fun n17 w11 hI=>?_⟩
 ·refine ap rfl ?_
  rw[a9,a11];refine⟨_,hfc hL10 10 _ t10,al rfl ⟨?_,rfl⟩⟩;rw[show((aJ W (nU sub)*aJ H (nU sub):Nat):Int)-((0:Nat):Int)=((aJ W (nU sub)*aJ H (nU sub):Nat):Int) by omega,wN]
 obtain⟨hv,rfl⟩:=hI;simp only[I_,J_,true_and,and_true]at hv;subst hv;obtain⟨pG,cG,f1,f2,f3⟩:=hL10.obj;have c511:Chg (fun y=>y=kF\/y=kp) w5 w11:=(cc9.mono fun b hb _=>.inl hb).trans c10 fun b hb _=>.inr hb;have z511:=c511.size;have hSx:∀y,w3.heap.size<=y/\y<w5.heap.size->¬(y=kF\/y=kp):=fun y hy e=>by rcases e with e|e<;>omega
 obtain⟨x,ex⟩:∃x:ik,x=⟨kF,kp,kc,k19,rb,d0,d1,pc,cc,zc,W,H,sub,.slice pG [255,217].length cG::T,rp,rc,Q,K,zp,b6 L0 L1 SE,L0,L1,q,b,fun i=>v7.heap.size<=i/\i<rb,fun y=>(D y/\y<u.heap.size)\/(w3.heap.size<=y/\y<w5.heap.size)⟩:=⟨_,rfl⟩;have hmut:∀y,x.mut y->y=rb\/y=kp\/∃i,i<mU sub/\y=K i:=fun y hy=>by rw[ex]at hy;exact hy
 have hmK:∀y,x.mut y->y≠kF/\y≠kc/\y≠k19/\y<w11.heap.size/\y≠k3:=fun y hy=>by
  rcases hmut y hy with e|e|⟨i,hi,e⟩
  ·omega
  ·omega
  ·have:=(hKs i hi).2;omega
 have ho:Bx x w11:=by
  constructor
  case jm=>rw[ex];exact jm
  case file=>rw[ex];exact f1
  case f12=>rw[ex];exact t11
  case f13=>rw[ex];exact t12
  case comps=>rw[ex];exact g15.chg c511 fun e=>by rcases e with e|e<;>omega
  case rdr=>rw[ex];exact hC9.chg c10 (show¬k19=kp by omega)
  case zig=>rw[ex];exact(hz5.chg c511 fun y hy _=>hSx y hy).mono fun y hy _=>.inr hy
  case c0=>rw[ex];exact(c05.chg c511 fun y hy _ e=>by rcases e with e|e;exact(hD y hy.1).1 e;exact(hD y hy.1).2.1 e).mono fun y hy _=>.inl hy
  case c1=>rw[ex];exact(c15.chg c511 fun y hy _ e=>by rcases e with e|e;exact(hD y hy.1).1 e;exact(hD y hy.1).2.1 e).mono fun y hy _=>.inl hy
  case t0=>rw[ex];exact h0
  case t1=>rw[ex];exact h1
  case dD=>
   intro y hy hm;have hm:=hmut y hm;rw[ex]at hy;rcases hy with hy|hy<;>rcases hm with e|e|⟨i,hi,e⟩
   ·have:=hy.2;omega
   ·exact(hD y hy.1).2.1 e
   ·have:=hy.2;have:=(hKs i hi).2;omega
   ·have:=hy.2;omega
   ·have:=hy.1;omega
   ·have:=hy.1;have:=(hKs i hi).2;omega
  case dS=>
   intro y hy;rw[ex]at hy;have hy1:v7.heap.size<=y:=hy.1;have hy2:y<rb:=hy.2;refine⟨by omega,fun hm=>?_⟩
   rcases hmut y hm with e|e|⟨i,hi,e⟩
   ·omega
   ·omega
   ·have:=(hKs i hi).2;omega
  case nF=>intro hm;rw[show x.kF=kF by rw[ex]]at hm;exact(hmK _ hm).1 rfl
  case nc=>intro hm;rw[show x.kc=kc by rw[ex]]at hm;exact(hmK _ hm).2.1 rfl
  case nr=>intro hm;rw[show x.kr=k19 by rw[ex]]at hm;exact(hmK _ hm).2.2.1 rfl
  case np=>rw[ex];show rb≠kp;omega
  case nK=>rw[ex];intro i hi;show K i≠rb/\K i≠kp;have:=(hKs i hi).2;omega
  case inj=>rw[ex];exact g3
  case lt=>intro y hy;exact(hmK y hy).2.2.2.1
  case cov=>rw[ex];show∀y,y∈(bh (fun i k=>zz (b i k)) (M_ (mU sub) 0) (bJ W sub (aJ W (nU sub)*aJ H (nU sub)))).1->_;rw[<-hSE];exact hcov
  case rds=>rw[ex];show cS true (b6 L0 L1 SE) 0 (bn L0 L1 (bh (fun i k=>zz (b i k)) (M_ (mU sub) 0) (bJ W sub (aJ W (nU sub)*aJ H (nU sub)))).1);rw[<-hSE];exact s2
 have hus:US x w11 [] (bJ x.W x.sub 0) w11:=by
  rw[ex];refine⟨p10,?_,fun i hi=>⟨_,(hKs i hi).1.chg c511 fun e=>?_,by simp,fun k hk=>by simp[bJ]at hk⟩,Chg.refl _ _,fun k hk=>by simp at hk⟩
  ·exact(hrd8.ext hn9.ext).chg c10 (show¬rb=kp by omega) fun y hy _ e=>by have e:y=kp:=e;have:=hy.1;omega
  ·have:=(hKs i hi).2
   rcases e with e|e
   ·have e:K i=kF:=e;omega
   ·have e:K i=kp:=e;omega
 have xall:x.all=aJ W (nU sub)*aJ H (nU sub):=by rw[ex];rfl
 have xe:x.kF=kF/\x.kr=k19/\x.sub=sub/\x.W=W/\x.H=H/\x.kc=kc/\x.q=q/\x.b=b/\x.K=K/\x.Q=Q:=by rw[ex];exact⟨rfl,rfl,rfl,rfl,rfl,rfl,rfl,rfl,rfl,rfl⟩
 obtain⟨x1,x2,x3,x4,x5,x6,x7,x8,x9,x10⟩:=xe;have hk3m:∀y,y∈[k3]->¬x.mut y:=fun y hy hm=>by simp at hy;exact(hmK y hm).2.2.2.2 hy
 refine⟨fun vs v=>∃n:Nat,vs=[aa (n:Nat),aa (n:Nat)]/\n<=x.all/\US x w11 [] (bJ x.W x.sub n) v,fun vs _=>match vs with|[_,.int _ n]=>((x.all:Int)-n).toNat|_=>0,⟨0,rfl,by omega,hus⟩,fun n18 n19 w12 hI=>?_⟩
 obtain⟨n,hv,hnle,hu12⟩:=hI;simp only[I_,J_,true_and,and_true]at hv;obtain⟨rfl,rfl⟩:=hv;rw[<-xall];refine ak (fun hlt=>?_) fun hge=>?_
 ·have hlt:n<x.all:=by have:=of_decide_eq_true hlt;omega
  have hun:=Og (R:=fun e13 w13=>e13=.returned (.tuple #[])/\US x w11 [] (bJ x.W x.sub (n+1)) w13/\Chg x.mut w12 w13) ho hlt hu12 fun v' h1 h2=>⟨rfl,h1,h2⟩;rw[x1,x2,x3,x4,x5]at hun;refine hun.mono fun e13 w13 hh=>?_;obtain⟨rfl,h13,c13⟩:=hh;rw[show A_.wrap (((n:Nat):Int)+1)=((n+1:Nat):Int) by rw[ai (by omega) (by omega)];omega]
  exact⟨rfl,c13.keep hk3m,⟨n+1,rfl,by omega,by rw[x3,x4];exact h13⟩,by show((x.all:Int)-((n+1:Nat):Int)).toNat<((x.all:Int)-((n:Nat):Int)).toNat;omega⟩
 have:n=x.all:=by have:=of_decide_eq_false hge;omega
 subst this;have hkr:=ho.rdr.chg hu12.chg ho.nr;rw[x2]at hkr;have hrd:=hu12.rd;have hx:(x.sc (bJ x.W x.sub x.all)).1=SE:=by rw[hSE,ex];rfl
 rw[hx]at hrd;have xb:x.bs=b6 L0 L1 SE/\x.L0=L0/\x.L1=L1/\x.rb=rb:=by rw[ex];exact⟨rfl,rfl,rfl,rfl⟩
 obtain⟨xb,xl0,xl1,xrb⟩:=xb;rw[xb,xl0,xl1]at hrd;refine⟨_,hkr.cell (i:=0) rfl,Ec hrd ⟨_,rfl,(Ext.refl w12).drew.keep _,aS (decide_eq_false (by omega)) ⟨rfl,rm _ _,al (decide_eq_false (by omega)) ⟨rfl,?_⟩⟩⟩⟩
 have hud:US x w11 [] (bJ x.W x.sub x.all) w12.drew:=hu12.oth ho ((Ext.refl w12).drew.chg (S:=fun _=>False)) fun _ h _=>h.elim;have hjm:=hud.done ho (A:=fun y=>kF<y) (B:=fun y=>D' y/\y<u.heap.size) (fun y hy=>by omega) (fun i hi=>by rw[x9];rw[x3]at hi;have:=(hKs i hi).2;omega) (by rw[x6];exact n2) (fun y hy=>(hD' y hy.1).1) fun i hi=>by
  rw[x10,x7];rw[x3]at hi;refine((q5 i hi).chg c511 fun y hy _ e=>?_).chg hud.chg fun y hy hl hm=>?_
  ·rcases e with e|e
   ·have:=(hD' y hy.1).1;omega
   ·exact(hD' y hy.1).2.1 e
  ·have hy2:=hy.2
   rcases hmut y hm with e|e|⟨i,hi,e⟩
   ·omega
   ·exact(hD' y hy.1).2.1 e
   ·have:=(hKs i hi).2;omega
 rw[x4,x5,x3,x7,x8,x6]at hjm;rw[eFin];refine⟨hL10.chg hud.chg (fun hm=>(hmK _ hm).1 rfl) fun y hy _ hm=>?_,hjm,?_⟩
 ·have hyz:=hZ y hy
  rcases hmut y hm with e|e|⟨i,hi,e⟩
  ·omega
  ·omega
  ·have:=(hKs i hi).2;omega
 ·refine((c5.mono (T:=fun y=>y=kF\/y=kp\/y=kc) fun y hy _=>.inr (.inr hy)).trans c511 fun y hy hl=>?_).trans hud.chg fun y hm hl=>?_
  ·rcases hy with e|e
   ·exact .inl e
   ·exact .inr (.inl e)
  ·rcases hmut y hm with e|e|⟨i,hi,e⟩
   ·omega
   ·exact .inr (.inl e)
   ·have:=(hKs i hi).2;omega
def qO(q1:aj)(x1 x2:Int)(w:C_)(R:bV):Prop:=
 ∃I1:aw,(ae (x1==1||x1==200) (G_ P 27 #[.bool true] w fun e1 w1=>(e1=.returned (.tuple #[]))/\I1 [] w1) (ae (decide (x1>=208)) (G_ P 27 #[.bool (decide (x1<=217))] w fun e2 w2=>(e2=.returned (.tuple #[]))/\I1 [] w2) (G_ P 27 #[.bool false] w fun e3 w3=>(e3=.returned (.tuple #[]))/\I1 [] w3)))/\∀w4,(I1 [] w4)->G_ P 71 #[.bool (decide (x1>192)&&decide (x1<208)&&x1 !=196)] w4 fun e4 w5=>(e4=.returned (.tuple #[]))/\nn (q1) fun a1=>∃p1 k1 k2,(w5.cell? a1=some (.slice p1 k1 k2))/\∀k3 w6,(aK w5 (O_ #[.slice none 0 0] 152) k3 w6)->aI w6 {block:=k3,off:=0} [.slice p1 k1 k2] fun u1=>G_ P 72 #[.pointer (aH k3)] u1 fun e5 w7=>∃n1,(e5=.returned (aa n1))/\G_ P 27 #[.bool (decide (n1<2))] w7 fun e6 w8=>(e6=.returned (.tuple #[]))/\G_ P 73 #[.pointer (aH k3),aa (A_.wrap (n1-2))] w8 fun e7 w9=>∃p2 k4 k5,(e7=.returned (.slice p2 k4 k5))/\∀k6 w10,(aK w9 (O_ #[.slice none 0 0] 152) k6 w10)->aI w10 {block:=k6,off:=0} [.slice p2 k4 k5] fun u2=>∃p3 k7 k8,(u2.cell? {block:=k3,off:=0}=some (.slice p3 k7 k8))/\nn (q1) fun a2=>aI u2 a2 [.slice p3 k7 k8] fun u3=>∃I2:aw,(ae (x1==219) (∃p4:aj,∃k9 k10,(u3.cell? {block:=k6,off:=0}=some (.slice p4 k9 k10))/\G_ P 74 #[.pointer q1,.slice p4 k9 k10] u3 fun e8 w11=>(e8=.returned (.tuple #[]))/\I2 [] w11) (ae (x1==196) (∃p5:aj,∃k11 k12,(u3.cell? {block:=k6,off:=0}=some (.slice p5 k11 k12))/\G_ P 75 #[.pointer q1,.slice p5 k11 k12] u3 fun e9 w12=>(e9=.returned (.tuple #[]))/\I2 [] w12) (ae (x1==192) (∃p6:aj,∃k13 k14,(u3.cell? {block:=k6,off:=0}=some (.slice p6 k13 k14))/\G_ P 76 #[.pointer q1,.slice p6 k13 k14,aa x2] u3 fun e10 w13=>(e10=.returned (.tuple #[]))/\I2 [] w13) (ae (x1==218) (∃p7:aj,∃k15 k16,(u3.cell? {block:=k6,off:=0}=some (.slice p7 k15 k16))/\G_ P 77 #[.pointer q1,.slice p7 k15 k16] u3 fun e11 w14=>(e11=.returned (.tuple #[]))/\I2 [] w14) (ae (x1==221) (∃p8:aj,∃k17 k18,(u3.cell? {block:=k6,off:=0}=some (.slice p8 k17 k18))/\G_ P 27 #[.bool ((k17:Int)!=2)] u3 fun e12 w15=>(e12=.returned (.tuple #[]))/\G_ P 72 #[.pointer (aH k6)] w15 fun e13 w16=>∃n2,(e13=.returned (aa n2))/\nn (q1) fun a3=>aI w16 ((a3.add 9).add 2) [aa n2] fun u4=>I2 [] u4) (I2 [] u3))))))/\∀w17,(I2 [] w17)->R (aM #[]) w17
theorem ob(q1:aj)(x1 x2:Int)(w:C_)(R:bV)(h:qO q1 x1 x2 w R):G_ P 29 #[.pointer q1,aa x1,aa x2] w R:=
  aF (ac:=qQ) Tryz.func29 h
theorem Jz{kF:Nat}{m most:Int}{d rest:List Int}(hm:m=219\/m=196\/m=192\/m=218)(h:bT Z u kF T (((d.length+2)/256:Nat)::((d.length+2)%256:Nat)::(d++rest)))(hd:d.length+2<65536)(hZ:∀b,Z b->b<u.heap.size)
 (h219:m=219->∀p c v,d.length<=c->aD Z v p (bytes d)->bT Z v kF T rest->Chg (·=kF) u v->G_ P 74 #[.pointer (some ⟨kF,0,none⟩),.slice p d.length c] v fun e w'=>e=.returned (.tuple #[])/\R (.returned (.tuple #[])) w')
 (h196:m=196->∀p c v,d.length<=c->aD Z v p (bytes d)->bT Z v kF T rest->Chg (·=kF) u v->G_ P 75 #[.pointer (some ⟨kF,0,none⟩),.slice p d.length c] v fun e w'=>e=.returned (.tuple #[])/\R (.returned (.tuple #[])) w')
 (h192:m=192->∀p c v,d.length<=c->aD Z v p (bytes d)->bT Z v kF T rest->Chg (·=kF) u v->G_ P 76 #[.pointer (some ⟨kF,0,none⟩),.slice p d.length c,aa most] v fun e w'=>e=.returned (.tuple #[])/\R (.returned (.tuple #[])) w')
 (h218:m=218->∀p c v,d.length<=c->aD Z v p (bytes d)->bT Z v kF T rest->Chg (·=kF) u v->G_ P 77 #[.pointer (some ⟨kF,0,none⟩),.slice p d.length c] v fun e w'=>e=.returned (.tuple #[])/\R (.returned (.tuple #[])) w'):
  G_ P 29 #[.pointer (some ⟨kF,0,none⟩),aa m,aa most] u R:=by
 have lF:=h.lt;refine ob _ _ _ _ _ ⟨fun vs v=>vs=[]/\v=u,?_,fun w4 hI=>?_⟩
 ·rcases hm with rfl|rfl|rfl|rfl
  ·exact al (by decide) (aY (by decide) (aS (by decide) ⟨rfl,rfl,rfl⟩))
  ·exact al (by decide) (al (by decide) (aS rfl ⟨rfl,rfl,rfl⟩))
  ·exact al (by decide) (al (by decide) (aS rfl ⟨rfl,rfl,rfl⟩))
  ·exact al (by decide) (aY (by decide) (aS (by decide) ⟨rfl,rfl,rfl⟩))
 obtain⟨_,rfl⟩:=hI;obtain⟨p1,c1,q1,q2,q3⟩:=h.obj;refine dd (by rcases hm with rfl|rfl|rfl|rfl<;>decide) ⟨rfl,ap rfl ⟨_,_,_,q1.cell (i:=0) rfl,fun k3 w6 hn6=>?_⟩⟩
 have e6:=hn6.1;have z6:=hn6.size;have C6:=aK.cs hn6;have S6:=C6.set1 (off:=0) (v:=.slice p1 (((d.length+2)/256:Nat)::((d.length+2)%256:Nat)::(d++rest):List Int).length c1) (by simp)
 have g6:=Chg.setCells w6 ⟨k3,0,none⟩ [.slice p1 (((d.length+2)/256:Nat)::((d.length+2)%256:Nat)::(d++rest):List Int).length c1] 0;have gE6:Ext w4 (ab w6 ⟨k3,0,none⟩ [.slice p1 (((d.length+2)/256:Nat)::((d.length+2)%256:Nat)::(d++rest):List Int).length c1] 0):=hn6.ext.step g6 fun b hb=>by have hb:b=k3:=hb;omega
 have hL3:bT (fun b=>Z b/\b<w4.heap.size) (ab w6 ⟨k3,0,none⟩ [.slice p1 (((d.length+2)/256:Nat)::((d.length+2)%256:Nat)::(d++rest):List Int).length c1] 0) k3 [] (((d.length+2)/256:Nat)::((d.length+2)%256:Nat)::(d++rest)):=
  ⟨⟨p1,c1,S6,q2,(aD.mono q3 fun b hb hl=>⟨hb,hl⟩).ex gE6⟩,fun hh=>by have:=hh.2;omega⟩
 refine⟨⟨_,C6.cell (i:=0) rfl⟩,C6.frozen _,?_⟩;have hF6:=h.ext gE6;have z6':=gE6.size;have k3l:=hL3.lt;generalize ab w6 ⟨k3,0,none⟩ [.slice p1 (((d.length+2)/256:Nat)::((d.length+2)%256:Nat)::(d++rest):List Int).length c1] 0=v6 at*;clear S6 g6;refine Hi hL3 (by omega) (by omega) fun w7 h7 c7=>⟨_,rfl,aS (decide_eq_false (by omega)) ⟨rfl,?_⟩⟩
 rw[show A_.wrap ((256:Int)*(((d.length+2)/256:Nat):Int)+(((d.length+2)%256:Nat):Int)-2)=((d.length:Nat):Int) by rw[ai (by omega) (by omega)];omega]
 refine mj h7 rfl fun p2 c2 w9 hc2 hb9 h9 c9=>⟨_,_,_,rfl,fun k6 w10 hn10=>?_⟩;have c69:=c7.trans c9 fun b hb _=>hb;have hF9:=hF6.chg c69 (show¬kF=k3 by omega) fun b hb _ e=>by have e:b=k3:=e;have:=hZ b hb;omega
 have e10:=hn10.1;have z10:=hn10.size;have z9:=c69.size;have C10:=aK.cs hn10;have S10:=C10.set1 (off:=0) (v:=.slice p2 d.length c2) (by simp)
 have g10:=Chg.setCells w10 ⟨k6,0,none⟩ [.slice p2 d.length c2] 0;have gE10:Ext w9 (ab w10 ⟨k6,0,none⟩ [.slice p2 d.length c2] 0):=hn10.ext.step g10 fun b hb=>by have hb:b=k6:=hb;omega
 refine⟨⟨_,C10.cell (i:=0) rfl⟩,C10.frozen _,?_⟩;have S10:Cs (ab w10 ⟨k6,0,none⟩ [.slice p2 d.length c2] 0) k6 [.slice p2 d.length c2]:=S10;have hF10:=hF9.ext gE10;have h10:=h9.ext gE10;have hb10:=hb9.ex gE10;have c410:Chg (·=kF) w4 (ab w10 ⟨k6,0,none⟩ [.slice p2 d.length c2] 0):=((gE6.chg (S:=(·=kF))).trans c69 fun b hb hl=>by have hb:b=k3:=hb;omega).trans (gE10.chg (S:=(·=kF))) fun b hb _=>hb
 generalize ab w10 ⟨k6,0,none⟩ [.slice p2 d.length c2] 0=v10 at*;clear g10;obtain⟨p3,c3,r1,r2,r3⟩:=h10.obj;obtain⟨u1,u2,u3,u4⟩:=hF10.put (aD.mono r3 fun b hb _=>hb.1) rfl r2;refine⟨_,_,_,r1.cell (i:=0) rfl,ap rfl ⟨u1,u2,?_⟩⟩;have S11:=S10.chg u4 (show¬k6=kF by omega)
 have hb11:=hb10.chg u4 fun b hb hl e=>by have e:b=kF:=e;exact h.ne (by rw[<-e];exact hb.1)
 have c411:=c410.trans u4 fun b hb _=>hb;generalize ab v10 ⟨kF,0,none⟩ [.slice p3 rest.length c3] 0=v11 at*;have hb11:aD Z v11 p2 (bytes d):=aD.mono hb11 fun b hb _=>hb.1;refine⟨fun vs v=>vs=[]/\R (.returned (.tuple #[])) v,?_,fun w17 hI=>hI.2⟩;rcases hm with rfl|rfl|rfl|rfl
 ·exact aY (by decide) ⟨_,_,_,S11.cell (i:=0) rfl,(h219 rfl p2 c2 v11 hc2 hb11 u3 c411).mono fun e w' hh=>⟨hh.1,rfl,hh.2⟩⟩
 ·exact al (by decide) (aY (by decide) ⟨_,_,_,S11.cell (i:=0) rfl,(h196 rfl p2 c2 v11 hc2 hb11 u3 c411).mono fun e w' hh=>⟨hh.1,rfl,hh.2⟩⟩)
 ·exact al (by decide) (al (by decide) (aY (by decide) ⟨_,_,_,S11.cell (i:=0) rfl,(h192 rfl p2 c2 v11 hc2 hb11 u3 c411).mono fun e w' hh=>⟨hh.1,rfl,hh.2⟩⟩))
 ·exact al (by decide) (al (by decide) (al (by decide) (aY (by decide) ⟨_,_,_,S11.cell (i:=0) rfl,(h218 rfl p2 c2 v11 hc2 hb11 u3 c411).mono fun e w' hh=>⟨hh.1,rfl,hh.2⟩⟩)))
def pR(sa1:aj)(sl1 sc1:Nat)(x1:Int)(w:C_)(R:bV):Prop:=
 ∀k1 w1,(aK w (O_ #[aa 0,aa 0,aa 0,.slice none 0 0] 33) k1 w1)->∀k2 w2,(aK w1 (O_ #[aa 0] 27) k2 w2)->ae (decide ((sl1:Int)>4194304)) (aI w2 {block:=k1,off:=0} [aa 0,aa 0,aa 0,.slice none 0 0] fun u1=>(∃v2,w2.cell? {block:=k1,off:=1}=some v2)/\(w2.frozen? {block:=k1,off:=1}=false)/\(∃v3,w2.cell? {block:=k1,off:=2}=some v3)/\(w2.frozen? {block:=k1,off:=2}=false)/\(∃v4,w2.cell? {block:=k1,off:=3}=some v4)/\(w2.frozen? {block:=k1,off:=3}=false)/\aI u1 {block:=k2,off:=0} [aa 11] fun u2=>∃(n1 n2 n3:Int) (p1:aj) (k3 k4:Nat),(u2.cell? {block:=k1,off:=0}=some (aa n1))/\(u2.cell? {block:=k1,off:=1}=some (aa n2))/\(u2.cell? {block:=k1,off:=2}=some (aa n3))/\(u2.cell? {block:=k1,off:=3}=some (.slice p1 k3 k4))/\∃n4,(u2.cell? {block:=k2,off:=0}=some (aa n4))/\R (aM #[.agg #[aa n1,aa n2,aa n3,.slice p1 k3 k4],aa n4]) u2) (∃I1:aw,(ae (decide ((sl1:Int)<2)) (G_ P 27 #[.bool true] w2 fun e1 w3=>(e1=.returned (.tuple #[]))/\I1 [] w3) (aq (sa1) (sl1) (0) (1) fun a1=>∃n5,(w2.cell? a1=some (u8 n5))/\ae (n5 !=255) (G_ P 27 #[.bool true] w2 fun e2 w4=>(e2=.returned (.tuple #[]))/\I1 [] w4) (aq (sa1) (sl1) (1) (1) fun a2=>∃n6,(w2.cell? a2=some (u8 n6))/\G_ P 27 #[.bool (n6 !=216)] w2 fun e3 w5=>(e3=.returned (.tuple #[]))/\I1 [] w5)))/\∀w6,(I1 [] w6)->cO (sa1) (sc1) (2) ((sl1:Int)) (1) fun p2 k5 k6=>∀k7 w7,(aK w6 (O_ #[.slice p2 k5 k6,.slice none 0 0,.slice none 0 0,.slice none 0 0,.slice none 0 0,.pointer none,.pointer none,.pointer none,.pointer none,aa 0,aa 0,aa 0,.slice none 0 0,.slice none 0 0] 77) k7 w7)->∃(I2:aw) (m1:List D_->C_->Nat),(I2 [aa 0] w7)/\∀n7 w8,(I2 [aa n7] w8)->ae (n7 !=218) (G_ P 28 #[.pointer (aH k7)] w8 fun e4 w9=>∃n8,(e4=.returned (aa n8))/\G_ P 29 #[.pointer (aH k7),aa n8,aa x1] w9 fun e5 w10=>(e5=.returned (.tuple #[]))/\(I2 [aa n8] w10)/\m1 [aa n8] w10<m1 [aa n7] w8) (G_ P 30 #[.pointer (aH k7)] w8 fun e6 w11=>(e6=.returned (.tuple #[]))/\∃(n9 n10 n11:Int) (p3:aj) (k8 k9:Nat),(w11.cell? {block:=k7,off:=9}=some (aa n9))/\(w11.cell? {block:=k7,off:=10}=some (aa n10))/\(w11.cell? {block:=k7,off:=11}=some (aa n11))/\(w11.cell? {block:=k7,off:=12}=some (.slice p3 k8 k9))/\aI w11 {block:=k1,off:=0} [aa n9,aa n10,aa n11,.slice p3 k8 k9] fun u3=>(∃v7,w11.cell? {block:=k1,off:=1}=some v7)/\(w11.frozen? {block:=k1,off:=1}=false)/\(∃v8,w11.cell? {block:=k1,off:=2}=some v8)/\(w11.frozen? {block:=k1,off:=2}=false)/\(∃v9,w11.cell? {block:=k1,off:=3}=some v9)/\(w11.frozen? {block:=k1,off:=3}=false)/\aI u3 {block:=k2,off:=0} [aa 0] fun u4=>kB P 26 [.pointer (aH k1),.pointer (aH k2)] (D_.nilIface) u4 fun e7 w12=>(∃v11:D_,e7=.returned v11)/\∃(n12 n13 n14:Int) (p4:aj) (k10 k11:Nat),(w12.cell? {block:=k1,off:=0}=some (aa n12))/\(w12.cell? {block:=k1,off:=1}=some (aa n13))/\(w12.cell? {block:=k1,off:=2}=some (aa n14))/\(w12.cell? {block:=k1,off:=3}=some (.slice p4 k10 k11))/\∃n15,(w12.cell? {block:=k2,off:=0}=some (aa n15))/\R (aM #[.agg #[aa n12,aa n13,aa n14,.slice p4 k10 k11],aa n15]) w12))
theorem wh(sa1:aj)(sl1 sc1:Nat)(x1:Int)(w:C_)(R:bV)(h:pR sa1 sl1 sc1 x1 w R):G_ P 8 #[.slice sa1 sl1 sc1,aa x1] w R:=
 Hh (fn:=Tryz.f8) (ac:=AN) (args:=[.slice sa1 sl1 sc1,aa x1]) JC Tryz.func8 (by kernel_rfl) (cast (by unfold pR KI;kernel_rfl) h)
theorem bT.len(h:bT Z u k T bs):cR k u=bs.length:=by
 obtain⟨p,c,h1,_⟩:=h.obj;exact kJ h1
theorem BN{v:C_}{kF:Nat}{m most:Int}{d rest:List Int}{K:Int->C_->Prop}(hm:m=219\/m=196\/m=192\/m=218)(h:bT Z v kF T (b9 m d++rest))(hd:d.length+2<65536)(hZ:∀b,Z b->b<v.heap.size)
 (h219:m=219->∀p c v',d.length<=c->aD Z v' p (bytes d)->bT Z v' kF T rest->Chg (·=kF) v v'->G_ P 74 #[.pointer (some ⟨kF,0,none⟩),.slice p d.length c] v' fun e w'=>e=.returned (.tuple #[])/\K m w')
 (h196:m=196->∀p c v',d.length<=c->aD Z v' p (bytes d)->bT Z v' kF T rest->Chg (·=kF) v v'->G_ P 75 #[.pointer (some ⟨kF,0,none⟩),.slice p d.length c] v' fun e w'=>e=.returned (.tuple #[])/\K m w')
 (h192:m=192->∀p c v',d.length<=c->aD Z v' p (bytes d)->bT Z v' kF T rest->Chg (·=kF) v v'->G_ P 76 #[.pointer (some ⟨kF,0,none⟩),.slice p d.length c,aa most] v' fun e w'=>e=.returned (.tuple #[])/\K m w')
 (h218:m=218->∀p c v',d.length<=c->aD Z v' p (bytes d)->bT Z v' kF T rest->Chg (·=kF) v v'->G_ P 77 #[.pointer (some ⟨kF,0,none⟩),.slice p d.length c] v' fun e w'=>e=.returned (.tuple #[])/\K m w'):
  G_ P 28 #[.pointer (some ⟨kF,0,none⟩)] v fun e4 w9=>∃n8:Int,e4=.returned (aa n8)/\G_ P 29 #[.pointer (some ⟨kF,0,none⟩),aa n8,aa most] w9 fun e5 w10=>e5=.returned (.tuple #[])/\K n8 w10:=by
 have h':bT Z v kF T (255::m::(((d.length+2)/256:Nat)::((d.length+2)%256:Nat)::(d++rest))):=h;refine Ef h' (by omega) fun w9 h9 c9=>⟨m,rfl,?_⟩
 have z9:=c9.size;refine Jz (R:=fun e w=>e=.returned (.tuple #[])/\K m w) hm h9 hd (fun b hb=>by have:=hZ b hb;omega) (fun e p c v' a1 a2 a3 a4=>(h219 e p c v' a1 a2 a3 (c9.trans a4 fun b hb _=>hb)).mono fun e w' hh=>⟨hh.1,rfl,hh.2⟩) (fun e p c v' a1 a2 a3 a4=>(h196 e p c v' a1 a2 a3 (c9.trans a4 fun b hb _=>hb)).mono fun e w' hh=>⟨hh.1,rfl,hh.2⟩)
  (fun e p c v' a1 a2 a3 a4=>(h192 e p c v' a1 a2 a3 (c9.trans a4 fun b hb _=>hb)).mono fun e w' hh=>⟨hh.1,rfl,hh.2⟩) fun e p c v' a1 a2 a3 a4=>(h218 e p c v' a1 a2 a3 (c9.trans a4 fun b hb _=>hb)).mono fun e w' hh=>⟨hh.1,rfl,hh.2⟩
def vB(L0 L1:List Nat)(l:List (Nat×bb)):List Int:=be (b6 L0 L1 l)++[255,217]
def yH(sub:Nat)(L0 L1:List Nat)(l:List (Nat×bb)):List Int:=b9 218 (bH sub (mU sub)++[0,63,0])++vB L0 L1 l
def yL(sub:Nat)(L0 L1:List Nat)(l:List (Nat×bb)):List Int:=b9 196 (dL 1 L1)++yH sub L0 L1 l
def oT(sub:Nat)(L0 L1:List Nat)(l:List (Nat×bb)):List Int:=b9 196 (dL 0 L0)++yL sub L0 L1 l
def yA(W H sub:Nat)(L0 L1:List Nat)(l:List (Nat×bb)):List Int:=b9 192 (bX W H sub (mU sub))++oT sub L0 L1 l
def mW(q:Nat->List Int)(n k:Nat)(t:List Int):List Int:=((d_ n k).flatMap fun i=>b9 219 (fK q i))++t
theorem CU(q:Nat->List Int)(n k:Nat)(t:List Int):mW q n (k+1) t=b9 219 (fK q n)++mW q (n+1) k t:=by
 unfold mW;rw[show d_ n (k+1)=n::d_ (n+1) k from rfl,List.flatMap_cons,k_]
theorem CE(W H sub:Nat)(q:Nat->List Int)(L0 L1:List Nat)(l:List (Nat×bb)):ll W H sub q L0 L1 l=255::216::mW q 0 (mU sub) (yA W H sub L0 L1 l):=by
 unfold ll jT mW yA oT yL yH vB;rw[List.range_eq_range'];simp only[k_]
 rfl
def PQ(kF n:Nat)(T:List D_)(q:Nat->List Int)(kq:Nat->Nat)(v:C_):Prop:=∀j,j<n->T[j]?=some (.slice (some ⟨kq j,0,none⟩) 64 64)/\Cs v (kq j) (ii (q j))/\kF<kq j
theorem PQ.chg{kF:Nat}{q:Nat->List Int}{kq:Nat->Nat}{v v':C_}{S:Nat->Prop}(h:PQ kF n T q kq v)(hc:Chg S v v')(hS:∀j,j<n->¬S (kq j)):PQ kF n T q kq v':=fun j hj=>⟨(h j hj).1,(h j hj).2.1.chg hc (hS j hj),(h j hj).2.2⟩
theorem PQ.tab{kF:Nat}{T':List D_}{q:Nat->List Int}{kq:Nat->Nat}{v:C_}(h:PQ kF n T q kq v)(hT:∀j,j<n->T'[j]?=T[j]?):PQ kF n T' q kq v:=fun j hj=>⟨by rw[hT j hj];exact(h j hj).1,(h j hj).2⟩
theorem PQ.snoc{kF:Nat}{q:Nat->List Int}{kq:Nat->Nat}{v:C_}(h:PQ kF n T q kq v)(hn:n<T.length)(hC:Cs v k (ii (q n)))(hk:kF<k):PQ kF (n+1) (T.set n (.slice (some ⟨k,0,none⟩) 64 64)) q (fun j=>if j=n then k else kq j) v:=fun j hj=>by
 by_cases e:j=n
 ·subst e
  simp only[if_true];exact⟨l_ hn,hC,hk⟩
 ·simp only[e,if_false]
  rw[U_ (fun e'=>e e'.symm)];exact h j (by omega)
structure IE(Z:Nat->Prop)(w7:C_)(kF W H sub:Nat)(q:Nat->List Int)(L0 L1:List Nat)(SE:List (Nat×bb))(n:Nat)(v:C_):Prop where
 chg:Chg (fun b=>kF<=b) w7 v
 all:∃T kq,bT Z v kF T (mW q n (mU sub-n) (yA W H sub L0 L1 SE))/\T.length=13/\PQ kF n T q kq v/\T[10]?=some (aa 0)/\T[11]?=some (.slice none 0 0)/\T[12]?=some (.slice none 0 0)
structure GY(Z:Nat->Prop)(w7:C_)(kF W H sub:Nat)(q:Nat->List Int)(L0 L1:List Nat)(SE:List (Nat×bb))(t:Nat)(v:C_):Prop where
 chg:Chg (fun b=>kF<=b) w7 v
 all:∃T kq kp kc pc cc rp rc,bT Z v kF T (if t=0 then oT sub L0 L1 SE else if t=1 then yL sub L0 L1 SE else yH sub L0 L1 SE)/\T.length=13/\PQ kF (mU sub) T q kq v/\T[8]?=some (aa (W:Nat))/\T[9]?=some (aa (H:Nat))/\T[10]?=some (aa 0)/\T[11]?=some (.slice (some ⟨kc,0,none⟩) (mU sub) cc)/\T[12]?=some (.slice (some ⟨kp,0,none⟩) (mU sub) pc)/\
  Cs v kp (ax gI (H_ (mU sub))++rp)/\Cs v kc (ax (lj sub) (H_ (mU sub))++rc)/\kF<kp/\kF<kc/\kp≠kc/\(∀j,j<mU sub->kq j≠kp/\kq j≠kc)/\
  ∀s,s<t->∃d,T[4+2*s]?=some (.pointer (some ⟨d,0,none⟩))/\cZ (fun y=>y≠kF/\y≠kp/\y≠kc) v d (if s=0 then L0 else L1)
structure Pm(Z:Nat->Prop)(w7:C_)(kF W H sub:Nat)(q:Nat->List Int)(L0 L1:List Nat)(SE:List (Nat×bb))(v:C_):Prop where
 chg:Chg (fun b=>kF<=b) w7 v
 all:∃T Q kp kc pc cc rp rc d0 d1,bT Z v kF T (vB L0 L1 SE)/\T.length=13/\T[8]?=some (aa (W:Nat))/\T[9]?=some (aa (H:Nat))/\T[10]?=some (aa 0)/\T[11]?=some (.slice (some ⟨kc,0,none⟩) (mU sub) cc)/\T[12]?=some (.slice (some ⟨kp,0,none⟩) (mU sub) pc)/\
  Cs v kp (ax (uY d0 d1) (H_ (mU sub))++rp)/\Cs v kc (ax (jz sub Q) (H_ (mU sub))++rc)/\kF<kp/\kF<kc/\kp≠kc/\
  (∀i,i<mU sub->aD (fun y=>kF<y/\y≠kp/\y≠kc) v (Q i).1 (ii (q i)))/\cZ (fun y=>y≠kF/\y≠kp/\y≠kc) v d0 L0/\cZ (fun y=>y≠kF/\y≠kp/\y≠kc) v d1 L1
section
variable {Z : Nat -> Prop} {w7 v : C_} {kF W H sub : Nat} {q : Nat -> List Int} {b : Nat -> Nat -> List Int} {L0 L1 : List Nat} {SE : List (Nat × bb)} {most : Int} {K : Int -> C_ -> Prop}
theorem IE.next(h:IE Z w7 kF W H sub q L0 L1 SE n v)(jm:gD W H sub q b)(hZ:∀b,Z b->b<kF)(hkF:kF<w7.heap.size)(hn:n<mU sub)
 (hK:∀v',IE Z w7 kF W H sub q L0 L1 SE (n+1) v'->cR kF v'<cR kF v->K 219 v'):
  G_ P 28 #[.pointer (some ⟨kF,0,none⟩)] v fun e4 w9=>∃n8:Int,e4=.returned (aa n8)/\G_ P 29 #[.pointer (some ⟨kF,0,none⟩),aa n8,aa most] w9 fun e5 w10=>e5=.returned (.tuple #[])/\K n8 w10:=by
 obtain⟨T,kq,hL,hT,hQ,t10,t11,t12⟩:=h.all;have hmU:=dM (sub:=sub);have hz:=h.chg.size;obtain⟨m,hm⟩:∃m,mU sub-n=m+1:=⟨mU sub-n-1,by omega⟩
 have hlen:=hL.len;rw[hm,CU]at hL hlen;refine BN (.inl rfl) hL (by rw[de];omega) (fun b hb=>by have:=hZ b hb;omega) (fun _ p c v' hc hb hL' hch=>?_) (fun e=>by omega) (fun e=>by omega) (fun e=>by omega)
 obtain⟨pF,cF,f1,f2,f3⟩:=hL'.obj;have lF:=hL'.lt;refine E9 (S:=Z) f1 (by simp[hT]) hb (de q n) hc hL'.ne (by omega) (jm.ql n) (jm.qr n) fun k u' hk hC hF' hc'=>⟨rfl,?_⟩
 have cc:Chg (·=kF) v u':=hch.trans hc' fun b hb _=>hb;have hL'':bT Z u' kF (T.set n (.slice (some ⟨k,0,none⟩) 64 64)) (mW q (n+1) m (yA W H sub L0 L1 SE)):=by
  refine⟨⟨pF,cF,?_,f2,f3.chg hc' fun b hb _ e=>hL'.ne (by have e:b=kF:=e;rw[<-e];exact hb)⟩,hL'.ne⟩
  rw[Nat.add_comm 1 n,m_]at hF';exact hF'
 refine hK u' ⟨h.chg.trans cc fun b hb _=>by have hb:b=kF:=hb;omega,T.set n (.slice (some ⟨k,0,none⟩) 64 64),_,?_,by rw[n_];exact hT,(hQ.chg cc fun j hj e=>by have:=(hQ j hj).2.2;have e:kq j=kF:=e;omega).snoc (by omega) hC (by omega),by rw[U_ (by omega)];exact t10,by rw[U_ (by omega)];exact t11,by rw[U_ (by omega)];exact t12⟩ ?_
 ·rw[show mU sub-(n+1)=m by omega];exact hL''
 ·rw[hL''.len,hlen,N_,ba];omega
theorem IE.frame(h:IE Z w7 kF W H sub q L0 L1 SE (mU sub) v)(jm:gD W H sub q b)(hZ:∀b,Z b->b<kF)(hkF:kF<w7.heap.size)(hmost:((W*H:Nat):Int)<=most)
 (hK:∀v',GY Z w7 kF W H sub q L0 L1 SE 0 v'->cR kF v'<cR kF v->K 192 v'):
  G_ P 28 #[.pointer (some ⟨kF,0,none⟩)] v fun e4 w9=>∃n8:Int,e4=.returned (aa n8)/\G_ P 29 #[.pointer (some ⟨kF,0,none⟩),aa n8,aa most] w9 fun e5 w10=>e5=.returned (.tuple #[])/\K n8 w10:=by
 obtain⟨T,kq,hL,hT,hQ,t10,t11,t12⟩:=h.all;obtain⟨d1,d2,d3,d4,d5⟩:=jm.dims;have hmU:=dM (sub:=sub);have hz:=h.chg.size;have hlen:=hL.len;rw[Nat.sub_self]at hL hlen;have hL:bT Z v kF T (b9 192 (bX W H sub (mU sub))++oT sub L0 L1 SE):=hL;have hlen:cR kF v=(b9 192 (bX W H sub (mU sub))++oT sub L0 L1 SE).length:=hlen;refine BN (.inr (.inr (.inl rfl))) hL (by rw[jC];omega) (fun b hb=>by have:=hZ b hb;omega) (fun e=>by omega) (fun e=>by omega) (fun _ p c v' hc hb hL' hch=>?_) (fun e=>by omega)
 obtain⟨pF,cF,f1,f2,f3⟩:=hL'.obj;have lF:=hL'.lt;refine Mh (S:=Z) f1 (by simp[hT]) (by rw[P_];exact t11) (by rw[P_];exact t12) hb rfl hc hL'.ne ⟨d1,d2⟩ ⟨d3,d4⟩ d5 jm.hsub hmost fun kp kc pc cc FC' rp rc u' hkp hkc hne hP hC hF' hFl g9 g10 g12 g13 go hc'=>⟨rfl,?_⟩
 have ccg:Chg (·=kF) v u':=hch.trans hc' fun b hb _=>hb;have hQ':PQ kF (mU sub) T q kq v':=hQ.chg hch fun j hj e=>by have:=(hQ j hj).2.2;have e:kq j=kF:=e;omega
 cases FC' with
 |nil=>simp at hFl
 |cons a T'=>
  have g0:=go 0 (by omega) (by omega) (by omega) (by omega)
  simp only[List.getElem?_cons_zero,a_]at g0;subst g0;have hT':T'.length=13:=by simpa using hFl
  have gt:∀j,j≠8->j≠9->j≠11->j≠12->T'[j]?=T[j]?:=fun j h8 h9 h11 h12=>by
   have:=go (j+1) (by omega) (by omega) (by omega) (by omega)
   simpa using this
  have hL'':bT Z u' kF T' (oT sub L0 L1 SE):=⟨⟨pF,cF,hF',f2,f3.chg hc' fun b hb _ e=>hL'.ne (by have e:b=kF:=e;rw[<-e];exact hb)⟩,hL'.ne⟩
  refine hK u' ⟨h.chg.trans ccg fun b hb _=>by have hb:b=kF:=hb;omega,T',kq,kp,kc,pc,cc,rp,rc,hL'',hT',(hQ'.chg hc' fun j hj e=>by have:=(hQ j hj).2.2;have e:kq j=kF:=e;omega).tab fun j hj=>gt j (by omega) (by omega) (by omega) (by omega),by simpa using g9,by simpa using g10,by rw[gt 10 (by omega) (by omega) (by omega) (by omega)];exact t10,by simpa using g12,by simpa using g13,hP,hC,by omega,by omega,hne,fun j hj=>?_,fun s hs=>by omega⟩ ?_
  ·have:=(hQ' j hj).2.1.lt;omega
  ·rw[hL''.len,hlen,N_,ba];omega
end
section
variable {Z : Nat -> Prop} {w7 v : C_} {kF W H sub : Nat} {q : Nat -> List Int} {b : Nat -> Nat -> List Int} {L0 L1 : List Nat} {SE : List (Nat × bb)} {most : Int} {K : Int -> C_ -> Prop}
theorem GY.table{t:Nat}(h:GY Z w7 kF W H sub q L0 L1 SE t v)(h0:bM L0)(h1:bM L1)(hZ:∀b,Z b->b<kF)(hkF:kF<w7.heap.size)(ht:t<2)
 (hK:∀v',GY Z w7 kF W H sub q L0 L1 SE (t+1) v'->cR kF v'<cR kF v->K 196 v'):
  G_ P 28 #[.pointer (some ⟨kF,0,none⟩)] v fun e4 w9=>∃n8:Int,e4=.returned (aa n8)/\G_ P 29 #[.pointer (some ⟨kF,0,none⟩),aa n8,aa most] w9 fun e5 w10=>e5=.returned (.tuple #[])/\K n8 w10:=by
 obtain⟨T,kq,kp,kc,pc,cc,rp,rc,hL,hT,hQ,t8,t9,t10,t11,t12,hP,hC,n1,n2,n3,hqn,hcod⟩:=h.all;have hmU:=dM (sub:=sub);have hz:=h.chg.size;have hlen:=hL.len;have hTt:bM (if t=0 then L0 else L1):=by split;exact h0;exact h1
 have h256:=xk hTt;have etl:∃rest,(if t=0 then oT sub L0 L1 SE else if t=1 then yL sub L0 L1 SE else yH sub L0 L1 SE)=b9 196 (dL t (if t=0 then L0 else L1))++rest/\rest=(if t+1=0 then oT sub L0 L1 SE else if t+1=1 then yL sub L0 L1 SE else yH sub L0 L1 SE):=by
  rcases(show t=0\/t=1 by omega)with rfl|rfl
  ·exact⟨_,rfl,rfl⟩
  ·exact⟨_,rfl,rfl⟩
 obtain⟨rest,er,er2⟩:=etl;rw[er]at hL hlen;have htl:(dL t (if t=0 then L0 else L1)).length=17+(aO (if t=0 then L0 else L1) 16).length:=by simp[dL,db];omega
 refine BN (.inr (.inl rfl)) hL (by omega) (fun b hb=>by have:=hZ b hb;omega) (fun e=>by omega) (fun _ p c v' hc hb hL' hch=>?_) (fun e=>by omega) (fun e=>by omega)
 obtain⟨pF,cF,f1,f2,f3⟩:=hL'.obj;have lF:=hL'.lt;have lp:=hP.lt;have lc:=hC.lt;have zv':=hch.size;refine KX (S:=Z) f1 (by simp[hT]) hb rfl hc hL'.ne ht hTt fun k u' hk hcode hF' hc'=>⟨rfl,?_⟩
 have ccg:Chg (·=kF) v u':=hch.trans hc' fun b hb _=>hb;rw[show 5+2*t=(4+2*t)+1 by omega,m_]at hF'
 have hL'':bT Z u' kF (T.set (4+2*t) (.pointer (some ⟨k,0,none⟩))) rest:=⟨⟨pF,cF,hF',f2,f3.chg hc' fun b hb _ e=>hL'.ne (by have e:b=kF:=e;rw[<-e];exact hb)⟩,hL'.ne⟩
 have hs:∀j,j≠4+2*t->(T.set (4+2*t) (.pointer (some ⟨k,0,none⟩)))[j]?=T[j]?:=fun j hj=>U_ (fun e=>hj e.symm);refine hK u' ⟨h.chg.trans ccg fun b hb _=>by have hb:b=kF:=hb;omega,T.set (4+2*t) (.pointer (some ⟨k,0,none⟩)),kq,kp,kc,pc,cc,rp,rc,by rw[<-er2];exact hL'',by rw[n_];exact hT,(hQ.chg ccg fun j hj e=>by have:=(hQ j hj).2.2;have e:kq j=kF:=e;omega).tab fun j hj=>hs j (by omega),by rw[hs 8 (by omega)];exact t8,by rw[hs 9 (by omega)];exact t9,by rw[hs 10 (by omega)];exact t10,by rw[hs 11 (by omega)];exact t11,by rw[hs 12 (by omega)];exact t12,
  hP.chg ccg (show¬kp=kF by omega),hC.chg ccg (show¬kc=kF by omega),n1,n2,n3,hqn,fun s hs'=>?_⟩ ?_
 ·by_cases e:s=t
  ·subst e
   refine⟨k,l_ (by omega),hcode.mono fun y hy hl=>?_⟩
   rcases hy with hy|hy
   ·have:=hZ y hy.1;omega
   ·omega
  ·obtain⟨d,r1,r2⟩:=hcod s (by omega)
   exact⟨d,by rw[hs _ (by omega)];exact r1,r2.chg ccg fun y hy _ e=>hy.1 e⟩
 ·rw[hL''.len,hlen,N_,ba];omega
theorem GY.scan(h:GY Z w7 kF W H sub q L0 L1 SE 2 v)(jm:gD W H sub q b)(hZ:∀b,Z b->b<kF)(hkF:kF<w7.heap.size)
 (hK:∀v',Pm Z w7 kF W H sub q L0 L1 SE v'->cR kF v'<cR kF v->K 218 v'):
  G_ P 28 #[.pointer (some ⟨kF,0,none⟩)] v fun e4 w9=>∃n8:Int,e4=.returned (aa n8)/\G_ P 29 #[.pointer (some ⟨kF,0,none⟩),aa n8,aa most] w9 fun e5 w10=>e5=.returned (.tuple #[])/\K n8 w10:=by
 obtain⟨T,kq,kp,kc,pc,cc,rp,rc,hL,hT,hQ,t8,t9,t10,t11,t12,hP,hC,n1,n2,n3,hqn,hcod⟩:=h.all;have hmU:=dM (sub:=sub);have hz:=h.chg.size;have hlen:=hL.len;have hL:bT Z v kF T (b9 218 (bH sub (mU sub)++[0,63,0])++vB L0 L1 SE):=hL;have hlen:cR kF v=(b9 218 (bH sub (mU sub)++[0,63,0])++vB L0 L1 SE).length:=hlen;obtain⟨d0,r0,g0⟩:=hcod 0 (by omega)
 obtain⟨d1,r1,g1⟩:=hcod 1 (by omega)
 simp only[if_true]at g0;simp only[Nat.one_ne_zero,if_false]at g1;refine BN (.inr (.inr (.inr rfl))) hL (by rw[N_,nG];show 1+2*mU sub+3+2<65536;omega) (fun b hb=>by have:=hZ b hb;omega) (fun e=>by omega) (fun e=>by omega) (fun e=>by omega) (fun _ p c v' hc hb hL' hch=>?_)
 obtain⟨pF,cF,f1,f2,f3⟩:=hL'.obj;have lF:=hL'.lt;have lp:=hP.lt;have lc:=hC.lt;have zv':=hch.size;have hQ':PQ kF (mU sub) T q kq v':=hQ.chg hch fun j hj e=>by have:=(hQ j hj).2.2;have e:kq j=kF:=e;omega
 refine NU (S:=Z) (d0:=d0) (d1:=d1) (q:=q) (kq:=kq) f1 (by simp[hT]) (by rw[P_];exact t11) (by rw[P_];exact t12) (by rw[P_];exact r0) (by rw[P_];exact r1) (fun i hi=>⟨by rw[Nat.add_comm 1 i,P_];exact(hQ' i hi).1,(hQ' i hi).2.1,hqn i hi⟩) jm.ql (hP.chg hch (show¬kp=kF by omega)) (hC.chg hch (show¬kc=kF by omega)) n3 (by omega) (by omega) hb rfl hc (fun hz=>by have:=hZ _ hz;omega) (fun hz=>by have:=hZ _ hz;omega) fun Q u' hP' hC' hQs hc'=>⟨rfl,?_⟩
 have hL'':bT Z u' kF T (vB L0 L1 SE):=hL'.chg hc' (fun e=>by rcases e with e|e<;>omega) fun y hy _ e=>by have:=hZ y hy;rcases e with e|e<;>omega
 refine hK u' ⟨(h.chg.trans hch fun b hb _=>by have hb:b=kF:=hb;omega).trans hc' fun b hb _=>by rcases hb with e|e<;>omega,T,Q,kp,kc,pc,cc,rp,rc,d0,d1,hL'',hT,t8,t9,t10,t11,t12,hP',hC',n1,n2,n3,fun i hi=>(hQs i hi).mono fun y hy _=>by omega,(g0.chg hch fun y hy _ e=>hy.1 e).chg hc' fun y hy _ e=>by rcases e with e|e;exact hy.2.1 e;exact hy.2.2 e,(g1.chg hch fun y hy _ e=>hy.1 e).chg hc' fun y hy _ e=>by rcases e with e|e;exact hy.2.1 e;exact hy.2.2 e⟩ ?_
 rw[hL''.len,hlen,N_,ba];omega
end
theorem E0(q:Nat->List Int)(t:List Int):∀k n,(mW q n k t).length=69*k+t.length
 |0,n=>by simp[mW]
 |k+1,n=>by rw[CU,N_,ba,de,E0 q t k (n+1)];omega
theorem HE{sub:Nat}{q:Nat->List Int}{b:Nat->Nat->List Int}{L0 L1:List Nat}{SE:List (Nat×bb)}(jm:gD W H sub q b)(hSE:SE=(bh (fun i k=>zz (b i k)) (M_ (mU sub) 0) (bJ W sub (aJ W (nU sub)*aJ H (nU sub)))).1)(h0:bM L0)(h1:bM L1)(hcov:∀x,x∈SE->1<=(if x.1=0 then L0 else L1).getD x.2.1 0):
  (b6 L0 L1 SE).length<=1290169/\(ll W H sub q L0 L1 SE).length<=4194304:=by
 have hbl:=jm.blocks.1;obtain⟨hok,hl⟩:(∀x,x∈SE->gj x)/\SE.length<=64*(bJ W sub (aJ W (nU sub)*aJ H (nU sub))).length:=by
  rw[hSE];exact pX jm.zz _ _ fun i=>by
   rw[b_,c_]
   split<;>simp
 have hb:=rE h0 h1 SE hok;obtain⟨s1,s2,s3,s4⟩:=zZ h0 h1 hok hcov;have hst:=iC (b6 L0 L1 SE);have t0:=xk h0;have t1:=xk h1;have hmU:=dM (sub:=sub);refine⟨by omega,?_⟩
 rw[CE];simp only[e_];rw[E0];unfold yA oT yL yH vB;simp only[N_,ba,jC,nG,e_,List.length_nil];have e0:(dL 0 L0).length=17+(aO L0 16).length:=by simp[dL,db];omega
 have e1:(dL 1 L1).length=17+(aO L1 16).length:=by simp[dL,db];omega
 rw[e0,e1];omega
theorem Hn{c sub:Nat}{q:Nat->List Int}{b:Nat->Nat->List Int}{L0 L1:List Nat}{SE:List (Nat×bb)}{most:Int}
 (jm:gD W H sub q b)(hSE:SE=(bh (fun i k=>zz (b i k)) (M_ (mU sub) 0) (bJ W sub (aJ W (nU sub)*aJ H (nU sub)))).1)(h0:bM L0)(h1:bM L1)(hcov:∀x,x∈SE->1<=(if x.1=0 then L0 else L1).getD x.2.1 0)
 (hs:aD d7 w p (bytes (ll W H sub q L0 L1 SE)))(hn:n=(ll W H sub q L0 L1 SE).length)(hc:n<=c)(hmost:((W*H:Nat):Int)<=most)
 (hR:∀kc cc w',Ext w w'->jV w w' (some ⟨kc,0,none⟩) (iB W H sub q b)->R (.returned (.tuple #[.agg #[aa (W:Nat),aa (H:Nat),aa 0,.slice (some ⟨kc,0,none⟩) (mU sub) cc],aa 0])) w'):
  G_ P 8 #[.slice p n c,aa most] w R:=by
 obtain⟨l1,l2⟩:=HE jm hSE h0 h1 hcov;have hmU:=dM (sub:=sub);have hs:aD (fun y=>y<w.heap.size) w p (bytes (ll W H sub q L0 L1 SE)):=aD.mono hs fun y _ hl=>hl;rw[CE]at hs hn l2;generalize hrl:mW q 0 (mU sub) (yA W H sub L0 L1 SE)=RL at*;simp only[e_]at hn l2;subst hn;refine wh _ _ _ _ _ _ fun k1 w1 hn1 k2 w2 hn2=>al (decide_eq_false (by omega)) ?_
 have e1:=hn1.1;have e2:=hn2.1;have z1:=hn1.size;have z2:=hn2.size;have hE2:Ext w w2:=hn1.ext.trans hn2.ext;have hs2:=hs.ex hE2;refine⟨fun vs v=>vs=[]/\v=w2,?_,fun w6 hI=>?_⟩
 ·refine al (decide_eq_false (by omega)) ?_
  refine hs2.getB (i:=0) (v:=u8 255) (by simp[bytes]) rfl fun a1 _ ha1=>⟨_,ha1,al (by decide) ?_⟩
  exact hs2.getB (i:=1) (v:=u8 216) (by simp[bytes]) rfl fun a2 _ ha2=>⟨_,ha2,aS (by decide) ⟨rfl,rfl,rfl⟩⟩
 obtain⟨_,rfl⟩:=hI;refine⟨by omega,by omega,by omega,fun kF w7 hn7=>?_⟩
 have eF:=hn7.1;have zF:=hn7.size;have hC7:=aK.cs hn7;have hfr:aD (fun y=>y<w.heap.size) w7 (aX p 2 c 1) (bytes RL):=(aD.from (k:=2) (cap:=c) hs2 (by simp[bytes];omega)).ex hn7.ext
 have en:((RL.length+1+1:Nat):Int).toNat-(2:Int).toNat=RL.length:=by rw[K_];show RL.length+1+1-2=RL.length;omega
 have ek:c-(2:Int).toNat=c-2:=rfl;have hL7:bT (fun y=>y<w.heap.size) w7 kF [.slice none 0 0,.slice none 0 0,.slice none 0 0,.slice none 0 0,.pointer none,.pointer none,.pointer none,.pointer none,aa 0,aa 0,aa 0,.slice none 0 0,.slice none 0 0] RL:=by
  refine⟨⟨_,c-2,?_,by omega,hfr⟩,by omega⟩
  rw[en,ek]at hC7;exact hC7
 have hkF:kF<w7.heap.size:=zF;have hZ:∀y,y<w.heap.size->y<kF:=fun y hy=>by omega
 obtain⟨M,eM⟩:∃M:Int->C_->Prop,M=fun mk v=>(mk≠218/\((∃n,n<=mU sub/\IE (fun y=>y<w.heap.size) w7 kF W H sub q L0 L1 SE n v)\/∃t,t<=2/\GY (fun y=>y<w.heap.size) w7 kF W H sub q L0 L1 SE t v))\/(mk=218/\Pm (fun y=>y<w.heap.size) w7 kF W H sub q L0 L1 SE v):=⟨_,rfl⟩;refine⟨fun vs v=>∃mk,vs=[aa mk]/\M mk v,fun _ v=>cR kF v,⟨0,rfl,?_⟩,fun n7 w8 hI=>?_⟩
 ·rw[eM]
  exact .inl ⟨by omega,.inl ⟨0,by omega,Chg.refl _ _,_,fun _=>0,by rw[Nat.sub_zero,hrl];exact hL7,rfl,fun j hj=>by omega,rfl,rfl,rfl⟩⟩
 obtain⟨mk,hv,hM⟩:=hI;simp only[I_,J_,true_and,and_true]at hv;subst hv;rw[eM]at hM;rcases hM with⟨hne,hst⟩|⟨rfl,hst⟩
 ·refine aY (by simpa using hne) ?_
  have hgo:G_ P 28 #[.pointer (some ⟨kF,0,none⟩)] w8 fun e4 w9=>∃n8:Int,e4=.returned (aa n8)/\G_ P 29 #[.pointer (some ⟨kF,0,none⟩),aa n8,aa most] w9 fun e5 w10=>e5=.returned (.tuple #[])/\(M n8 w10/\cR kF w10<cR kF w8):=by
   rcases hst with⟨n,hn,hA⟩|⟨t,ht,hB⟩
   ·rcases Nat.lt_or_ge n (mU sub)with g|g
    ·exact hA.next (K:=fun m v=>M m v/\cR kF v<cR kF w8) jm hZ hkF g fun v' h1 h2=>⟨by rw[eM];exact .inl ⟨by omega,.inl ⟨n+1,g,h1⟩⟩,h2⟩
    ·obtain rfl:n=mU sub:=by omega
     exact hA.frame (K:=fun m v=>M m v/\cR kF v<cR kF w8) jm hZ hkF hmost fun v' h1 h2=>⟨by rw[eM];exact .inl ⟨by omega,.inr ⟨0,by omega,h1⟩⟩,h2⟩
   ·rcases Nat.lt_or_ge t 2 with g|g
    ·exact hB.table (K:=fun m v=>M m v/\cR kF v<cR kF w8) h0 h1 hZ hkF g fun v' h1 h2=>⟨by rw[eM];exact .inl ⟨by omega,.inr ⟨t+1,g,h1⟩⟩,h2⟩
    ·obtain rfl:t=2:=by omega
     exact hB.scan (K:=fun m v=>M m v/\cR kF v<cR kF w8) jm hZ hkF fun v' h1 h2=>⟨by rw[eM];exact .inr ⟨rfl,h1⟩,h2⟩
  refine hgo.mono fun e4 w9 hh=>?_;obtain⟨n8,r1,r2⟩:=hh;exact⟨n8,r1,r2.mono fun e5 w10 hh=>⟨hh.1,⟨n8,rfl,hh.2.1⟩,hh.2.2⟩⟩
 ·refine al (by decide) ?_
  obtain⟨T,Q,kp,kc,pc,cc,rp,rc,d0,d1,hL,hT,t8,t9,t10,t11,t12,hP,hC,n1,n2,n3,hq,c0,c1⟩:=hst.all;refine Nb jm hSE hL hT t8 t9 t10 t11 t12 hP hC hq c0 c1 h0 h1 (fun y hy=>hy) (fun y hy=>hy) n1 n2 n3 hZ hcov (by omega) fun w11 hj hLe hch=>⟨rfl,?_⟩
  have hfc:∀j x,T[j]?=some x->w11.cell? ⟨kF,j+1,none⟩=some x:=fun j x hx=>by
   obtain⟨p',c',q1,_⟩:=hLe.obj;exact q1.cell (by rw[P_];exact hx)
  have hall:Chg (fun y=>kF<=y) w7 w11:=hst.chg.trans hch fun y hy _=>by rcases hy with e|e|e<;>omega
  have K1:Cs w11 k1 [aa 0,aa 0,aa 0,.slice none 0 0]:=(((aK.cs hn1).ext hn2.ext).ext hn7.ext).chg hall (by omega)
  have K2:Cs w11 k2 [aa 0]:=((aK.cs hn2).ext hn7.ext).chg hall (by omega)
  have S1:=K1.set (off:=0) (us:=[aa (W:Nat),aa (H:Nat),aa 0,.slice (some ⟨kc,0,none⟩) (mU sub) cc]) (by simp)
  have g1:=Chg.setCells w11 ⟨k1,0,none⟩ [aa (W:Nat),aa (H:Nat),aa 0,.slice (some ⟨kc,0,none⟩) (mU sub) cc] 0;have K2':=K2.chg g1 (show¬k2=k1 by omega)
  have S2:=K2'.set1 (off:=0) (v:=aa 0) (by simp)
  have g2:=Chg.setCells (ab w11 ⟨k1,0,none⟩ [aa (W:Nat),aa (H:Nat),aa 0,.slice (some ⟨kc,0,none⟩) (mU sub) cc] 0) ⟨k2,0,none⟩ [aa 0] 0;have S1':=S1.chg g2 (show¬k1=k2 by omega)
  have hz11:=hall.size;have hext:Ext w (ab (ab w11 ⟨k1,0,none⟩ [aa (W:Nat),aa (H:Nat),aa 0,.slice (some ⟨kc,0,none⟩) (mU sub) cc] 0) ⟨k2,0,none⟩ [aa 0] 0):=(((hE2.trans hn7.ext).step hall fun y hy=>by omega).step g1 fun y hy=>by have hy:y=k1:=hy;omega).step g2 fun y hy=>by have hy:y=k2:=hy;omega
  have hj2:=((hj.chg g1 fun y hy _ e=>by have e:y=k1:=e;omega).chg g2 fun y hy _ e=>by have e:y=k2:=e;omega).new (w0:=w) fun y hy=>by omega
  refine⟨_,_,_,_,_,_,hfc 8 _ t8,hfc 9 _ t9,hfc 10 _ t10,hfc 11 _ t11,⟨_,K1.cell (i:=0) rfl⟩,K1.frozen _,⟨_,K1.cell (i:=1) rfl⟩,K1.frozen _,⟨_,K1.cell (i:=2) rfl⟩,K1.frozen _,⟨_,K1.cell (i:=3) rfl⟩,K1.frozen _,⟨_,K2'.cell (i:=0) rfl⟩,K2'.frozen _,?_⟩;refine sP _ _ _ _ _ ⟨rfl,al rfl ⟨⟨_,rfl⟩,_,_,_,_,_,_,S1'.cell (i:=0) rfl,S1'.cell (i:=1) rfl,S1'.cell (i:=2) rfl,S1'.cell (i:=3) rfl,_,S2.cell (i:=0) rfl,?_⟩⟩;exact hR kc cc _ hext hj2
def Fk(x1 x2 x3:Int)(sa1:aj)(sl1 sc1:Nat)(w:C_)(R:bV):Prop:=
 ∀k1,w.heap.size<=k1->∀k2,w.heap.size<=k2->∃(I1:aw) (m1:List D_->C_->Nat),(∀w1,Locl [k2,k1] w w1->I1 [.slice none 0 0,aa 0] w1)/\∀p1 k3 k4 n1 w2,(I1 [.slice p1 k3 k4,aa n1] w2)->ae (decide (n1<(sl1:Int))) (aq (sa1) (sl1) (n1) (4) fun a1=>∃(n2 n3:Int) (p2:aj) (k5 k6:Nat) (p3:aj) (k7 k8:Nat),(w2.cell? a1=some (aa n2))/\(w2.cell? (a1.add 1)=some (aa n3))/\(w2.cell? (a1.add 2)=some (.slice p2 k5 k6))/\(w2.cell? (a1.add 3)=some (.slice p3 k7 k8))/\∀k9,w2.heap.size<=k9->∀w3,Locl [k9,k2,k1] w2 w3->∀k10 w4,(aK w3 (O_ #[] 3) k10 w4)->∃l1:List D_,(l1.length=k5*1)/\(aN l1=true)/\(aV w4 p2 l1)/\ay (w4) ([(5,k9,[aa n2,aa n3,.slice p2 k5 k6,.slice p3 k7 k8]),(2,k2,[aa 0,aa 0,aa 0,.slice none 0 0]),(1,k1,[aa x1,aa x2,aa x3,.slice sa1 sl1 sc1])]) (aH k10) (0) (0) (k5) (1) (8) (3) ([aa 0]) (l1) fun p4 k11 k12 w5=>∃(I2:aw) (m2:List D_->C_->Nat),(∀w6,Locl [k9,k2,k1] w5 w6->I2 [.slice none 0 0,aa 0] w6)/\∀p5 k13 k14 n4 w7,(I2 [.slice p5 k13 k14,aa n4] w7)->ae (decide (n4<(k7:Int))) (∀k15:Nat,∀w8,(aK w7 (O_ #[] 3) k15 w8)->aq (p3) (k7) (n4) (1) fun a2=>∃p6 k16 k17,(w8.cell? a2=some (.slice p6 k16 k17))/\∃l2:List D_,(l2.length=k16*1)/\(aN l2=true)/\(aV w8 p6 l2)/\ay (w8) ([(5,k9,[aa n2,aa n3,.slice p4 k11 k12,.slice p3 k7 k8]),(2,k2,[aa 0,aa 0,aa 0,.slice none 0 0]),(1,k1,[aa x1,aa x2,aa x3,.slice sa1 sl1 sc1])]) (aH k15) (0) (0) (k16) (1) (8) (3) ([aa 0]) (l2) fun p7 k18 k19 w9=>∀k20,w9.heap.size<=k20->∀w10,Locl [k20,k9,k2,k1] w9 w10->ay (w10) ([(40,k20,[.slice p7 k18 k19]),(5,k9,[aa n2,aa n3,.slice p4 k11 k12,.slice p3 k7 k8]),(2,k2,[aa 0,aa 0,aa 0,.slice none 0 0]),(1,k1,[aa x1,aa x2,aa x3,.slice sa1 sl1 sc1])]) (p5) (k13) (k14) (1) (1) (24) (52) ([.slice none 0 0]) ([.slice p7 k18 k19]) fun p8 k21 k22 w11=>(I2 [.slice p8 k21 k22,aa (A_.wrap (n4+1))] w11)/\m2 [.slice p8 k21 k22,aa (A_.wrap (n4+1))] w11<m2 [.slice p5 k13 k14,aa n4] w7) (∀k23,w7.heap.size<=k23->∀w12,Locl [k23,k9,k2,k1] w7 w12->ay (w12) ([(46,k23,[aa n2,aa n3,.slice p4 k11 k12,.slice p5 k13 k14]),(5,k9,[aa n2,aa n3,.slice p4 k11 k12,.slice p5 k13 k14]),(2,k2,[aa 0,aa 0,aa 0,.slice none 0 0]),(1,k1,[aa x1,aa x2,aa x3,.slice sa1 sl1 sc1])]) (p1) (k3) (k4) (1) (4) (64) (55) ([aa 0,aa 0,.slice none 0 0,.slice none 0 0]) ([aa n2,aa n3,.slice p4 k11 k12,.slice p5 k13 k14]) fun p9 k24 k25 w13=>(I1 [.slice p9 k24 k25,aa (A_.wrap (n1+1))] w13)/\m1 [.slice p9 k24 k25,aa (A_.wrap (n1+1))] w13<m1 [.slice p1 k3 k4,aa n1] w2)) (∀w14,Locl [k2,k1] w2 w14->R (.returned (.agg #[aa x1,aa x2,aa x3,.slice p1 k3 k4])) w14)
theorem AO(x1 x2 x3:Int)(sa1:aj)(sl1 sc1:Nat)(w:C_)(R:bV)(h:Fk x1 x2 x3 sa1 sl1 sc1 w R):G_ P 11 #[.agg #[aa x1,aa x2,aa x3,.slice sa1 sl1 sc1]] w R:=
  aF (ac:=FE) Tryz.func11 h
theorem Gx{l:List (Nat×Nat×List D_)}{base:Option E_}{bytes:Nat}{elem:TypeId}(hz:zero.length=1)(hn:fs.length=n)(hby:n*bytes<=2^47)(h62:n<2^62)
 (hF:∀p c u',Ext u u'->aD (fun b=>u.heap.size<=b/\b<u'.heap.size) u' p fs->n<=c->F p n c u'):ay u l base 0 0 n 1 bytes elem zero fs F:=by
 refine(dA.nil u base 1).app (fun b hb hS=>hS) hz (by omega) (by rw[L_];exact hby) (by omega) fun S' p c u' hg ho hc=>?_
 rw[L_]at ho⊢;refine hF p c u' (hc.ext fun i hi=>hi.elim) (fun j v hj=>?_) ho.own.2.1;obtain⟨⟨o1,o2,o3⟩,hb⟩:=ho;have hlt:=(List.getElem?_eq_some_iff.1 hj).1;rw[f_]at o1 o3;rcases o3 with o3|⟨b,rest,o3,o4,o5,o6⟩
 ·omega
 refine⟨_,o4,?_,?_⟩
 ·rcases hg.2 b o3 with h|h
  ·exact h.elim
  ·exact h
 ·rw[af,L_]
  refine o6.cell ?_;rw[S_ hlt];exact hj
structure Cp(X:List Nat)(A:Nat->Prop)(w u:C_)(p:Option E_)(n c:Nat)(vs:List D_)(q:Option E_)(m d:Nat)(us:List D_):Prop where
 ext:Ext w u
 own:∃G H:Nat->Prop,(∀i,G i->w.heap.size<=i/\¬H i/\i∉X/\¬A i)/\(∀i,H i->w.heap.size<=i/\i∉X/\¬A i)/\dA G u p n c 4 vs/\dA H u q m d 1 us
 xs:∀b,b∈X->w.heap.size<=b/\b<u.heap.size/\¬A b
 lt:∀i,A i->i<u.heap.size
section
variable {X : List Nat} {A : Nat -> Prop} {w u u' : C_} {p : Option E_} {n c : Nat} {vs : List D_} {q : Option E_} {m d : Nat} {us : List D_}
theorem Cp.loc(h:Cp X A w u p n c vs q m d us){bs:List Nat}(hL:Locl bs u u')(hb:∀b,b∈bs->b∈X\/u.heap.size<=b):Cp (bs++X) A w u' p n c vs q m d us/\Kp A A u u':=by
 obtain⟨G,H,g1,g2,g3,g4⟩:=h.own;have hz:=hL.size;have hzw:=h.ext.size;have hnA:∀b,A b->b∉bs:=fun b ha hm=>by
  rcases hb b hm with g|g
  ·exact(h.xs b g).2.2 ha
  ·have:=h.lt b ha;omega
 have hnG:∀b,G b->b∉bs:=fun b ha hm=>by
  rcases hb b hm with g|g
  ·exact(g1 b ha).2.2.1 g
  ·have:=g3.bd b ha;omega
 have hnH:∀b,H b->b∉bs:=fun b ha hm=>by
  rcases hb b hm with g|g
  ·exact(g2 b ha).2.1 g
  ·have:=g4.bd b ha;omega
 refine⟨⟨h.ext.step hL.chg fun i hi=>?_,⟨G,H,fun i hi=>⟨(g1 i hi).1,(g1 i hi).2.1,fun hm=>?_,(g1 i hi).2.2.2⟩,fun i hi=>⟨(g2 i hi).1,fun hm=>?_,(g2 i hi).2.2⟩,g3.chg hL.chg hnG,g4.chg hL.chg hnH⟩,fun b hm=>?_,fun i hi=>by have:=h.lt i hi;omega⟩,fun p vs hs=>hs.chg hL.chg fun b hb _=>hnA b hb⟩
 ·rcases hb i hi with g|g
  ·exact(h.xs i g).1
  ·omega
 ·rcases List.mem_append.1 hm with hm|hm
  ·exact hnG i hi hm
  ·exact(g1 i hi).2.2.1 hm
 ·rcases List.mem_append.1 hm with hm|hm
  ·exact hnH i hi hm
  ·exact(g2 i hi).2.1 hm
 ·rcases List.mem_append.1 hm with hm|hm
  ·refine⟨?_,hL.there b hm,fun ha=>hnA b ha hm⟩
   rcases hb b hm with g|g
   ·exact(h.xs b g).1
   ·omega
  ·have:=h.xs b hm;exact⟨this.1,by omega,this.2.2⟩
theorem Cp.less(h:Cp X A w u p n c vs q m d us){Y:List Nat}(hY:∀b,b∈Y->b∈X):Cp Y A w u p n c vs q m d us:=by
 obtain⟨G,H,g1,g2,g3,g4⟩:=h.own;exact⟨h.ext,⟨G,H,fun i hi=>⟨(g1 i hi).1,(g1 i hi).2.1,fun hm=>(g1 i hi).2.2.1 (hY i hm),(g1 i hi).2.2.2⟩,fun i hi=>⟨(g2 i hi).1,fun hm=>(g2 i hi).2.1 (hY i hm),(g2 i hi).2.2⟩,g3,g4⟩,fun b hb=>h.xs b (hY b hb),h.lt⟩
theorem Cp.new(h:Cp X A w u p n c vs q m d us)(hE:Ext u u'):Cp X (Nw A u u') w u' p n c vs q m d us/\Kp A (Nw A u u') u u':=by
 obtain⟨G,H,g1,g2,g3,g4⟩:=h.own;have hz:=hE.size;refine⟨⟨h.ext.trans hE,⟨G,H,fun i hi=>⟨(g1 i hi).1,(g1 i hi).2.1,(g1 i hi).2.2.1,fun ha=>?_⟩,fun i hi=>⟨(g2 i hi).1,(g2 i hi).2.1,fun ha=>?_⟩,g3.ext hE,g4.ext hE⟩,fun b hb=>⟨(h.xs b hb).1,by have:=(h.xs b hb).2.1;omega,fun ha=>?_⟩,fun i hi=>?_⟩,fun p vs hs=>(hs.ex hE).mono fun b hb _=>.inl hb⟩
 ·rcases ha with ha|ha
  ·exact(g1 i hi).2.2.2 ha
  ·have:=g3.bd i hi;omega
 ·rcases ha with ha|ha
  ·exact(g2 i hi).2.2 ha
  ·have:=g4.bd i hi;omega
 ·rcases ha with ha|ha
  ·exact(h.xs b hb).2.2 ha
  ·have:=(h.xs b hb).2.1;omega
 ·rcases hi with hi|hi
  ·have:=h.lt i hi;omega
  ·exact hi.2
theorem Cp.app1{l:List (Nat×Nat×List D_)}{bytes:Nat}{elem:TypeId}
 (h:Cp X A w u p n c vs q m d us)(hl:∀b,b∈am l->b∈X)(hz:zero.length=4)(hn:fs.length=4)(hby:(n+1)*bytes<=2^47)(h62:n+1<2^62)
 (hF:∀p' c' u',Cp X A w u' p' (n+1) c' (vs++fs) q m d us->Kp A A u u'->F p' (n+1) c' u'):ay u l p n c 1 4 bytes elem zero fs F:=by
 obtain⟨G,H,g1,g2,g3,g4⟩:=h.own;refine g3.app (fun b hb hg=>(g1 b hg).2.2.1 (hl b hb)) hz (by omega) hby h62 fun S' p' c' u' hg ho hc=>hF p' c' u' ?_ fun p vs hs=>hs.chg hc fun b hb _ hgb=>(g1 b hgb).2.2.2 hb
 have hzz:=hc.size;have hzw:=h.ext.size;refine⟨h.ext.step hc fun i hi=>(g1 i hi).1,⟨S',H,fun i hi=>?_,g2,ho,g4.chg hc fun i hi hgi=>(g1 i hgi).2.1 hi⟩,fun b hb=>⟨(h.xs b hb).1,by have:=(h.xs b hb).2.1;omega,(h.xs b hb).2.2⟩,fun i hi=>by have:=h.lt i hi;omega⟩
 rcases hg.2 i hi with hi|hi
 ·exact g1 i hi
 ·exact⟨by omega,fun hh=>by have:=g4.bd i hh;omega,fun hx=>by have:=(h.xs i hx).2.1;omega,fun ha=>by have:=h.lt i ha;omega⟩
theorem Cp.app2{l:List (Nat×Nat×List D_)}{bytes:Nat}{elem:TypeId}
 (h:Cp X A w u p n c vs q m d us)(hl:∀b,b∈am l->b∈X)(hz:zero.length=1)(hn:fs.length=1)(hby:(m+1)*bytes<=2^47)(h62:m+1<2^62)
 (hF:∀q' d' u',Cp X A w u' p n c vs q' (m+1) d' (us++fs)->Kp A A u u'->F q' (m+1) d' u'):ay u l q m d 1 1 bytes elem zero fs F:=by
 obtain⟨G,H,g1,g2,g3,g4⟩:=h.own;refine g4.app (fun b hb hg=>(g2 b hg).2.1 (hl b hb)) hz (by omega) hby h62 fun S' q' d' u' hg ho hc=>hF q' d' u' ?_ fun p vs hs=>hs.chg hc fun b hb _ hgb=>(g2 b hgb).2.2 hb
 have hzz:=hc.size;have hzw:=h.ext.size;refine⟨h.ext.step hc fun i hi=>(g2 i hi).1,⟨G,S',fun i hi=>⟨(g1 i hi).1,fun hs=>?_,(g1 i hi).2.2⟩,fun i hi=>?_,g3.chg hc fun i hi hhi=>(g1 i hi).2.1 hhi,ho⟩,fun b hb=>⟨(h.xs b hb).1,by have:=(h.xs b hb).2.1;omega,(h.xs b hb).2.2⟩,fun i hi=>by have:=h.lt i hi;omega⟩
 ·rcases hg.2 i hs with hs|hs
  ·exact(g1 i hi).2.1 hs
  ·have:=g3.bd i hi;omega
 ·rcases hg.2 i hi with hi|hi
  ·exact g2 i hi
  ·exact⟨by omega,fun hx=>by have:=(h.xs i hx).2.1;omega,fun ha=>by have:=h.lt i ha;omega⟩
theorem Cp.sea(h:Cp X A w u p n c vs q m d us):∃B,Cp X B w u p n c vs none 0 0 []/\Kp A B u u/\aD B u q us/\m<=d:=by
 obtain⟨G,H,g1,g2,g3,g4⟩:=h.own;refine⟨fun b=>A b\/H b,⟨h.ext,⟨G,fun _=>False,fun i hi=>⟨(g1 i hi).1,id,(g1 i hi).2.2.1,fun ha=>ha.elim (g1 i hi).2.2.2 (g1 i hi).2.1⟩,fun i hi=>hi.elim,g3,dA.nil _ _ _⟩,fun b hb=>⟨(h.xs b hb).1,(h.xs b hb).2.1,fun ha=>ha.elim (h.xs b hb).2.2 fun hh=>(g2 b hh).2.1 hb⟩,fun i hi=>hi.elim (h.lt i) (g4.bd i)⟩,fun p vs hs=>hs.mono fun b hb _=>.inl hb,fun j v hj=>?_,g4.own.2.1⟩;obtain⟨⟨o1,o2,o3⟩,hb⟩:=g4;have hlt:=(List.getElem?_eq_some_iff.1 hj).1;rcases o3 with o3|⟨b,rest,o3,o4,o5,o6⟩
 ·omega
 refine⟨_,o4,.inr o3,?_⟩;rw[af,L_];refine o6.cell ?_;rw[S_ hlt];exact hj
theorem Cp.sl(h:Cp X A w u p n c vs q m d us):aD d7 u p vs:=fun j v hj=>by
 obtain⟨G,H,g1,g2,g3,g4⟩:=h.own;obtain⟨⟨o1,o2,o3⟩,hb⟩:=g3;have hlt:=(List.getElem?_eq_some_iff.1 hj).1;rcases o3 with o3|⟨b,rest,o3,o4,o5,o6⟩
 ·subst o3
  omega
 refine⟨_,o4,trivial,?_⟩;rw[af,L_];refine o6.cell ?_;rw[S_ hlt];exact hj
end
theorem Kn(css:List (List D_))(cs:List D_):ax id (css++[cs])=ax id css++cs:=by simp[ax]
theorem L7{c:Nat}{x1 x2 x3:Int}{l:List CM}(h:mi w p l)(hn:n=l.length)(hl:l.length<=3)(hbl:∀c,c∈l->c.bl.length<=100000)
 (hR:∀p' c' w',Ext w w'->mi w' p' l->n<=c'->R (.returned (.agg #[aa x1,aa x2,aa x3,.slice p' n c'])) w'):
  G_ P 11 #[.agg #[aa x1,aa x2,aa x3,.slice p n c]] w R:=by
 subst hn;refine AO _ _ _ _ _ _ _ _ fun k1 hk1 k2 hk2=>?_;refine⟨fun vs u=>∃(i:Nat) (q:Option E_) (d:Nat) (A:Nat->Prop) (css:List (List D_)),vs=[.slice q i d,aa (i:Nat)]/\i<=l.length/\Cp [k2,k1] A w u q i d (ax id css) none 0 0 []/\cP A u css (l.take i)/\i<=d,fun vs _=>match vs with|[_,.int _ i]=>(l.length-i:Int).toNat|_=>0,fun w1 hL1=>⟨0,none,0,fun _=>False,[],rfl,by omega,?_,cP.nil _ _,by omega⟩,fun p1 k3 k4 n1 w2 hI=>?_⟩
 ·have hz:=hL1.size
  exact⟨hL1.ext fun b hb=>by simp at hb;omega,⟨fun _=>False,fun _=>False,fun _ h=>h.elim,fun _ h=>h.elim,dA.nil _ _ _,dA.nil _ _ _⟩,fun b hb=>⟨by simp at hb;omega,hL1.there b hb,id⟩,fun _ h=>h.elim⟩
 obtain⟨i,q,d,A,css,hv,hi,hC,hcm,hid⟩:=hI;simp only[I_,J_,D_.slice.injEq,true_and,and_true]at hv;obtain⟨⟨rfl,rfl,rfl⟩,rfl⟩:=hv;refine ak (fun hlt=>?_) fun hge=>?_
 rotate_left
 ·have hge:k3=l.length:=by have:=of_decide_eq_false hge;omega
  intro w14 hL14;obtain⟨hC',kp⟩:=hC.loc hL14 fun b hb=>.inl hb;rw[hge,o_]at hcm;have hJ:mi w14 p1 l:=⟨css,(hcm.kp kp).kp (fun p vs hs=>hs.mono fun _ _ _=>trivial),hC'.sl⟩;have:=hR p1 k4 w14 hC'.ext hJ (by omega)
  rw[hge];exact this
 have hlt:k3<l.length:=by have:=of_decide_eq_true hlt;omega
 obtain⟨x,hx⟩:∃x,x=l[k3]:=⟨_,rfl⟩;have hcl:x.bl.length<=100000:=by rw[hx];exact hbl _ (p_ hlt)
 obtain⟨h0,h1',a0,ha0,qp,qc,bp,bc,bvs,hA0⟩:aq p l.length (k3:Nat) 4 fun a=>∃qp qc bp bc vs,vL w a x qp qc bp bc vs:=h.elem (by rw[hx];exact Q_ hlt) rfl fun a qp qc bp bc vs hA=>⟨qp,qc,bp,bc,vs,hA⟩
 have hA:=hA0.ext hC.ext;refine⟨h0,h1',a0,ha0,_,_,_,_,_,_,_,_,hA.h,hA.v,hA.q,hA.b,fun k9 hk9 w3 hL3 k10 w4 hn4=>?_⟩;obtain⟨hC3,kp3⟩:=hC.loc hL3 fun b hb=>by
  simp only[V_,g_,or_false]at hb;rcases hb with e|e|e
  ·exact .inr (by omega)
  ·exact .inl (by simp[e])
  ·exact .inl (by simp[e])
 have hC3:=hC3.less (Y:=[k9,k2,k1]) fun b hb=>Y_ _ hb;obtain⟨hC4,kp4⟩:=hC3.new hn4.ext;have hA4:=hA0.ext hC4.ext;have hm4:=(hcm.kp kp3).kp kp4;refine⟨ii x.q,by rw[aG,hA0.ql],fE _,hA4.qs.sl.cells,Gx rfl (by rw[aG,hA0.ql]) (by omega) (by omega) fun qp2 qc2 w5 hE5 hs5 hle5=>?_⟩
 obtain⟨hC5,kp5⟩:=hC4.new hE5;have hq5:aD (Nw (Nw A w3 w4) w4 w5) w5 qp2 (ii x.q):=hs5.mono fun b hb _=>.inr hb;have hm5:=hm4.kp kp5;generalize Nw (Nw A w3 w4) w4 w5=A5 at*;clear hC4 hC3 hm4 hA4 kp4 kp3 kp5;refine⟨fun vs u=>∃(k:Nat) (q2:Option E_) (d2:Nat) (B:Nat->Prop) (us:List D_),vs=[.slice q2 k d2,aa (k:Nat)]/\k<=x.bl.length/\Cp [k9,k2,k1] B w u p1 k3 k4 (ax id css) q2 k d2 us/\cP B u css (l.take k3)/\aD B u qp2 (ii x.q)/\gh B u us (x.bl.take k),
  fun vs _=>match vs with|[_,.int _ k]=>(x.bl.length-k:Int).toNat|_=>0,fun w6 hL6=>?_,fun p5 k13 k14 n4 w7 hI=>?_⟩
 ·obtain⟨hC6,kp6⟩:=hC5.loc hL6 fun b hb=>.inl hb
  exact⟨0,none,0,A5,[],rfl,by omega,hC6.less fun b hb=>Y_ _ hb,hm5.kp kp6,kp6 _ _ hq5,gh.nil _ _⟩
 obtain⟨k,q2,d2,B,us,hv,hk,hC7,hm7,hq7,hb7⟩:=hI;simp only[I_,J_,D_.slice.injEq,true_and,and_true]at hv;obtain⟨⟨rfl,rfl,rfl⟩,rfl⟩:=hv;refine ak (fun hlt2=>?_) fun hge=>?_
 ·have hlt2:k13<x.bl.length:=by have:=of_decide_eq_true hlt2;omega
  intro k15 w8 hn8;obtain⟨hC8,kp8⟩:=hC7.new hn8.ext;have hA8:=hA0.ext hC8.ext;refine hA8.blk (Q_ hlt2) fun b bpp cp hbc hcp hb64 hbs=>⟨_,_,_,hbc,ii x.bl[k13],by rw[aG,hb64],fE _,hbs.sl.cells,Gx rfl (by rw[aG,hb64]) (by omega) (by omega) fun np nc w9 hE9 hs9 hle9 k20 hk20 w10 hL10=>?_⟩
  obtain⟨hC9,kp9⟩:=hC8.new hE9;have hs9':aD (Nw (Nw B w7 w8) w8 w9) w9 np (ii x.bl[k13]):=hs9.mono fun b hb _=>.inr hb;obtain⟨hC10,kp10⟩:=hC9.loc hL10 fun b hb=>by
   rcases V_.1 hb with e|hb
   ·exact .inr (by omega)
   ·exact .inl hb
  refine(hC10.less (Y:=[k20,k9,k2,k1]) fun b hb=>Y_ _ hb).app2 (fun b hb=>by simpa[am]using hb) rfl rfl (by omega) (by omega) fun q' d' w11 hC11 kp11=>?_
  rw[show A_.wrap (((k13:Nat):Int)+1)=((k13+1:Nat):Int) by rw[ai (by omega) (by omega)];omega]
  have kall:Kp B (Nw (Nw B w7 w8) w8 w9) w7 w11:=((kp8.trans kp9).trans kp10).trans kp11;refine⟨⟨k13+1,q',d',Nw (Nw B w7 w8) w8 w9,_,rfl,by omega,hC11.less fun b hb=>h_ _ hb,hm7.kp kall,kall _ _ hq7,?_⟩,by show(x.bl.length-((k13+1:Nat):Int)).toNat<(x.bl.length-((k13:Nat):Int)).toNat;omega⟩
  have et:x.bl.take (k13+1)=x.bl.take k13++[x.bl[k13]]:=by rw[q_ hlt2]
  rw[et];exact(hb7.kp kall).snoc hb64 (by omega) (kp11 _ _ (kp10 _ _ hs9'))
 have hge:k13=x.bl.length:=by have:=of_decide_eq_false hge;omega
 subst hge;intro k23 hk23 w12 hL12;obtain⟨B',hCs,kps,hsl,hmd⟩:=hC7.sea;obtain⟨hC12,kp12⟩:=hCs.loc hL12 fun b hb=>by
  rcases V_.1 hb with e|hb
  ·exact .inr (by omega)
  ·exact .inl hb
 refine(hC12.less (Y:=[k23,k9,k2,k1]) fun b hb=>Y_ _ hb).app1 (fun b hb=>by simpa[am]using hb) rfl rfl (by omega) (by omega) fun p' c' w13 hC13 kp13=>?_
 rw[show A_.wrap (((k3:Nat):Int)+1)=((k3+1:Nat):Int) by rw[ai (by omega) (by omega)];omega]
 have kall:Kp B B' w7 w13:=(kps.trans kp12).trans kp13;have kall':Kp B' B' w7 w13:=kp12.trans kp13;rw[o_]at hb7;have hcomp:j6 B' w13 [aa x.h,aa x.v,.slice qp2 64 qc2,.slice p5 x.bl.length k14] x:=⟨qp2,qc2,p5,k14,us,rfl,hA0.ql,kall _ _ hq7,hmd,kall' _ _ hsl,hb7.kp kall⟩;rw[<-Kn]at hC13;obtain⟨G,H,g1,g2,g3,g4⟩:=hC13.own;refine⟨⟨k3+1,p',c',B',_,rfl,by omega,hC13.less fun b hb=>by simp at hb⊢;rcases hb with e|e<;>simp[e],?_,g3.own.2.1⟩,by show(l.length-((k3+1:Nat):Int)).toNat<(l.length-((k3:Nat):Int)).toNat;omega⟩
 have et:l.take (k3+1)=l.take k3++[x]:=by rw[hx,q_ hlt]
 rw[et];exact(hm7.kp kall).snoc hcomp
def Fo(x1 x2 x3:Int)(sa1:aj)(sl1 sc1:Nat)(x4 x5 x6:Int)(sa2:aj)(sl2 sc2:Nat)(w:C_)(R:bV):Prop:=
 ∀k1,w.heap.size<=k1->∀k2,w.heap.size<=k2->ae (x1 !=x4||x2 !=x5||x3 !=x6||(sl1:Int)!=(sl2:Int)) (∀w1,Locl [k2,k1] w w1->R (.returned (.bool false)) w1) (∃I1:aw,∃m1:List D_->C_->Nat,(∀w2,Locl [k2,k1] w w2->I1 [aa 0] w2)/\∀n1 w3,(I1 [aa n1] w3)->ae (decide (n1<(sl1:Int))) (∃I2:aw,(aq (sa1) (sl1) (n1) (4) fun a1=>∃(n2 n3:Int) (p1:aj) (k3 k4:Nat) (p2:aj) (k5 k6:Nat),(w3.drew.cell? a1=some (aa n2))/\(w3.drew.cell? (a1.add 1)=some (aa n3))/\(w3.drew.cell? (a1.add 2)=some (.slice p1 k3 k4))/\(w3.drew.cell? (a1.add 3)=some (.slice p2 k5 k6))/\aq (sa2) (sl2) (n1) (4) fun a2=>(∃n4:Int,∃(n5:Int) (p3:aj) (k7 k8:Nat) (p4:aj) (k9 k10:Nat),(w3.drew.cell? a2=some (aa n4))/\(w3.drew.cell? (a2.add 1)=some (aa n5))/\(w3.drew.cell? (a2.add 2)=some (.slice p3 k7 k8))/\(w3.drew.cell? (a2.add 3)=some (.slice p4 k9 k10))/\(∀k11,(w3.drew.heap.size<=k11)->∀k12,(w3.drew.heap.size<=k12)->∀w4:C_,(Locl ([k12,k11,k2,k1]) (w3.drew) w4)->I2 [.pointer (aH k11),aa n2,aa n3,.slice p1 k3 k4,.slice p2 k5 k6,.pointer (aH k12),aa n4,aa n5,.slice p3 k7 k8,.slice p4 k9 k10] w4)/\∀k13,(w3.drew.heap.size<=k13)->∀k14,(w3.drew.heap.size<=k14)->∀w5:C_,(Locl ([k14,k13,k2,k1]) (w3.drew) w5)->I2 [.pointer (aH k14),aa n2,aa n3,.slice p1 k3 k4,.slice p2 k5 k6,.pointer (aH k13),aa n4,aa n5,.slice p3 k7 k8,.slice p4 k9 k10] w5)/\(∀k15,(w3.drew.heap.size<=k15)->(∀w6:C_,(Locl ([k15,k2,k1]) (w3.drew) w6)->∃(n6 n7:Int) (p5:aj) (k16 k17:Nat) (p6:aj) (k18 k19:Nat),(w6.cell? a2=some (aa n6))/\(w6.cell? (a2.add 1)=some (aa n7))/\(w6.cell? (a2.add 2)=some (.slice p5 k16 k17))/\(w6.cell? (a2.add 3)=some (.slice p6 k18 k19))/\∀k20,w6.heap.size<=k20->∀w7,Locl [k20,k15,k2,k1] w6 w7->I2 [.pointer (aH k15),aa n2,aa n3,.slice p1 k3 k4,.slice p2 k5 k6,.pointer (aH k20),aa n6,aa n7,.slice p5 k16 k17,.slice p6 k18 k19] w7)/\∀k21,(w3.drew.heap.size<=k21)->(∀w8:C_,(Locl ([k21,k15,k2,k1]) (w3.drew) w8)->∃(n8 n9:Int) (p7:aj) (k22 k23:Nat) (p8:aj) (k24 k25:Nat),(w8.cell? a2=some (aa n8))/\(w8.cell? (a2.add 1)=some (aa n9))/\(w8.cell? (a2.add 2)=some (.slice p7 k22 k23))/\(w8.cell? (a2.add 3)=some (.slice p8 k24 k25))/\∀w9,Locl [k21,k15,k2,k1] w8 w9->I2 [.pointer (aH k15),aa n2,aa n3,.slice p1 k3 k4,.slice p2 k5 k6,.pointer (aH k21),aa n8,aa n9,.slice p7 k22 k23,.slice p8 k24 k25] w9)/\∀w10:C_,(Locl ([k21,k15,k2,k1]) (w3.drew) w10)->∃(n10 n11:Int) (p9:aj) (k26 k27:Nat) (p10:aj) (k28 k29:Nat),(w10.cell? a2=some (aa n10))/\(w10.cell? (a2.add 1)=some (aa n11))/\(w10.cell? (a2.add 2)=some (.slice p9 k26 k27))/\(w10.cell? (a2.add 3)=some (.slice p10 k28 k29))/\∀w11,Locl [k21,k15,k2,k1] w10 w11->I2 [.pointer (aH k15),aa n2,aa n3,.slice p1 k3 k4,.slice p2 k5 k6,.pointer (aH k21),aa n10,aa n11,.slice p9 k26 k27,.slice p10 k28 k29] w11)/\∀k30,(w3.drew.heap.size<=k30)->(∀w12:C_,(Locl ([k30,k2,k1]) (w3.drew) w12)->∃(n12 n13:Int) (p11:aj) (k31 k32:Nat) (p12:aj) (k33 k34:Nat),(w12.cell? a2=some (aa n12))/\(w12.cell? (a2.add 1)=some (aa n13))/\(w12.cell? (a2.add 2)=some (.slice p11 k31 k32))/\(w12.cell? (a2.add 3)=some (.slice p12 k33 k34))/\∀k35,w12.heap.size<=k35->∀w13,Locl [k35,k30,k2,k1] w12 w13->I2 [.pointer (aH k35),aa n2,aa n3,.slice p1 k3 k4,.slice p2 k5 k6,.pointer (aH k30),aa n12,aa n13,.slice p11 k31 k32,.slice p12 k33 k34] w13)/\∀k36,(w3.drew.heap.size<=k36)->(∀w14:C_,(Locl ([k36,k30,k2,k1]) (w3.drew) w14)->∃(n14 n15:Int) (p13:aj) (k37 k38:Nat) (p14:aj) (k39 k40:Nat),(w14.cell? a2=some (aa n14))/\(w14.cell? (a2.add 1)=some (aa n15))/\(w14.cell? (a2.add 2)=some (.slice p13 k37 k38))/\(w14.cell? (a2.add 3)=some (.slice p14 k39 k40))/\∀w15,Locl [k36,k30,k2,k1] w14 w15->I2 [.pointer (aH k36),aa n2,aa n3,.slice p1 k3 k4,.slice p2 k5 k6,.pointer (aH k30),aa n14,aa n15,.slice p13 k37 k38,.slice p14 k39 k40] w15)/\∀w16:C_,(Locl ([k36,k30,k2,k1]) (w3.drew) w16)->∃(n16 n17:Int) (p15:aj) (k41 k42:Nat) (p16:aj) (k43 k44:Nat),(w16.cell? a2=some (aa n16))/\(w16.cell? (a2.add 1)=some (aa n17))/\(w16.cell? (a2.add 2)=some (.slice p15 k41 k42))/\(w16.cell? (a2.add 3)=some (.slice p16 k43 k44))/\∀w17,Locl [k36,k30,k2,k1] w16 w17->I2 [.pointer (aH k36),aa n2,aa n3,.slice p1 k3 k4,.slice p2 k5 k6,.pointer (aH k30),aa n16,aa n17,.slice p15 k41 k42,.slice p16 k43 k44] w17)/\∀k45 n18 n19 p17 k46 k47 p18 k48 k49 k50 n20 n21 p19 k51 k52 p20 k53 k54 w18,(I2 [.pointer (aH k45),aa n18,aa n19,.slice p17 k46 k47,.slice p18 k48 k49,.pointer (aH k50),aa n20,aa n21,.slice p19 k51 k52,.slice p20 k53 k54] w18)->ae (n18 !=n20||n19 !=n21) (R (.returned (.bool false)) w18) (G_ P 44 #[.slice p17 k46 k47,.slice p19 k51 k52] w18 fun e1 w19=>∃c1,(e1=.returned (.bool c1))/\ao [k50,k45,k2,k1] w18 w19/\ae (!c1||(k48:Int)!=(k53:Int)) (R (.returned (.bool false)) w19) (∃I3:aw,∃m2:List D_->C_->Nat,(I3 [aa 0] w19)/\∀n22 w20,(I3 [aa n22] w20)->ae (decide (n22<(k48:Int))) (aq (p18) (k48) (n22) (1) fun a3=>∃p21 k55 k56,(w20.drew.cell? a3=some (.slice p21 k55 k56))/\aq (p20) (k53) (n22) (1) fun a4=>∃p22 k57 k58,(w20.drew.cell? a4=some (.slice p22 k57 k58))/\G_ P 44 #[.slice p21 k55 k56,.slice p22 k57 k58] (w20.drew) fun e2 w21=>∃c2,(e2=.returned (.bool c2))/\(ao ([k50,k45,k2,k1]) (w20.drew) w21)/\ae (!c2) (R (.returned (.bool false)) w21) ((I3 [aa (A_.wrap (n22+1))] w21)/\m2 [aa (A_.wrap (n22+1))] w21<m2 [aa n22] w20)) ((I1 [aa (A_.wrap (n1+1))] w20)/\m1 [aa (A_.wrap (n1+1))] w20<m1 [aa n1] w3)))) (R (.returned (.bool true)) w3))
theorem Bp(x1 x2 x3:Int)(sa1:aj)(sl1 sc1:Nat)(x4 x5 x6:Int)(sa2:aj)(sl2 sc2:Nat)(w:C_)(R:bV)(h:Fo x1 x2 x3 sa1 sl1 sc1 x4 x5 x6 sa2 sl2 sc2 w R):G_ P 12 #[.agg #[aa x1,aa x2,aa x3,.slice sa1 sl1 sc1],.agg #[aa x4,aa x5,aa x6,.slice sa2 sl2 sc2]] w R:=
  aF (ac:=FQ) Tryz.func12 h
theorem xm{S T:Nat->Prop}{c:Nat}(h:aD S w p (ii xs))(k:aD T w q (ii xs))(hn:n=xs.length)(hm:m=xs.length)(hsz:n<=2^40)
 (hR:∀w',Ext w w'->R (.returned (.bool true)) w'):G_ P 44 #[.slice p n c,.slice q m d] w R:=by
 refine ul _ _ _ _ _ _ _ _ (al (by rw[bne_eq_false_iff_eq];omega) ⟨fun vs u=>∃i:Nat,vs=[aa (i:Nat)]/\i<=n/\Ext w u,fun vs _=>match vs with|[.int _ i]=>(n-i:Int).toNat|_=>0,⟨0,rfl,by omega,Ext.refl _⟩,fun n1 w1 hI=>?_⟩)
 obtain⟨i,hv,hi,hE⟩:=hI;simp only[I_,J_,true_and,and_true]at hv;subst hv;have hE':=hE.trans (Ext.refl w1).drew;refine ak (fun hlt=>?_) fun hge=>hR w1 hE;have hlt:i<xs.length:=by have:=of_decide_eq_true hlt;omega
 refine(h.ex hE').getB (by rw[aG,hn]) (bz hlt) fun a _ ha=>⟨_,ha,(k.ex hE').getB (by rw[aG,hm]) (bz hlt) fun b _ hb=>⟨_,hb,al (by simp) ?_⟩⟩
 rw[show A_.wrap (((i:Nat):Int)+1)=((i+1:Nat):Int) by rw[ai (by omega) (by omega)];omega]
 exact⟨⟨i+1,rfl,by omega,hE'⟩,by show(n-((i+1:Nat):Int)).toNat<(n-((i:Nat):Int)).toNat;omega⟩
theorem Hm{c:Nat}{x1 x2 x3:Int}{l:List CM}(h:mi w p l)(g:mi w q l)(hn:n=l.length)(hl:l.length<=3)(hbl:∀c,c∈l->c.bl.length<=100000)
 (hR:∀w',Ext w w'->R (.returned (.bool true)) w'):
  G_ P 12 #[.agg #[aa x1,aa x2,aa x3,.slice p n c],.agg #[aa x1,aa x2,aa x3,.slice q n d]] w R:=by
 subst hn;refine Bp _ _ _ _ _ _ _ _ _ _ _ _ _ _ fun k1 hk1 k2 hk2=>?_;refine al (by simp) ?_
 have hst:∀{bs:List Nat} {a b:C_},Ext w a->Locl bs a b->(∀k,k∈bs->w.heap.size<=k)->Ext w b:=fun hE hL hb=>hE.step hL.chg hb;refine⟨fun vs u=>∃i:Nat,vs=[aa (i:Nat)]/\i<=l.length/\Ext w u,fun vs _=>match vs with|[.int _ i]=>(l.length-i:Int).toNat|_=>0,fun w2 hL2=>⟨0,rfl,by omega,hL2.ext fun b hb=>by simp at hb;omega⟩,fun n1 w3 hI=>?_⟩
 obtain⟨i,hv,hi,hE3⟩:=hI;simp only[I_,J_,true_and,and_true]at hv;subst hv;refine ak (fun hlt=>?_) fun hge=>hR w3 hE3;have hlt:i<l.length:=by have:=of_decide_eq_true hlt;omega
 obtain⟨x,hx⟩:∃x,x=l[i]:=⟨_,rfl⟩;have hcl:x.bl.length<=100000:=by rw[hx];exact hbl _ (p_ hlt)
 obtain⟨a0,a1,a2,a3,qp,qc,bp,bc,bvs,hA⟩:aq p l.length (i:Nat) 4 fun a=>∃qp qc bp bc vs,vL w a x qp qc bp bc vs:=h.elem (by rw[hx];exact Q_ hlt) rfl fun a qp qc bp bc vs hA=>⟨qp,qc,bp,bc,vs,hA⟩
 obtain⟨b0,b1,b2,b3,qp',qc',bp',bc',bvs',hB⟩:aq q l.length (i:Nat) 4 fun a=>∃qp qc bp bc vs,vL w a x qp qc bp bc vs:=g.elem (by rw[hx];exact Q_ hlt) rfl fun a qp qc bp bc vs hA=>⟨qp,qc,bp,bc,vs,hA⟩
 have hE3d:=hE3.trans (Ext.refl w3).drew;have hA3:=hA.ext hE3d;have hB3:=hB.ext hE3d;have hz3:=hE3d.size;obtain⟨I2,eI2⟩:∃I:List D_->C_->Prop,I=fun vs u=>(∃k k':Nat,vs=[.pointer (some ⟨k,0,none⟩),aa x.h,aa x.v,.slice qp 64 qc,.slice bp x.bl.length bc,.pointer (some ⟨k',0,none⟩),aa x.h,aa x.v,.slice qp' 64 qc',.slice bp' x.bl.length bc']/\w.heap.size<=k/\w.heap.size<=k')/\Ext w u:=⟨_,rfl⟩;have fin:∀k k' u,w.heap.size<=k->w.heap.size<=k'->Ext w u->I2 [.pointer (some ⟨k,0,none⟩),aa x.h,aa x.v,.slice qp 64 qc,.slice bp x.bl.length bc,.pointer (some ⟨k',0,none⟩),aa x.h,aa x.v,.slice qp' 64 qc',.slice bp' x.bl.length bc'] u:=fun k k' u h1 h2 hE=>by
  rw[eI2];exact⟨⟨k,k',rfl,h1,h2⟩,hE⟩
 generalize w3.drew=v3 at*;refine⟨I2,⟨a0,a1,a2,a3,_,_,_,_,_,_,_,_,hA3.h,hA3.v,hA3.q,hA3.b,⟨b0,b1,b2,b3,?_⟩⟩,?_⟩
 ·have L3:∀{bs:List Nat} {v:C_},Locl bs v3 v->(∀k,k∈bs->w.heap.size<=k)->Ext w v:=fun hL hb=>hst hE3d hL hb
  have two:∀(u:C_),Ext w u->vL u (b2.add ((↑i:Int).toNat*4)) x qp' qc' bp' bc' bvs':=fun u hE=>hB.ext hE;refine⟨⟨_,_,_,_,_,_,_,_,hB3.h,hB3.v,hB3.q,hB3.b,fun k11 h11 k12 h12 w4 hL4=>fin _ _ _ (by omega) (by omega) (L3 hL4 fun b hb=>by simp at hb;omega),fun k13 h13 k14 h14 w5 hL5=>fin _ _ _ (by omega) (by omega) (L3 hL5 fun b hb=>by simp at hb;omega)⟩,
   fun k15 h15=>⟨fun w6 hL6=>?_,fun k21 h21=>⟨fun w8 hL8=>?_,fun w10 hL10=>?_⟩⟩,fun k30 h30=>⟨fun w12 hL12=>?_,fun k36 h36=>⟨fun w14 hL14=>?_,fun w16 hL16=>?_⟩⟩⟩
  ·have hE:=L3 hL6 fun b hb=>by simp at hb;omega
   have hz:=hE.size;exact⟨_,_,_,_,_,_,_,_,(two _ hE).h,(two _ hE).v,(two _ hE).q,(two _ hE).b,fun k20 h20 w7 hL7=>fin _ _ _ (by omega) (by omega) (hst hE hL7 fun b hb=>by simp at hb;omega)⟩
  ·have hE:=L3 hL8 fun b hb=>by simp at hb;omega
   exact⟨_,_,_,_,_,_,_,_,(two _ hE).h,(two _ hE).v,(two _ hE).q,(two _ hE).b,fun w9 hL9=>fin _ _ _ (by omega) (by omega) (hst hE hL9 fun b hb=>by simp at hb;omega)⟩
  ·have hE:=L3 hL10 fun b hb=>by simp at hb;omega
   exact⟨_,_,_,_,_,_,_,_,(two _ hE).h,(two _ hE).v,(two _ hE).q,(two _ hE).b,fun w9 hL9=>fin _ _ _ (by omega) (by omega) (hst hE hL9 fun b hb=>by simp at hb;omega)⟩
  ·have hE:=L3 hL12 fun b hb=>by simp at hb;omega
   have hz:=hE.size;exact⟨_,_,_,_,_,_,_,_,(two _ hE).h,(two _ hE).v,(two _ hE).q,(two _ hE).b,fun k20 h20 w7 hL7=>fin _ _ _ (by omega) (by omega) (hst hE hL7 fun b hb=>by simp at hb;omega)⟩
  ·have hE:=L3 hL14 fun b hb=>by simp at hb;omega
   exact⟨_,_,_,_,_,_,_,_,(two _ hE).h,(two _ hE).v,(two _ hE).q,(two _ hE).b,fun w9 hL9=>fin _ _ _ (by omega) (by omega) (hst hE hL9 fun b hb=>by simp at hb;omega)⟩
  ·have hE:=L3 hL16 fun b hb=>by simp at hb;omega
   exact⟨_,_,_,_,_,_,_,_,(two _ hE).h,(two _ hE).v,(two _ hE).q,(two _ hE).b,fun w9 hL9=>fin _ _ _ (by omega) (by omega) (hst hE hL9 fun b hb=>by simp at hb;omega)⟩
 intro k45 n18 n19 p17 k46 k47 p18 k48 k49 k50 n20 n21 p19 k51 k52 p20 k53 k54 w18 hI2;rw[eI2]at hI2;obtain⟨⟨k,k',hv,hkk,hkk'⟩,hE18⟩:=hI2;simp only[I_,J_,D_.slice.injEq,D_.pointer.injEq,a_,E_.mk.injEq,true_and,and_true]at hv;obtain⟨rfl,rfl,rfl,⟨rfl,rfl,rfl⟩,⟨rfl,rfl,rfl⟩,rfl,rfl,rfl,⟨rfl,rfl,rfl⟩,rfl,rfl,rfl⟩:=hv;refine al (by simp) ?_
 have hA18:=hA.ext hE18;have hB18:=hB.ext hE18;refine xm hA18.qs hB18.qs hA.ql.symm hA.ql.symm (by omega) fun w19 hE19=>⟨_,rfl,hE19.keep _,al (by simp) ?_⟩
 have hE19w:=hE18.trans hE19;refine⟨fun vs u=>∃j:Nat,vs=[aa (j:Nat)]/\j<=x.bl.length/\Ext w u,fun vs _=>match vs with|[.int _ j]=>(x.bl.length-j:Int).toNat|_=>0,⟨0,rfl,by omega,hE19w⟩,fun n22 w20 hI=>?_⟩
 obtain⟨j,hv,hj,hE20⟩:=hI;simp only[I_,J_,true_and,and_true]at hv;subst hv;refine ak (fun hlt2=>?_) fun hge=>?_
 rotate_left
 ·rw[show A_.wrap (((i:Nat):Int)+1)=((i+1:Nat):Int) by rw[ai (by omega) (by omega)];omega]
  exact⟨⟨i+1,rfl,by omega,hE20⟩,by show(l.length-((i+1:Nat):Int)).toNat<(l.length-((i:Nat):Int)).toNat;omega⟩
 have hlt2:j<x.bl.length:=by have:=of_decide_eq_true hlt2;omega
 have hE20d:=hE20.trans (Ext.refl w20).drew;refine(hA.ext hE20d).blk (Q_ hlt2) fun b3 p3 cp hb hcp h64 hs=>⟨_,_,_,hb,(hB.ext hE20d).blk (Q_ hlt2) fun b4 p4 cp' hb' hcp' h64' hs'=>⟨_,_,_,hb',xm hs hs' h64.symm h64.symm (by omega) fun w21 hE21=>⟨_,rfl,hE21.keep _,al rfl ?_⟩⟩⟩
 rw[show A_.wrap (((j:Nat):Int)+1)=((j+1:Nat):Int) by rw[ai (by omega) (by omega)];omega]
 exact⟨⟨j+1,rfl,by omega,hE20d.trans hE21⟩,by show(x.bl.length-((j+1:Nat):Int)).toNat<(x.bl.length-((j:Nat):Int)).toNat;omega⟩
def eI:ByteArray:={data:=#[48,48,48,49,48,50,48,51,48,52,48,53,48,54,48,55,48,56,48,57,49,48,49,49,49,50,49,51,49,52,49,53,49,54,49,55,49,56,49,57,50,48,50,49,50,50,50,51,50,52,50,53,50,54,50,55,50,56,50,57,51,48,51,49,51,50,51,51,51,52,51,53,51,54,51,55,51,56,51,57,52,48,52,49,52,50,52,51,52,52,52,53,52,54,52,55,52,56,52,57,53,48,53,49,53,50,53,51,53,52,53,53,53,54,53,55,53,56,53,57,54,48,54,49,54,50,54,51,54,52,54,53,54,54,54,55,54,56,54,57,55,48,55,49,55,50,55,51,55,52,55,53,55,54,55,55,55,56,55,57,56,48,56,49,56,50,56,51,56,52,56,53,56,54,56,55,56,56,56,57,57,48,57,49,57,50,57,51,57,52,57,53,57,54,57,55,57,56,57,57]}
def kH:AC:=zq (rr 3) (zq (zb (zl [.slot 1 (.int .u64),.slot 4 si] (zq (zq (rr 2) (zc z0 z2)) (zb (zq (rr 4) (zq (rr 3) (zq (rr 6) (zq (rr 8) (zq (rr 8) (zq (rr 15) (zq (rr 15) (zq (rr 15) (zq (rr 15) (rr 3)))))))))))))) (zq (rr 3) (zt [.slot 4 si,.slot 12 (.int .u32)] (zq (rr 2) (zc (zq (rr 3) (zq (rr 3) (zq (rr 8) (zq (rr 15) (zq (rr 15) (rr 3)))))) z0)) (zq (zq (rr 2) (zc (zq (rr 4) (zq (rr 3) (zq (rr 15) (rr 3)))) z0)) (zq (rr 2) (zc (rr 6) z0))))))
def kN(sa1:aj)(sl1 sc1:Nat)(x1:Int)(w:C_)(R:bV):Prop:=
 ∃(I1:aw) (m1:List D_->C_->Nat),(I1 [.int .u64 x1,aa (sl1:Int)] w)/\∀n1 n2 w1,(I1 [.int .u64 n1,aa n2] w1)->ae (decide (n2>=8)) ((0<=B_.wrap (B_.wrap (ad .rem .u32 (ad .rem .u32 (B_.wrap (ad .rem .u64 n1 100000000)) 10000) 100*2)+1))/\(B_.wrap (B_.wrap (ad .rem .u32 (ad .rem .u32 (B_.wrap (ad .rem .u64 n1 100000000)) 10000) 100*2)+1)<200)/\(0<=B_.wrap (ad .rem .u32 (ad .rem .u32 (B_.wrap (ad .rem .u64 n1 100000000)) 10000) 100*2))/\(B_.wrap (ad .rem .u32 (ad .rem .u32 (B_.wrap (ad .rem .u64 n1 100000000)) 10000) 100*2)<200)/\aq (sa1) (sl1) (A_.wrap (n2-1)) (1) fun a1=>aI w1.drew a1 [u8 (dY eI (B_.wrap (B_.wrap (ad .rem .u32 (ad .rem .u32 (B_.wrap (ad .rem .u64 n1 100000000)) 10000) 100*2)+1)).toNat)] fun u1=>aq (sa1) (sl1) (A_.wrap (n2-2)) (1) fun a2=>aI u1 a2 [u8 (dY eI (B_.wrap (ad .rem .u32 (ad .rem .u32 (B_.wrap (ad .rem .u64 n1 100000000)) 10000) 100*2)).toNat)] fun u2=>(0<=B_.wrap (B_.wrap (ad .quo .u32 (ad .rem .u32 (B_.wrap (ad .rem .u64 n1 100000000)) 10000) 100*2)+1))/\(B_.wrap (B_.wrap (ad .quo .u32 (ad .rem .u32 (B_.wrap (ad .rem .u64 n1 100000000)) 10000) 100*2)+1)<200)/\(0<=B_.wrap (ad .quo .u32 (ad .rem .u32 (B_.wrap (ad .rem .u64 n1 100000000)) 10000) 100*2))/\(B_.wrap (ad .quo .u32 (ad .rem .u32 (B_.wrap (ad .rem .u64 n1 100000000)) 10000) 100*2)<200)/\aq (sa1) (sl1) (A_.wrap (n2-3)) (1) fun a3=>aI u2.drew a3 [u8 (dY eI (B_.wrap (B_.wrap (ad .quo .u32 (ad .rem .u32 (B_.wrap (ad .rem .u64 n1 100000000)) 10000) 100*2)+1)).toNat)] fun u3=>aq (sa1) (sl1) (A_.wrap (n2-4)) (1) fun a4=>aI u3 a4 [u8 (dY eI (B_.wrap (ad .quo .u32 (ad .rem .u32 (B_.wrap (ad .rem .u64 n1 100000000)) 10000) 100*2)).toNat)] fun u4=>(0<=B_.wrap (B_.wrap (ad .rem .u32 (ad .quo .u32 (B_.wrap (ad .rem .u64 n1 100000000)) 10000) 100*2)+1))/\(B_.wrap (B_.wrap (ad .rem .u32 (ad .quo .u32 (B_.wrap (ad .rem .u64 n1 100000000)) 10000) 100*2)+1)<200)/\(0<=B_.wrap (ad .rem .u32 (ad .quo .u32 (B_.wrap (ad .rem .u64 n1 100000000)) 10000) 100*2))/\(B_.wrap (ad .rem .u32 (ad .quo .u32 (B_.wrap (ad .rem .u64 n1 100000000)) 10000) 100*2)<200)/\aq (sa1) (sl1) (A_.wrap (n2-5)) (1) fun a5=>aI u4.drew a5 [u8 (dY eI (B_.wrap (B_.wrap (ad .rem .u32 (ad .quo .u32 (B_.wrap (ad .rem .u64 n1 100000000)) 10000) 100*2)+1)).toNat)] fun u5=>aq (sa1) (sl1) (A_.wrap (n2-6)) (1) fun a6=>aI u5 a6 [u8 (dY eI (B_.wrap (ad .rem .u32 (ad .quo .u32 (B_.wrap (ad .rem .u64 n1 100000000)) 10000) 100*2)).toNat)] fun u6=>(0<=B_.wrap (B_.wrap (ad .quo .u32 (ad .quo .u32 (B_.wrap (ad .rem .u64 n1 100000000)) 10000) 100*2)+1))/\(B_.wrap (B_.wrap (ad .quo .u32 (ad .quo .u32 (B_.wrap (ad .rem .u64 n1 100000000)) 10000) 100*2)+1)<200)/\(0<=B_.wrap (ad .quo .u32 (ad .quo .u32 (B_.wrap (ad .rem .u64 n1 100000000)) 10000) 100*2))/\(B_.wrap (ad .quo .u32 (ad .quo .u32 (B_.wrap (ad .rem .u64 n1 100000000)) 10000) 100*2)<200)/\aq (sa1) (sl1) (A_.wrap (n2-7)) (1) fun a7=>aI u6.drew a7 [u8 (dY eI (B_.wrap (B_.wrap (ad .quo .u32 (ad .quo .u32 (B_.wrap (ad .rem .u64 n1 100000000)) 10000) 100*2)+1)).toNat)] fun u7=>aq (sa1) (sl1) (A_.wrap (n2-8)) (1) fun a8=>aI u7 a8 [u8 (dY eI (B_.wrap (ad .quo .u32 (ad .quo .u32 (B_.wrap (ad .rem .u64 n1 100000000)) 10000) 100*2)).toNat)] fun u8=>(I1 [.int .u64 (ad .quo .u64 n1 100000000),aa (A_.wrap (n2-8))] u8)/\m1 [.int .u64 (ad .quo .u64 n1 100000000),aa (A_.wrap (n2-8))] u8<m1 [.int .u64 n1,aa n2] w1) (∃I2:aw,(ae (decide (n2>=4)) ((0<=B_.wrap (B_.wrap (ad .rem .u32 (ad .rem .u32 (B_.wrap n1) 10000) 100*2)+1))/\(B_.wrap (B_.wrap (ad .rem .u32 (ad .rem .u32 (B_.wrap n1) 10000) 100*2)+1)<200)/\(0<=B_.wrap (ad .rem .u32 (ad .rem .u32 (B_.wrap n1) 10000) 100*2))/\(B_.wrap (ad .rem .u32 (ad .rem .u32 (B_.wrap n1) 10000) 100*2)<200)/\aq (sa1) (sl1) (A_.wrap (n2-1)) (1) fun a9=>aI w1.drew a9 [u8 (dY eI (B_.wrap (B_.wrap (ad .rem .u32 (ad .rem .u32 (B_.wrap n1) 10000) 100*2)+1)).toNat)] fun u9=>aq (sa1) (sl1) (A_.wrap (n2-2)) (1) fun a10=>aI u9 a10 [u8 (dY eI (B_.wrap (ad .rem .u32 (ad .rem .u32 (B_.wrap n1) 10000) 100*2)).toNat)] fun u10=>(0<=B_.wrap (B_.wrap (ad .quo .u32 (ad .rem .u32 (B_.wrap n1) 10000) 100*2)+1))/\(B_.wrap (B_.wrap (ad .quo .u32 (ad .rem .u32 (B_.wrap n1) 10000) 100*2)+1)<200)/\(0<=B_.wrap (ad .quo .u32 (ad .rem .u32 (B_.wrap n1) 10000) 100*2))/\(B_.wrap (ad .quo .u32 (ad .rem .u32 (B_.wrap n1) 10000) 100*2)<200)/\aq (sa1) (sl1) (A_.wrap (n2-3)) (1) fun a11=>aI u10.drew a11 [u8 (dY eI (B_.wrap (B_.wrap (ad .quo .u32 (ad .rem .u32 (B_.wrap n1) 10000) 100*2)+1)).toNat)] fun u11=>aq (sa1) (sl1) (A_.wrap (n2-4)) (1) fun a12=>aI u11 a12 [u8 (dY eI (B_.wrap (ad .quo .u32 (ad .rem .u32 (B_.wrap n1) 10000) 100*2)).toNat)] fun u12=>I2 [aa (A_.wrap (n2-4)),.int .u32 (ad .quo .u32 (B_.wrap n1) 10000)] u12) (I2 [aa n2,.int .u32 (B_.wrap n1)] w1))/\∀n3 n4 w2,(I2 [aa n3,.int .u32 n4] w2)->ae (decide (n3>=2)) ((0<=B_.wrap (B_.wrap (ad .rem .u32 n4 100*2)+1))/\(B_.wrap (B_.wrap (ad .rem .u32 n4 100*2)+1)<200)/\(0<=B_.wrap (ad .rem .u32 n4 100*2))/\(B_.wrap (ad .rem .u32 n4 100*2)<200)/\aq (sa1) (sl1) (A_.wrap (n3-1)) (1) fun a13=>aI w2.drew a13 [u8 (dY eI (B_.wrap (B_.wrap (ad .rem .u32 n4 100*2)+1)).toNat)] fun u13=>aq (sa1) (sl1) (A_.wrap (n3-2)) (1) fun a14=>aI u13 a14 [u8 (dY eI (B_.wrap (ad .rem .u32 n4 100*2)).toNat)] fun u14=>ae (decide (A_.wrap (n3-2)>0)) (aq (sa1) (sl1) (0) (1) fun a15=>aI u14 a15 [u8 (F_.u8.wrap (B_.wrap (48+ad .quo .u32 n4 100)))] fun u15=>R (aM #[]) u15) (R (aM #[]) u14)) (ae (decide (n3>0)) (aq (sa1) (sl1) (0) (1) fun a16=>aI w2 a16 [u8 (F_.u8.wrap (B_.wrap (48+n4)))] fun au=>R (aM #[]) au) (R (aM #[]) w2)))
theorem jI(sa1:aj)(sl1 sc1:Nat)(x1:Int)(w:C_)(R:bV)(h:kN sa1 sl1 sc1 x1 w R):G_ P 167 #[.slice sa1 sl1 sc1,.int .u64 x1] w R:=
  aF (ac:=kH) Tryz.func167 h
def zU(w:C_):Prop:=w.cell? ⟨1,2,none⟩=some (.int .u64 100)
theorem zU.ext(h:zU w)(hE:Ext w u):zU u:=hE.cell h
theorem OK(hR:R (.returned (.string ⟨#[54]⟩)) w):G_ P 49 #[aa 6] w R:=by
 refine ji _ _ _ (eY _ _ _ (d6 _ _ _ _ (aY rfl (aY rfl (gX _ _ _ (aY rfl ⟨by decide,by decide,by decide,_,rfl,_,rfl,_,rfl,?_⟩))))))
 exact hR
theorem OG(hR:R (.returned (.string ⟨#[49]⟩)) w):G_ P 49 #[aa 1] w R:=by
 refine ji _ _ _ (eY _ _ _ (d6 _ _ _ _ (aY rfl (aY rfl (gX _ _ _ (aY rfl ⟨by decide,by decide,by decide,_,rfl,_,rfl,_,rfl,?_⟩))))))
 exact hR
theorem Kj(hT:zU w)(hR:R (.returned (aa 3)) w):G_ P 166 #[.int .u64 255] w R:=by
 refine kw _ _ _ (tf _ _ _ ⟨fun vs v=>vs=[.int .u64 255,aa 0]/\v=w,al rfl ⟨rfl,rfl⟩,fun n1 n2 w1 hI=>?_⟩);obtain⟨hv,rfl⟩:=hI;simp only[I_,J_,true_and,and_true]at hv;obtain⟨rfl,rfl⟩:=hv;refine⟨fun vs v=>vs=[.int .u64 255,aa 0]/\v=w1,al rfl ⟨rfl,rfl⟩,fun n1 n2 w2 hI=>?_⟩;obtain⟨hv,rfl⟩:=hI;simp only[I_,J_,true_and,and_true]at hv;obtain⟨rfl,rfl⟩:=hv;refine al rfl ⟨by decide,by decide,8,?_,?_⟩
 ·rfl
 refine kn _ _ _ ⟨2,rfl,by decide,by decide,100,?_,?_⟩
 ·exact hT
 refine kC _ _ _ (aY rfl ⟨1,rfl,?_⟩);exact hR
theorem J1(hC:Cs w k (M_ 24 (u8 0)))(hR:∀w',Cs w' k ([u8 0,u8 50,u8 53,u8 53]++M_ 20 (u8 0))->Chg (·=k) w w'->R (.returned (.tuple #[])) w'):
  G_ P 167 #[.slice (some ⟨k,1,none⟩) 3 23,.int .u64 255] w R:=by
 refine jI _ _ _ _ _ _ ⟨fun vs v=>vs=[.int .u64 255,aa 3]/\v=w,fun _ _=>0,⟨rfl,rfl⟩,fun n1 n2 w1 hI=>?_⟩;obtain⟨hv,rfl⟩:=hI;simp only[I_,J_,true_and,and_true]at hv;obtain⟨rfl,rfl⟩:=hv;refine al rfl ⟨fun vs v=>vs=[aa 3,.int .u32 255]/\v=w1,al rfl ⟨rfl,rfl⟩,fun n3 n4 w2 hI=>?_⟩;obtain⟨hv,rfl⟩:=hI;simp only[I_,J_,true_and,and_true]at hv;obtain⟨rfl,rfl⟩:=hv;refine aY rfl ⟨by decide,by decide,by decide,by decide,?_⟩
 have e0:(⟨k,1,none⟩:E_).add ((0:Int).toNat*1)=⟨k,1,none⟩:=af _ _ _;have e1:(⟨k,1,none⟩:E_).add ((A_.wrap (3-2)).toNat*1)=⟨k,2,none⟩:=af _ _ _;have e2:(⟨k,1,none⟩:E_).add ((A_.wrap (3-1)).toNat*1)=⟨k,3,none⟩:=af _ _ _;have hCd:=hC.ext (Ext.refl w2).drew;refine bo (by decide) (by decide) rfl ?_
 rw[e2];have s1:Cs (ab w2.drew ⟨k,3,none⟩ [u8 53] 0) k _:=hCd.set1 (off:=3) (v:=u8 53) (by decide)
 have c1:=Chg.setCells w2.drew ⟨k,3,none⟩ [u8 53] 0;have v1:dY eI (B_.wrap (B_.wrap (ad BinOp.rem B_ 255 100*2)+1)).toNat=53:=by decide+kernel
 rw[v1];refine⟨⟨_,hCd.cell (i:=3) rfl⟩,hCd.frozen _,bo (by decide) (by decide) rfl ?_⟩
 rw[e1];have s2:Cs (ab (ab w2.drew ⟨k,3,none⟩ [u8 53] 0) ⟨k,2,none⟩ [u8 53] 0) k _:=s1.set1 (off:=2) (v:=u8 53) (by decide)
 have c2:=Chg.setCells (ab w2.drew ⟨k,3,none⟩ [u8 53] 0) ⟨k,2,none⟩ [u8 53] 0;have v2:dY eI (B_.wrap (ad BinOp.rem B_ 255 100*2)).toNat=53:=by decide+kernel
 rw[v2];refine⟨⟨_,s1.cell (i:=2) rfl⟩,s1.frozen _,aY (by decide) (bo (by decide) (by decide) rfl ?_)⟩
 rw[e0];have s3:Cs (ab (ab (ab w2.drew ⟨k,3,none⟩ [u8 53] 0) ⟨k,2,none⟩ [u8 53] 0) ⟨k,1,none⟩ [u8 50] 0) k _:=s2.set1 (off:=1) (v:=u8 50) (by decide)
 have c3:=Chg.setCells (ab (ab w2.drew ⟨k,3,none⟩ [u8 53] 0) ⟨k,2,none⟩ [u8 53] 0) ⟨k,1,none⟩ [u8 50] 0;refine⟨⟨_,s2.cell (i:=1) rfl⟩,s2.frozen _,?_⟩;have d1:=((Ext.refl w2).drew.chg (S:=(·=k))).trans c1 fun b hb _=>hb;have d2:=d1.trans c2 fun b hb _=>hb;exact hR _ s3 (d2.trans c3 fun b hb _=>hb)
theorem ME(hT:zU w)(hR:∀w',Ext w w'->R (.returned (.string ⟨#[50,53,53]⟩)) w'):G_ P 49 #[aa 255] w R:=by
 refine ji _ _ _ (eY _ _ _ (d6 _ _ _ _ (aY rfl (al rfl fun k1 w2 hn=>?_))));have e1:=hn.1;have hC:Cs w2 k1 (M_ 24 (u8 0)):=hn.cs;refine⟨fun vs v=>vs=[.int .u64 255]/\v=w2,al rfl ⟨rfl,rfl⟩,fun n1 w3 hI=>?_⟩;obtain⟨hv,rfl⟩:=hI;simp only[I_,J_,true_and,and_true]at hv;subst hv;refine Kj (hT.ext hn.ext) ⟨3,rfl,by decide,by decide,by decide,?_⟩
 refine J1 hC fun w5 h5 c5=>⟨rfl,al rfl ⟨by decide,by decide,by decide,[50,53,53],rfl,?_,?_⟩⟩
 ·intro j v hj
  refine⟨⟨k1,1,none⟩,rfl,?_⟩;rw[af];refine h5.cell ?_;rcases j with _|_|_|j
  ·exact hj
  ·exact hj
  ·exact hj
  ·simp at hj
 ·have hE:Ext w w5:=hn.ext.step c5 fun b hb=>by have hb:b=k1:=hb;omega
  exact⟨_,rfl,_,rfl,hR w5 hE⟩
def uL(q1:aj)(x1:Int)(w:C_)(R:bV):Prop:=
 G_ P 138 #[.pointer q1] w fun e1 w1=>∃n1,(e1=.returned (aa n1))/\∃I1:aw,(ae (n1==0) (nn (q1) fun a1=>∃n2,(w1.cell? (a1.add 1)=some (aa n2))/\ae (n2 !=0) (G_ P 139 #[.pointer q1] w1 fun e2 w2=>(e2=.returned (.tuple #[]))/\I1 [] w2) (I1 [] w1)) (I1 [] w1))/\∀w3,(I1 [] w3)->G_ P 98 #[.pointer q1,aa x1] w3 fun e3 w4=>∃n3 c1,(e3=.returned (.tuple #[aa n3,.bool c1]))/\ae (c1) (R (.returned (aa n3)) w4) (nn (q1) fun a2=>∃p1 k1 k2,(w4.cell? a2=some (.slice p1 k1 k2))/\ae (p1.isNone&&decide (x1<=64)) ((0<=x1)/\(x1<=64)/\((64:Int)<=281474976710656)/\((64:Int)<4611686018427387904)/\∀k3 w5,(aK w4 (O_ (bg [u8 0] 64) 5) k3 w5)->nn (q1) fun a3=>aI w5 a3 [.slice (aH k3) x1.toNat 64] fun u1=>R (.returned (aa 0)) u1) (nn (q1) fun a4=>∃p2 k4 k5,(w4.cell? a4=some (.slice p2 k4 k5))/\∃I2:aw,(ae (decide (x1<=A_.wrap (ad .quo .i64 (k5:Int) 2-n1))) (nn (q1) fun a5=>∃p3 k6 k7,(w4.drew.cell? a5=some (.slice p3 k6 k7))/\nn (q1) fun a6=>∃p4 k8 k9,(w4.drew.cell? a6=some (.slice p4 k8 k9))/\nn (q1) fun a7=>∃n4,(w4.drew.cell? (a7.add 1)=some (aa n4))/\cO (p4) (k9) (n4) ((k8:Int)) (1) fun p5 k10 k11=>∃l1:List D_,(l1.length=min k10 k6*1)/\(aN l1=true)/\(aV (w4.drew) p5 l1)/\(((l1=[])/\I2 [] w4.drew)\/(∃a8:E_,(p3=some a8)/\(dq (w4.drew) a8 (l1.length))/\I2 [] (ab w4.drew a8 l1 0)))) (ae (decide ((k5:Int)>A_.wrap (A_.wrap (9223372036854775807-(k5:Int))-x1))) (∃v2,(w4.cell? {block:=0,off:=0}=some v2)/\(∃y1:TypeId,∃v3:D_,v2=D_.iface y1 v3)/\R (.panicked [{v:=v2,recovered:=false}]) w4) (nn (q1) fun a9=>∃p6 k12 k13,(w4.drew.cell? a9=some (.slice p6 k12 k13))/\nn (q1) fun a10=>∃n5,(w4.drew.cell? (a10.add 1)=some (aa n5))/\cO (p6) (k13) (n5) ((k12:Int)) (1) fun p7 k14 k15=>nn (q1) fun a11=>∃n6,(w4.drew.cell? (a11.add 1)=some (aa n6))/\G_ P 140 #[.slice p7 k14 k15,aa (A_.wrap (n6+x1))] (w4.drew) fun e4 w6=>∃p8 k16 k17,(e4=.returned (.slice p8 k16 k17))/\nn (q1) fun a12=>aI w6 a12 [.slice p8 k16 k17] fun u2=>I2 [] u2)))/\∀w7,(I2 [] w7)->nn (q1) fun a13=>aI w7 (a13.add 1) [aa 0] fun u3=>nn (q1) fun a14=>∃p9 k18 k19,(u3.cell? a14=some (.slice p9 k18 k19))/\cO (p9) (k19) (0) (A_.wrap (n1+x1)) (1) fun p10 k20 k21=>nn (q1) fun a15=>aI u3 a15 [.slice p10 k20 k21] fun u4=>R (.returned (aa n1)) u4))
theorem qM(q1:aj)(x1:Int)(w:C_)(R:bV)(h:uL q1 x1 w R):G_ P 99 #[.pointer q1,aa x1] w R:=
  aF (ac:=vq) Tryz.func99 h
structure dX(w:C_)(k kb:Nat)(bs:List Int):Prop where
 cells:Cs w k [.slice (some ⟨kb,0,none⟩) bs.length 64,aa 0,.int .i8 0]
 data:∃rest,Cs w kb (bytes bs++rest)/\bs.length+rest.length=64
 ne:k≠kb
theorem dX.chg{S:Nat->Prop}{kb:Nat}(h:dX w k kb bs)(hc:Chg S w u)(h1:¬S k)(h2:¬S kb):dX u k kb bs:=by
 obtain⟨rest,d1,d2⟩:=h.data;exact⟨h.cells.chg hc h1,⟨rest,d1.chg hc h2,d2⟩,h.ne⟩
theorem dX.ext{kb:Nat}(h:dX w k kb bs)(hE:Ext w u):dX u k kb bs:=h.chg (S:=fun _=>False) hE.chg id id
theorem IX(h:Cs w k [.slice none 0 0,aa 0,.int .i8 0])(hn:1<=n)(hn2:n<=2^40)(hR:R (.returned (.tuple #[aa 0,.bool false])) w):G_ P 98 #[.pointer (some ⟨k,0,none⟩),aa (n:Nat)] w R:=by
 refine fq _ _ _ _ (ap rfl ⟨_,_,_,h.cell (i:=0) rfl,ap rfl ⟨_,_,_,h.cell (i:=0) rfl,al (decide_eq_false ?_) hR⟩⟩);rw[ai (by omega) (by omega)];omega
theorem Jn{kb:Nat}(h:dX w k kb bs)(hn:bs.length+n<=64)
 (hR:∀w',Cs w' k [.slice (some ⟨kb,0,none⟩) (bs.length+n) 64,aa 0,.int .i8 0]->Chg (·=k) w w'->R (.returned (.tuple #[aa (bs.length:Nat),.bool true])) w'):G_ P 98 #[.pointer (some ⟨k,0,none⟩),aa (n:Nat)] w R:=by
 refine fq _ _ _ _ (ap rfl ⟨_,_,_,h.cells.cell (i:=0) rfl,ap rfl ⟨_,_,_,h.cells.cell (i:=0) rfl,aY (decide_eq_true ?_) (ap rfl ⟨_,_,_,h.cells.cell (i:=0) rfl,?_⟩)⟩⟩)
 ·rw[ai (by omega) (by omega)];omega
 have e:A_.wrap (((bs.length:Nat):Int)+((n:Nat):Int))=((bs.length+n:Nat):Int):=by rw[ai (by omega) (by omega)];omega
 rw[e];refine⟨by omega,by omega,by omega,ap rfl ?_⟩
 have s:=h.cells.set1 (off:=0) (v:=.slice (some ⟨kb,0,none⟩) (bs.length+n) 64) (by simp)
 have e2:((bs.length+n:Nat):Int).toNat-(0:Int).toNat=bs.length+n:=by rw[K_];rfl
 have e3:aX (some ⟨kb,0,none⟩) (0:Int).toNat 64 1=some ⟨kb,0,none⟩:=fP;rw[e2,e3];exact⟨⟨_,h.cells.cell (i:=0) rfl⟩,h.cells.frozen _,hR _ s (Chg.setCells w ⟨k,0,none⟩ _ 0)⟩
theorem MD(h:Cs w k [.slice none 0 0,aa 0,.int .i8 0])(hn:1<=n)(hn2:n<=64)
 (hR:∀kb w',w.heap.size<=kb->Cs w' k [.slice (some ⟨kb,0,none⟩) n 64,aa 0,.int .i8 0]->Cs w' kb (M_ 64 (u8 0))->Chg (·=k) w w'->R (.returned (aa 0)) w'):G_ P 99 #[.pointer (some ⟨k,0,none⟩),aa (n:Nat)] w R:=by
 refine qM _ _ _ _ (rP _ _ _ (ap rfl ⟨_,_,_,h.drew.cell (i:=0) rfl,ap rfl ⟨_,h.drew.cell (i:=1) rfl,_,rfl,?_⟩⟩));have hd:=h.ext (Ext.refl w).drew;refine⟨fun vs v=>vs=[]/\v=w.drew,aY (by decide) (ap rfl ⟨_,hd.cell (i:=1) rfl,al rfl ⟨rfl,rfl⟩⟩),fun w3 hI=>?_⟩
 obtain⟨_,rfl⟩:=hI;refine IX hd hn (by omega) ⟨_,_,rfl,al rfl (ap rfl ⟨_,_,_,hd.cell (i:=0) rfl,aY ?_ ⟨by omega,by omega,by omega,by omega,fun k3 w5 hn5=>ap rfl ?_⟩⟩)⟩
 ·rw[decide_eq_true (by omega)];rfl
 have h5:=hd.ext hn5.ext;have e5:k3=w.heap.size:=hn5.1;have hl:=h.lt;have s:=h5.set1 (off:=0) (v:=.slice (some ⟨k3,0,none⟩) n 64) (by decide)
 have c:=Chg.setCells w5 ⟨k,0,none⟩ [.slice (some ⟨k3,0,none⟩) n 64] 0;rw[K_];refine⟨⟨_,h5.cell (i:=0) rfl⟩,h5.frozen _,hR k3 _ (by omega) s ((aK.zeros hn5).chg c (show¬k3=k by omega)) ((((Ext.refl w).drew.trans hn5.ext).chg (S:=(·=k))).trans c fun b hb _=>hb)⟩
theorem dX.put{kb n:Nat}(h:dX w k kb bs)(hc:Chg (·=k) w w')(hC:Cs w' k [.slice (some ⟨kb,0,none⟩) (bs.length+xs.length) 64,aa 0,.int .i8 0])(hl:bs.length+xs.length<=64):
  dq w' ⟨kb,bs.length,none⟩ (bytes xs).length/\dX (ab w' ⟨kb,bs.length,none⟩ (bytes xs) 0) k kb (bs++xs)/\Chg (fun b=>b=k\/b=kb) w (ab w' ⟨kb,bs.length,none⟩ (bytes xs) 0):=by
 obtain⟨rest,d1,d2⟩:=h.data;have hne:=h.ne;have d1':=d1.chg hc (fun e=>hne e.symm);have c2:=Chg.setCells w' ⟨kb,bs.length,none⟩ (bytes xs) 0;have hcl:(bytes bs++rest).length=64:=by rw[N_,ar];exact d2
 refine⟨d1'.canSet (by rw[hcl,ar];exact hl),⟨?_,⟨rest.drop xs.length,?_,by rw[N_,r_];omega⟩,hne⟩,(hc.mono fun b hb _=>.inl hb).trans c2 fun b hb _=>.inr hb⟩
 ·rw[N_]
  exact hC.chg c2 hne
 ·have:=d1'.set (off:=bs.length) (us:=bytes xs) (by rw[hcl,ar];exact hl)
  rw[List.take_left' (by rw[ar]),List.drop_append,ar,List.drop_eq_nil_of_le (by rw[ar];omega),f_,ar,Nat.add_sub_cancel_left,<-bY]at this
  exact this
theorem Jr{st:ByteArray}(h:Cs w k [.slice none 0 0,aa 0,.int .i8 0])(hsz:st.size=bs.length)(h1:1<=bs.length)(h64:bs.length<=64)(hst:bG st bs.length=bytes bs)
 (hR:∀kb w' v,w.heap.size<=kb->dX w' k kb bs->Chg (·=k) w w'->R (.returned (.tuple #[aa v,.nilIface])) w'):G_ P 48 #[.pointer (some ⟨k,0,none⟩),.string st] w R:=by
 refine f9 _ _ _ _ (ap rfl ?_);rw[af,L_];have hl:=h.lt;have s:Cs (ab w ⟨k,2,none⟩ [.int .i8 0] 0) k [.slice none 0 0,aa 0,.int .i8 0]:=h.set1 (off:=2) (v:=.int .i8 0) (by decide)
 have c:=Chg.setCells w ⟨k,2,none⟩ [.int .i8 0] 0;rw[hsz];refine⟨⟨_,h.cell (i:=2) rfl⟩,h.frozen _,IX s h1 (by omega) ⟨_,_,rfl,aY rfl (MD s h1 h64 fun kb w2 hkb hC hZ hch=>⟨_,rfl,ap rfl ⟨_,_,_,hC.cell (i:=0) rfl,by omega,by omega,by omega,?_⟩⟩)⟩⟩
 have z:(ab w ⟨k,2,none⟩ [.int .i8 0] 0).heap.size=w.heap.size:=(bS _ _ _ _).size;have e:((bs.length:Nat):Int).toNat-(0:Int).toNat=bs.length:=by rw[K_];rfl
 have e3:aX (some ⟨kb,0,none⟩) (0:Int).toNat 64 1=some ⟨kb,0,none⟩:=fP;rw[e,e3];simp only[Nat.min_self,hst];have cs:=hZ.set (off:=0) (us:=bytes bs) (by rw[ar];simp;omega)
 have c2:=Chg.setCells w2 ⟨kb,0,none⟩ (bytes bs) 0;refine .inr ⟨_,rfl,hZ.canSet (by rw[ar];simp;omega),hR kb _ _ (by omega) ⟨hC.chg c2 (show¬k=kb by omega),⟨_,by rw[List.take_zero,f_]at cs;exact cs,by rw[r_,ar];simp;omega⟩,by omega⟩ ((c.trans hch fun b hb _=>hb).trans c2 fun b hb hl'=>by have hb:b=kb:=hb;omega)⟩
theorem L6{kb:Nat}{st:ByteArray}(h:dX w k kb bs)(hsz:st.size=xs.length)(h64:bs.length+xs.length<=64)(h1:1<=xs.length)(hst:bG st xs.length=bytes xs)
 (hR:∀w' v,dX w' k kb (bs++xs)->Chg (fun b=>b=k\/b=kb) w w'->R (.returned (.tuple #[aa v,.nilIface])) w'):G_ P 48 #[.pointer (some ⟨k,0,none⟩),.string st] w R:=by
 refine f9 _ _ _ _ (ap rfl ?_);rw[af,L_];have s:Cs (ab w ⟨k,2,none⟩ [.int .i8 0] 0) k [.slice (some ⟨kb,0,none⟩) bs.length 64,aa 0,.int .i8 0]:=h.cells.set1 (off:=2) (v:=.int .i8 0) (by simp)
 have c:=Chg.setCells w ⟨k,2,none⟩ [.int .i8 0] 0;have h':dX (ab w ⟨k,2,none⟩ [.int .i8 0] 0) k kb bs:=by
  obtain⟨rest,d1,d2⟩:=h.data;exact⟨s,⟨rest,d1.chg c (fun e=>h.ne e.symm),d2⟩,h.ne⟩
 rw[hsz];refine⟨⟨_,h.cells.cell (i:=2) rfl⟩,h.cells.frozen _,Jn h' h64 fun w1 hC hch=>⟨_,_,rfl,al rfl (ap rfl ⟨_,_,_,hC.cell (i:=0) rfl,by omega,by omega,by omega,?_⟩)⟩⟩
 obtain⟨p1,p2,p3⟩:=h'.put (n:=0) hch hC h64;have e:((bs.length+xs.length:Nat):Int).toNat-((bs.length:Nat):Int).toNat=xs.length:=by rw[K_,K_];omega
 have e3:aX (some ⟨kb,0,none⟩) ((bs.length:Nat):Int).toNat 64 1=some ⟨kb,bs.length,none⟩:=by
  unfold aX;rw[K_,if_neg (by omega),Option.map_some,af,Z_,L_]
 rw[e,e3];simp only[Nat.min_self,hst];exact .inr ⟨_,rfl,p1,hR _ _ p2 ((c.mono fun b hb _=>.inl hb).trans p3 fun b hb _=>hb)⟩
theorem Ju{kb:Nat}(h:dX w k kb bs)(h64:bs.length+1<=64)
 (hR:∀w',dX w' k kb (bs++[x])->Chg (fun b=>b=k\/b=kb) w w'->R (.returned .nilIface) w'):G_ P 107 #[.pointer (some ⟨k,0,none⟩),u8 x] w R:=by
 refine mo _ _ _ _ (ap rfl ?_);rw[af,L_];have s:Cs (ab w ⟨k,2,none⟩ [.int .i8 0] 0) k [.slice (some ⟨kb,0,none⟩) bs.length 64,aa 0,.int .i8 0]:=h.cells.set1 (off:=2) (v:=.int .i8 0) (by simp)
 have c:=Chg.setCells w ⟨k,2,none⟩ [.int .i8 0] 0;have h':dX (ab w ⟨k,2,none⟩ [.int .i8 0] 0) k kb bs:=by
  obtain⟨rest,d1,d2⟩:=h.data;exact⟨s,⟨rest,d1.chg c (fun e=>h.ne e.symm),d2⟩,h.ne⟩
 refine⟨⟨_,h.cells.cell (i:=2) rfl⟩,h.cells.frozen _,Jn (n:=1) h' h64 fun w1 hC hch=>⟨_,_,rfl,al rfl (ap rfl ⟨_,_,_,hC.cell (i:=0) rfl,bo (by omega) (by omega) rfl ?_⟩)⟩⟩
 obtain⟨p1,p2,p3⟩:=h'.put (n:=0) (xs:=[x]) hch hC h64;rw[K_,Z_,af,L_];have q:=p1 0 (by simp[bytes])
 rw[eg]at q;exact⟨q.1,q.2,hR _ p2 ((c.mono fun b hb _=>.inl hb).trans p3 fun b hb _=>hb)⟩
end Go.Proofs.YtoomejkiagonpaaGreatDoor
