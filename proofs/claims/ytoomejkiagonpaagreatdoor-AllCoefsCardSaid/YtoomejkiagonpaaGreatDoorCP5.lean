/- Words for memory: what may have turned, cells of a block, slices. -/
import Derived.SizedLaws
import Derived.OpenShut
import Derived.ShutString
import Derived.Carry
import Derived.ChangeSlices
import Derived.Lib.SmallJoins
import Derived.Test.YtoomejkiagonpaaGreatDoorCP3
import Derived.Test.YtoomejkiagonpaaGreatDoorCP4
set_option linter.unusedVariables false
set_option linter.unusedSimpArgs false
set_option maxRecDepth 100000
open Go.IntKind renaming i64->A_
open Go renaming World->B_,Value->C_,Addr->D_,Program->E_,TypeId->F_,IntKind->G_,Calls->H_
open Nat renaming le_refl->I_,lt_or_ge->J_,le_trans->N_,lt_of_lt_of_le->O_,add_mul->Q_,pow_succ->T_,zero_add->Y_,mul_comm->d_,eq_or_lt_of_le->g_,mul_assoc->h_,eq_zero_or_pos->j_,mul_le_mul_right->y_,zero_le->B_A,add_sub_cancel->C_A,pow_le_pow_right->I_A,pow_pos->J_A,le_of_eq->O_A,zero_mul->Q_A,div_eq_of_lt->U_A,mod_eq_of_lt->V_A,add_assoc->c_A,le_of_not_lt->f_A,min_eq_left->k_A,div_div_eq_div_mul->y_A,add_sub_cancel_left->z_A,mul_lt_mul_of_pos_right->A_B,pow_succ'->E_B
open List renaming length_append->K_,length_cons->L_,getD->M_,replicate->R_,range->S_,getElem?_eq_none->U_,filter_append->V_,getD_eq_getElem?_getD->W_,getElem?_append_left->X_,range_succ->b_,filter_cons_of_pos->c_,getElem?_eq_getElem->e_,map_append->f_,length_take->k_,getElem?_append_right->m_,mem_cons_self->p_,filter_cons_of_neg->q_,take_succ_cons->r_,count_append->s_,sum_append->t_,map_cons->u_,map_nil->v_,sum_cons->w_,sum_nil->x_,length_drop->z_,take_append_of_le_length->A_A,length_map->D_A,mem_append_right->E_A,mem_range'_1->F_A,mem_of_getElem?->H_A,length_replicate->K_A,getElem_mem->L_A,getElem_map->M_A,replicate_succ->N_A,getElem?_drop->P_A,mem_append_left->R_A,getElem?_map->T_A,map_congr_left->a_A,filter_eq_nil_iff->b_A,append_assoc->d_A,set_eq_take_append_cons_drop->g_A,drop_append_of_le_length->i_A,mem_of_mem_take->l_A,getElem?_take->m_A,flatten_cons->n_A,map_take->r_A,ext_getElem->s_A,mem_cons_of_mem->t_A,append_nil->u_A,cons_append->v_A,getElem?_of_mem->w_A,take_add_one->x_A,eq_of_mem_replicate->B_B,count_replicate_self->C_B,getElem_of_mem->D_B
open Int renaming le_refl->P_,pow_pos->Z_,toNat_natCast->a_,mul_nonneg->i_,tmod_eq_emod_of_nonneg->o_,le_of_lt->S_A,mul_comm->W_A,tdiv_eq_ediv_of_nonneg->X_A,ediv_nonneg->Y_A,ediv_le_self->Z_A,pow_succ->e_A,eq_ofNat_of_zero_le->j_A,mul_assoc->p_A,mul_le_mul_of_nonneg_right->q_A
open Bool renaming and_eq_true->l_,eq_iff_iff->n_
open List.cons renaming inj->G_A
open Array renaming length_toList->h_A
open Go.Value renaming oneCell'->o_A
namespace Go.Vc
open Go.RowKit
variable {w u w' u' w0 : B_} {R : Ending -> B_ -> Prop} {n i b k N m a j s off M : Nat} {vs fs zero : List C_} {p q : Option D_} {t e : F_} {v : C_} {xs bs : List Int} {l L av : List Nat} {Z : Nat -> Prop} {x : Int} {f : Nat -> Nat} {F : Option D_ -> Nat -> Nat -> B_ -> Prop}
theorem ap{a:D_}{F:D_->Prop}(h:p=some a)(hF:F a):nn p F:=by subst h;exact hF
theorem ak{b:Bool}{A B:Prop}(ht:b=true->A)(hf:b=false->B):ae b A B:=by cases b;exact hf rfl;exact ht rfl
theorem aY{b:Bool}{A B:Prop}(h:b=true)(hA:A):ae b A B:=by subst h;exact hA
theorem al{b:Bool}{A B:Prop}(h:b=false)(hB:B):ae b A B:=by subst h;exact hB
theorem bo{base:Option D_}{len:Nat}{i:Int}{sz:Nat}{F:D_->Prop}{a:D_}(h0:0<=i)(h1:i<len)(ha:base=some a)(hF:F (a.add (i.toNat*sz))):aq base len i sz F:=⟨h0,h1,a,ha,hF⟩
theorem ai(h0: -9223372036854775808<=x:=by omega)(h1:x<=9223372036854775807:=by omega):A_.wrap x=x:=IntWalk.i64_in x ⟨h0,h1⟩
theorem eg(a:D_):a.add 0=a:=by unfold D_.add;cases a with|mk b o s=>cases s<;>rfl
structure Chg(S:Nat->Prop)(w w':B_):Prop where
 os:w'.os=w.os
 tape:w'.tape=w.tape
 output:w'.output=w.output
 size:w.heap.size<=w'.heap.size
 block:∀k,k<w.heap.size->¬S k->w'.heap[k]?=w.heap[k]?
theorem Chg.refl(S:Nat->Prop)(w:B_):Chg S w w:=⟨rfl,rfl,rfl,I_ _,fun _ _ _=>rfl⟩
theorem Ext.chg{S:Nat->Prop}(h:Ext w w'):Chg S w w':=⟨h.os,h.tape,h.output,h.size,fun k hk _=>h.block k hk⟩
theorem Chg.trans{S T:Nat->Prop}{a b c:B_}(h:Chg S a b)(k:Chg T b c)(hT:∀i,T i->i<a.heap.size->S i):Chg S a c:=
 ⟨k.os.trans h.os,k.tape.trans h.tape,k.output.trans h.output,N_ h.size k.size,
  fun i hi hS=>(k.block i (O_ hi h.size) (fun ht=>hS (hT i ht hi))).trans (h.block i hi hS)⟩
theorem Chg.mono{S T:Nat->Prop}{a b:B_}(h:Chg S a b)(hT:∀i,S i->i<a.heap.size->T i):Chg T a b:=
 ⟨h.os,h.tape,h.output,h.size,fun i hi hS=>h.block i hi (fun hs=>hS (hT i hs hi))⟩
theorem Chg.below{S:Nat->Prop}(h:Chg S w w')(hS:∀i,S i->i<w.heap.size->N<=i)(hN:N<=w.heap.size):Below N w w':=
 ⟨h.os,h.tape,h.output,h.size,fun k hk=>h.block k (by omega) (fun hs=>by have:=hS k hs (by omega);omega)⟩
theorem Chg.ext{S:Nat->Prop}(h:Chg S w w')(hS:∀i,S i->w.heap.size<=i):Ext w w':=h.below (fun i hi _=>hS i hi) (I_ _)
theorem Chg.keep{S:Nat->Prop}(h:Chg S w w'){bs:List Nat}(hb:∀b,b∈bs->¬S b):ao bs w w':=
 fun b hm hlt=>⟨O_ hlt h.size,h.block b hlt (hb b hm)⟩
theorem Locl.chg{bs:List Nat}(h:Locl bs w w'):Chg (·∈bs) w w':=⟨h.os,h.tape,h.output,h.size,fun k hk hn=>h.block k hk hn⟩
theorem Locl.ext{bs:List Nat}(h:Locl bs w w')(hb:∀b,b∈bs->w.heap.size<=b):Ext w w':=h.below (I_ _) hb
theorem aK.ext{o:Obj}(h:aK w o b w'):Ext w w':=by rw[h.2];exact(Ext.refl w).alloc o
theorem aK.size{o:Obj}(h:aK w o b w'):b<w'.heap.size:=by rw[h.1,h.2];simp
theorem Chg.setCells(w:B_)(a:D_)(vs:List C_)(i:Nat):Chg (·=a.block) w (ab w a vs i):=
 have h:=bS vs w a i
 ⟨h.os,h.tape,h.output,O_A h.size.symm,fun k _ hk=>h.block k hk⟩
theorem Chg.drew{S:Nat->Prop}(h:Chg S w w'):Chg S w w'.drew:=⟨h.os,h.tape,h.output,h.size,h.block⟩
theorem dP.chg{D:Nat}(h:dP D w w'):Chg (·=D) w w':=⟨h.os,h.tape,h.output,O_A h.size.symm,fun k _ hk=>h.block k hk⟩
theorem Ext.step{S:Nat->Prop}{a b c:B_}(h:Ext a b)(k:Chg S b c)(hS:∀i,S i->a.heap.size<=i):Ext a c:=
 ((h.chg (S:=fun k=>a.heap.size<=k)).trans k (fun i hi _=>hS i hi)).ext (fun i hi=>hi)
def Cs(w:B_)(b:Nat)(vs:List C_):Prop:=∃e,w.heap[b]?=some (.cells vs.toArray e (0,0))
theorem Cs.lt(h:Cs w b vs):b<w.heap.size:=by
 obtain⟨e,h⟩:=h;rcases J_ b w.heap.size with h'|h'
 ·exact h'
 ·rw[Array.getElem?_eq_none h']at h;cases h
theorem Cs.chg{S:Nat->Prop}(h:Cs w b vs)(hc:Chg S w w')(hb:¬S b):Cs w' b vs:=by
 obtain⟨e,h1⟩:=h;exact⟨e,by rw[hc.block b (Cs.lt ⟨e,h1⟩) hb];exact h1⟩
theorem Cs.below(h:Cs w b vs)(hc:Below N w w')(hb:b<N):Cs w' b vs:=by
 obtain⟨e,h1⟩:=h;exact⟨e,by rw[hc.block b hb];exact h1⟩
theorem Cs.ext(h:Cs w b vs)(hc:Ext w w'):Cs w' b vs:=h.below hc h.lt
theorem Cs.drew(h:Cs w b vs):Cs w.drew b vs:=h
theorem aK.cs{vs:Array C_}(h:aK w (.cells vs e (0,0)) b w'):Cs w' b vs.toList:=
 ⟨e,by rw[h.1,h.2];exact rk w _⟩
theorem Cs.cell(h:Cs w b vs)(hv:vs[i]?=some v):w.cell? ⟨b,i,none⟩=some v:=by
 obtain⟨e,h⟩:=h;exact dV h hv
theorem Cs.frozen(h:Cs w b vs)(i:Nat):w.frozen? ⟨b,i,none⟩=false:=by
 obtain⟨e,h⟩:=h;simp[B_.frozen?,h]
theorem Cs.set{us:List C_}(h:Cs w b vs)(hl:off+us.length<=vs.length):
  Cs (ab w ⟨b,off,none⟩ us 0) b (vs.take off++us++vs.drop (off+us.length)):=by
 obtain⟨e,h⟩:=h;exact⟨e,by simpa using mE (i:=0) h (by simpa using hl)⟩
theorem Cs.set1(h:Cs w b vs)(hl:off<vs.length):
  Cs (ab w ⟨b,off,none⟩ [v] 0) b (vs.set off v):=by
 have:=h.set (off:=off) (us:=[v]) (by simp;omega)
 rwa[show vs.take off++[v]++vs.drop (off+[v].length)=vs.set off v by simp[g_A,hl]]at this
theorem Cs.canSet(h:Cs w b vs)(hl:off+n<=vs.length):dq w ⟨b,off,none⟩ n:=by
 intro j hj;rw[af];exact⟨⟨vs[off+j]'(by omega),h.cell (e_ (by omega))⟩,h.frozen _⟩
def Sl(N:Nat)(w:B_)(base:Option D_)(vs:List C_):Prop:=∀j v,vs[j]?=some v->∃a,base=some a/\a.block<N/\w.cell? (a.add j)=some v
theorem Sl.up{base:Option D_}(h:Sl N w base vs):Sl w.heap.size w base vs:=by
 intro j v hj;obtain⟨a,h1,h2,h3⟩:=h j v hj;have:=B_.block_lt_of_cell? w _ h3;rw[dg]at this;exact⟨a,h1,this,h3⟩
theorem Sl.ext{base:Option D_}(h:Sl N w base vs)(hb:Ext w w'):Sl N w' base vs:=by
 intro j v hj;obtain⟨a,h1,h2,h3⟩:=h j v hj;exact⟨a,h1,h2,hb.cell h3⟩
theorem Sl.drew{base:Option D_}(h:Sl N w base vs):Sl N w.drew base vs:=h
theorem Sl.nil(N:Nat)(w:B_)(base:Option D_):Sl N w base []:=fun j v h=>by simp at h
theorem Sl.cells{base:Option D_}(h:Sl N w base vs):aV w base vs:=by
 intro j v hj;obtain⟨a,h1,_,h3⟩:=h j v hj;exact⟨a,h1,h3⟩
theorem Sl.spot{a:D_}(h:Sl N w (some a) vs)(hne:vs≠[]):a.spot=none:=by
 cases vs with
 |nil=>exact(hne rfl).elim
 |cons v vs=>
  obtain⟨b,h1,_,h3⟩:=h 0 v rfl;cases h1;have:=B_.cell?_spot h3;simpa[D_.add]using this
theorem Cs.sl{us:List C_}(h:Cs w b vs)(hu:us <+:vs.drop off)(hN:b<N):Sl N w (some ⟨b,off,none⟩) us:=by
 intro j v hj;refine⟨_,rfl,hN,?_⟩;rw[af];obtain⟨t,ht⟩:=hu;refine h.cell ?_;have:(us++t)[j]?=some v:=by
  rw[X_];exact hj;rcases J_ j us.length with h'|h'
  ·exact h'
  ·rw[U_ h']at hj;cases hj
 rw[ht,P_A]at this;exact this
theorem Sl.part{base:Option D_}{us:List C_}(h:Sl N w base vs){lo cap:Nat}(hc:vs.length<=cap)(hu:us <+:vs.drop lo):Sl N w (aX base lo cap 1) us:=by
 intro j v hj;obtain⟨t,ht⟩:=hu;have hlt:j<us.length:=by
  rcases J_ j us.length with h'|h'
  ·exact h'
  ·rw[U_ h']at hj;cases hj
 have h1:(us++t)[j]?=some v:=by rw[X_ hlt];exact hj
 rw[ht,P_A]at h1;obtain⟨a,h2,h3,h4⟩:=h _ _ h1;have hlo:cap≠lo:=by
  intro e;have:lo+j<vs.length:=by
   rcases J_ (lo+j) vs.length with h'|h'
   ·exact h'
   ·rw[U_ h']at h1;cases h1
  omega
 refine⟨a.add lo,by simp[aX,hlo,h2],by rw[dg];exact h3,?_⟩
 subst h2;rw[Je a (h.spot fun e=>by rw[e]at h1;simp at h1)];exact h4
theorem Sl.get{base:Option D_}(h:Sl N w base vs){i:Int}{len:Nat}(h0:0<=i)(hl:vs.length=len)(hv:vs[i.toNat]?=some v){F:D_->Prop}
 (hF:∀a:D_,w.cell? a=some v->F a):aq base len i 1 F:=by
 have hlt:i.toNat<vs.length:=by
  rcases J_ i.toNat vs.length with h'|h'
  ·exact h'
  ·rw[U_ h']at hv;cases hv
 obtain⟨a,h1,h2,h3⟩:=h _ _ hv;exact⟨h0,by omega,a,h1,hF _ (by simpa using h3)⟩
def Ow(N M:Nat)(w:B_)(base:Option D_)(len cap sz:Nat)(vs:List C_):Prop:=
 len*sz=vs.length/\len<=cap/\(cap=0\/∃b rest,N<=b/\b<M/\base=some ⟨b,0,none⟩/\cap*sz=vs.length+rest.length/\Cs w b (vs++rest))
theorem Ow.chg{base:Option D_}{len cap sz:Nat}{S:Nat->Prop}(h:Ow N M w base len cap sz vs)(hc:Chg S w w')(hS:∀b,N<=b->b<M->¬S b):Ow N M w' base len cap sz vs:=by
 obtain⟨h1,h2,h3⟩:=h;refine⟨h1,h2,?_⟩;rcases h3 with h3|⟨b,rest,h4,h5,h6,h7,h8⟩
 ·exact .inl h3
 ·exact .inr ⟨b,rest,h4,h5,h6,h7,h8.chg hc (hS b h4 h5)⟩
theorem Ow.ext{base:Option D_}{len cap sz:Nat}(h:Ow N M w base len cap sz vs)(hc:Ext w w'):Ow N M w' base len cap sz vs:=
 h.chg (S:=fun _=>False) hc.chg (fun _ _ _ h=>h)
theorem Ow.nil(N M:Nat)(w:B_)(base:Option D_)(sz:Nat):Ow N M w base 0 0 sz []:=⟨by simp,I_ _,.inl rfl⟩
theorem Ow.sl{base:Option D_}{len cap sz:Nat}(h:Ow N M w base len cap sz vs):Sl M w base vs:=by
 obtain⟨h1,h2,h3⟩:=h;rcases h3 with h3|⟨b,rest,h4,h5,h6,h7,h8⟩
 ·have:len=0:=by omega
  subst this;rw[Q_A]at h1;rw[List.length_eq_zero_iff.1 h1.symm];exact Sl.nil _ _ _
 ·subst h6;exact h8.sl (by simp) h5
theorem eO(zero:List C_)(n:Nat):(bg zero n).size=n*zero.length:=by simp[bg]
theorem aK.own{arr:Array C_}{len cap sz:Nat}(h:aK w (.cells arr e (0,0)) b w')(hv:vs <+:arr.toList)(hl:len*sz=vs.length)(hc:cap*sz=arr.size)(hle:len<=cap)(hN:N<=w.heap.size)(hM:w'.heap.size<=M):
  Ow N M w' (some ⟨b,0,none⟩) len cap sz vs:=by
 obtain⟨t,ht⟩:=hv;have hs:=h.size;refine⟨hl,hle,.inr ⟨b,t,by rw[h.1];exact hN,by omega,rfl,?_,by rw[ht];exact h.cs⟩⟩
 rw[hc,<-h_A,<-ht,K_]
def bZ(S:Nat->Prop)(w:B_)(base:Option D_)(len cap sz:Nat)(vs:List C_):Prop:=
 len*sz=vs.length/\len<=cap/\(cap=0\/∃b rest,S b/\base=some ⟨b,0,none⟩/\cap*sz=vs.length+rest.length/\Cs w b (vs++rest))
theorem bZ.own{S:Nat->Prop}{base:Option D_}{len cap sz:Nat}(h:bZ S w base len cap sz vs)(hS:∀i,S i->i<w.heap.size->N<=i/\i<M):Ow N M w base len cap sz vs:=by
 obtain⟨h1,h2,h3⟩:=h;refine⟨h1,h2,?_⟩;rcases h3 with h3|⟨b,rest,h4,h6,h7,h8⟩
 ·exact .inl h3
 ·exact .inr ⟨b,rest,(hS b h4 h8.lt).1,(hS b h4 h8.lt).2,h6,h7,h8⟩
theorem bZ.chg{S T:Nat->Prop}{base:Option D_}{len cap sz:Nat}(h:bZ S w base len cap sz vs)(hc:Chg T w w')(hS:∀b,S b->b<w.heap.size->¬T b):bZ S w' base len cap sz vs:=by
 obtain⟨h1,h2,h3⟩:=h;refine⟨h1,h2,?_⟩;rcases h3 with h3|⟨b,rest,h4,h6,h7,h8⟩
 ·exact .inl h3
 ·exact .inr ⟨b,rest,h4,h6,h7,h8.chg hc (hS b h4 h8.lt)⟩
theorem bZ.mono{S T:Nat->Prop}{base:Option D_}{len cap sz:Nat}(h:bZ S w base len cap sz vs)(hS:∀i,S i->i<w.heap.size->T i):bZ T w base len cap sz vs:=by
 obtain⟨h1,h2,h3⟩:=h;refine⟨h1,h2,?_⟩;rcases h3 with h3|⟨b,rest,h4,h6,h7,h8⟩
 ·exact .inl h3
 ·exact .inr ⟨b,rest,hS b h4 h8.lt,h6,h7,h8⟩
theorem bZ.base{S:Nat->Prop}{base:Option D_}{len cap sz:Nat}(h:bZ S w base len cap sz vs)(h0:0<len):∃b,base=some ⟨b,0,none⟩/\S b/\b<w.heap.size:=by
 obtain⟨_,h2,h3⟩:=h;rcases h3 with h3|⟨b,rest,h4,h6,_,h8⟩
 ·omega
 ·exact⟨b,h6,h4,h8.lt⟩
theorem bZ.write{S:Nat->Prop}{len cap:Nat}(h:bZ S w (some ⟨b,0,none⟩) len cap 1 vs)(hi:i<len):
  (∃u,w.cell? ⟨b,i,none⟩=some u)/\w.frozen? ⟨b,i,none⟩=false/\∀v,bZ S (ab w ⟨b,i,none⟩ [v] 0) (some ⟨b,0,none⟩) len cap 1 (vs.set i v)/\Chg (·=b) w (ab w ⟨b,i,none⟩ [v] 0):=by
 obtain⟨h1,h2,h3⟩:=h;rcases h3 with h3|⟨b',rest,h4,h6,h7,h8⟩
 ·omega
 ·cases h6
  obtain⟨hu,hf⟩:=h8.canSet (off:=i) (n:=1) (by rw[K_];omega) 0 (by omega)
  rw[af,Nat.add_zero]at hu hf;refine⟨hu,hf,fun v=>⟨⟨by simpa using h1,h2,.inr ⟨b,rest,h4,rfl,by simpa using h7,?_⟩⟩,(Chg.setCells w ⟨b,i,none⟩ [v] 0:)⟩⟩
  have:=h8.set1 (off:=i) (v:=v) (by rw[K_];omega)
  rwa[List.set_append_left _ _ (by omega)]at this
theorem bZ.app{S:Nat->Prop}{l:List (Nat×Nat×List C_)}{base:Option D_}{len cap sz bytes:Nat}{elem:F_}
 (h:bZ S w base len cap sz vs)(hl:∀b∈am l,S b->False)(hz:zero.length=sz)(hn:fs.length=n*sz)
 (hby:(len+n)*bytes<=2^47)(h62:len+n<2^62)
 (hF:∀base' cap' w',bZ (fun i=>S i\/w.heap.size<=i) w' base' (len+n) cap' sz (vs++fs)->Chg S w w'->F base' (len+n) cap' w'):
  ay w l base len cap n sz bytes elem zero fs F:=by
 obtain⟨h1,h2,h3⟩:=h;refine⟨fun hle=>?_,fun hgt=>⟨hby,h62,vs,h1.symm,?_,fun cap' b w' hc' hnew=>?_⟩⟩
 ·rcases h3 with h3|⟨b,rest,h4,h6,h7,h8⟩
  ·have e0:len=0:=by omega
   have e1:n=0:=by omega
   subst e0;subst e1;have e2:fs=[]:=List.length_eq_zero_iff.1 (by simpa using hn)
   refine .inl ⟨e2,hF _ _ _ ⟨?_,by omega,.inl h3⟩ (Chg.refl _ _)⟩
   subst e2;simpa using h1
  ·subst h6
   refine .inr ⟨_,rfl,?_,?_⟩
   ·rw[af,Y_]
    refine h8.canSet ?_;rw[K_,hn,h1];have:(len+n)*sz<=cap*sz:=y_ _ hle;rw[Q_,h7]at this;omega
   ·have key:F (some ⟨b,0,none⟩) (len+n) cap (ab w ((⟨b,0,none⟩:D_).add (len*sz)) fs 0):=by
     rw[af,Y_];have hroom:(len+n)*sz<=cap*sz:=y_ _ hle;rw[Q_,h7]at hroom;have hset:=h8.set (off:=len*sz) (us:=fs) (by rw[K_];omega)
     have hchg:=Chg.setCells w ⟨b,len*sz,none⟩ fs 0;have hsz:(ab w ⟨b,len*sz,none⟩ fs 0).heap.size=w.heap.size:=(bS fs w _ 0).size;refine hF _ _ _ ⟨?_,hle,.inr ⟨b,rest.drop fs.length,.inl h4,rfl,?_,?_⟩⟩ (hchg.mono fun i hi _=>?_)
     ·rw[Q_,K_];omega
     ·rw[K_,z_];omega
     ·rw[h1,A_A (by omega),List.take_of_length_le (I_ _),List.drop_append,List.drop_eq_nil_of_le (by omega)]at hset
      simpa[show vs.length+fs.length-vs.length=fs.length by omega,h1]using hset
     ·simp only at hi;subst hi;exact h4
    show jr l b _;unfold jr
    split
    ·exact key
    ·refine⟨fun hm=>?_,key⟩
     exact hl b hm h4
 ·rcases h3 with h3|⟨b,rest,h4,h6,h7,h8⟩
  ·intro j v hj
   have e0:len=0:=by omega
   subst e0;rw[Q_A]at h1;rw[List.length_eq_zero_iff.1 h1.symm]at hj;simp at hj
  ·subst h6;exact(h8.sl (off:=0) (by simp) (Nat.lt_succ_self b)).cells
 ·have hex:Ext w w':=(Ext.refl w).drew.trans hnew.ext
  refine hF _ _ _ ?_ hex.chg;have:=aK.own (N:=w.heap.size) (M:=w'.heap.size) (vs:=vs++fs) (len:=len+n) (cap:=cap') (sz:=sz) hnew (by simp) (by rw[Q_,K_];omega) ?_ hc' (by exact I_ _) (I_ _)
  ·obtain⟨t1,t2,t3⟩:=this
   refine⟨t1,t2,?_⟩;rcases t3 with t3|⟨b,rest,t4,t5,t6,t7,t8⟩
   ·exact .inl t3
   ·exact .inr ⟨b,rest,.inr t4,t6,t7,t8⟩
  ·simp only[List.size_toArray,K_,h_A,eO,hz]
   rw[Nat.sub_mul,Q_];have:(len+n)*sz<=cap'*sz:=y_ _ hc';rw[Q_]at this;omega
theorem Ow.ownS{base:Option D_}{len cap sz:Nat}(h:Ow N M w base len cap sz vs):bZ (fun i=>N<=i/\i<M) w base len cap sz vs:=by
 obtain⟨h1,h2,h3⟩:=h;refine⟨h1,h2,?_⟩;rcases h3 with h3|⟨b,rest,h4,h5,h6⟩
 ·exact .inl h3
 ·exact .inr ⟨b,rest,⟨h4,h5⟩,h6⟩
theorem bZ.sl{S:Nat->Prop}{base:Option D_}{len cap sz:Nat}(h:bZ S w base len cap sz vs):Sl w.heap.size w base vs:=
 (h.own (N:=0) (M:=w.heap.size) fun i _ hi=>⟨B_A _,hi⟩).sl
theorem bZ.len{S:Nat->Prop}{base:Option D_}{len cap:Nat}(h:bZ S w base len cap 1 vs):len=vs.length:=by have:=h.1;omega
theorem bZ.nil(S:Nat->Prop)(w:B_)(base:Option D_)(sz:Nat):bZ S w base 0 0 sz []:=⟨by simp,I_ _,.inl rfl⟩
theorem Ow.appS{l:List (Nat×Nat×List C_)}{base:Option D_}{len cap sz bytes:Nat}{elem:F_}
 (h:Ow N M w base len cap sz vs)(hl:∀b∈am l,b<N\/M<=b)(hN:N<=w.heap.size)(hM:M<=w.heap.size)(hz:zero.length=sz)(hn:fs.length=n*sz)
 (hby:(len+n)*bytes<=2^47)(h62:len+n<2^62)
 (hF:∀base' cap' w',bZ (fun i=>(N<=i/\i<M)\/w.heap.size<=i) w' base' (len+n) cap' sz (vs++fs)->Chg (fun k=>N<=k/\k<M) w w'->F base' (len+n) cap' w'):
  ay w l base len cap n sz bytes elem zero fs F:=
 h.ownS.app (fun b hb hs=>by have:=hl b hb;omega) hz hn hby h62 hF
theorem mI{P:E_}{f:FuncId}{args:List C_}(hok:rX P f=true)(h:H_ P f args.toArray w R):dO P (.func (.func f) #[] #[]) args w R:=by
 unfold dO;simp only[hok];simpa using h
theorem Ow.app{l:List (Nat×Nat×List C_)}{base:Option D_}{len cap sz bytes:Nat}{elem:F_}
 (h:Ow N M w base len cap sz vs)(hl:∀b∈am l,b<N\/M<=b)(hN:N<=w.heap.size)(hM:M<=w.heap.size)(hz:zero.length=sz)(hn:fs.length=n*sz)
 (hby:(len+n)*bytes<=2^47)(h62:len+n<2^62)
 (hF:∀base' cap' w',Ow N w'.heap.size w' base' (len+n) cap' sz (vs++fs)->Chg (fun k=>N<=k/\k<M) w w'->F base' (len+n) cap' w'):
  ay w l base len cap n sz bytes elem zero fs F:=
 h.appS hl hN hM hz hn hby h62 fun base' cap' w' ho hc=>hF base' cap' w' (ho.own fun i hi hlt=>by omega) hc
def Gr(S S':Nat->Prop)(w w':B_):Prop:=w.heap.size<=w'.heap.size/\∀i,S' i->S i\/(w.heap.size<=i/\i<w'.heap.size)
theorem Gr.refl(S:Nat->Prop)(w:B_):Gr S S w w:=⟨I_ _,fun _ h=>.inl h⟩
theorem Gr.trans{S T U:Nat->Prop}{a b c:B_}(h:Gr S T a b)(k:Gr T U b c):Gr S U a c:=
 ⟨N_ h.1 k.1,fun i hi=>by
  have h1:=h.1;have k1:=k.1;rcases k.2 i hi with h2|h2
  ·rcases h.2 i h2 with h3|h3
   ·exact .inl h3
   ·exact .inr (by omega)
  ·exact .inr (by omega)⟩
theorem Gr.size{S S':Nat->Prop}{a b c:B_}(h:Gr S S' a b)(hs:b.heap.size<=c.heap.size):Gr S S' a c:=
 ⟨N_ h.1 hs,fun i hi=>by rcases h.2 i hi with h|h;exact .inl h;exact .inr (by omega)⟩
theorem Gr.pre{S S':Nat->Prop}{a b c:B_}(h:Gr S S' b c)(hs:a.heap.size<=b.heap.size):Gr S S' a c:=
 ⟨N_ hs h.1,fun i hi=>by rcases h.2 i hi with h|h;exact .inl h;exact .inr (by omega)⟩
structure dA(S:Nat->Prop)(w:B_)(base:Option D_)(len cap sz:Nat)(vs:List C_):Prop where
 own:bZ S w base len cap sz vs
 bd:∀i,S i->i<w.heap.size
theorem dA.chg{S T:Nat->Prop}{base:Option D_}{len cap sz:Nat}(h:dA S w base len cap sz vs)(hc:Chg T w w')(hS:∀i,S i->¬T i):dA S w' base len cap sz vs:=
 ⟨h.own.chg hc fun i hi _=>hS i hi,fun i hi=>O_ (h.bd i hi) hc.size⟩
theorem dA.ext{S:Nat->Prop}{base:Option D_}{len cap sz:Nat}(h:dA S w base len cap sz vs)(hc:Ext w w'):dA S w' base len cap sz vs:=
 h.chg (T:=fun _=>False) hc.chg fun _ _=>id
theorem dA.nil(w:B_)(base:Option D_)(sz:Nat):dA (fun _=>False) w base 0 0 sz []:=⟨bZ.nil _ _ _ _,fun _ h=>h.elim⟩
theorem Ow.owB{base:Option D_}{len cap sz:Nat}(h:Ow N M w base len cap sz vs)(hM:M<=w.heap.size):dA (fun i=>N<=i/\i<M) w base len cap sz vs:=⟨h.ownS,fun i hi=>by omega⟩
theorem dA.app{S:Nat->Prop}{l:List (Nat×Nat×List C_)}{base:Option D_}{len cap sz bytes:Nat}{elem:F_}
 (h:dA S w base len cap sz vs)(hl:∀b∈am l,¬S b)(hz:zero.length=sz)(hn:fs.length=n*sz)
 (hby:(len+n)*bytes<=2^47)(h62:len+n<2^62)
 (hF:∀S' base' cap' w',Gr S S' w w'->dA S' w' base' (len+n) cap' sz (vs++fs)->Chg S w w'->F base' (len+n) cap' w'):
  ay w l base len cap n sz bytes elem zero fs F:=
 h.own.app hl hz hn hby h62 fun base' cap' w' ho hc=>hF (fun i=>S i\/(w.heap.size<=i/\i<w'.heap.size)) base' cap' w' ⟨hc.size,fun i hi=>hi⟩
  ⟨ho.mono fun i hi hlt=>hi.elim .inl fun h=>.inr ⟨h,hlt⟩,fun i hi=>by have:=hc.size;rcases hi with hi|hi;have:=h.bd i hi;omega;omega⟩ hc
structure Fg(av:List Nat)(w w':B_)(sz:Nat)(base:Option D_)(len cap:Nat)(vs:List C_):Prop where
 ext:Ext w w'
 own:∃S:Nat->Prop,(∀i,S i->w.heap.size<=i)/\(∀b,b∈av->¬S b)/\dA S w' base len cap sz vs
 avs:∀b,b∈av->w.heap.size<=b/\b<w'.heap.size
theorem Fg.nil(h:Ext w w')(sz:Nat):Fg [] w w' sz none 0 0 []:=⟨h,⟨fun _=>False,fun _ h=>h.elim,fun _ _=>id,dA.nil _ _ _⟩,by simp⟩
theorem Fg.of_ow{w1:B_}{sz:Nat}{base:Option D_}{len cap:Nat}(he:Ext w w1)(h1:Ext w1 w')(h:Ow w1.heap.size M w' base len cap sz vs)(hM:M<=w'.heap.size):Fg [] w w' sz base len cap vs:=
 ⟨he.trans h1,⟨_,fun i hi=>N_ he.size hi.1,by simp,h.owB hM⟩,by simp⟩
theorem Fg.weak{sz:Nat}{base:Option D_}{len cap:Nat}(h:Fg av w w' sz base len cap vs):Fg [] w w' sz base len cap vs:=by
 obtain⟨S,h1,_,h2⟩:=h.own;exact⟨h.ext,⟨S,h1,by simp,h2⟩,by simp⟩
theorem Fg.ow{sz:Nat}{base:Option D_}{len cap:Nat}(h:Fg av w w' sz base len cap vs):Ow w.heap.size w'.heap.size w' base len cap sz vs:=by
 obtain⟨S,h1,_,h2⟩:=h.own;exact h2.own.own fun i hi hlt=>⟨h1 i hi,hlt⟩
theorem Fg.step{w1:B_}{sz:Nat}{base:Option D_}{len cap:Nat}(h:Fg av w w1 sz base len cap vs)(he:Ext w1 w'):Fg av w w' sz base len cap vs:=by
 obtain⟨S,h1,h3,h2⟩:=h.own;exact⟨h.ext.trans he,⟨S,h1,h3,h2.ext he⟩,fun b hb=>⟨(h.avs b hb).1,O_ (h.avs b hb).2 he.size⟩⟩
theorem Fg.pre{sz:Nat}{base:Option D_}{len cap:Nat}(h:Fg av w w' sz base len cap vs)(he:Ext w0 w):Fg av w0 w' sz base len cap vs:=by
 obtain⟨S,h1,h3,h2⟩:=h.own;exact⟨he.trans h.ext,⟨S,fun i hi=>N_ he.size (h1 i hi),h3,h2⟩,fun b hb=>⟨N_ he.size (h.avs b hb).1,(h.avs b hb).2⟩⟩
theorem Fg.app{bs:List Nat}{w1 w3:B_}{l:List (Nat×Nat×List C_)}{base:Option D_}{len cap sz bytes:Nat}{elem:F_}
 (h:Fg av w w1 sz base len cap vs)(hL:Locl bs w1 w3)(hbs:∀b,b∈bs->b∈av\/w1.heap.size<=b)(hl:∀b,b∈am l->b∈bs)(hz:zero.length=sz)(hn:fs.length=n*sz)
 (hby:(len+n)*bytes<=2^47)(h62:len+n<2^62)
 (hF:∀base' cap' w4,Fg bs w w4 sz base' (len+n) cap' (vs++fs)->F base' (len+n) cap' w4):
  ay w3 l base len cap n sz bytes elem zero fs F:=by
 obtain⟨S,h1,h3,h2⟩:=h.own;have hno:∀b,b∈bs->¬S b:=fun b hb hS=>by
  rcases hbs b hb with hb|hb
  ·exact h3 b hb hS
  ·have:=h2.bd b hS;omega
 have hge:∀b,b∈bs->w.heap.size<=b:=fun b hb=>by
  rcases hbs b hb with hb|hb
  ·exact(h.avs b hb).1
  ·exact N_ h.ext.size hb
 have he3:Ext w w3:=h.ext.step hL.chg hge;refine(h2.chg hL.chg fun i hi hb=>hno i hb hi).app (fun b hb hS=>hno b (hl b hb) hS) hz hn hby h62 fun S' base' cap' w4 hg ho hc=>hF base' cap' w4 ⟨he3.step hc h1,⟨S',fun i hi=>?_,fun b hb hS=>?_,ho⟩,fun b hb=>⟨hge b hb,O_ (hL.there b hb) hc.size⟩⟩
 ·have:=he3.size
  rcases hg.2 i hi with hi|hi
  ·exact h1 i hi
  ·omega
 ·have:=hL.there b hb
  rcases hg.2 b hS with hS|hS
  ·exact hno b hb hS
  ·omega
theorem Fg.locl{bs:List Nat}{w1 w2:B_}{sz:Nat}{base:Option D_}{len cap:Nat}(h:Fg av w w1 sz base len cap vs)(hL:Locl bs w1 w2)(hbs:∀b,b∈bs->b∈av\/w1.heap.size<=b):Fg bs w w2 sz base len cap vs:=by
 obtain⟨S,h1,h3,h2⟩:=h.own;have hno:∀b,b∈bs->¬S b:=fun b hb hS=>by
  rcases hbs b hb with hb|hb
  ·exact h3 b hb hS
  ·have:=h2.bd b hS;omega
 have hge:∀b,b∈bs->w.heap.size<=b:=fun b hb=>by
  rcases hbs b hb with hb|hb
  ·exact(h.avs b hb).1
  ·exact N_ h.ext.size hb
 exact⟨h.ext.step hL.chg hge,⟨S,h1,hno,h2.chg hL.chg fun i hi hb=>hno i hb hi⟩,fun b hb=>⟨hge b hb,hL.there b hb⟩⟩
theorem Fg.dr{w1:B_}{sz:Nat}{base:Option D_}{len cap:Nat}(h:Fg av w w1 sz base len cap vs):Fg av w w1.drew sz base len cap vs:=h.step (Ext.refl w1).drew
theorem Fg.nil'{bs:List Nat}{w1 w2:B_}(hE:Ext w w1)(hL:Locl bs w1 w2)(hb:∀b,b∈bs->w.heap.size<=b)(sz:Nat):Fg bs w w2 sz none 0 0 []:=
 ⟨hE.step hL.chg hb,⟨fun _=>False,fun _ h=>h.elim,fun _ _=>id,dA.nil _ _ _⟩,fun b h=>⟨hb b h,hL.there b h⟩⟩
theorem Fg.mono{bs:List Nat}{sz:Nat}{base:Option D_}{len cap:Nat}(h:Fg av w w' sz base len cap vs)(hb:∀b,b∈bs->b∈av):Fg bs w w' sz base len cap vs:=by
 obtain⟨S,h1,h3,h2⟩:=h.own;exact⟨h.ext,⟨S,h1,fun b hb'=>h3 b (hb b hb'),h2⟩,fun b hb'=>h.avs b (hb b hb')⟩
theorem Fg.len{base:Option D_}{len cap:Nat}(h:Fg av w w' 1 base len cap vs):len=vs.length:=by
 obtain⟨S,h1,h3,h2⟩:=h.own;exact h2.own.len
theorem Fg.sl{sz:Nat}{base:Option D_}{len cap:Nat}(h:Fg av w w' sz base len cap vs):Sl w'.heap.size w' base vs:=h.ow.sl
theorem Fg.of_owB{S:Nat->Prop}{sz:Nat}{base:Option D_}{len cap:Nat}(hE:Ext w w')(ho:dA S w' base len cap sz vs)(hS:∀i,S i->w.heap.size<=i)(ha:∀b,b∈av->¬S b)(hb:∀b,b∈av->w.heap.size<=b/\b<w'.heap.size):Fg av w w' sz base len cap vs:=
 ⟨hE,⟨S,hS,ha,ho⟩,hb⟩
theorem Fg.app'{w1:B_}{l:List (Nat×Nat×List C_)}{base:Option D_}{len cap sz bytes:Nat}{elem:F_}
 (h:Fg av w w1 sz base len cap vs)(hl:∀b,b∈am l->b∈av)(hz:zero.length=sz)(hn:fs.length=n*sz)
 (hby:(len+n)*bytes<=2^47)(h62:len+n<2^62)
 (hF:∀base' cap' w4,Fg av w w4 sz base' (len+n) cap' (vs++fs)->ao av w1 w4->w1.heap.size<=w4.heap.size->F base' (len+n) cap' w4):
  ay w1 l base len cap n sz bytes elem zero fs F:=by
 obtain⟨S,h1,h3,h2⟩:=h.own;refine h2.app (fun b hb hS=>h3 b (hl b hb) hS) hz hn hby h62 fun S' base' cap' w4 hg ho hc=>hF base' cap' w4 ⟨h.ext.step hc h1,⟨S',fun i hi=>?_,fun b hb hS=>?_,ho⟩,fun b hb=>⟨(h.avs b hb).1,O_ (h.avs b hb).2 hc.size⟩⟩ (hc.keep fun b hb=>h3 b hb) hc.size
 ·have:=h.ext.size
  rcases hg.2 i hi with hi|hi
  ·exact h1 i hi
  ·omega
 ·have:=(h.avs b hb).2
  rcases hg.2 b hS with hS|hS
  ·exact h3 b hb hS
  ·omega
theorem Fg.set{sz:Nat}{base:Option D_}{len cap:Nat}(h:Fg av w u sz base len cap vs){us:List C_}(hi:i+us.length<=vs.length)(h0:0<len):
  ∃b,base=some ⟨b,0,none⟩/\b∉av/\w.heap.size<=b/\dq u ⟨b,i,none⟩ us.length/\Fg av w (ab u ⟨b,i,none⟩ us 0) sz base len cap (vs.take i++us++vs.drop (i+us.length))/\ao av u (ab u ⟨b,i,none⟩ us 0):=by
 obtain⟨S,h1,h3,h2⟩:=h.own;obtain⟨⟨o1,o2,o3⟩,hb⟩:=h2;rcases o3 with o3|⟨b,rest,o3,o4,o5,o6⟩
 ·omega
 refine⟨b,o4,fun hm=>h3 b hm o3,h1 b o3,o6.canSet (by rw[K_];omega),?_,?_⟩
 ·have hc:=Chg.setCells u ⟨b,i,none⟩ us 0
  have hs:=o6.set (off:=i) (us:=us) (by rw[K_];omega)
  have hl:(vs.take i++us++vs.drop (i+us.length)).length=vs.length:=by simp only[K_,k_,z_];omega
  have e:(vs++rest).take i++us++(vs++rest).drop (i+us.length)=(vs.take i++us++vs.drop (i+us.length))++rest:=by
   rw[A_A (by omega),i_A (by omega)];simp
  rw[e]at hs;exact⟨h.ext.step hc fun k hk=>by have hk:k=b:=hk;have:=h1 b o3;omega,⟨S,h1,h3,⟨by rw[hl];exact o1,o2,.inr ⟨b,rest,o3,o4,by rw[hl];exact o5,hs⟩⟩,fun k hk=>by rw[(bS _ _ _ _).size];exact hb k hk⟩,fun k hk=>by rw[(bS _ _ _ _).size];exact h.avs k hk⟩
 ·exact(Chg.setCells u ⟨b,i,none⟩ us 0).keep fun k hk e=>by have e:k=b:=e;subst e;exact h3 k hk o3
theorem Fg.set1{sz:Nat}{base:Option D_}{len cap:Nat}(h:Fg av w u sz base len cap vs)(hi:i<vs.length)(h0:0<len):
  ∃b,base=some ⟨b,0,none⟩/\b∉av/\w.heap.size<=b/\(∃v,u.cell? ⟨b,i,none⟩=some v)/\u.frozen? ⟨b,i,none⟩=false/\∀v,Fg av w (ab u ⟨b,i,none⟩ [v] 0) sz base len cap (vs.set i v)/\ao av u (ab u ⟨b,i,none⟩ [v] 0):=by
 obtain⟨b,h1,h2,h3,h4,_⟩:=h.set (i:=i) (us:=[.bool true]) (by simp;omega) h0
 obtain⟨hv,hf⟩:=h4 0 (by simp)
 rw[af,Nat.add_zero]at hv hf;refine⟨b,h1,h2,h3,hv,hf,fun v=>?_⟩;obtain⟨b',g1,_,_,_,g5,g6⟩:=h.set (i:=i) (us:=[v]) (by simp;omega) h0
 rw[h1]at g1;cases g1;rw[show vs.take i++[v]++vs.drop (i+[v].length)=vs.set i v by simp[g_A,hi]]at g5
 exact⟨g5,g6⟩
theorem ao.trans{bs:List Nat}{a b c:B_}(h:ao bs a b)(k:ao bs b c):ao bs a c:=fun i hi hlt=>
 ⟨(k i hi (h i hi hlt).1).1,(k i hi (h i hi hlt).1).2.trans (h i hi hlt).2⟩
theorem Locl.keep{bs cs:List Nat}(h:Locl bs w w')(hd:∀b,b∈cs->b<w.heap.size->b∉bs):ao cs w w':=fun b hb hlt=>⟨O_ hlt h.size,h.block b hlt (hd b hb hlt)⟩
theorem Locl.wide{bs cs:List Nat}(h:Locl bs w w')(hc:∀b,b∈cs->b<w.heap.size):Locl (bs++cs) w w':=
 ⟨h.os,h.tape,h.output,h.size,fun k hk hn=>h.block k hk (fun h=>hn (R_A _ h)),fun b hb=>by
  rcases List.mem_append.1 hb with hb|hb
  ·exact h.there b hb
  ·exact O_ (hc b hb) h.size⟩
theorem dP.locl{D:Nat}(h:dP D w w')(hD:D<w.heap.size):Locl [D] w w':=
 ⟨h.os,h.tape,h.output,O_A h.size.symm,fun k _ hk=>h.block k (by simpa using hk),fun b hb=>by rw[h.size];simp at hb;omega⟩
theorem Fg.push{bs:List Nat}{sz:Nat}{base:Option D_}{len cap:Nat}(h:Fg av w u sz base len cap vs)(hL:Locl bs u u')(hb:∀b,b∈bs->b∈av\/u.heap.size<=b):Fg (bs++av) w u' sz base len cap vs:=
 h.locl (hL.wide fun b hb=>(h.avs b hb).2) fun b hm=>by
  rcases List.mem_append.1 hm with hm|hm
  ·exact hb b hm
  ·exact .inl hm
theorem Cs.same(h:Cs w b vs)(e:w'.heap[b]?=w.heap[b]?):Cs w' b vs:=by
 obtain⟨t,ht⟩:=h;exact⟨t,e.trans ht⟩
theorem Cs.keep{bs:List Nat}(h:Cs w b vs)(k:ao bs w w')(hb:b∈bs):Cs w' b vs:=h.same (k b hb h.lt).2
theorem Cs.locl{bs:List Nat}(h:Cs w b vs)(k:Locl bs w w')(hb:b∉bs):Cs w' b vs:=h.same (k.block b h.lt hb)
theorem Cs.put{D:Nat}(h:Cs w b vs)(k:dP D w w')(hb:b≠D):Cs w' b vs:=h.same (k.block b hb)
theorem Sl.pre{base:Option D_}{us:List C_}(h:Sl N w base vs)(hu:us <+:vs):Sl N w base us:=by
 intro j v hj;refine h j v ?_;obtain⟨t,rfl⟩:=hu;rw[X_ (List.getElem?_eq_some_iff.1 hj).1];exact hj
theorem Fg.from{bs:List Nat}{sz:Nat}{base:Option D_}{len cap:Nat}(h:Fg av w w' sz base len cap vs)(hE:Ext w0 w)(hb:∀b,b∈bs->w0.heap.size<=b/\b<w.heap.size):Fg (bs++av) w0 w' sz base len cap vs:=by
 obtain⟨S,h1,h3,h2⟩:=h.own;have hs:=hE.size;have hs':=h.ext.size;refine⟨hE.trans h.ext,⟨S,fun i hi=>N_ hs (h1 i hi),fun b hm hS=>?_,h2⟩,fun b hm=>?_⟩
 ·rcases List.mem_append.1 hm with hm|hm
  ·have:=hb b hm;have:=h1 b hS;omega
  ·exact h3 b hm hS
 ·rcases List.mem_append.1 hm with hm|hm
  ·have:=hb b hm;omega
  ·have:=h.avs b hm;omega
def dz(f:Nat->Nat)(N i:Nat):Nat->Nat:=fun b=>if b<N then f b else i
def IF(w u:B_)(f:Nat->Nat)(i:Nat):Nat->Prop:=fun b=>f b=i/\w.heap.size<=b/\b<u.heap.size
def Th(w u:B_)(f:Nat->Nat)(i:Nat)(base:Option D_)(len cap sz:Nat)(vs:List C_):Prop:=bZ (IF w u f i) u base len cap sz vs
structure mg(w u:B_)(f:Nat->Nat)(L:List Nat):Prop where
 ext:Ext w u
 av:∀b,b∈L->w.heap.size<=b/\b<u.heap.size/\f b=0
theorem dm(h:b<N):dz f N i b=f b:=by simp[dz,h]
theorem iF(h:N<=b):dz f N i b=i:=by simp[dz,Nat.not_lt.2 h]
theorem Th.chg{base:Option D_}{len cap sz:Nat}(h:Th w u f i base len cap sz vs)(hC:Chg Z u u')(hZ:∀b,b<u.heap.size->f b=i->w.heap.size<=b->¬Z b):Th w u' (dz f u.heap.size k) i base len cap sz vs:=
 (bZ.chg h hC fun b hb _=>hZ b hb.2.2 hb.1 hb.2.1).mono fun b hb _=>⟨by rw[dm hb.2.2];exact hb.1,hb.2.1,O_ hb.2.2 hC.size⟩
theorem Th.ext{base:Option D_}{len cap sz:Nat}(h:Th w u f i base len cap sz vs)(hE:Ext u u'):Th w u' (dz f u.heap.size k) i base len cap sz vs:=
 h.chg (Z:=fun _=>False) hE.chg fun _ _ _ _=>id
theorem Th.sl{base:Option D_}{len cap sz:Nat}(h:Th w u f i base len cap sz vs):Sl u.heap.size u base vs:=bZ.sl h
theorem Th.fg{base:Option D_}{len cap sz:Nat}(h:Th w u f i base len cap sz vs)(hE:Ext w u):Fg [] w u sz base len cap vs:=
 ⟨hE,⟨_,fun b hb=>hb.2.1,by simp,⟨h,fun b hb=>hb.2.2⟩⟩,by simp⟩
theorem Th.new{base:Option D_}{len cap sz:Nat}(h:Ow u.heap.size u'.heap.size u' base len cap sz vs)(hE:Ext w u):Th w u' (dz f u.heap.size i) i base len cap sz vs:=
 (h.ownS).mono fun b hb _=>⟨iF hb.1,N_ hE.size hb.1,hb.2⟩
theorem mg.chg(h:mg w u f L)(hC:Chg Z u u')(hZ:∀b,b<u.heap.size->Z b->w.heap.size<=b):mg w u' (dz f u.heap.size k) L:=
 ⟨((h.ext.chg (S:=fun b=>w.heap.size<=b)).trans (hC.mono fun b hb hlt=>hZ b hlt hb) fun b hb _=>hb).ext fun b hb=>hb,fun b hb=>by
  have:=h.av b hb;exact⟨this.1,O_ this.2.1 hC.size,by rw[dm this.2.1];exact this.2.2⟩⟩
theorem mg.step(h:mg w u f L)(hE:Ext u u'):mg w u' (dz f u.heap.size k) L:=h.chg (Z:=fun _=>False) hE.chg fun _ _ h=>h.elim
theorem mg.mono{L':List Nat}(h:mg w u f L)(hL:∀b,b∈L'->b∈L):mg w u f L':=⟨h.ext,fun b hb=>h.av b (hL b hb)⟩
theorem mg.locl{bs:List Nat}(h:mg w u f L)(hL:Locl bs u u')(hb:∀b,b∈bs->b∈L\/u.heap.size<=b):
  mg w u' (dz f u.heap.size 0) (bs++L)/\∀{i:Nat} {base:Option D_} {len cap sz:Nat} {vs:List C_},i≠0->Th w u f i base len cap sz vs->Th w u' (dz f u.heap.size 0) i base len cap sz vs:=by
 have hs:=h.ext.size;have hge:∀b,b∈bs->w.heap.size<=b:=fun b hm=>by
  rcases hb b hm with hm|hm
  ·exact(h.av b hm).1
  ·omega
 have h':=h.chg (k:=0) hL.chg fun b _ hm=>hge b hm;refine⟨⟨h'.ext,fun b hm=>?_⟩,fun hi ht=>ht.chg hL.chg fun b hlt hc _ hm=>?_⟩
 ·rcases List.mem_append.1 hm with hm|hm
  ·refine⟨hge b hm,hL.there b hm,?_⟩
   rcases hb b hm with hm'|hm'
   ·exact(h'.av b hm').2.2
   ·exact iF hm'
  ·exact h'.av b hm
 ·rcases hb b hm with hm|hm
  ·exact hi (hc.symm.trans (h.av b hm).2.2)
  ·omega
theorem Th.app{l:List (Nat×Nat×List C_)}{base:Option D_}{len cap sz bytes:Nat}{elem:F_}
 (h:Th w u f i base len cap sz vs)(hP:mg w u f L)(hi:i≠0)(hl:∀b,b∈am l->b∈L)(hz:zero.length=sz)(hn:fs.length=n*sz)
 (hby:(len+n)*bytes<=2^47)(h62:len+n<2^62)
 (hF:∀base' cap' u',mg w u' (dz f u.heap.size i) L->Th w u' (dz f u.heap.size i) i base' (len+n) cap' sz (vs++fs)->Chg (IF w u f i) u u'->F base' (len+n) cap' u'):
  ay u l base len cap n sz bytes elem zero fs F:=by
 refine bZ.app h (fun b hb hs=>hi (hs.1.symm.trans (hP.av b (hl b hb)).2.2)) hz hn hby h62 fun base' cap' u' ho hC=>hF base' cap' u' (hP.chg hC fun b _ hb=>hb.2.1) (ho.mono fun b hb hlt=>?_) hC;have:=hP.ext.size;have:=hC.size;rcases hb with hb|hb
 ·exact⟨by rw[dm hb.2.2];exact hb.1,hb.2.1,hlt⟩
 ·exact⟨iF hb,by omega,hlt⟩
theorem Th.other{base:Option D_}{len cap sz:Nat}(h:Th w u f j base len cap sz vs)(hC:Chg (IF w u f i) u u')(hij:j≠i):Th w u' (dz f u.heap.size k) j base len cap sz vs:=
 h.chg hC fun b _ hc _ hz=>hij (hc.symm.trans hz.1)
theorem Th.set{base:Option D_}{len cap sz:Nat}(h:Th w u f i base len cap sz vs){us:List C_}(hk:k+us.length<=vs.length)(h0:0<len):
  ∃b,base=some ⟨b,0,none⟩/\IF w u f i b/\dq u ⟨b,k,none⟩ us.length/\Th w (ab u ⟨b,k,none⟩ us 0) f i base len cap sz (vs.take k++us++vs.drop (k+us.length))/\Chg (IF w u f i) u (ab u ⟨b,k,none⟩ us 0):=by
 obtain⟨o1,o2,o3⟩:=h;rcases o3 with o3|⟨b,rest,o3,o4,o5,o6⟩
 ·omega
 have hs:=o6.set (off:=k) (us:=us) (by rw[K_];omega)
 have hl:(vs.take k++us++vs.drop (k+us.length)).length=vs.length:=by simp only[K_,k_,z_];omega
 have e:(vs++rest).take k++us++(vs++rest).drop (k+us.length)=(vs.take k++us++vs.drop (k+us.length))++rest:=by
  rw[A_A (by omega),i_A (by omega)];simp
 rw[e]at hs;refine⟨b,o4,o3,o6.canSet (by rw[K_];omega),⟨by rw[hl];exact o1,o2,.inr ⟨b,rest,⟨o3.1,o3.2.1,by rw[(bS _ _ _ _).size];exact o3.2.2⟩,o4,by rw[hl];exact o5,hs⟩⟩,(Chg.setCells u ⟨b,k,none⟩ us 0).mono fun j hj _=>by have hj:j=b:=hj;rw[hj];exact o3⟩
theorem fP{cap sz:Nat}:aX p 0 cap sz=p:=by
 unfold aX
 split
 ·rfl
 ·cases p with
  |none=>rfl
  |some a=>rw[Option.map_some,Q_A,eg]
theorem Th.same{base:Option D_}{len cap sz:Nat}(h:Th w u f i base len cap sz vs)(hC:Chg Z u u')(hZ:∀b,b<u.heap.size->f b=i->w.heap.size<=b->¬Z b):Th w u' f i base len cap sz vs:=
 (bZ.chg h hC fun b hb _=>hZ b hb.2.2 hb.1 hb.2.1).mono fun b hb _=>⟨hb.1,hb.2.1,O_ hb.2.2 hC.size⟩
theorem mg.same(h:mg w u f L)(hC:Chg Z u u')(hZ:∀b,b<u.heap.size->Z b->w.heap.size<=b):mg w u' f L:=
 ⟨((h.ext.chg (S:=fun b=>w.heap.size<=b)).trans (hC.mono fun b hb hlt=>hZ b hlt hb) fun b hb _=>hb).ext fun b hb=>hb,fun b hb=>by
  have:=h.av b hb;exact⟨this.1,O_ this.2.1 hC.size,this.2.2⟩⟩
structure Tg where
 c:Nat
 p:Option D_
 len:Nat
 cap:Nat
 sz:Nat
 vs:List C_
structure fM(w u:B_)(f:Nat->Nat)(L:List Nat)(l:List Tg):Prop where
 pal:mg w u f L
 th:∀t,t∈l->t.c≠0/\Th w u f t.c t.p t.len t.cap t.sz t.vs
section
variable {w u u' : B_} {f : Nat -> Nat} {L : List Nat} {l : List Tg}
theorem fM.mono(h:fM w u f L l){L':List Nat}{l':List Tg}(hL:∀b,b∈L'->b∈L)(hl:∀t,t∈l'->t∈l):fM w u f L' l':=⟨h.pal.mono hL,fun t ht=>h.th t (hl t ht)⟩
theorem fM.step(h:fM w u f L l)(hE:Ext u u')(k:Nat):fM w u' (dz f u.heap.size k) L l:=⟨h.pal.step hE,fun t ht=>⟨(h.th t ht).1,(h.th t ht).2.ext hE⟩⟩
theorem fM.dr(h:fM w u f L l):fM w u.drew f L l:=⟨h.pal.same (Z:=fun _=>False) (Ext.refl u).drew.chg fun _ _ h=>h.elim,fun t ht=>h.th t ht⟩
theorem fM.locl{bs:List Nat}(h:fM w u f L l)(hL:Locl bs u u')(hb:∀b,b∈bs->b∈L\/u.heap.size<=b):fM w u' (dz f u.heap.size 0) (bs++L) l:=
 ⟨(h.pal.locl hL hb).1,fun t ht=>⟨(h.th t ht).1,(h.pal.locl hL hb).2 (h.th t ht).1 (h.th t ht).2⟩⟩
theorem fM.new{base:Option D_}{len cap sz:Nat}(h:fM w u f L l)(hE:Ext u u')(hi:i≠0)(ho:Ow u.heap.size u'.heap.size u' base len cap sz vs):fM w u' (dz f u.heap.size i) L (⟨i,base,len,cap,sz,vs⟩::l):=
 ⟨h.pal.step hE,fun t ht=>by
  rcases List.mem_cons.1 ht with rfl|ht
  ·exact⟨hi,Th.new ho h.pal.ext⟩
  ·exact⟨(h.th t ht).1,(h.th t ht).2.ext hE⟩⟩
end
theorem BH{a:Int}(h0:0<=a)(h1:a<2^n):(BitVec.ofInt n a).toNat=a.toNat:=by
 rw[BitVec.toNat_ofInt];have:a%(2^n:Nat)=a:=Int.emod_eq_of_lt h0 (by simpa using h1)
 rw[this]
theorem Lp{k:G_}{a b:Int}(a0:0<=a)(a1:a<2^k.bits)(b0:0<=b)(b1:b<2^k.bits):aR .and k a b=((a.toNat&&& b.toNat:Nat):Int):=by
 simp only[aR,BitVec.toNat_and,BH a0 a1,BH b0 b1]
theorem Bw{k:G_}{a b:Int}(a0:0<=a)(a1:a<2^k.bits)(b0:0<=b)(b1:b<2^k.bits):aR .or k a b=((a.toNat|||b.toNat:Nat):Int):=by
 simp only[aR,BitVec.toNat_or,BH a0 a1,BH b0 b1]
theorem CD{k:G_}{a:Int}(a0:0<=a)(a1:a<2^k.bits):aR .and k a 1=a%2:=by
 have h2:(1:Int)<2^k.bits:=by cases k<;>decide
 rw[Lp a0 a1 (by omega) h2]
 rw[show(1:Int).toNat=1 by rfl,Nat.and_one_is_mod]
 omega
theorem mT{k:G_}{a b:Int}(a0:0<=a)(a1:2^i*a+b<2^k.bits)(b0:0<=b)(b1:b<2^i):aR .or k (2^i*a) b=2^i*a+b:=by
 have hp:(0:Int)<2^i:=Z_ (by omega)
 have hm:0<=2^i*a:=i_ (by omega) a0
 rw[Bw hm (by omega) b0 (by omega)]
 obtain⟨m,rfl⟩:=j_A a0;obtain⟨c,rfl⟩:=j_A b0;have hc:c<2^i:=by
  have:((c:Int))<((2^i:Nat):Int):=by simpa using b1
  omega
 have e:((2:Int)^i*(m:Int))=((2^i*m:Nat):Int):=by simp
 rw[e];have:=Nat.two_pow_add_eq_or_of_lt hc m;show(((2^i*m:Nat):Int).toNat|||((c:Nat):Int).toNat:Nat)=((2^i*m:Nat):Int)+(c:Int)
 rw[a_,a_,<-this];simp
theorem gm{k:G_}{a b:Int}(a0:0<=a)(b0:0<=b)(b1:b<=k.bits):an .shr k a b=a/2^b.toNat:=by
 simp only[an];rw[k_A (by omega),Int.fdiv_eq_ediv_of_nonneg _ (S_A (Z_ (by omega)))]
theorem la{k:G_}{a b:Int}(b0:0<=b)(b1:b<=k.bits):an .shl k a b=k.wrap (a*2^b.toNat):=by
 simp only[an];rw[k_A (by omega)]
theorem dj{k:G_}(hk:k.signed=false)(h0:0<=x)(h1:x<2^k.bits):k.wrap x=x:=by
 cases k<;>simp[G_.signed]at hk<;>simp[G_.wrap,G_.signed,G_.bits]at h1⊢<;>omega
theorem Pk(h0:0<=x)(h1:x<256):G_.u8.wrap x=x:=dj rfl h0 h1
theorem OD(h0:0<=x)(h1:x<65536):G_.u16.wrap x=x:=dj rfl h0 h1
theorem Ps(h0:0<=x)(h1:x<18446744073709551616):G_.u64.wrap x=x:=dj rfl h0 h1
open Go.ChangeShapes Go.WideShapes Go.Joins Go.Deep
theorem vP{H:Type}{enc:F_×C_->H}{P:E_}(hl:laidOutB P=true){W W':B_}(hb:Below W.heap.size W W'):
  ∀{ts:List F_} {vs:List C_} {ds:List (DataW H)} {ps:List MemPlace},(ts.all fun t=>P.readableRec t&&decide (t<P.types.size))=true->
   (∀x∈ps,x.block<W.heap.size)->DataW.TrodAll enc P W 0 (fun _=>true) true ts vs ds ps->DataW.TrodAll enc P W' 0 (fun b=>decide (b<W.heap.size)) true ts vs ds ps
 |[],vs,ds,ps,_,_,h=>by
  obtain⟨rfl,rfl,rfl⟩:=trodAll_nil h;exact trodAll_mk0
 |t::ts,vs,ds,ps,ht,hlt,h=>by
  obtain⟨v,vs',d,ds',p,q,rfl,rfl,rfl,h1,h2⟩:=trodAll_cons h;simp only[List.all_cons,l_,decide_eq_true_eq]at ht;exact trodAll_cons_mk (Below.trod hl ht.1.1 ht.1.2 h1 hb fun x hx=>hlt x (by simp[hx]))
   (vP hl hb (by simpa using ht.2) (fun x hx=>hlt x (by simp[hx])) h2)
theorem JR{H:Type}{P:E_}{ts:List F_}{ds:List (DataW H)}(h:(DataW.weightsEach P ts ds).all (·<=reachBytes)=true){d:DataW H}(ht:ts[j]?=some t)(hd:ds[j]?=some d):
  ∀n∈d.weights P t,n<=reachBytes:=fun n hn=>by simpa using List.all_eq_true.1 h n (DataW.weights_mem_each ht hd n hn)
def Ks{H:Type}(d:DataW H)(len:Nat):Prop:=(d=.nil/\len=0)\/∃els sp,d=.slice els sp/\els.length=len
theorem Ks.weight{H:Type}{P:E_}{d:DataW H}{len:Nat}(h:Ks d len)(ht:P.underlying t=some (.slice e))(hw:∀n∈d.weights P t,n<=reachBytes):len*P.bytesOf e<=reachBytes:=by
 rcases h with⟨rfl,rfl⟩|⟨els,sp,rfl,rfl⟩
 ·simp
 ·have:=hw ((els.length+sp.length)*P.bytesOf e) (by simp[DataW.weights,ht])
  have hle:els.length*P.bytesOf e<=(els.length+sp.length)*P.bytesOf e:=y_ _ (by omega)
  omega
theorem LO{H:Type}{enc:F_×C_->H}{P:E_}{W:B_}{k:G_}{fuel:Nat}{x:DataW H×List MemPlace}(ht:P.underlying t=some (.slice e))(he:P.underlying e=some (.int k))(hc:P.cellsOf e=1)
 (h:DataW.trod enc P W 0 (fun _=>true) true fuel t [v]=some x):
  ∃(base:Option D_) (len cap:Nat) (xs:List Int),v=.slice base len cap/\len=xs.length/\len<=cap/\Sl W.heap.size W base (xs.map (C_.int k))/\(∀n∈xs,(Lit.int k n).wf=true)/\Ks x.1 len:=by
 rcases open_ints ht he hc h with⟨hcs,rfl⟩|⟨a,len,cap,zs,hcs,_,hl,hm,hz,rfl,hcell,hwz⟩
 ·cases hcs
  exact⟨none,0,0,[],rfl,rfl,I_ _,Sl.nil _ _ _,by simp,.inl ⟨rfl,rfl⟩⟩
 ·cases hcs
  simp only[if_true]at hz;refine⟨some a,len,cap,zs.take len,rfl,by simp;omega,hl,fun j u hj=>?_,fun n hn=>hwz n (l_A hn),.inr ⟨_,_,rfl,by simp[lits];omega⟩⟩
  ·rw[T_A,Option.map_eq_some_iff]at hj
   obtain⟨n,hn,rfl⟩:=hj;rw[m_A]at hn
   split at hn
   ·have hjz:j<zs.length:=by
     rcases J_ j zs.length with h'|h'
     ·exact h'
     ·rw[U_ h']at hn;cases hn
    have:=hcell j hjz;rw[show zs.getD j 0=n by simp[M_,hn]]at this
    have hb:=B_.block_lt_of_cell? W _ this;rw[dg]at hb;exact⟨a,rfl,hb,this⟩
   ·cases hn
theorem zO{sz:Nat}(h0:0<sz):∀{xs:List (List C_)} {j:Nat},(∀c∈xs,c.length=sz)->xs.flatten[j]?=(xs[j/sz]?).bind (·[j%sz]?)
 |[],j,_=>by simp
 |c::xs,j,h=>by
  have hc:c.length=sz:=h c (by simp)
  rw[n_A];by_cases hj:j<sz
  ·rw[X_ (by omega),U_A hj,V_A hj];rfl
  ·rw[m_ (by omega),hc,zO h0 (fun c hc=>h c (by simp[hc]))]
   obtain⟨k,rfl⟩:∃k,j=k+sz:=⟨j-sz,by omega⟩
   rw[C_A,Nat.add_div_right _ h0,Nat.add_mod_right];rfl
theorem sZ{sz:Nat}:∀{xs:List (List C_)},(∀c∈xs,c.length=sz)->xs.flatten.length=xs.length*sz
 |[],_=>by simp
 |c::xs,h=>by
  rw[n_A,K_,sZ (fun c hc=>h c (by simp[hc])),h c (by simp),L_,Q_];omega
def ax{α:Type}(f:α->List C_)(az:List α):List C_:=(az.map f).flatten
theorem bi{α:Type}{f:α->List C_}{sz:Nat}(hf:∀a,(f a).length=sz)(az:List α):(ax f az).length=az.length*sz:=by
 unfold ax;rw[sZ (sz:=sz) (by simp[hf]),D_A]
theorem oE{α:Type}{f:α->List C_}{sz:Nat}(hf:∀a,(f a).length=sz){az:List α}{a:α}(ha:az[i]?=some a)(hk:k<sz):(ax f az)[i*sz+k]?=(f a)[k]?:=by
 unfold ax;rw[zO (sz:=sz) (by omega) (by simp[hf])]
 have h1:(i*sz+k)/sz=i:=by rw[Nat.add_comm,Nat.add_mul_div_right _ _ (by omega),U_A hk,Y_]
 have h2:(i*sz+k)%sz=k:=by rw[Nat.add_comm,Nat.add_mul_mod_self_right,V_A hk]
 rw[h1,h2,T_A,ha];rfl
theorem Sl.elem{α:Type}{f:α->List C_}{sz:Nat}{base:Option D_}{az:List α}{i:Int}{len:Nat}{a:α}{F:D_->Prop}(h:Sl N w base (ax f az))(hf:∀a,(f a).length=sz)(hs:0<sz)(h0:0<=i)(hl:az.length=len)(ha:az[i.toNat]?=some a)
 (hF:∀c:D_,(∀k v,(f a)[k]?=some v->w.cell? (c.add k)=some v)->F c):aq base len i sz F:=by
 have hlt:i.toNat<az.length:=(List.getElem?_eq_some_iff.1 ha).1;have key:∀k v,(f a)[k]?=some v->∃b,base=some b/\b.spot=none/\w.cell? (b.add (i.toNat*sz+k))=some v:=by
  intro k v hv;have hk:k<sz:=by rw[<-hf a];exact(List.getElem?_eq_some_iff.1 hv).1
  obtain⟨b,h1,h2,h3⟩:=h _ _ ((oE hf ha hk).trans hv);subst h1;refine⟨b,rfl,h.spot fun e=>?_,h3⟩;have:=(oE hf ha hk).trans hv;rw[e]at this;simp at this
 obtain⟨b,hb,hsp,_⟩:=key 0 ((f a)[0]'(by rw[hf];exact hs)) (e_ _)
 refine⟨h0,by omega,b,hb,hF _ fun k v hv=>?_⟩
 obtain⟨b',hb',_,h3⟩:=key k v hv;rw[hb]at hb';cases hb';rw[Je b hsp];exact h3
theorem Pb{n:Int}(h:(Lit.int .u16 n).wf=true):0<=n/\n<65536:=by
 simp[Lit.wf,G_.min,G_.max,G_.signed,G_.bits]at h;omega
end Go.Vc
namespace Go.Proofs.YtoomejkiagonpaaGreatDoor
open Go Go.Vc Go.RowKit
variable {w u w' u' w0 : B_} {R : Ending -> B_ -> Prop} {n i b k N m a j s off M : Nat} {vs fs zero : List C_} {p q : Option D_} {t e : F_} {v : C_} {xs bs : List Int} {l L av : List Nat} {Z : Nat -> Prop} {x : Int} {f : Nat -> Nat} {F : Option D_ -> Nat -> Nat -> B_ -> Prop}
theorem IB{b c:Bool}(h:R (.returned (.bool b)) w)(e:b=c):R (.returned (.bool c)) w:=e▸h
def fQ(x y:Int):Bool:=decide (1<=x/\1<=y/\x<=4096/\y<=4096/\x*y<=65536)
theorem eK{y:Int}:fQ x y=true↔1<=x/\1<=y/\x<=4096/\y<=4096/\x*y<=65536:=by simp[fQ]
theorem yT{y:Int}(h0:1<=x)(h1:1<=y)(h2:x<=4096)(h3:y<=4096):A_.wrap (x*y)=x*y:=by
 have a:0<=x*y:=i_ (by omega) (by omega)
 have b:x*y<=4096*4096:=Int.mul_le_mul h2 h3 (by omega) (by omega)
 exact ai (by omega) (by omega)
theorem JF{y:Int}:(decide (min x y>=1)&&decide (max x y<=4096)&&decide (A_.wrap (x*y)<=65536))=fQ x y:=by
 by_cases h:1<=x/\1<=y/\x<=4096/\y<=4096
 ·rw[yT h.1 h.2.1 h.2.2.1 h.2.2.2,n_];simp only[fQ,l_,decide_eq_true_eq];omega
 ·rw[n_];simp only[fQ,l_,decide_eq_true_eq]
  constructor
  ·intro h';exact(h (by omega)).elim
  ·intro h';exact(h (by omega)).elim
theorem LL{y:Int}(hR:R (.returned (.bool (fQ x y))) w):H_ P 137 #[aa x,aa y] w R:=by
 refine BE _ _ _ _ ?_;unfold xa;rw[JF];exact hR
theorem EU{y:Int}(hR:R (.returned (.bool (fQ x y))) w):H_ P 45 #[aa x,aa y] w R:=by
 refine AE _ _ _ _ ?_;unfold vQ;rw[show(decide (x>=1)&&decide (y>=1)&&decide (x<=4096)&&decide (y<=4096)&&decide (A_.wrap (x*y)<=65536))=fQ x y from ?_]
 ·exact hR
 ·rw[<-JF]
  congr 1;rw[n_];simp only[l_,decide_eq_true_eq];omega
def px(xs:List Int):List C_:=xs.map au
theorem xh(xs:List Int):(px xs).length=xs.length:=by simp[px]
theorem Me(h:i<xs.length):(px xs)[i]?=some (au (xs.getD i 0)):=by simp[px,M_,h]
theorem EQ(xs ys:List Int):px (xs++ys)=px xs++px ys:=by simp[px]
theorem EI(xs:List Int):aN (px xs)=true:=by simp[aN,px,o_A]
abbrev Co:=Int×Int×Int×Int
def co(c:Co):List C_:=[au c.1,au c.2.1,au c.2.2.1,au c.2.2.2]
def Jm(c:Co):List Int:=[c.1,c.2.1,c.2.2.1,c.2.2.2]
theorem Pc(c:Co):co c=px (Jm c):=rfl
def jW(l:List Co):List C_:=ax co l
theorem BQ(l:List Co):(jW l).length=l.length*4:=bi (sz:=4) (fun _=>rfl) l
theorem JZ(a b:List Co):jW (a++b)=jW a++jW b:=by simp[jW,ax]
theorem N4(c:Co):jW [c]=co c:=by simp[jW,ax]
def Dy(l:List Co):List Int:=(l.map Jm).flatten
theorem OL(l:List Co):jW l=px (Dy l):=by
 induction l with
 |nil=>rfl
 |cons c l ih=>
  have h1:jW (c::l)=co c++jW l:=by simp[jW,ax]
  have h2:Dy (c::l)=Jm c++Dy l:=by simp[Dy]
  rw[h1,h2,EQ,ih,Pc]
def iX(xs:List Int)(k:Nat):Co:=(xs.getD (4*k) 0,xs.getD (4*k+1) 0,xs.getD (4*k+2) 0,xs.getD (4*k+3) 0)
def fU(W H:Int)(xs:List Int):Bool:=fQ W H&&decide ((xs.length:Int)=4*(W*H))
theorem Lj{len cap:Nat}{W H:Int}(hl:len=xs.length)
 (hR:∀w',Ext w w'->R (.returned (.bool (fU W H xs))) w'):H_ P 94 #[.agg #[aa W,aa H,.slice p len cap]] w R:=by
 refine zN _ _ _ _ _ _ _ ?_;intro k1 hk1 w1 hL;refine IB (hR w1 (hL.ext (by simpa using hk1))) ?_
 rw[JF,fU];cases hg:fQ W H with
 |false=>rfl
 |true=>
  obtain⟨h1,h2,h3,h4,h5⟩:=eK.1 hg;have hp:0<=W*H:=i_ (by omega) (by omega)
  have e:4*W*H=4*(W*H):=p_A _ _ _;rw[ai (x:=4*W),e,ai (x:=4*(W*H)),hl,n_];simp
theorem GI{len cap:Nat}{W H:Int}(hl:len=xs.length)
 (hR:∀w',Ext w w'->R (.returned (.bool (fU W H xs))) w'):H_ P 18 #[.agg #[aa W,aa H,.slice p len cap]] w R:=by
 refine Ay _ _ _ _ _ _ _ ?_;intro k1 hk1 w1 hL;refine EU ⟨_,rfl,(Ext.refl _).keep _,?_⟩;refine IB (hR w1 (hL.ext (by simpa using hk1))) ?_
 rw[fU];cases hg:fQ W H with
 |false=>rfl
 |true=>
  obtain⟨h1,h2,h3,h4,h5⟩:=eK.1 hg;have hp:0<=W*H:=i_ (by omega) (by omega)
  have e:4*W*H=4*(W*H):=p_A _ _ _;rw[ai (x:=4*W),e,ai (x:=4*(W*H)),hl,n_];simp
structure nm(w:B_)(p:Option D_)(len:Nat)(xs:List Int):Prop where
 sl:Sl w.heap.size w p (px xs)
 len:len=xs.length
theorem nm.ext{len:Nat}(h:nm w p len xs)(hE:Ext w w'):nm w' p len xs:=⟨(h.sl.ext hE).up,h.len⟩
theorem H4{len cap:Nat}(h:Sl N w p (px xs))(hl:len=xs.length)(h4:4<=len)
 (hR:∀w',Ext w w'->R (.returned (.agg (co (iX xs 0)).toArray)) w'):H_ P 96 #[.slice p len cap] w R:=by
 refine wk _ _ _ _ _ ?_;intro k1 hk1;have g:∀(i:Nat) {u:B_} {F:D_->Prop},i<4->Ext w u->(∀a,(∀u',Ext w u'->u'.cell? a=some (au (xs.getD i 0)))->F a)->aq p len (i:Int) 1 F:=by
  intro i u F hi hE hF;obtain⟨a,h1,h2,h3⟩:=h i _ (Me (by omega))
  refine⟨by omega,by omega,a,h1,hF _ fun u' hE'=>?_⟩
  rw[show((i:Int).toNat*1)=i by omega]
  exact hE'.cell h3
 refine g 0 (by omega) (Ext.refl w) fun a1 c1 w1 hL1=>?_
 have hE1:Ext w w1:=hL1.ext (by simpa using hk1)
 refine⟨_,c1 _ hE1,g 1 (by omega) hE1 fun a2 c2=>⟨_,c2 _ hE1,g 2 (by omega) hE1 fun a3 c3=>⟨_,c3 _ hE1,g 3 (by omega) hE1 fun a4 c4=>⟨_,c4 _ hE1,fun w2 hL2=>?_⟩⟩⟩⟩
 exact hR w2 (hE1.step hL2.chg (by simpa using hk1))
theorem Pd{W H y n:Int}(hg:fQ W H=true)(hn:n=4*(W*H))(hx0:0<=x)(hy0:0<=y)(hx:x<W)(hy:y<H):
  0<=y*W+x/\4*(y*W+x)+4<=n/\n<=262144/\A_.wrap (A_.wrap (y*W)+x)=y*W+x/\A_.wrap (4*(y*W+x))=4*(y*W+x):=by
 obtain⟨h1,h2,h3,h4,h5⟩:=eK.1 hg;have a:0<=y*W:=i_ hy0 (by omega)
 have c:y*W+W<=W*H:=by
  rw[show y*W+W=(y+1)*W by rw[Int.add_mul];omega,W_A W H]
  exact q_A (by omega) (by omega)
 refine⟨by omega,by omega,by omega,?_,ai (by omega) (by omega)⟩
 rw[ai (x:=y*W),ai (by omega) (by omega)]
theorem J6:iX (xs.drop (4*k)) 0=iX xs k:=by simp[iX,M_,P_A]
theorem JW{len:Nat}(h:Sl N w p (px xs))(hl:len=xs.length){i:Int}(h0:0<=i)(h1:i<len){F:D_->Prop}
 (hF:∀a,(∀u,Ext w u->u.cell? a=some (au (xs.getD i.toNat 0)))->F a):aq p len i 1 F:=by
 obtain⟨a,e1,e2,e3⟩:=h i.toNat _ (Me (by omega))
 refine⟨h0,h1,a,e1,hF _ fun u hE=>?_⟩;rw[Nat.mul_one];exact hE.cell e3
theorem FV{len cap:Nat}{W H y:Int}(h:nm w p len xs)(hg:fU W H xs=true)(hx0:0<=x)(hy0:0<=y)(hx:x<W)(hy:y<H)
 (hR:∀w',Ext w w'->R (.returned (.agg (co (iX xs (y*W+x).toNat)).toArray)) w'):H_ P 67 #[.agg #[aa W,aa H,.slice p len cap],aa x,aa y] w R:=by
 refine zj _ _ _ _ _ _ _ _ _ ?_;intro k1 hk1 k2 hk2;simp only[fU,l_,decide_eq_true_eq]at hg;obtain⟨p0,p1,p2,p3,p4⟩:=Pd hg.1 hg.2 hx0 hy0 hx hy;have hl:=h.len;rw[p3,p4,ai (x:=4*(y*W+x)+1),ai (x:=4*(y*W+x)+2),ai (x:=4*(y*W+x)+3)];refine JW h.sl hl (by omega) (by omega) fun a1 c1 w1 hL1=>?_
 have hE1:Ext w w1:=hL1.ext (by simp;omega)
 refine⟨_,c1 _ hE1,JW h.sl hl (by omega) (by omega) fun a2 c2=>⟨_,c2 _ hE1,JW h.sl hl (by omega) (by omega) fun a3 c3=>⟨_,c3 _ hE1,JW h.sl hl (by omega) (by omega) fun a4 c4=>⟨_,c4 _ hE1,fun w2 hL2=>?_⟩⟩⟩⟩
 have:=hR w2 (hE1.step hL2.chg (by simp;omega))
 rw[show(4*(y*W+x)).toNat=4*(y*W+x).toNat by omega,show(4*(y*W+x)+1).toNat=4*(y*W+x).toNat+1 by omega,show(4*(y*W+x)+2).toNat=4*(y*W+x).toNat+2 by omega,show(4*(y*W+x)+3).toNat=4*(y*W+x).toNat+3 by omega]
 exact this
def rf:Co:=(0,0,0,0)
def same(W H W' H':Int)(xs ys:List Int):Bool:=decide (W=W'/\H=H'/\xs=ys)
theorem Mm{len cap:Nat}{W H:Int}{c:Co}(h:Fg av w0 w 1 p len cap (px xs))(hsz:len+4<=2^46)
 (hR:∀p' c' w',Fg av w0 w' 1 p' (len+4) c' (px (xs++Jm c))->ao av w w'->R (.returned (.agg #[aa W,aa H,.slice p' (len+4) c'])) w'):
  H_ P 46 #[.agg #[aa W,aa H,.slice p len cap],.agg (co c).toArray] w R:=by
 obtain⟨c1,c2,c3,c4⟩:=c;refine CW _ _ _ _ _ _ _ _ _ _ _ ?_;intro k1 hk1 k2 hk2 k3 hk3 k4 hk4 w1 hL1;have hbs:∀b,b∈[k4,k3,k2,k1]->w.heap.size<=b:=by simp;omega
 have hav:∀b,b∈av->b<w.heap.size:=fun b hb=>(h.avs b hb).2;have h1:=h.locl (hL1.wide hav) fun b hb=>by
  rcases List.mem_append.1 hb with hb|hb
  ·exact .inr (hbs b hb)
  ·exact .inl hb
 refine h1.app' (fun b hb=>R_A _ (by simpa[am]using hb)) rfl rfl (by omega) (by omega) fun p' c' w2 h2 hk2 hs2 w3 hL3=>?_
 have h3:=h2.locl (hL3.wide (cs:=av) fun b hb=>(h2.avs b (E_A _ hb)).2) fun b hb=>.inl hb;rw[show px xs++[au c1,au c2,au c3,au c4]=px (xs++Jm (c1,c2,c3,c4)) by rw[EQ];rfl]at h3
 refine hR p' c' w3 (h3.mono fun b hb=>E_A _ hb) ?_;have hd:∀b,b∈av->b∉[k4,k3,k2,k1]:=fun b hb hm=>by have:=hbs b hm;have:=hav b hb;omega
 have k12:ao av w w2:=(hL1.keep fun b hb _=>hd b hb).trans fun b hb hlt=>hk2 b (E_A _ hb) hlt;exact k12.trans (hL3.keep fun b hb _=>hd b hb)
def CG(n:Nat)(c:Co):List Int:=Dy (R_ n c)
theorem Km(n:Nat)(c:Co):CG (n+1) c=CG n c++Jm c:=by
 unfold CG;rw[List.replicate_succ'];simp[Dy]
def ue(W H:Int)(c:Co):Int×Int×List Int×Int:=if fQ W H then(W,H,CG (W*H).toNat c,0)else(0,0,[],4)
theorem HR{len:Nat}{l:List Co}{F:D_->Prop}(h:Sl N w p (jW l))(hl:l.length=len){i:Int}(h0:0<=i)(h1:i<len)
 (hF:∀a:D_,w.cell? a=some (au (l.getD i.toNat rf).1)->w.cell? (a.add 1)=some (au (l.getD i.toNat rf).2.1)->w.cell? (a.add 2)=some (au (l.getD i.toNat rf).2.2.1)->w.cell? (a.add 3)=some (au (l.getD i.toNat rf).2.2.2)->F a):aq p len i 4 F:=by
 have hlt:i.toNat<l.length:=by omega
 refine h.elem (f:=co) (fun _=>rfl) (by omega) h0 hl (e_ hlt) fun c hc=>?_
 have e:l.getD i.toNat rf=l[i.toNat]:=by simp[M_,hlt]
 rw[e]at hF;have h0:=hc 0 _ rfl;rw[eg]at h0;exact hF c h0 (hc 1 _ rfl) (hc 2 _ rfl) (hc 3 _ rfl)
def gp(xs:List Int)(n:Nat):List Co:=(S_ n).map (iX xs)
theorem nY(xs:List Int)(n:Nat):(gp xs n).length=n:=by simp[gp]
theorem mA{W H:Int}:fU W H xs=true↔fQ W H=true/\(xs.length:Int)=4*(W*H):=by simp[fU]
theorem IG{P:E_}{f:FuncId}{first caps:Array C_}{args:List C_}(hok:rX P f=true)(h:H_ P f (first.toList++args++caps.toList).toArray w R):dO P (.func (.func f) first caps) args w R:=by
 unfold dO;simp only[hok];exact h
theorem KG(l:List Co):aN (jW l)=true:=by rw[OL];exact EI _
structure fB(w:B_)(q:Option D_)(gb cb:Nat)(W H:Int)(l:List Co):Prop where
 ptr:q=some ⟨gb,0,none⟩
 cells:∃rest c,Cs w gb [aa W,aa H,.slice (some ⟨cb,0,none⟩) l.length c]/\l.length<=c/\Cs w cb (jW l++rest)
 ne:gb≠cb
 ok:fQ W H=true
 len:W*H=l.length
theorem fB.chg{gb cb:Nat}{W H:Int}{l:List Co}{S:Nat->Prop}(h:fB w q gb cb W H l)(hc:Chg S w w')(h1:¬S gb)(h2:¬S cb):fB w' q gb cb W H l:=by
 obtain⟨rest,c,h3,h5,h4⟩:=h.cells;exact⟨h.ptr,⟨rest,c,h3.chg hc h1,h5,h4.chg hc h2⟩,h.ne,h.ok,h.len⟩
theorem fB.ext{gb cb:Nat}{W H:Int}{l:List Co}(h:fB w q gb cb W H l)(hc:Ext w w'):fB w' q gb cb W H l:=
 h.chg (S:=fun _=>False) hc.chg id id
theorem fB.lt{gb cb:Nat}{W H:Int}{l:List Co}(h:fB w q gb cb W H l):gb<w.heap.size/\cb<w.heap.size:=by
 obtain⟨rest,c,h3,_,h4⟩:=h.cells;exact⟨h3.lt,h4.lt⟩
theorem fB.dims{gb cb:Nat}{W H:Int}{l:List Co}(h:fB w q gb cb W H l):1<=W/\1<=H/\W<=4096/\H<=4096/\(l.length:Int)<=65536:=by
 have:=eK.1 h.ok;rw[<-h.len];exact this
theorem fB.sl{gb cb:Nat}{W H:Int}{l:List Co}(h:fB w q gb cb W H l):Sl w.heap.size w (some ⟨cb,0,none⟩) (jW l):=by
 obtain⟨rest,c,h3,_,h4⟩:=h.cells;exact h4.sl (by simp) h4.lt
theorem NY{gb cb:Nat}{W H:Int}{l:List Co}(h:fB w q gb cb W H l)(hR:R (.returned (aa H)) w):
  H_ P 102 #[.pointer q] w R:=by
 refine nM _ _ _ ?_;obtain⟨rest,c,h3,_,h4⟩:=h.cells;obtain rfl:=h.ptr;exact al rfl (ap rfl ⟨_,h3.cell (i:=1) rfl,hR⟩)
theorem Ab{len cap:Nat}{l:List Co}
 (h:Sl N w p (jW l))(hl:len=l.length)(hsz:len*8<=2^47)
 (hR:∀p' k w',Ext w w'->Ow w.heap.size w'.heap.size w' p' len k 4 (jW l)->R (.returned (.slice p' len k)) w'):
  H_ P 103 #[.slice p len cap] w R:=by
 refine mu _ _ _ _ _ ?_;unfold iY;refine ak (fun hn=>?_) (fun _ k1 w1 hnew=>⟨jW l,by rw[BQ];omega,KG _,(h.ext hnew.ext).cells,?_⟩)
 ·have hx:l=[]:=by
   cases l with
   |nil=>rfl
   |cons x xs=>obtain⟨a,ha,_⟩:=h 0 (au x.1) rfl;subst ha;cases hn
  subst hx;have hl0:len=0:=by simpa using hl
  subst hl0;exact hR none 0 w (Ext.refl w) (Ow.nil _ _ _ _ _)
 ·have hsz':=hnew.ext.size
  refine(Ow.nil w.heap.size w1.heap.size w1 (some ⟨k1,0,none⟩) 4).app (by simp[am]) hsz' (I_ _) rfl (by rw[BQ];omega) (by omega) (by omega) fun p' k w2 ho hc=>?_
  rw[Y_]at ho⊢;exact hR p' k w2 (hnew.ext.step hc fun i hi=>hi.1) (by simpa using ho)
theorem Mg{len cap:Nat}{W H:Int}{l:List Co}
 (h:Sl N w p (jW l))(hl:len=l.length)(hg:fQ W H=true)(hn:(len:Int)=W*H)
 (hR:∀gb cb w',Ext w w'->w.heap.size<=gb->w.heap.size<=cb->fB w' (some ⟨gb,0,none⟩) gb cb W H l->R (.returned (.tuple #[.pointer (some ⟨gb,0,none⟩),aa 0])) w'):
  H_ P 97 #[aa W,aa H,.slice p len cap] w R:=by
 refine qG _ _ _ _ _ _ _ ?_;obtain⟨g0,g1,g2,g3,g4⟩:=eK.1 hg;have hpos:0<W*H:=Int.mul_pos (by omega) (by omega)
 refine LL ⟨_,rfl,al (by simp[hg]) ?_⟩
 rw[yT g0 g1 g2 g3];refine al (by simp[hn]) ?_
 refine Ab h hl (by omega) fun p' k w' hE ho=>⟨_,_,_,rfl,fun k3 w3 hnew=>?_⟩
 obtain⟨ho1,ho2,ho3⟩:=ho;have hs:=hE.size;rcases ho3 with ho3|⟨b,rest,hb1,hb2,rfl,hcap,hcs⟩
 ·omega
 ·have hcs':=hcs.ext hnew.ext
  refine hR k3 b w3 (hE.trans hnew.ext) (by rw[hnew.1];exact hs) hb1 ⟨rfl,⟨rest,k,?_,by omega,hcs'⟩,?_,hg,by omega⟩
  ·have:=hnew.cs
   rw[<-hl];exact this
  ·have:=hnew.1;omega
theorem CN{F:Fence}{P:E_}{l:Nat}{args:Array C_}{W:B_}{R':Ending->B_->Prop}(h:YieldAt F m P l args W R)(hr:∀e w,R e w->R' e w):YieldAt F m P l args W R':=by
 obtain⟨fn,tmps,assign,body,hy,hR⟩:=h;exact⟨fn,tmps,assign,body,hy,hR.mono hr⟩
theorem IH{P:E_}{f:FuncId}{first caps:Array C_}{args:List C_}(hok:rX P f=true)(h:H_ P f (first.toList++args++caps.toList).toArray w R):rC P (.func (.func f) first caps) args w R:=by
 unfold rC;simp only[hok];exact h
def Pv(go:B_->Prop)(R:Ending->B_->Prop)(e:Ending)(w:B_):Prop:=
 (e=.returned (.bool true)/\go w)\/(e=.returned (.bool false)/\R (.returned (.tuple #[])) w)
theorem J2{N:Nat}{fr1 fr2:D_}{yl:Nat}{len cap:Nat}(J:Nat->B_->Prop)(hl:len=4*n)(hc:len<=cap)(h62:len<2^62)
 (hJ:∀k u,J k u->u.cell? fr1=some (.slice p len cap)/\u.cell? fr2=some (aa 4))(h0:J 0 w)
 (hy:∀(k:Nat) u,k<n->J k u->YieldAt Fence.wide 0 P yl #[.slice (aX p (4*k) (4*k+4) 1) 4 4] u.drew (Pv (J (k+1)) R))
 (hend:∀u,J n u->R (.returned (.tuple #[])) u):
  H_ P 136 #[.func (.yield yl) #[] #[],.pointer (some fr1),.pointer (some fr2)] w R:=by
 refine lR _ _ _ _ _ ?_;refine⟨fun vs w'=>match vs with|[.int _ i]=>∃k:Nat,i=4*(k:Int)/\k<=n/\J k w'|_=>False,fun vs _=>match vs with|[.int _ i]=>(len-i).toNat|_=>0,⟨0,by simp,B_A _,h0⟩,fun i w1 hI=>?_⟩
 obtain⟨k,rfl,hk,hI⟩:=hI;obtain⟨h1,h2⟩:=hJ _ _ hI;refine⟨_,_,_,h1,ak (fun hlt=>?_) (fun hge=>?_)⟩
 ·have hlt:4*(k:Int)<len:=by simpa using hlt
  have hkn:k<n:=by omega
  refine⟨_,h2,_,_,_,h1,by omega,by omega,by omega,_,_,_,h1,?_⟩
  rw[show min (4:Int) (((len:Int).toNat-(4*(k:Int)).toNat:Nat):Int)=4 by omega,ai (x:=4*(k:Int)+4)]
  refine⟨by omega,by omega,by omega,by omega,by omega,?_⟩
  have hyy:=hy k w1 hkn hI;rw[show(4*(k:Int)+4).toNat=4*k+4 by omega,show(4*(k:Int)).toNat=4*k by omega,show 4*k+4-4*k=4 by omega]
  refine CN hyy fun e w4 he=>?_;rcases he with⟨rfl,he⟩|⟨rfl,he⟩
  ·obtain⟨h3,h4⟩:=hJ _ _ he
   refine⟨_,rfl,al rfl ⟨_,h4,?_⟩⟩;rw[ai (x:=4*(k:Int)+4)];refine⟨⟨k+1,by omega,hkn,he⟩,?_⟩
   show(len-(4*(k:Int)+4)).toNat<(len-4*(k:Int)).toNat;omega
  ·exact⟨_,rfl,aY rfl he⟩
 ·have hge:k=n:=by simp at hge;omega
  subst hge;exact hend w1 hI
theorem Ee{len cap:Nat}{W H:Int}(h:nm w p len xs)(hc:len<=cap)
 (h1:fU W H xs=false->∀w',Ext w w'->R (.returned (.tuple #[.pointer none,aa 6])) w')
 (h2:fU W H xs=true->∀gb cb w',Ext w w'->w.heap.size<=gb->w.heap.size<=cb->fB w' (some ⟨gb,0,none⟩) gb cb W H (gp xs (W*H).toNat)->R (.returned (.tuple #[.pointer (some ⟨gb,0,none⟩),aa 0])) w'):
  H_ P 47 #[.agg #[aa W,aa H,.slice p len cap]] w R:=by
 refine zo _ _ _ _ _ _ _ ?_;intro k1 hk1 w1 hL1;have hE1:Ext w w1:=hL1.ext (by simpa using hk1)
 have ht1:=hL1.there k1 (by simp)
 refine Lj h.len fun w2 hE2=>⟨_,rfl,hE2.keep _,?_⟩;have hE12:=hE1.trans hE2;have hs12:=hE12.size;have hs2:=hE2.size;refine ak (fun hb=>h1 (by simpa using hb) w2 hE12) (fun hb=>?_)
 have hb:fU W H xs=true:=by simpa using hb
 obtain⟨hg,hxl⟩:=mA.1 hb;obtain⟨g1,g2,g3,g4,g5⟩:=eK.1 hg;have hpos:0<W*H:=Int.mul_pos (by omega) (by omega)
 have hlen:=h.len;rw[yT g1 g2 g3 g4];refine⟨P_ _,by omega,by omega,by omega,fun k2 w3 hn3 k3 hk3 w4 hL4=>?_⟩
 have hk2:k2=w2.heap.size:=hn3.1;have hk2s:=hn3.size;have hE3:=hE12.trans hn3.ext;have hs3:=hn3.ext.size;have hE4:Ext w w4:=hE3.step hL4.chg (by simp;omega)
 have hs4:=hL4.size;have ht3:=hL4.there k3 (by simp)
 refine oV _ _ _ _ _ _ ?_;intro b1 v1 hn1 b2 v2 hn2;have hb1:b1=w4.heap.size:=hn1.1;have hb2:b2=v1.heap.size:=hn2.1;have hb1s:=hn1.size;have hb2s:=hn2.size;have hE5:Ext w4 v2:=hn1.ext.trans hn2.ext;have hc1:Cs v2 b1 [.slice p len cap]:=hn1.cs.ext hn2.ext;have hc2:Cs v2 b2 [aa 4]:=hn2.cs;refine⟨_,hc2.cell (i:=0) rfl,al (by simp) ⟨_,_,_,rfl,hE5.keep _,fun k4 w6 hrf I1 Z1 stI stZ hI0 rule=>?_⟩⟩
 have hs5:=hE5.size;have hk4:=hrf.eq;have hs6:=hrf.size;have hE6:=hrf.ext;have hv1:=hn2.ext.size;refine IH (by kernel_rfl) ?_
 have hav:∀b,b∈[k4,v2.heap.size,k3,k1,b1,b2]->w.heap.size<=b/\b<w6.heap.size:=by simp;omega
 have hL6:Locl [k4,v2.heap.size,k3,k1,b1,b2] w6 w6:=⟨rfl,rfl,rfl,I_ _,fun _ _ _=>rfl,fun b hb=>(hav b hb).2⟩
 let J:Nat->B_->Prop:=fun k u=>∃q c,I1 [.slice q k c] u/\Fg [k4,v2.heap.size,k3,k1,b1,b2] w u 4 q k c (jW (gp xs k))/\Cs u b1 [.slice p len cap]/\Cs u b2 [aa 4]/\w6.heap.size<=u.heap.size
 refine J2 (N:=0) J (p:=p) (len:=len) (cap:=cap) (n:=(W*H).toNat) (by omega) hc (by omega) (fun k u ⟨q,c,j1,j2,j3,j4,j5⟩=>⟨j3.cell (i:=0) rfl,j4.cell (i:=0) rfl⟩) ?_ (fun k u hk ⟨q,c,j1,j2,j3,j4,j5⟩=>?_) (fun u ⟨q,c,j1,j2,j3,j4,j5⟩=>?_)
 ·refine⟨_,_,hI0,?_,hc1.ext hE6,hc2.ext hE6,I_ _⟩
  have:=hn3.own (N:=k2) (M:=k2+1) (vs:=[]) (len:=0) (cap:=(W*H).toNat) (sz:=4) (by simp) (by simp) (by rw[eO];simp) (by omega) (by omega) (by rw[hn3.2,hk2];simp)
  have o4:=((this.chg hL4.chg (by simp;omega)).ext hE5).ext hE6
  exact Fg.of_owB ((hE4.trans hE5).trans hE6) (o4.owB (by omega)) (fun i hi=>by omega) (by simp;omega) hav
 ·refine rule _ _ _ _ _ _ u.drew _ (stI _ _ _ j1 ((Ext.refl u).drew.keep _)) fun y5 y6 w12 hP12=>?_
  have f12:=j2.dr.push (hP12.locl (show k4<u.heap.size by omega)) (by simp)
  have c12:=j3.drew.put hP12 (by omega)
  have d12:=j4.drew.put hP12 (by omega)
  have hs12':w12.heap.size=u.heap.size:=hP12.size;have hsl:Sl w12.drew.heap.size w12.drew (aX p (4*k) (4*k+4) 1) (px ((xs.drop (4*k)).take 4)):=by
   have h0:Sl w12.drew.heap.size w12.drew p (px (xs.take (4*k+4))):=((h.sl.ext f12.dr.ext).up).pre (by
    simp only[px,r_A];exact List.take_prefix _ _)
   refine h0.part (by rw[xh,k_];omega) ?_
   simp only[px,r_A,List.map_drop,List.drop_take];rw[show 4*k+4-4*k=4 by omega]
   exact List.prefix_refl _
  refine H4 hsl (by rw[k_,z_];omega) (by omega) fun w13 hE13=>?_
  have ecol:iX ((xs.drop (4*k)).take 4) 0=iX xs k:=by
   rw[<-J6];simp[iX,M_,m_A]
  rw[ecol];refine⟨_,_,_,_,rfl,hE13.keep _,hE13.keeps,fun k9 hk9 w14 hL14=>?_⟩;have f13:=f12.dr.step hE13;have hs13:w12.heap.size<=w13.heap.size:=hE13.size;have c13:=c12.drew.ext hE13;have d13:=d12.drew.ext hE13;have f14:=f13.push hL14 (by simp;omega)
  have c14:=c13.locl hL14 (by simp;omega)
  have d14:=d13.locl hL14 (by simp;omega)
  have hs14:=hL14.size;refine f14.app' (by simp[am]) rfl rfl (by omega) (by omega) fun p2 c2 w15 f15 hk15 hs15 w16 hL16 w17 hP17 hI17=>?_
  have c15:=c14.keep hk15 (by simp)
  have d15:=d14.keep hk15 (by simp)
  have f16:=f15.push hL16 (by simp)
  have c16:=c15.locl hL16 (by simp;omega)
  have d16:=d15.locl hL16 (by simp;omega)
  have hs16:=hL16.size;have f17:=f16.push (hP17.locl (by omega)) (by simp)
  have c17:=c16.put hP17 (by omega)
  have d17:=d16.put hP17 (by omega)
  have hs17:=hP17.size;refine .inl ⟨rfl,p2,c2,hI17,?_,c17,d17,by omega⟩
  have e:gp xs (k+1)=gp xs k++[iX xs k]:=by simp[gp,b_]
  rw[e,JZ,N4];exact f17.mono (by simp)
 ·refine⟨_,rfl,.inl ⟨q,_,_,j1,fun w19 hP19=>?_⟩⟩
  have hs19:=hP19.size;have f19:=j2.push (hP19.locl (by omega)) (by simp)
  refine Mg (f19.sl) (by rw[nY]) hg (by omega) fun gb cb w20 hE20 q1 q2 q3=>⟨_,_,rfl,hE20.keep _,fun w21 hP21=>?_⟩
  have hsE:=f19.ext.size;have hs20:=hE20.size;refine h2 hb gb cb w21 ((f19.ext.trans hE20).step hP21.chg (by omega)) (by omega) (by omega) (q3.chg hP21.chg (by omega) (by omega))
theorem lM{a b:Int}(h0:0<=a)(h1:a<=2^60)(hb:1<=b):ad .quo .i64 a b=a/b:=by
 simp only[ad];rw[X_A h0,ai ?_ ?_]
 ·have:=Y_A h0 (show 0<=b by omega);omega
 ·have:=Z_A b h0;omega
theorem O7{a n:Int}(h0:0<=a)(k:G_):ad .rem k a n=a%n:=by simp only[ad];exact o_ h0
def wH(v most:Int):Int:=(v*most+32767)/65535
theorem jl{v most:Int}(h0:0<=v)(h1:v<=65535)(h2:1<=most):0<=wH v most/\wH v most<=most:=by
 unfold wH;have p0:0<=v*most:=i_ h0 (by omega)
 have p1:v*most<=65535*most:=q_A h1 (by omega)
 omega
theorem Lg{v:Int}(h0:0<=v)(h1:v<=65535):ad .quo .i64 (A_.wrap (A_.wrap (A_.wrap v*255)+32767)) 65535=wH v 255:=by
 rw[ai (x:=v),ai (x:=v*255),ai (by omega) (by omega),lM (by omega) (by omega) (by omega)]
 rfl
theorem Lr{v:Int}(h0:0<=v)(h1:v<=65535)(hR:R (.returned (.tuple #[aa (wH v 255),aa 0])) w):H_ P 105 #[au v,aa 255] w R:=by
 refine qm _ _ _ _ ?_;unfold vO;refine al (by simp) ?_
 rw[Lg h0 h1];exact hR
theorem oF{v:Int}(h0:0<=v)(h1:v<=65535)(hR:R (.returned (.tuple #[aa (wH v 255),aa 0])) w):H_ P 64 #[au v,aa 255] w R:=by
 refine Bq _ _ _ _ ?_;unfold vJ;refine al (by simp) ?_
 rw[Lg h0 h1];exact hR
end Go.Proofs.YtoomejkiagonpaaGreatDoor
namespace Go.Qn
variable {w u w' u' w0 : B_} {R : Ending -> B_ -> Prop} {n i b k N m a j s off M : Nat} {vs fs zero : List C_} {p q : Option D_} {t e : F_} {v : C_} {xs bs : List Int} {l L av : List Nat} {Z : Nat -> Prop} {x : Int} {f : Nat -> Nat} {F : Option D_ -> Nat -> Nat -> B_ -> Prop}
variable {α : Type}
def dk(D:Nat->α)(a b:Nat):List α:=(List.range' a (b-a)).map D
theorem fY(D:Nat->α)(a b:Nat):(dk D a b).length=b-a:=by simp[dk]
theorem ff(D:Nat->α)(h1:a<=m)(h2:m<=b):dk D a b=dk D a m++dk D m b:=by
 unfold dk;rw[<-f_,show b-a=(m-a)+(b-m) by omega,<-List.range'_append_1,show a+(m-a)=m by omega]
theorem IY(D:Nat->α)(a:Nat):dk D a (a+1)=[D a]:=by simp[dk]
theorem qX{D E:Nat->α}(h:∀k,a<=k->k<b->D k=E k):dk D a b=dk E a b:=by
 unfold dk;refine a_A fun k hk=>?_;simp only[F_A]at hk;exact h k hk.1 (by omega)
theorem Gf{D E:Nat->α}{a' b':Nat}(hn:b-a=b'-a')(h:∀k,k<b-a->D (a+k)=E (a'+k)):dk D a b=dk E a' b':=by
 refine s_A (by simp[fY,hn]) fun i h1 h2=>?_
 rw[fY]at h1;simp[dk,h i h1]
theorem Dl(D:Nat->α)(h:i<b-a):(dk D a b)[i]?=some (D (a+i)):=by
 simp[dk,h]
def cQ(key:α->Int)(l m:List α):Prop:=∀v:Int,l.filter (fun x=>key x==v)=m.filter (fun x=>key x==v)
theorem cQ.refl(key:α->Int)(l:List α):cQ key l l:=fun _=>rfl
theorem cQ.symm{key:α->Int}{l m:List α}(h:cQ key l m):cQ key m l:=fun v=>(h v).symm
theorem cQ.trans{key:α->Int}{l m n:List α}(h:cQ key l m)(k:cQ key m n):cQ key l n:=fun v=>(h v).trans (k v)
theorem cQ.app{key:α->Int}{l m l' m':List α}(h:cQ key l m)(k:cQ key l' m'):cQ key (l++l') (m++m'):=fun v=>by
 rw[V_,V_,h v,k v]
theorem cQ.swap{key:α->Int}{l m:List α}(h:∀x,x∈l->∀y,y∈m->key x≠key y):cQ key (l++m) (m++l):=fun v=>by
 rw[V_,V_];by_cases hl:l.filter (fun x=>key x==v)=[]
 ·rw[hl];simp
 ·have:m.filter (fun x=>key x==v)=[]:=by
   rw[b_A];intro y hy hv;refine hl ?_;rw[b_A];intro x hx hxv;simp only[beq_iff_eq]at hv hxv;exact h x hx y hy (hxv.trans hv.symm)
  rw[this];simp
theorem cQ.len{key:α->Int}:∀{l m:List α},cQ key l m->l.Perm m:=by
 intro l
 induction l with
 |nil=>
  intro m h;cases m with
  |nil=>exact .nil
  |cons y m=>have:=h (key y);simp at this
 |cons x l ih=>
  intro m h;have hx:=h (key x);rw[c_ (by simp)]at hx
  have hm:x∈m:=(List.mem_filter.1 (hx▸p_:x∈m.filter (fun y=>key y==key x))).1;obtain⟨s,t,rfl,hs⟩:∃s t,m=s++x::t/\∀y,y∈s->key y≠key x:=by
   clear ih h hm
   induction m with
   |nil=>simp at hx
   |cons y m ih=>
    by_cases hy:key y=key x
    ·rw[c_ (by simpa using hy)]at hx
     exact⟨[],m,by rw[(G_A hx).1];rfl,by simp⟩
    ·rw[q_ (by simpa using hy)]at hx
     obtain⟨s,t,h1,h2⟩:=ih hx;exact⟨y::s,t,by rw[h1];rfl,fun z hz=>by rcases List.mem_cons.1 hz with rfl|hz;exact hy;exact h2 z hz⟩
  refine(List.Perm.cons x (ih (m:=s++t) fun v=>?_)).trans List.perm_middle.symm;have hv:=h v;by_cases e:key x=v
  ·rw[c_ (by simpa using e),V_,c_ (by simpa using e)]at hv
   have:s.filter (fun x=>key x==v)=[]:=by
    rw[b_A];intro y hy hyv;simp only[beq_iff_eq]at hyv;exact hs y hy (hyv.trans e.symm)
   rw[this]at hv;rw[V_,this];exact(G_A hv).2
  ·rw[q_ (by simpa using e),V_,q_ (by simpa using e)]at hv
   rw[hv,V_]
def mh(key:α->Int)(l:List α):Prop:=l.Pairwise (fun x y=>key x<=key y)
theorem cQ.uniq{key:α->Int}:∀{l m:List α},cQ key l m->mh key l->mh key m->l=m:=by
 intro l
 induction l with
 |nil=>
  intro m h _ _;cases m with
  |nil=>rfl
  |cons y m=>have:=h (key y);simp at this
 |cons x l ih=>
  intro m h hl hm;cases m with
  |nil=>have:=h (key x);simp at this
  |cons y m=>
   have hp:=h.len;have hxy:key x=key y:=by
    have h1:x∈y::m:=hp.subset p_;have h2:y∈x::l:=hp.symm.subset p_;have h3:key y<=key x:=by
     rcases List.mem_cons.1 h1 with e|h1
     ·rw[e];exact P_ _
     ·exact(List.pairwise_cons.1 hm).1 x h1
    have h4:key x<=key y:=by
     rcases List.mem_cons.1 h2 with e|h2
     ·rw[e];exact P_ _
     ·exact(List.pairwise_cons.1 hl).1 y h2
    omega
   have h1:=h (key x);rw[c_ (by simp),c_ (by simpa using hxy.symm)]at h1
   have e:x=y:=(G_A h1).1;subst e;refine congrArg (List.cons x) (ih (fun v=>?_) (List.pairwise_cons.1 hl).2 (List.pairwise_cons.1 hm).2);have h2:=h v;by_cases e:key x=v
   ·rw[c_ (by simpa using e),c_ (by simpa using e)]at h2
    exact(G_A h2).2
   ·rwa[q_ (by simpa using e),q_ (by simpa using e)]at h2
def fT(key:α->Int)(l:List α):List α:=l.mergeSort (fun a b=>decide (key a<=key b))
theorem uA(key:α->Int)(l:List α):mh key (fT key l):=by
 have:=List.pairwise_mergeSort (le:=fun a b=>decide (key a<=key b)) (by intro a b c;simp;omega) (by intro a b;simp;omega) l
 exact this.imp (by intro a b h;simpa using h)
theorem dy(key:α->Int)(l:List α):(fT key l).Perm l:=List.mergeSort_perm l _
theorem EN(key:α->Int)(l:List α):cQ key (fT key l) l:=fun v=>by
 have h1:(l.filter (fun x=>key x==v)).Sublist (fT key l):=by
  refine List.sublist_mergeSort (by intro a b c;simp;omega) (by intro a b;simp;omega) ?_ List.filter_sublist
  rw[List.pairwise_iff_forall_sublist];intro a b hab;have ha:=List.mem_filter.1 (hab.subset (by simp:a∈[a,b]))
  have hb:=List.mem_filter.1 (hab.subset (by simp:b∈[a,b]))
  have h1:=ha.2;have h2:=hb.2;simp only[beq_iff_eq]at h1 h2;simp;omega
 have h2:=h1.filter (fun x=>key x==v);rw[List.filter_filter]at h2;simp only[Bool.and_self]at h2;exact(h2.eq_of_length ((dy key l).filter _).length_eq.symm).symm
theorem wM{key:α->Int}{l m:List α}(h:cQ key l m)(hm:mh key m):m=fT key l:=(h.symm.trans (EN key l).symm).uniq hm (uA key l)
def ca(key:α->Int)(D:Nat->α)(a b:Nat):Prop:=∀p q,a<=p->p<q->q<b->key (D p)<=key (D q)
theorem ca.asc{key:α->Int}{D:Nat->α}(h:ca key D a b):mh key (dk D a b):=by
 unfold mh;rw[List.pairwise_iff_getElem];intro i j hi hj hij;simp only[fY]at hi hj;simpa[dk]using h (a+i) (a+j) (by omega) (by omega) (by omega)
structure dE(key:α->Int)(D E:Nat->α)(a b:Nat):Prop where
 out:∀k,k<a\/b<=k->E k=D k
 same:cQ key (dk D a b) (dk E a b)
theorem dE.refl(key:α->Int)(D:Nat->α)(a b:Nat):dE key D D a b:=⟨fun _ _=>rfl,cQ.refl _ _⟩
theorem dE.trans{key:α->Int}{D E F:Nat->α}(h:dE key D E a b)(k:dE key E F a b):dE key D F a b:=
 ⟨fun i hi=>(k.out i hi).trans (h.out i hi),h.same.trans k.same⟩
theorem dE.wide{key:α->Int}{D E:Nat->α}{a' b':Nat}(h:dE key D E a b)(h1:a'<=a)(h2:b<=b')(hab:a<=b):dE key D E a' b':=by
 refine⟨fun i hi=>h.out i (by omega),?_⟩
 rw[ff D h1 (by omega),ff D hab h2,ff E h1 (by omega),ff E hab h2]
 refine cQ.app ?_ (cQ.app h.same ?_)
 ·rw[qX (D:=D) (E:=E) fun k _ hk=>(h.out k (by omega)).symm];exact cQ.refl _ _
 ·rw[qX (D:=D) (E:=E) fun k hk _=>(h.out k (by omega)).symm];exact cQ.refl _ _
theorem dE.mem{key:α->Int}{D E:Nat->α}(h:dE key D E a b)(h1:a<=k)(h2:k<b):∃j,a<=j/\j<b/\E k=D j:=by
 have h3:E k∈dk E a b:=by
  unfold dk;exact List.mem_map_of_mem (by simp only[F_A];omega)
 have h4:=h.same.len.symm.subset h3;unfold dk at h4;obtain⟨j,hj,e⟩:=List.mem_map.1 h4;simp only[F_A]at hj;exact⟨j,by omega,by omega,e.symm⟩
def swp(D:Nat->α)(i j:Nat):Nat->α:=fun k=>if k=i then D j else if k=j then D i else D k
theorem dE.swp{key:α->Int}{D:Nat->α}(h:key (D (j+1))<key (D j)):dE key D (swp D j (j+1)) j (j+2):=by
 refine⟨fun k hk=>by simp only[Qn.swp];rw[if_neg (by omega),if_neg (by omega)],?_⟩
 have e:∀F:Nat->α,dk F j (j+2)=[F j]++[F (j+1)]:=fun F=>by rw[ff F (Nat.le_succ j) (by omega:j+1<=j+2),IY];rw[show j+2=j+1+1 from rfl,IY]
 rw[e,e];have:Qn.swp D j (j+1) j=D (j+1):=by simp[Qn.swp]
 rw[this];have:Qn.swp D j (j+1) (j+1)=D j:=by simp[Qn.swp]
 rw[this];exact cQ.swap fun x hx y hy=>by simp at hx hy;subst hx;subst hy;omega
structure fi(key:α->Int)(D:Nat->α)(a j i:Nat):Prop where
 lo:ca key D a j
 hi:ca key D j (i+1)
 mid:∀p q,a<=p->p<j->j<q->q<=i->key (D p)<=key (D q)
theorem fi.start{key:α->Int}{D:Nat->α}(h:ca key D a i):fi key D a i i:=⟨h,fun p q h1 h2 h3=>by omega,fun p q h1 h2 h3 h4=>by omega⟩
theorem fi.step{key:α->Int}{D:Nat->α}(h:fi key D a (j+1) i)(haj:a<=j)(_hji:j+1<=i)(hlt:key (D (j+1))<key (D j)):fi key (Qn.swp D j (j+1)) a j i:=by
 have e1:Qn.swp D j (j+1) j=D (j+1):=by simp[Qn.swp]
 have e2:Qn.swp D j (j+1) (j+1)=D j:=by simp[Qn.swp]
 have e3:∀k,k≠j->k≠j+1->Qn.swp D j (j+1) k=D k:=fun k h1 h2=>by simp[Qn.swp,h1,h2]
 refine⟨fun p q h1 h2 h3=>?_,fun p q h1 h2 h3=>?_,fun p q h1 h2 h3 h4=>?_⟩
 ·rw[e3 p (by omega) (by omega),e3 q (by omega) (by omega)];exact h.lo p q h1 h2 (by omega)
 ·rcases g_ h1 with rfl|h1
  ·rw[e1]
   rcases J_ (j+1) q with hq|hq
   ·rw[e3 q (by omega) (by omega)];exact h.hi (j+1) q (by omega) (by omega) h3
   ·rw[show q=j+1 by omega,e2];omega
  ·rcases J_ (j+1) p with hp|hp
   ·rw[e3 p (by omega) (by omega),e3 q (by omega) (by omega)];exact h.hi p q (by omega) h2 h3
   ·rw[show p=j+1 by omega,e2,e3 q (by omega) (by omega)];exact h.mid j q haj (by omega) (by omega) (by omega)
 ·rw[e3 p (by omega) (by omega)]
  rcases J_ (j+1) q with hq|hq
  ·rw[e3 q (by omega) (by omega)];exact h.mid p q h1 (by omega) hq h4
  ·rw[show q=j+1 by omega,e2];exact h.lo p j h1 h2 (by omega)
theorem fi.done{key:α->Int}{D:Nat->α}(h:fi key D a j i)(hd:j<=a\/∃p,j=p+1/\key (D p)<=key (D j)):ca key D a (i+1):=by
 intro p q h1 h2 h3;rcases J_ p j with hp|hp
 ·rcases J_ q j with hq|hq
  ·exact h.lo p q h1 h2 hq
  ·rcases g_ hq with rfl|hq
   ·rcases hd with hd|⟨r,hr,hd⟩
    ·omega
    ·subst hr
     rcases J_ p r with hpr|hpr
     ·have:=h.lo p r h1 hpr (by omega);omega
     ·rw[show p=r by omega];exact hd
   ·exact h.mid p q h1 hp hq (by omega)
 ·exact h.hi p q hp h2 h3
def dh(D:Nat->α)(a m b:Nat):Nat->α:=fun k=>if k<a then D k else if k<a+(b-m)then D (k+(m-a))else if k<b then D (k-(b-m))else D k
def qV(D:Nat->α)(p q n:Nat):Nat->α:=fun k=>if p<=k/\k<p+n then D (k-p+q)else if q<=k/\k<q+n then D (k-q+p)else D k
theorem Ny(D:Nat->α)(p q:Nat):qV D p q 0=D:=by
 funext k;simp only[qV];rw[if_neg (by omega),if_neg (by omega)]
theorem ML(D:Nat->α){p q:Nat}(h:p+n<q):swp (qV D p q n) (p+n) (q+n)=qV D p q (n+1):=by
 funext k
 simp only[swp,qV]
 repeat' split
 all_goals first|(exfalso;omega)|(congr 1;omega)|rfl
theorem Nu(D:Nat->α)(ham:a<m)(hmb:m<b)(h:b-m<m-a):dh (qV D a m (b-m)) (a+(b-m)) m b=dh D a m b:=by
 funext k
 simp only[dh,qV]
 repeat' split
 all_goals first|(exfalso;omega)|(congr 1;omega)|rfl
theorem LS(D:Nat->α)(ham:a<m)(hmb:m<b)(h:m-a<b-m):dh (qV D a (b-(m-a)) (m-a)) a m (b-(m-a))=dh D a m b:=by
 funext k
 simp only[dh,qV]
 repeat' split
 all_goals first|(exfalso;omega)|(congr 1;omega)|rfl
theorem Mx(D:Nat->α)(ham:a<m)(hmb:m<b)(h:m-a=b-m):qV D a m (m-a)=dh D a m b:=by
 funext k
 simp only[dh,qV]
 repeat' split
 all_goals first|(exfalso;omega)|(congr 1;omega)|rfl
theorem BB(D:Nat->α)(h:m=a\/m=b):dh D a m b=D:=by
 funext k
 simp only[dh]
 repeat' split
 all_goals first|(exfalso;omega)|(congr 1;omega)|rfl
theorem Oh(D:Nat->α)(ham:a<=m)(hmb:m<=b):dk (dh D a m b) a b=dk D m b++dk D a m:=by
 rw[ff _ (show a<=a+(b-m) by omega) (show a+(b-m)<=b by omega)]
 have e1:dk (dh D a m b) a (a+(b-m))=dk D m b:=Gf (by omega) fun k hk=>by
  simp only[dh];rw[if_neg (by omega),if_pos (by omega)];congr 1;omega
 have e2:dk (dh D a m b) (a+(b-m)) b=dk D a m:=Gf (by omega) fun k hk=>by
  simp only[dh];rw[if_neg (by omega),if_neg (by omega),if_pos (by omega)];congr 1;omega
 rw[e1,e2]
structure tw(key:α->Int)(D:Nat->α)(a s m e b:Nat):Prop where
 az:a<=s
 sm:s<=m
 me:m<=e
 eb:e<=b
 lt:s=m\/m=e\/key (D (e-1))<key (D s)
 le:a=s\/e=b\/key (D (s-1))<=key (D e)
theorem tw.rear{key:α->Int}{D:Nat->α}{e:Nat}(h:tw key D a s m e b)(hl:ca key D a m)(hr:ca key D m b):dE key D (dh D s m e) s e:=by
 have h1:=h.az;have h2:=h.sm;have h3:=h.me;have h4:=h.eb;refine⟨fun k hk=>?_,?_⟩
 ·simp only[dh]
  rcases hk with hk|hk
  ·rw[if_pos hk]
  ·rw[if_neg (by omega),if_neg (by omega),if_neg (by omega)]
 ·rw[Oh D h2 h3,ff D h2 h3]
  refine cQ.swap fun x hx y hy=>?_;unfold dk at hx hy;obtain⟨i,hi,rfl⟩:=List.mem_map.1 hx;obtain⟨j,hj,rfl⟩:=List.mem_map.1 hy;simp only[F_A]at hi hj;have hlt:=h.lt;have t1:key (D s)<=key (D i):=by
   rcases g_ hi.1 with e|e
   ·rw[e];exact P_ _
   ·exact hl s i h1 e (by omega)
  have t2:key (D j)<=key (D (e-1)):=by
   rcases J_ j (e-1)with g|g
   ·exact hr j (e-1) hj.1 g (by omega)
   ·rw[show j=e-1 by omega];exact P_ _
  omega
theorem tw.lo{key:α->Int}{D:Nat->α}{e:Nat}(h:tw key D a s m e b)(hl:ca key D a m)(hr:ca key D m b):
  ca key (dh D s m e) a s/\ca key (dh D s m e) s (s+(e-m))/\ca key (dh D s m e) (s+(e-m)) e/\ca key (dh D s m e) e b:=by
 have h1:=h.az;have h2:=h.sm;have h3:=h.me;have h4:=h.eb;refine⟨fun p q hp hpq hq=>?_,fun p q hp hpq hq=>?_,fun p q hp hpq hq=>?_,fun p q hp hpq hq=>?_⟩
 ·simp only[dh];rw[if_pos (by omega),if_pos (by omega)];exact hl p q hp hpq (by omega)
 ·simp only[dh];rw[if_neg (by omega),if_pos (by omega),if_neg (by omega),if_pos (by omega)];exact hr _ _ (by omega) (by omega) (by omega)
 ·simp only[dh];rw[if_neg (by omega),if_neg (by omega),if_pos (by omega),if_neg (by omega),if_neg (by omega),if_pos (by omega)];exact hl _ _ (by omega) (by omega) (by omega)
 ·simp only[dh];rw[if_neg (by omega),if_neg (by omega),if_neg (by omega),if_neg (by omega),if_neg (by omega),if_neg (by omega)];exact hr _ _ (by omega) (by omega) (by omega)
theorem tw.mid{key:α->Int}{D:Nat->α}{e:Nat}(h:tw key D a s m e b)(hl:ca key D a m)(hr:ca key D m b):
  ∀p q,a<=p->p<s+(e-m)->s+(e-m)<=q->q<b->key (dh D s m e p)<=key (dh D s m e q):=by
 have h1:=h.az;have h2:=h.sm;have h3:=h.me;have h4:=h.eb;have hlt:=h.lt;have hle:=h.le;have L:∀i j,a<=i->i<=j->j<m->key (D i)<=key (D j):=fun i j hi hij hj=>by
  rcases g_ hij with e|e
  ·rw[e];exact P_ _
  ·exact hl i j hi e hj
 have R:∀i j,m<=i->i<=j->j<b->key (D i)<=key (D j):=fun i j hi hij hj=>by
  rcases g_ hij with e|e
  ·rw[e];exact P_ _
  ·exact hr i j hi e hj
 intro p q hp hps hq hqb;simp only[dh];by_cases c1:p<s
 ·rw[if_pos c1,if_neg (by omega),if_neg (by omega)]
  by_cases c2:q<e
  ·rw[if_pos c2];exact L _ _ (by omega) (by omega) (by omega)
  ·rw[if_neg c2]
   have t1:=L p (s-1) (by omega) (by omega) (by omega)
   have t2:=R e q (by omega) (by omega) (by omega)
   omega
 ·rw[if_neg c1,if_pos hps,if_neg (by omega),if_neg (by omega)]
  by_cases c2:q<e
  ·rw[if_pos c2]
   have t1:=R (p+(m-s)) (e-1) (by omega) (by omega) (by omega)
   have t2:=L s (q-(e-m)) (by omega) (by omega) (by omega)
   omega
  ·rw[if_neg c2];exact R _ _ (by omega) (by omega) (by omega)
theorem tw.merge{key:α->Int}{D E F:Nat->α}{e:Nat}(h:tw key D a s m e b)(hl:ca key D a m)(hr:ca key D m b)
 (h1:dE key (dh D s m e) E a (s+(e-m)))(h2:ca key E a (s+(e-m)))(h3:dE key E F (s+(e-m)) b)(h4:ca key F (s+(e-m)) b):
  dE key D F a b/\ca key F a b:=by
 have i1:=h.az;have i2:=h.sm;have i3:=h.me;have i4:=h.eb;refine⟨(((h.rear hl hr).wide i1 i4 (by omega)).trans (h1.wide (I_ _) (by omega) (by omega))).trans (h3.wide (by omega) (I_ _) (by omega)),fun p q hp hpq hq=>?_⟩
 rcases J_ p (s+(e-m))with c1|c1
 ·rcases J_ q (s+(e-m))with c2|c2
  ·rw[h3.out p (by omega),h3.out q (by omega)];exact h2 p q hp hpq c2
  ·rw[h3.out p (by omega)]
   obtain⟨i,ia,ib,ie⟩:=h1.mem hp c1;obtain⟨j,ja,jb,je⟩:=h3.mem c2 hq;rw[ie,je,h1.out j (by omega)]
   exact h.mid hl hr i j ia ib ja jb
 ·exact h4 p q c1 hpq hq
theorem tw.all{key:α->Int}{D:Nat->α}{e:Nat}(h:tw key D a s m e b)(hl:ca key D a m)(hr:ca key D m b)
 (hx:s=m\/e=b\/key (D (m-1))<=key (D e))(hy:s=a\/e=m\/key (D (s-1))<=key (D m)):
  dE key D (dh D s m e) a b/\ca key (dh D s m e) a b:=by
 have i1:=h.az;have i2:=h.sm;have i3:=h.me;have i4:=h.eb;have hlt:=h.lt;have hle:=h.le;have L:∀i j,a<=i->i<=j->j<m->key (D i)<=key (D j):=fun i j hi hij hj=>by
  rcases g_ hij with e|e
  ·rw[e];exact P_ _
  ·exact hl i j hi e hj
 have R:∀i j,m<=i->i<=j->j<b->key (D i)<=key (D j):=fun i j hi hij hj=>by
  rcases g_ hij with e|e
  ·rw[e];exact P_ _
  ·exact hr i j hi e hj
 refine⟨(h.rear hl hr).wide i1 i4 (by omega),fun p q hp hpq hq=>?_⟩
 rcases J_ p (s+(e-m))with c1|c1
 ·rcases J_ q (s+(e-m))with c2|c2
  ·simp only[dh]
   by_cases d1:q<s
   ·rw[if_pos (by omega),if_pos d1];exact L _ _ hp (by omega) (by omega)
   ·rw[if_neg d1,if_pos c2]
    by_cases d2:p<s
    ·rw[if_pos d2]
     have t1:=L p (s-1) (by omega) (by omega) (by omega)
     have t2:=R m (q+(m-s)) (by omega) (by omega) (by omega)
     omega
    ·rw[if_neg d2,if_pos c1];exact R _ _ (by omega) (by omega) (by omega)
  ·exact h.mid hl hr p q hp c1 c2 hq
 ·simp only[dh]
  by_cases d1:p<e
  ·rw[if_neg (by omega),if_neg (by omega),if_pos d1,if_neg (by omega),if_neg (by omega)]
   by_cases d2:q<e
   ·rw[if_pos d2];exact L _ _ (by omega) (by omega) (by omega)
   ·rw[if_neg d2]
    have t1:=L (p-(e-m)) (m-1) (by omega) (by omega) (by omega)
    have t2:=R e q (by omega) (by omega) (by omega)
    omega
  ·rw[if_neg (by omega),if_neg (by omega),if_neg d1,if_neg (by omega),if_neg (by omega),if_neg (by omega)]
   exact R _ _ (by omega) (by omega) (by omega)
theorem OH(D:Nat->α)(h:a<=k):swp (dh D a (a+1) (k+1)) k (k+1)=dh D a (a+1) (k+2):=by
 funext i
 simp only[swp,dh]
 repeat' split
 all_goals first|(exfalso;omega)|(congr 1;omega)|rfl
theorem Mo(D:Nat->α)(h:k+1<=m):swp (dh D (k+1) m (m+1)) (k+1) k=dh D k m (m+1):=by
 funext i
 simp only[swp,dh]
 repeat' split
 all_goals first|(exfalso;omega)|(congr 1;omega)|rfl
theorem ca.sub{key:α->Int}{D:Nat->α}{a' b':Nat}(h:ca key D a b)(h1:a<=a')(h2:b'<=b):ca key D a' b':=fun p q hp hpq hq=>h p q (by omega) hpq (by omega)
theorem ca.congr{key:α->Int}{D E:Nat->α}(h:ca key D a b)(he:∀k,a<=k->k<b->E k=D k):ca key E a b:=fun p q hp hpq hq=>by
 rw[he p hp (by omega),he q (by omega) hq];exact h p q hp hpq hq
theorem ca.short{key:α->Int}{D:Nat->α}(h:b<=a+1):ca key D a b:=fun p q hp hpq hq=>by omega
section
variable {α : Type}
def kP(key:α->Int):List α->List α->List α
 |[],B=>B
 |a::A,[]=>a::A
 |a::A,b::B=>if key a<=key b then a::kP key A (b::B)else b::kP key (a::A) B
termination_by A B=>A.length+B.length
theorem yC{key:α->Int}:∀{n:Nat} {A B:List α},A.length+B.length<=n->∀x,x∈kP key A B->x∈A\/x∈B
 |n,[],B,_,x,h=>by rw[kP]at h;exact .inr h
 |n,a::A,[],_,x,h=>by rw[kP]at h;exact .inl h
 |0,a::A,b::B,hn,x,h=>by simp at hn
 |n+1,a::A,b::B,hn,x,h=>by
  rw[kP]at h;simp only[L_]at hn
  split at h
  ·rcases List.mem_cons.1 h with rfl|h
   ·exact .inl (p_ ..)
   ·rcases yC (n:=n) (by simp only[L_];omega) x h with h|h
    ·exact .inl (t_A _ h)
    ·exact .inr h
  ·rcases List.mem_cons.1 h with rfl|h
   ·exact .inr (p_ ..)
   ·rcases yC (n:=n) (by simp only[L_];omega) x h with h|h
    ·exact .inl h
    ·exact .inr (t_A _ h)
theorem Dh{key:α->Int}:∀{n:Nat} {A B:List α},A.length+B.length<=n->mh key A->mh key B->mh key (kP key A B)
 |n,[],B,_,_,h=>by rw[kP];exact h
 |n,a::A,[],_,h,_=>by rw[kP];exact h
 |0,a::A,b::B,hn,_,_=>by simp at hn
 |n+1,a::A,b::B,hn,hA,hB=>by
  simp only[L_]at hn;have hA':=List.pairwise_cons.1 hA;have hB':=List.pairwise_cons.1 hB;rw[kP]
  split
  ·rename_i h
   refine List.pairwise_cons.2 ⟨fun x hx=>?_,Dh (n:=n) (by simp only[L_];omega) hA'.2 hB⟩
   rcases yC (I_ _) x hx with hx|hx
   ·exact hA'.1 x hx
   ·rcases List.mem_cons.1 hx with rfl|hx
    ·exact h
    ·have:=hB'.1 x hx;omega
  ·rename_i h
   refine List.pairwise_cons.2 ⟨fun x hx=>?_,Dh (n:=n) (by simp only[L_];omega) hA hB'.2⟩
   rcases yC (I_ _) x hx with hx|hx
   ·rcases List.mem_cons.1 hx with rfl|hx
    ·omega
    ·have:=hA'.1 x hx;omega
   ·exact hB'.1 x hx
theorem Ao{key:α->Int}:∀{n:Nat} {A B:List α},A.length+B.length<=n->mh key A->cQ key (A++B) (kP key A B)
 |n,[],B,_,_=>by rw[kP];exact cQ.refl _ _
 |n,a::A,[],_,_=>by rw[kP,u_A];exact cQ.refl _ _
 |0,a::A,b::B,hn,_=>by simp at hn
 |n+1,a::A,b::B,hn,hA=>by
  simp only[L_]at hn;have hA':=List.pairwise_cons.1 hA;rw[kP]
  split
  ·have ih:=Ao (key:=key) (n:=n) (A:=A) (B:=b::B) (by simp only[L_];omega) hA'.2
   exact cQ.app (cQ.refl key [a]) ih
  ·rename_i h
   have ih:=Ao (key:=key) (n:=n) (A:=a::A) (B:=B) (by simp only[L_];omega) hA
   have sw:cQ key ((a::A)++[b]) ([b]++(a::A)):=cQ.swap fun x hx y hy=>by
    simp at hy;subst hy;rcases List.mem_cons.1 hx with rfl|hx
    ·omega
    ·have:=hA'.1 x hx;omega
   have h1:cQ key ((a::A)++b::B) (b::((a::A)++B)):=by
    have:=cQ.app sw (cQ.refl key B);simpa using this
   exact h1.trans (cQ.app (cQ.refl key [b]) ih)
theorem Nz{key:α->Int}{A B:List α}(hA:mh key A)(hB:mh key B):fT key (A++B)=kP key A B:=
 (wM (Ao (I_ _) hA) (Dh (I_ _) hA hB)).symm
theorem AT{key:α->Int}:∀{n:Nat} {A B:List α} {m:Nat},A.length+B.length<=n->mh key A->m<=A.length+B.length->
  ∃a b,a<=A.length/\b<=B.length/\a+b=m/\((kP key A B).take m).Perm (A.take a++B.take b)/\∀i j x y,j<b->A[i]?=some x->B[j]?=some y->key x<=key y->i<a
 |n,[],B,m,_,_,hm=>by
  refine⟨0,m,I_ _,by simpa using hm,by omega,?_,fun i j x y _ hx=>by simp at hx⟩
  rw[kP];simp
 |n,a::A,[],m,_,_,hm=>by
  refine⟨m,0,by simpa using hm,I_ _,by omega,?_,fun i j x y h=>by omega⟩
  rw[kP];simp
 |0,a::A,b::B,m,hn,_,_=>by simp at hn
 |n+1,a::A,b::B,m,hn,hA,hm=>by
  simp only[L_]at hn hm;have hA':=List.pairwise_cons.1 hA;cases m with
  |zero=>exact⟨0,0,B_A _,B_A _,rfl,by simp,fun i j x y h=>by omega⟩
  |succ m=>
   rw[kP]
   split
   ·rename_i h
    obtain⟨p,q,h1,h2,h3,h4,h5⟩:=AT (n:=n) (A:=A) (B:=b::B) (m:=m) (key:=key) (by simp only[L_];omega) hA'.2 (by simp only[L_];omega)
    refine⟨p+1,q,by simp only[L_];omega,h2,by omega,?_,fun i j x y hj hx hy hk=>?_⟩
    ·simp only[r_,v_A]
     exact List.Perm.cons _ h4
    ·cases i with
     |zero=>omega
     |succ i=>
      have:=h5 i j x y hj (by simpa using hx) hy hk
      omega
   ·rename_i h
    obtain⟨p,q,h1,h2,h3,h4,h5⟩:=AT (n:=n) (A:=a::A) (B:=B) (m:=m) (key:=key) (by simp only[L_];omega) hA (by simp only[L_];omega)
    refine⟨p,q+1,h1,by simp only[L_];omega,by omega,?_,fun i j x y hj hx hy hk=>?_⟩
    ·simp only[r_]
     exact(List.Perm.cons _ h4).trans List.perm_middle.symm
    ·cases j with
     |zero=>
      simp at hy;subst hy;exfalso;have hm:=H_A hx;rcases List.mem_cons.1 hm with rfl|hm
      ·exact h hk
      ·have:=hA'.1 x hm;omega
     |succ j=>exact h5 i j x y (by omega) hx (by simpa using hy) hk
end
def S(f:Nat->Nat)(n:Nat):Nat:=((S_ n).map f).sum
theorem nH(f:Nat->Nat)(n:Nat):S f (n+1)=S f n+f n:=by simp[S,b_]
theorem oX{f g:Nat->Nat}:∀{n:Nat},(∀i,i<n->f i=g i)->S f n=S g n
 |0,_=>rfl
 |n+1,h=>by rw[nH,nH,oX fun i hi=>h i (by omega),h n (by omega)]
theorem Ky(f g:Nat->Nat):∀n:Nat,S (fun i=>f i+g i) n=S f n+S g n
 |0=>rfl
 |n+1=>by rw[nH,nH,nH,Ky f g n];omega
theorem Ct(c:Nat):∀{n a:Nat},a<=n->S (fun i=>if i<a then c else 0) n=a*c
 |0,a,h=>by obtain rfl:a=0:=(by omega);simp[S]
 |n+1,a,h=>by
  rw[nH];rcases J_ n a with g|g
  ·obtain rfl:a=n+1:=by omega
   rw[if_pos (by omega),oX (g:=fun i=>if i<n then c else 0) fun i hi=>by rw[if_pos (by omega),if_pos hi],Ct c (I_ n),Q_,Nat.one_mul]
  ·rw[if_neg (by omega),Ct c g];omega
theorem N8(c n:Nat):S (fun _=>c) n=n*c:=by
 rw[oX (g:=fun i=>if i<n then c else 0) fun i hi=>by rw[if_pos hi],Ct c (I_ n)]
theorem NL{f:Nat->Nat}:∀{n j:Nat},j<n->f j<=S f n
 |0,j,h=>by omega
 |n+1,j,h=>by
  rw[nH];rcases J_ j n with g|g
  ·have:=NL (f:=f) g;omega
  ·obtain rfl:j=n:=by omega
   omega
theorem JJ{f:Nat->Nat}:∀{n i j:Nat},i<j->j<n->f i+f j<=S f n
 |0,i,j,_,h=>by omega
 |n+1,i,j,hij,h=>by
  rw[nH];rcases J_ j n with g|g
  ·have:=JJ (f:=f) hij g;omega
  ·obtain rfl:j=n:=by omega
   have:=NL (f:=f) hij;omega
abbrev bR:=Int×List Nat
def gO(c:bR):Int:=c.1
def di:List bR->List bR
 |a::b::r=>(a.1+b.1,a.2++b.2)::di r
 |_=>[]
def bj(A:List bR):Nat->List bR
 |0=>A
 |k+1=>fT gO (A++di (bj A k))
def cnt(t:Nat)(L:List bR):Nat:=((L.map (·.2)).flatten).count t
theorem vf(t:Nat)(L M:List bR):cnt t (L++M)=cnt t L+cnt t M:=by simp[cnt]
theorem MA(t:Nat){L M:List bR}(h:L.Perm M):cnt t L=cnt t M:=by
 unfold cnt;exact((h.map (·.2)).flatten).count_eq t
theorem IW{t:Nat}{L:List bR}(h:0<cnt t L):∃(j:Nat) (c:bR),L[j]?=some c/\t∈c.2:=by
 unfold cnt at h;have:=List.count_pos_iff.1 h;obtain⟨l,hl,ht⟩:=List.mem_flatten.1 this;obtain⟨c,hc,rfl⟩:=List.mem_map.1 hl;obtain⟨j,hj⟩:=w_A hc;exact⟨j,c,hj,ht⟩
theorem nD:∀R:List bR,(di R).length=R.length/2
 |[]=>by simp[di]
 |[_]=>by simp[di]
 |a::b::r=>by rw[di,L_,nD r];simp only[L_];omega
theorem Cw(t:Nat):∀(R:List bR) (b:Nat),2*b<=R.length->cnt t ((di R).take b)=cnt t (R.take (2*b))
 |R,0,_=>by simp
 |[],b+1,h=>by simp at h
 |[_],b+1,h=>by simp at h;omega
 |x::y::r,b+1,h=>by
  have ih:=Cw t r b (by simp only[L_]at h;omega)
  rw[di,r_,show 2*(b+1)=2*b+1+1 by omega,r_,r_]
  have e1:∀(c:bR) (L:List bR),cnt t (c::L)=c.2.count t+cnt t L:=fun c L=>by simp[cnt]
  rw[e1,e1,e1,ih,s_];omega
theorem EF:∀(R:List bR) (j:Nat) (c:bR),R[j]?=some c->j/2<R.length/2->(∀d,d∈R->0<d.1)->∃p,(di R)[j/2]?=some p/\c.1<=p.1
 |[],j,c,h,_,_=>by simp at h
 |[_],j,c,h,h2,_=>by simp at h2
 |x::y::r,j,c,h,h2,hp=>by
  rw[di];have px:=hp x (by simp)
  have py:=hp y (by simp)
  match j with
  |0=>simp at h;subst h;exact⟨_,rfl,by show x.1<=x.1+y.1;omega⟩
  |1=>simp at h;subst h;exact⟨_,rfl,by show y.1<=x.1+y.1;omega⟩
  |j+2=>
   obtain⟨p,h3,h4⟩:=EF r j c (by simpa using h) (by simp only[L_]at h2;omega) fun d hd=>hp d (by simp[hd])
   exact⟨p,by rw[show(j+2)/2=j/2+1 by omega];simpa using h3,h4⟩
theorem lC:∀(R:List bR) (p:bR),p∈di R->∃x y,x∈R/\y∈R/\p=(x.1+y.1,x.2++y.2)
 |[],p,h=>by cases h
 |[_],p,h=>by cases h
 |x::y::r,p,h=>by
  rw[di]at h;rcases List.mem_cons.1 h with rfl|h
  ·exact⟨x,y,by simp,by simp,rfl⟩
  ·obtain⟨a,b,h1,h2,h3⟩:=lC r p h
   exact⟨a,b,by simp[h1],by simp[h2],h3⟩
theorem Em:∀(R:List bR),mh gO R->mh gO (di R)
 |[],_=>List.Pairwise.nil
 |[_],_=>List.Pairwise.nil
 |x::y::r,h=>by
  rw[di];have h1:=List.pairwise_cons.1 h;have h2:=List.pairwise_cons.1 h1.2;refine List.pairwise_cons.2 ⟨fun p hp=>?_,Em r h2.2⟩;obtain⟨a,b,ha,hb,rfl⟩:=lC r p hp;have:=h1.1 a (by simp[ha])
  have:=h2.1 b hb;unfold gO at*;show x.1+y.1<=a.1+b.1;omega
structure BT(A:List bR)(w:Nat->Int)(sy:Nat->Nat):Prop where
 get:∀i,i<A.length->A[i]?=some (w i,[sy i])
 inj:∀i j,i<A.length->j<A.length->sy i=sy j->i=j
 asc:mh gO A
 pos:∀i,i<A.length->0<w i
section
variable {A : List bR} {w : Nat -> Int} {sy : Nat -> Nat}
theorem BT.cnt(h:BT A w sy)(hi:i<A.length):∀a,a<=A.length->cnt (sy i) (A.take a)=if i<a then 1 else 0
 |0,_=>by simp[Qn.cnt]
 |a+1,ha=>by
  have ih:=h.cnt hi a (by omega)
  rw[x_A,vf,ih,h.get a (by omega)]
  have e:Qn.cnt (sy i) (some (w a,[sy a])).toList=if sy a=sy i then 1 else 0:=by
   simp[Qn.cnt,List.count_cons]
  rw[e];by_cases g:a=i
  ·subst g;rw[if_neg (by omega),if_pos rfl,if_pos (by omega)]
  ·rw[if_neg (fun e=>g (h.inj _ _ (by omega) hi e))]
   by_cases g2:i<a
   ·rw[if_pos g2,if_pos (by omega)]
   ·rw[if_neg g2,if_neg (by omega)]
theorem BT.rows(h:BT A w sy):∀k,mh gO (bj A k)/\∀c,c∈bj A k->0<c.1/\∀i,i<A.length->sy i∈c.2->w i<=c.1
 |0=>⟨h.asc,fun c hc=>by
  obtain⟨j,hj⟩:=w_A hc;have hj:A[j]?=some c:=hj;have hjl:j<A.length:=by
   rcases J_ j A.length with g|g
   ·exact g
   ·rw[U_ g]at hj;cases hj
  rw[h.get j hjl]at hj;cases hj;refine⟨h.pos j hjl,fun i hi hm=>?_⟩;simp at hm;rw[h.inj i j hi hjl hm];exact P_ _⟩
 |k+1=>by
  obtain⟨h1,h2⟩:=h.rows k;refine⟨uA _ _,fun c hc=>?_⟩;have hc:c∈A++di (bj A k):=(dy gO _).mem_iff.1 hc;rcases List.mem_append.1 hc with hc|hc
  ·exact(h.rows 0).2 c hc
  ·obtain⟨x,y,hx,hy,rfl⟩:=lC _ _ hc
   have gx:=h2 x hx;have gy:=h2 y hy;refine⟨by show 0<x.1+y.1;omega,fun i hi hm=>?_⟩
   show w i<=x.1+y.1;rcases List.mem_append.1 hm with hm|hm
   ·have:=gx.2 i hi hm;omega
   ·have:=gy.2 i hi hm;omega
theorem DE(A:List bR):∀k,2*A.length<=(bj A k).length+1+(A.length-1)/2^k
 |0=>by simp[bj];omega
 |k+1=>by
  have ih:=DE A k;have e:(bj A (k+1)).length=A.length+(bj A k).length/2:=by
   show(fT gO (A++di (bj A k))).length=_;rw[(dy gO _).length_eq,K_,nD]
  have e2:(A.length-1)/2^(k+1)=(A.length-1)/2^k/2:=by rw[T_,y_A]
  rw[e,e2];generalize(A.length-1)/2^k=d at*;omega
theorem BT.kraft(h:BT A w sy):∀k m,m<=(bj A k).length->
  (∀i,i<A.length->Qn.cnt (sy i) ((bj A k).take m)<=k+1)/\S (fun i=>2^(k+1)-2^(k+1-Qn.cnt (sy i) ((bj A k).take m))) A.length=m*2^k
 |0,m,hm=>by
  have hm:m<=A.length:=hm;have hc:∀i,i<A.length->Qn.cnt (sy i) ((bj A 0).take m)=if i<m then 1 else 0:=fun i hi=>h.cnt hi m hm
  refine⟨fun i hi=>by rw[hc i hi];split<;>omega,?_⟩
  rw[oX (g:=fun i=>if i<m then 1 else 0) fun i hi=>?_,Ct 1 hm]
  rw[hc i hi]
  split<;>rfl
 |k+1,m,hm=>by
  obtain⟨r1,r2⟩:=h.rows k;have hst:bj A (k+1)=kP gO A (di (bj A k)):=Nz h.asc (Em _ r1);have hml:m<=A.length+(di (bj A k)).length:=by
   have:(bj A (k+1)).length=A.length+(di (bj A k)).length:=by
    show(fT gO (A++di (bj A k))).length=_;rw[(dy gO _).length_eq,K_]
   omega
  obtain⟨a,b,ha,hb,hab,hp,hlt⟩:=AT (key:=gO) (I_ _) h.asc hml;rw[nD]at hb;obtain⟨k1,k2⟩:=h.kraft k (2*b) (by omega)
  have hc:∀i,i<A.length->Qn.cnt (sy i) ((bj A (k+1)).take m)=(if i<a then 1 else 0)+Qn.cnt (sy i) ((bj A k).take (2*b)):=fun i hi=>by
   rw[hst,MA _ hp,vf,h.cnt hi a ha,Cw _ _ _ (by omega)]
  have hz:∀i,i<A.length->¬i<a->Qn.cnt (sy i) ((bj A k).take (2*b))=0:=fun i hi hna=>by
   rcases j_ (Qn.cnt (sy i) ((bj A k).take (2*b)))with g|g
   ·exact g
   ·obtain⟨j,c,hj,hm⟩:=IW g
    have hj2:j<2*b:=by
     rcases J_ j (2*b)with g|g
     ·exact g
     ·rw[U_ (by rw[k_];omega)]at hj;cases hj
    rw[List.getElem?_take_of_lt hj2]at hj;obtain⟨p,hp1,hp2⟩:=EF _ j c hj (by omega) fun d hd=>(r2 d hd).1
    have hw:=(r2 c (H_A hj)).2 i hi hm;exact(hna (hlt i (j/2) _ p (by omega) (h.get i hi) hp1 (by show w i<=p.1;omega))).elim
  refine⟨fun i hi=>by rw[hc i hi];have:=k1 i hi;split<;>omega,?_⟩
  rw[oX (g:=fun i=>(if i<a then 2^(k+1)else 0)+(2^(k+1)-2^(k+1-Qn.cnt (sy i) ((bj A k).take (2*b))))) fun i hi=>?_,Ky,Ct _ ha,k2,<-hab]
  ·have e:2^(k+1)=2*2^k:=by rw[T_,d_]
   rw[e,Q_];congr 1;rw[<-h_,d_ 2 b,h_]
  ·rw[hc i hi]
   have h1:=k1 i hi;by_cases g:i<a
   ·rw[if_pos g,if_pos g,show k+1+1-(1+Qn.cnt (sy i) ((bj A k).take (2*b)))=k+1-Qn.cnt (sy i) ((bj A k).take (2*b)) by omega,T_ 2 (k+1)]
    have:2^(k+1-Qn.cnt (sy i) ((bj A k).take (2*b)))<=2^(k+1):=I_A (by omega) (by omega)
    omega
   ·rw[if_neg g,if_neg g,hz i hi g]
    simp
theorem BT.best(h:BT A w sy){most:Nat}(h2:2<=A.length)(hm1:1<=most)(hm:A.length<=2^most):
  (∀i,i<A.length->1<=Qn.cnt (sy i) ((bj A (most-1)).take (2*A.length-2))/\Qn.cnt (sy i) ((bj A (most-1)).take (2*A.length-2))<=most)/\
  S (fun i=>2^(most-Qn.cnt (sy i) ((bj A (most-1)).take (2*A.length-2)))) A.length=2^most:=by
 obtain⟨k,rfl⟩:∃k,most=k+1:=⟨most-1,by omega⟩
 rw[C_A];have hr:=DE A k;have hd:(A.length-1)/2^k<=1:=by
  have:(A.length-1)/2^k<2:=Nat.div_lt_of_lt_mul (by rw[T_]at hm;omega)
  omega
 obtain⟨k1,k2⟩:=h.kraft k (2*A.length-2) (by omega)
 have hsum:S (fun i=>2^(k+1-Qn.cnt (sy i) ((bj A k).take (2*A.length-2)))) A.length=2^(k+1):=by
  have e:S (fun i=>(2^(k+1)-2^(k+1-Qn.cnt (sy i) ((bj A k).take (2*A.length-2))))+2^(k+1-Qn.cnt (sy i) ((bj A k).take (2*A.length-2)))) A.length=A.length*2^(k+1):=by
   rw[oX (g:=fun _=>2^(k+1)) fun i hi=>?_,N8];have:2^(k+1-Qn.cnt (sy i) ((bj A k).take (2*A.length-2)))<=2^(k+1):=I_A (by omega) (by omega)
   omega
  rw[Ky,k2]at e;have e2:(2*A.length-2)*2^k=(A.length-1)*2^(k+1):=by
   rw[T_,d_ (2^k) 2,<-h_];congr 1;omega
  rw[e2]at e;have e3:A.length*2^(k+1)=(A.length-1)*2^(k+1)+2^(k+1):=by
   rw[<-Nat.succ_mul];congr 1;omega
  omega
 refine⟨fun i hi=>⟨?_,k1 i hi⟩,hsum⟩;rcases j_ (Qn.cnt (sy i) ((bj A k).take (2*A.length-2)))with g|g
 ·exfalso
  have hpos:∀j,1<=2^(k+1-Qn.cnt (sy j) ((bj A k).take (2*A.length-2))):=fun j=>Nat.one_le_two_pow;have hi2:2^(k+1-Qn.cnt (sy i) ((bj A k).take (2*A.length-2)))=2^(k+1):=by rw[g,Nat.sub_zero]
  by_cases g0:i=0
  ·have t:=JJ (f:=fun i=>2^(k+1-Qn.cnt (sy i) ((bj A k).take (2*A.length-2)))) (n:=A.length) (i:=i) (j:=1) (by omega) (by omega)
   have p:=hpos 1;rw[hsum]at t;change 2^(k+1-Qn.cnt (sy i) ((bj A k).take (2*A.length-2)))+2^(k+1-Qn.cnt (sy 1) ((bj A k).take (2*A.length-2)))<=2^(k+1)at t;rw[hi2]at t;omega
  ·have t:=JJ (f:=fun i=>2^(k+1-Qn.cnt (sy i) ((bj A k).take (2*A.length-2)))) (n:=A.length) (i:=0) (j:=i) (by omega) hi
   have p:=hpos 0;rw[hsum]at t;change 2^(k+1-Qn.cnt (sy 0) ((bj A k).take (2*A.length-2)))+2^(k+1-Qn.cnt (sy i) ((bj A k).take (2*A.length-2)))<=2^(k+1)at t;rw[hi2]at t;omega
 ·exact g
end
def aW(l:List Nat)(n i:Nat):List Nat:=(S_ i).filter fun j=>l.getD j 0==n
def aP(l:List Nat)(n:Nat):List Nat:=aW l n l.length
theorem ip(l:List Nat)(n:Nat):aW l n 0=[]:=rfl
theorem dN(h:l.getD i 0=n):aW l n (i+1)=aW l n i++[i]:=by
 rw[W_]at h;simp[aW,b_,V_,h]
theorem cL(h:l.getD i 0≠n):aW l n (i+1)=aW l n i:=by
 rw[W_]at h;simp[aW,b_,V_,h]
theorem jo(l:List Nat)(n i:Nat):(aW l n i).length<=i:=by
 unfold aW;exact N_ (List.length_filter_le _ _) (by simp)
def bF(l:List Nat):Nat->Nat
 |0=>0
 |n+1=>2*bF l n+(aP l (n+1)).length
def dB(l:List Nat):Nat->Nat
 |0=>0
 |n+1=>2*bF l n
theorem F4(l:List Nat)(n:Nat):bF l (n+1)=dB l (n+1)+(aP l (n+1)).length:=rfl
theorem NR(l:List Nat):∀n,bF l n+l.length<=l.length*2^n
 |0=>by simp[bF]
 |n+1=>by
  have ih:=NR l n;have h:=jo l (n+1) l.length;have e:l.length*2^(n+1)=2*(l.length*2^n):=by rw[T_];simp[d_,Nat.mul_left_comm]
  rw[bF,e];unfold aP;omega
theorem Ke(l:List Nat){n:Nat}:∀k,bF l n*2^k<=bF l (n+k)
 |0=>by simp
 |k+1=>by
  have ih:=Ke l (n:=n) k;have e:bF l n*2^(k+1)=2*(bF l n*2^k):=by rw[T_,<-h_,d_]
  rw[<-c_A,bF,e];omega
def jD(l:List Nat):Nat->Nat
 |0=>0
 |n+1=>match aP l (n+1)with
  |[]=>jD l n
  |_=>n+1
def aQ(l:List Nat):Nat:=jD l 16
theorem Bb(l:List Nat):∀n,jD l n<=n
 |0=>I_ _
 |n+1=>by
  have:=Bb l n;unfold jD
  split<;>omega
theorem Ej(l:List Nat):∀n,jD l n≠0->aP l (jD l n)≠[]
 |0,h=>absurd rfl h
 |n+1,h=>by
  unfold jD at h⊢
  split
  ·rename_i e
   rw[e]at h;exact Ej l n h
  ·rename_i e
   intro h2;exact e h2
def aO(l:List Nat):Nat->List Nat
 |0=>[]
 |n+1=>aO l n++aP l (n+1)
theorem mz(l:List Nat):∀n,(aO l n).length<=n*l.length
 |0=>by simp[aO]
 |n+1=>by
  have:=mz l n;have:=jo l (n+1) l.length;rw[aO,K_,Q_];unfold aP;omega
theorem AD{l:List Nat}{n i:Nat}(hi:i<(aP l (n+1)).length):∀m,n<m->(aO l m)[(aO l n).length+i]?=(aP l (n+1))[i]?
 |0,h=>by omega
 |m+1,h=>by
  rcases J_ n m with g|g
  ·have ih:=AD hi m g
   have hlt:(aO l n).length+i<(aO l m).length:=by
    rcases J_ ((aO l n).length+i) (aO l m).length with g|g
    ·exact g
    ·rw[U_ g,e_ hi]at ih;cases ih
   rw[aO,X_ hlt,ih]
  ·have:m=n:=by omega
   subst this;rw[aO,m_ (by omega),z_A]
def LU(tk:Nat->Except Int (Nat×Nat))(l:List Nat)(d e:Nat):Nat->Nat->Nat->Nat->Nat->Except Int (Nat×Nat)
 |0,_,_,_,_=>.error 32
 |f+1,n,v,x,k=>match tk k with
  |.error er=>.error er
  |.ok (b,k')=>
   if 2*x<=2*v+b/\2*v+b<2*x+(aP l (n+1)).length then .ok ((aP l (n+1)).getD (2*v+b-2*x) 0,k')
   else if n+1<d/\(2*v+b)*2^(d-(n+1))<e then LU tk l d e f (n+1) (2*v+b) (2*x+(aP l (n+1)).length) k'
   else .error 32
def jU(l:List Nat)(i:Nat):Nat:=((S_ i).map fun j=>if l.getD j 0=0 then 0 else 2^(16-l.getD j 0)).sum
def lf(l:List Nat)(n i:Nat):Nat:=((S_ i).map fun j=>if l.getD j 0=0\/n<l.getD j 0 then 0 else 2^(16-l.getD j 0)).sum
theorem GX(l:List Nat)(n:Nat):∀i,lf l n i<=jU l i
 |0=>I_ _
 |i+1=>by
  have ih:=GX l n i;simp only[lf,jU,b_,f_,t_,u_,v_,w_,x_]at ih⊢;by_cases h0:l.getD i 0=0
  ·rw[if_pos (.inl h0),if_pos h0];omega
  ·rw[if_neg h0]
   have hp:0<2^(16-l.getD i 0):=J_A (by omega)
   split<;>omega
theorem BO(l:List Nat):∀i,lf l 0 i=0
 |0=>rfl
 |i+1=>by
  have ih:=BO l i;simp only[lf,b_,f_,t_,u_,v_,w_,x_]at ih⊢;rw[if_pos (by omega),ih];rfl
theorem C2(l:List Nat)(n:Nat):∀i,lf l (n+1) i=lf l n i+(aW l (n+1) i).length*2^(16-(n+1))
 |0=>by simp[lf,aW]
 |i+1=>by
  have ih:=C2 l n i;simp only[lf,b_,f_,t_,u_,v_,w_,x_]at ih⊢;rw[ih];by_cases h:l.getD i 0=n+1
  ·rw[dN h,K_,if_neg (by omega),if_pos (by omega),h]
   simp only[L_,List.length_nil];rw[Q_];omega
  ·rw[cL h]
   by_cases h2:l.getD i 0=0\/n<l.getD i 0
   ·rw[if_pos (by omega),if_pos h2];omega
   ·rw[if_neg (by omega),if_neg h2];omega
theorem yF(l:List Nat):∀n,n<=16->bF l n*2^(16-n)=lf l n l.length
 |0,_=>by rw[BO];simp[bF]
 |n+1,h=>by
  have ih:=yF l n (by omega)
  rw[C2,<-ih,bF,Q_,show 16-n=(16-(n+1))+1 by omega,T_]
  have e:2*bF l n*2^(16-(n+1))=bF l n*(2^(16-(n+1))*2):=by
   rw[d_ 2,h_,d_ 2]
  rw[e];rfl
theorem HQ(h:jU l l.length<=65536)(hn:n<=16):bF l n<=2^n:=by
 have h1:=yF l n hn;have h2:=GX l n l.length;have e:(65536:Nat)=2^n*2^(16-n):=by rw[<-Nat.pow_add,show n+(16-n)=16 by omega]
 have hp:0<2^(16-n):=J_A (by omega)
 rcases J_ (2^n) (bF l n)with g|g
 ·have:=A_B g hp
  omega
 ·exact g
def bO(l:List Nat)(s:Nat):Nat:=dB l (l.getD s 0)+(aW l (l.getD s 0) s).length
theorem sT{l:List Nat}{n:Nat}:∀{i s:Nat},s<i->l.getD s 0=n->(aW l n i)[(aW l n s).length]?=some s
 |0,s,h,_=>by omega
 |i+1,s,h,hs=>by
  rcases J_ s i with g|g
  ·have ih:=sT g hs
   by_cases h2:l.getD i 0=n
   ·rw[dN h2,X_]
    ·exact ih
    ·exact(List.getElem?_eq_some_iff.1 ih).1
   ·rw[cL h2];exact ih
  ·obtain rfl:s=i:=by omega
   rw[dN hs,m_ (I_ _),Nat.sub_self];rfl
theorem uo(hs:s<l.length)(h1:1<=l.getD s 0):dB l (l.getD s 0)<=bO l s/\bO l s<bF l (l.getD s 0)/\(aP l (l.getD s 0)).getD (bO l s-dB l (l.getD s 0)) 0=s:=by
 have h:=sT hs (rfl:l.getD s 0=l.getD s 0);have hlt:=(List.getElem?_eq_some_iff.1 h).1;obtain⟨n,hn⟩:∃n,l.getD s 0=n+1:=⟨l.getD s 0-1,by omega⟩
 unfold bO;rw[hn]at h hlt⊢;rw[F4];refine⟨by omega,by unfold aP;omega,?_⟩
 rw[z_A];unfold aP;rw[W_,h];rfl
theorem Az{l:List Nat}:∀{m n:Nat},n<=m->aP l n≠[]->1<=n->n<=jD l m
 |0,n,h,_,h1=>by omega
 |m+1,n,h,hn,h1=>by
  unfold jD
  split
  ·rename_i he
   rcases J_ m n with g|g
   ·obtain rfl:n=m+1:=by omega
    exact(hn he).elim
   ·exact Az g hn h1
  ·exact h
theorem I0{l:List Nat}{tk:Nat->Except Int (Nat×Nat)}{s K:Nat}(hs:s<l.length)(h1:1<=l.getD s 0)(h16:l.getD s 0<=16)
  (hb:∀j,j<l.getD s 0->tk (K+j)=.ok (bO l s/2^(l.getD s 0-1-j)%2,K+j+1)):
  ∀(f n:Nat),n<l.getD s 0->l.getD s 0<=n+f->LU tk l (aQ l) (bF l (aQ l)) f n (bO l s/2^(l.getD s 0-n)) (bF l n) (K+n)=.ok (s,K+l.getD s 0)
 |0,n,h,hf=>by omega
 |f+1,n,h,hf=>by
  obtain⟨c1,c2,c3⟩:=uo hs h1;have hd:l.getD s 0<=aQ l:=Az h16 (fun e=>by
   have h:=sT hs (rfl:l.getD s 0=l.getD s 0);have:aW l (l.getD s 0) l.length=[]:=e;rw[this]at h;cases h) h1
  have ih:=fun g=>I0 hs h1 h16 hb f (n+1) g (by omega)
  generalize hN:l.getD s 0=N at*;generalize bO l s=c at*;have hv:2*(c/2^(N-n))+c/2^(N-1-n)%2=c/2^(N-(n+1)):=by
   rw[show N-n=(N-(n+1))+1 by omega,T_,<-y_A,show N-1-n=N-(n+1) by omega]
   omega
  rw[LU,hb n h];simp only;rw[hv];have hx:2*bF l n+(aP l (n+1)).length=bF l (n+1):=rfl;rcases J_ (n+1) N with g|g
  ·-- shorter codes lie below
   have hge:bF l (n+1)<=c/2^(N-(n+1)):=by
    rw[Nat.le_div_iff_mul_le (J_A (by omega))]
    obtain⟨m,hm⟩:∃m,N=m+1:=⟨N-1,by omega⟩
    have hup:=Ke l (n:=n+1) (m-(n+1));rw[show n+1+(m-(n+1))=m by omega]at hup
    have e:bF l (n+1)*2^(N-(n+1))=2*(bF l (n+1)*2^(m-(n+1))):=by
     rw[show N-(n+1)=(m-(n+1))+1 by omega,T_,<-h_,d_]
    have e2:dB l N=2*bF l m:=by rw[hm];rfl
    omega
   rw[if_neg (by omega)]
   have hmore:c/2^(N-(n+1))*2^(aQ l-(n+1))<bF l (aQ l):=by
    have hup:=Ke l (n:=N) (aQ l-N);rw[show N+(aQ l-N)=aQ l by omega]at hup
    have e:2^(aQ l-(n+1))=2^(N-(n+1))*2^(aQ l-N):=by rw[<-Nat.pow_add];congr 1;omega
    rw[e,<-h_];have hle:c/2^(N-(n+1))*2^(N-(n+1))<=c:=Nat.div_mul_le_self _ _;have hp:0<2^(aQ l-N):=J_A (by omega)
    have:=A_B (Nat.lt_of_le_of_lt hle c2) hp;omega
   rw[if_pos ⟨by omega,hmore⟩,hx,c_A]
   exact ih g
  ·obtain rfl:N=n+1:=by omega
   rw[Nat.sub_self,Nat.pow_zero,Nat.div_one];have e2:dB l (n+1)=2*bF l n:=rfl;rw[if_pos (by omega),<-e2,c3,c_A]
theorem oz(L:List Nat)(n:Nat):∀i,i<=L.length->(aW L n i).length=(L.take i).count n
 |0,_=>by simp[aW]
 |i+1,h=>by
  have ih:=oz L n i (by omega)
  have e:L[i]?=some (L.getD i 0):=by rw[W_,e_ (by omega)];rfl
  rw[x_A,e,Option.toList_some,s_];by_cases g:L.getD i 0=n
  ·rw[dN g,K_,ih,g];simp
  ·rw[cL g,ih,List.count_singleton]
   rw[if_neg (by simpa using g)];rfl
def dC(l:List Nat):Nat->List Nat
 |0=>[]
 |m+1=>dC l m++R_ (aP l (m+1)).length (m+1)
def eo(l:List Nat):List Nat:=dC l 16
theorem nw(l:List Nat):∀m,(dC l m).length=(aO l m).length
 |0=>rfl
 |m+1=>by rw[dC,aO,K_,K_,nw l m,K_A]
theorem nI(l:List Nat):∀m x,x∈dC l m->1<=x/\x<=m
 |0,x,h=>by cases h
 |m+1,x,h=>by
  rcases List.mem_append.1 h with h|h
  ·have:=nI l m x h;omega
  ·rw[B_B h];omega
theorem yb(l:List Nat){n:Nat}:∀m,n<=m->∃t,dC l m=dC l n++t/\∀x,x∈t->n<x
 |0,h=>⟨[],by obtain rfl:n=0:=(by omega);simp,fun x hx=>by cases hx⟩
 |m+1,h=>by
  rcases J_ m n with g|g
  ·obtain rfl:n=m+1:=by omega
   exact⟨[],by simp,fun x hx=>by cases hx⟩
  ·obtain⟨t,h1,h2⟩:=yb l m g
   refine⟨t++R_ (aP l (m+1)).length (m+1),by rw[dC,h1,d_A],fun x hx=>?_⟩
   rcases List.mem_append.1 hx with hx|hx
   ·exact h2 x hx
   ·rw[B_B hx];omega
theorem vi(h:∀x,x∈L->x≠n):L.count n=0:=List.count_eq_zero.2 fun hm=>h n hm rfl
theorem Et(l:List Nat)(h1:1<=n)(h16:n<=16):(aP (eo l) n).length=(aP l n).length:=by
 obtain⟨m,rfl⟩:∃m,n=m+1:=⟨n-1,by omega⟩
 obtain⟨t,ht,htm⟩:=yb l (n:=m+1) 16 h16;unfold aP;rw[oz _ _ _ (I_ _),List.take_length];unfold eo;rw[ht,dC,s_,s_,C_B,vi fun x hx=>by have:=nI l m x hx;omega,vi fun x hx=>by have:=htm x hx;omega]
 unfold aP;omega
theorem A9{L l:List Nat}(h:∀n,1<=n->n<=16->(aP L n).length=(aP l n).length):∀n,n<=16->bF L n=bF l n
 |0,_=>by rw[bF,bF]
 |n+1,hn=>by rw[bF,bF,A9 h n (by omega),h (n+1) (by omega) hn]
theorem MY(h:∀n,1<=n->n<=16->(aP L n).length=(aP l n).length):∀n,n<=16->dB L n=dB l n
 |0,_=>by rw[dB,dB]
 |n+1,hn=>by rw[dB,dB,A9 h n (by omega)]
theorem Ov(l:List Nat)(h:n<=16):bF (eo l) n=bF l n:=A9 (fun n h1 h2=>Et l h1 h2) n h
theorem Ox(l:List Nat)(h:n<=16):dB (eo l) n=dB l n:=MY (fun n h1 h2=>Et l h1 h2) n h
def ju(l:List Nat)(s:Nat):Nat:=(aO l (l.getD s 0-1)).length+(aW l (l.getD s 0) s).length
theorem Ml(hs:s<l.length)(h1:1<=l.getD s 0)(h16:l.getD s 0<=16):(aO l 16)[ju l s]?=some s/\ju l s<(eo l).length/\(eo l).getD (ju l s) 0=l.getD s 0/\bO (eo l) (ju l s)=bO l s:=by
 have h:=sT hs (rfl:l.getD s 0=l.getD s 0);have hlt:=(List.getElem?_eq_some_iff.1 h).1;obtain⟨n,hn⟩:∃n,l.getD s 0=n+1:=⟨l.getD s 0-1,by omega⟩
 have hrk:ju l s=(aO l n).length+(aW l (n+1) s).length:=by unfold ju;rw[hn,C_A]
 rw[hn]at h hlt h16⊢;have hlt':(aW l (n+1) s).length<(aP l (n+1)).length:=hlt;have g1:(aO l 16)[ju l s]?=some s:=by
  rw[hrk,AD hlt' 16 (by omega)];exact h
 obtain⟨t,ht, -⟩:=yb l (n:=n+1) 16 h16;have hlen:(dC l n).length=(aO l n).length:=nw l n;have g2:ju l s<(eo l).length:=by
  unfold eo;rw[ht,dC,K_,K_,K_A,hrk];omega
 have g3:(eo l).getD (ju l s) 0=n+1:=by
  unfold eo;rw[ht,dC,d_A,W_,m_ (by omega),X_ (by rw[K_A];omega),List.getElem?_replicate,if_pos (by omega)];rfl
 have key:((eo l).take (ju l s)).count (n+1)=(aW l (n+1) s).length:=by
  unfold eo;rw[ht,dC,d_A,hrk,<-hlen,List.take_length_add_append,A_A (by rw[K_A];omega),s_,vi fun x hx=>by have:=nI l n x hx;omega,List.take_replicate,C_B]
  omega
 refine⟨g1,g2,g3,?_⟩;unfold bO;rw[g3,hn,Ox l h16,oz _ _ _ (by omega),key]
theorem Ei(hl:∀s,l.getD s 0<=16):jU (eo l) (eo l).length=jU l l.length:=by
 have h:∀(L:List Nat),(∀s,L.getD s 0<=16)->∀i,lf L 16 i=jU L i:=fun L hL i=>by
  unfold lf jU;congr 1;apply a_A;intro j _;have:=hL j;by_cases h0:L.getD j 0=0
  ·rw[if_pos (.inl h0),if_pos h0]
  ·rw[if_neg (by omega),if_neg h0]
 have hL':∀s,(eo l).getD s 0<=16:=fun s=>by
  rw[W_];cases e:(eo l)[s]? with
  |none=>simp
  |some x=>exact(nI l 16 x (H_A e)).2
 have a:=yF l 16 (I_ _);have b:=yF (eo l) 16 (I_ _);rw[Ov l (I_ _)]at b;rw[h _ hL']at b;rw[h _ hl]at a;omega
def gC(cs:List Nat):Nat->List bR
 |0=>[]
 |n+1=>if cs.getD n 0=0 then gC cs n else gC cs n++[(((cs.getD n 0:Nat):Int),[n])]
def eQ(cs:List Nat):List bR:=gC cs cs.length
def bu(cs:List Nat):List bR:=fT gO (eQ cs)
theorem kO{cs:List Nat}:∀n c,c∈gC cs n->∃s,s<n/\cs.getD s 0≠0/\c=(((cs.getD s 0:Nat):Int),[s])
 |0,c,h=>by cases h
 |n+1,c,h=>by
  unfold gC at h
  split at h
  ·obtain⟨s,h1,h2⟩:=kO n c h
   exact⟨s,by omega,h2⟩
  ·rename_i h0
   rcases List.mem_append.1 h with h|h
   ·obtain⟨s,h1,h2⟩:=kO n c h
    exact⟨s,by omega,h2⟩
   ·simp at h
    exact⟨n,by omega,h0,h⟩
theorem uZ{cs:List Nat}:∀n s,s<n->cs.getD s 0≠0->(((cs.getD s 0:Nat):Int),[s])∈gC cs n
 |0,s,h,_=>by omega
 |n+1,s,h,h0=>by
  unfold gC;rcases J_ s n with g|g
  ·have ih:=uZ n s g h0
   split
   ·exact ih
   ·exact R_A _ ih
  ·obtain rfl:s=n:=by omega
   rw[if_neg h0];exact E_A _ (by simp)
theorem Ck{cs:List Nat}:∀n,((gC cs n).map fun c=>c.2.headD 0).Nodup
 |0=>List.nodup_nil
 |n+1=>by
  have ih:=Ck (cs:=cs) n;unfold gC
  split
  ·exact ih
  ·rw[f_,List.nodup_append]
   refine⟨ih,by simp,fun a ha b hb=>?_⟩
   simp at hb;obtain⟨c,hc,rfl⟩:=List.mem_map.1 ha;obtain⟨s,h1, -,rfl⟩:=kO n c hc;rw[hb];show s≠n;omega
theorem Hk{cs:List Nat}(f:Nat->Nat):∀n,((gC cs n).map fun c=>f (c.2.headD 0)).sum=((S_ n).map fun s=>if cs.getD s 0=0 then 0 else f s).sum
 |0=>rfl
 |n+1=>by
  have ih:=Hk (cs:=cs) f n;rw[b_,f_,t_,<-ih];show((if cs.getD n 0=0 then gC cs n else gC cs n++[(((cs.getD n 0:Nat):Int),[n])]).map fun c=>f (c.2.headD 0)).sum=_
  by_cases h0:cs.getD n 0=0
  ·rw[if_pos h0]
   simp only[u_,v_,w_,x_,if_pos h0];omega
  ·rw[if_neg h0,f_,t_]
   simp only[u_,v_,w_,x_,if_neg h0,List.headD_cons]
theorem Ms(cs:List Nat):BT (bu cs) (fun i=>((bu cs).getD i (0,[])).1) (fun i=>((bu cs).getD i (0,[])).2.headD 0):=by
 have hp:=dy gO (eQ cs);have hm:∀c,c∈bu cs->∃s,s<cs.length/\cs.getD s 0≠0/\c=(((cs.getD s 0:Nat):Int),[s]):=fun c hc=>kO _ c (hp.mem_iff.1 hc);have hg:∀i,i<(bu cs).length->(bu cs)[i]?=some ((bu cs).getD i (0,[]))/\(bu cs).getD i (0,[])∈bu cs:=fun i hi=>by
  rw[W_,e_ hi];exact⟨rfl,L_A hi⟩
 refine⟨fun i hi=>?_,fun i j hi hj e=>?_,uA _ _,fun i hi=>?_⟩
 ·obtain⟨h1,h2⟩:=hg i hi
  obtain⟨s,h3,h4,h5⟩:=hm _ h2;rw[h1,h5];rfl
 ·have hn:((bu cs).map fun c=>c.2.headD 0).Nodup:=(hp.map _).nodup_iff.2 (Ck _)
  have:=(List.getElem_inj (h₀:=by rw[D_A];exact hi) (h₁:=by rw[D_A];exact hj) hn).1
  apply this;rw[M_A,M_A];have e1:(bu cs)[i]=(bu cs).getD i (0,[]):=by simp[M_,hi]
  have e2:(bu cs)[j]=(bu cs).getD j (0,[]):=by simp[M_,hj]
  rw[e1,e2];exact e
 ·obtain⟨s,h3,h4,h5⟩:=hm _ (hg i hi).2
  show 0<((bu cs).getD i (0,[])).1;rw[h5];show 0<((cs.getD s 0:Nat):Int);omega
theorem qd{cs:List Nat}:∀k c,c∈bj (bu cs) k->∀t,t∈c.2->t<cs.length/\cs.getD t 0≠0
 |0,c,hc,t,ht=>by
  obtain⟨s,h1,h2,rfl⟩:=kO _ c ((dy gO (eQ cs)).mem_iff.1 hc);simp at ht;subst ht;exact⟨h1,h2⟩
 |k+1,c,hc,t,ht=>by
  have hc:c∈bu cs++di (bj (bu cs) k):=(dy gO _).mem_iff.1 hc;rcases List.mem_append.1 hc with hc|hc
  ·exact qd 0 c hc t ht
  ·obtain⟨x,y,hx,hy,rfl⟩:=lC _ _ hc
   rcases List.mem_append.1 ht with ht|ht
   ·exact qd k x hx t ht
   ·exact qd k y hy t ht
def b8(cs:List Nat)(most:Nat):List Nat:=
 if(eQ cs).length=1 then(S_ cs.length).map fun s=>if cs.getD s 0=0 then 0 else 1
 else(S_ cs.length).map fun s=>cnt s ((bj (bu cs) (most-1)).take (2*(eQ cs).length-2))
theorem uF(cs:List Nat)(most:Nat):(b8 cs most).length=cs.length:=by unfold b8;split<;>simp
theorem ux(cs:List Nat):(bu cs).length=(eQ cs).length:=(dy gO _).length_eq
theorem Nj{t:Nat}{L:List bR}(h:∀c,c∈L->t∉c.2):cnt t L=0:=by
 rcases j_ (cnt t L)with g|g
 ·exact g
 ·obtain⟨j,c,hj,ht⟩:=IW g
  exact(h c (H_A hj) ht).elim
theorem K0{cs:List Nat}{most:Nat}(h2:2<=(eQ cs).length)(hm1:1<=most)(hm:(eQ cs).length<=2^most):
  (∀s,s<cs.length->cs.getD s 0≠0->1<=(b8 cs most).getD s 0/\(b8 cs most).getD s 0<=most)/\(∀s,s<cs.length->cs.getD s 0=0->(b8 cs most).getD s 0=0)/\
  ((S_ cs.length).map fun s=>if(b8 cs most).getD s 0=0 then 0 else 2^(most-(b8 cs most).getD s 0)).sum=2^most:=by
 have hO:=Ms cs;have hl:=ux cs;obtain⟨b1,b2⟩:=hO.best (most:=most) (by omega) hm1 (by omega)
 have hg:∀s,s<cs.length->(b8 cs most).getD s 0=cnt s ((bj (bu cs) (most-1)).take (2*(bu cs).length-2)):=fun s hs=>by
  unfold b8;rw[if_neg (by omega),W_,T_A,List.getElem?_range hs,hl];rfl
 have hmem:∀s,s<cs.length->cs.getD s 0≠0->∃i,i<(bu cs).length/\((bu cs).getD i (0,[])).2.headD 0=s:=fun s hs h0=>by
  have:=(dy gO (eQ cs)).mem_iff.2 (uZ _ s hs h0);obtain⟨i,hi,he⟩:=D_B this;refine⟨i,hi,?_⟩;have hi':i<(bu cs).length:=hi;have e1:(bu cs).getD i (0,[])=(bu cs)[i]'hi':=by
   rw[W_,e_ hi'];rfl
  have e2:(bu cs)[i]'hi'=(((cs.getD s 0:Nat):Int),[s]):=he;rw[e1,e2];rfl
 have pos:∀s,s<cs.length->cs.getD s 0≠0->1<=(b8 cs most).getD s 0/\(b8 cs most).getD s 0<=most:=fun s hs h0=>by
  obtain⟨i,hi,rfl⟩:=hmem s hs h0;rw[hg _ hs];exact b1 i hi
 have zero:∀s,s<cs.length->cs.getD s 0=0->(b8 cs most).getD s 0=0:=fun s hs h0=>by
  rw[hg s hs];exact Nj fun c hc ht=>(qd _ c (l_A hc) s ht).2 h0
 refine⟨pos,zero,?_⟩;have e1:((S_ cs.length).map fun s=>if(b8 cs most).getD s 0=0 then 0 else 2^(most-(b8 cs most).getD s 0))=(S_ cs.length).map fun s=>if cs.getD s 0=0 then 0 else(fun s=>2^(most-cnt s ((bj (bu cs) (most-1)).take (2*(bu cs).length-2)))) s:=by
  apply a_A;intro s hs;have hs:=List.mem_range.1 hs;by_cases h0:cs.getD s 0=0
  ·rw[if_pos (zero s hs h0),if_pos h0]
  ·rw[if_neg (by have:=pos s hs h0;omega),if_neg h0,hg s hs]
 rw[e1,<-Hk (fun s=>2^(most-cnt s ((bj (bu cs) (most-1)).take (2*(bu cs).length-2))))];have hp:((eQ cs).map fun c=>2^(most-cnt (c.2.headD 0) ((bj (bu cs) (most-1)).take (2*(bu cs).length-2)))).sum=((bu cs).map fun c=>2^(most-cnt (c.2.headD 0) ((bj (bu cs) (most-1)).take (2*(bu cs).length-2)))).sum:=
  (((dy gO (eQ cs)).map _).sum_nat).symm
 show((eQ cs).map fun c=>2^(most-cnt (c.2.headD 0) ((bj (bu cs) (most-1)).take (2*(bu cs).length-2)))).sum=_;rw[hp,<-b2];unfold S;congr 1;refine s_A (by simp) fun i h1 h2=>?_
 simp only[D_A]at h1;rw[M_A,M_A,List.getElem_range];have e1:(bu cs)[i]=(bu cs).getD i (0,[]):=by simp[M_,h1]
 rw[e1]
def fV:Nat->Nat
 |0=>0
 |n+1=>fV ((n+1)/2)+1
termination_by n=>n
decreasing_by omega
theorem At(h:0<n):fV n=fV (n/2)+1:=by
 obtain⟨m,rfl⟩:∃m,n=m+1:=⟨n-1,by omega⟩
 rw[fV]
theorem Di:∀(k n:Nat),n<=k->n<2^fV n/\(0<n->2^(fV n-1)<=n)
 |0,n,h=>by
  obtain rfl:n=0:=by omega
  exact⟨by simp[fV],fun h=>by omega⟩
 |k+1,n,h=>by
  rcases j_ n with rfl|hp
  ·exact⟨by simp[fV],fun h=>by omega⟩
  ·obtain⟨h1,h2⟩:=Di k (n/2) (by omega)
   rw[At hp,T_,C_A];refine⟨by omega,fun _=>?_⟩
   rcases j_ (n/2)with g|g
   ·rw[g]
    have:fV 0=0:=by simp[fV]
    rw[this];show 1<=n;omega
   ·have h3:=h2 g
    have h4:2^fV (n/2)=2*2^(fV (n/2)-1):=by
     have:1<=fV (n/2):=by rw[At g];omega
     rw[<-E_B,show(fV (n/2)-1).succ=fV (n/2) by omega]
    omega
theorem Do(h:n<2^k):fV n<=k:=by
 obtain⟨h1,h2⟩:=Di n n (I_ n);rcases J_ k (fV n)with g|g
 ·have hp:0<n:=by
   rcases j_ n with rfl|h0
   ·simp[fV]at g
   ·exact h0
  have:=h2 hp;have:2^k<=2^(fV n-1):=I_A (by omega) (by omega)
  omega
 ·exact g
def aE(v:Int):Nat:=fV v.natAbs
def dt(v:Int):Nat:=if v<0 then(v+(2^aE v-1:Nat)).toNat else v.toNat
def Kr(n z:Nat):Int:=if 0<n/\z<2^(n-1)then(z:Int)-(2^n-1:Nat)else z
theorem uK(v:Int):v.natAbs<2^aE v/\(v≠0->2^(aE v-1)<=v.natAbs/\1<=aE v):=by
 obtain⟨h1,h2⟩:=Di v.natAbs v.natAbs (I_ _);refine⟨h1,fun h0=>⟨h2 (by omega),?_⟩⟩
 unfold aE;rw[At (show 0<v.natAbs by omega)];omega
theorem uU(v:Int):dt v<2^aE v:=by
 have h:=(uK v).1;unfold dt
 split<;>omega
theorem Na(v:Int):Kr (aE v) (dt v)=v:=by
 obtain⟨h1,h2⟩:=uK v;by_cases h0:v=0
 ·subst h0
  have e:aE 0=0:=by simp[aE,fV]
  unfold Kr dt;rw[e];simp
 obtain⟨h3,h4⟩:=h2 h0;have hp:2^aE v=2*2^(aE v-1):=by rw[<-E_B,show(aE v-1).succ=aE v by omega]
 unfold Kr dt;by_cases hn:v<0
 ·rw[if_pos hn,if_pos ⟨by omega,by omega⟩];omega
 ·rw[if_neg hn,if_neg (by omega)];omega
abbrev bb:=Nat×Nat×Nat
def AQ(run:Nat)(x:Int):bb:=(16*run+aE x,dt x,aE x)
def cJ:List Int->Nat->List bb
 |[],run=>if 0<run then[(0,0,0)]else[]
 |x::r,run=>if x=0 then cJ r (run+1)else R_ (run/16) (240,0,0)++(AQ (run%16) x::cJ r 0)
theorem m7:∀(m run:Nat) (t:List Int),cJ (R_ m 0++t) run=cJ t (run+m)
 |0,run,t=>rfl
 |m+1,run,t=>by
  rw[N_A,v_A,cJ,if_pos rfl,m7 m (run+1) t];congr 1;omega
theorem Oe(h:0<m):cJ (R_ m 0) 0=[(0,0,0)]:=by
 have:=m7 m 0 [];rw[u_A]at this;rw[this,cJ,if_pos (by omega)]
theorem On{t:List Int}(hm:m<16)(hx:x≠0):cJ (R_ m 0++x::t) 0=AQ m x::cJ t 0:=by
 rw[m7,cJ,if_neg hx,Y_,U_A hm,V_A hm]
 rfl
theorem OW{t:List Int}(hx:x≠0):cJ (R_ (m+16) 0++x::t) 0=(240,0,0)::cJ (R_ m 0++x::t) 0:=by
 rw[m7,m7,cJ,cJ,if_neg hx,if_neg hx,Y_,Y_,show(m+16)/16=m/16+1 by omega,show(m+16)%16=m%16 by omega,N_A]
 rfl
theorem Cm:∀l:List Int,(∃m,l=R_ m 0)\/∃m x t,x≠0/\l=R_ m 0++x::t
 |[]=>.inl ⟨0,rfl⟩
 |x::r=>by
  by_cases h:x=0
  ·rcases Cm r with⟨m,rfl⟩|⟨m,y,t,hy,rfl⟩
   ·exact .inl ⟨m+1,by rw[N_A,h]⟩
   ·exact .inr ⟨m+1,y,t,hy,by rw[N_A,h];rfl⟩
  ·exact .inr ⟨0,x,r,h,rfl⟩
def fw(ahead:Int)(l:List Int):bb×List bb:=((aE (l.getD 0 0-ahead),dt (l.getD 0 0-ahead),aE (l.getD 0 0-ahead)),cJ (l.drop 1) 0)
theorem Dn{a b:Int}(h1: -1024<=a)(h2:a<=1023)(h3: -1024<=b)(h4:b<=1023):aE (a-b)<=11:=Do (by show(a-b).natAbs<2048;omega)
theorem DG{a:Int}(h1: -1023<=a)(h2:a<=1023):aE a<=10:=Do (by show a.natAbs<1024;omega)
end Go.Qn
namespace Go.Proofs.YtoomejkiagonpaaGreatDoor
open Go Go.Vc Go.RowKit Go.Qn
variable {w u w' u' w0 : B_} {R : Ending -> B_ -> Prop} {n i b k N m a j s off M : Nat} {vs fs zero : List C_} {p q : Option D_} {t e : F_} {v : C_} {xs bs : List Int} {l L av : List Nat} {Z : Nat -> Prop} {x : Int} {f : Nat -> Nat} {F : Option D_ -> Nat -> Nat -> B_ -> Prop}
def bytes(xs:List Int):List C_:=xs.map u8
theorem ar(xs:List Int):(bytes xs).length=xs.length:=by simp[bytes]
theorem fh(h:i<xs.length):(bytes xs)[i]?=some (u8 (xs.getD i 0)):=by simp[bytes,M_,h]
theorem bY(xs ys:List Int):bytes (xs++ys)=bytes xs++bytes ys:=by simp[bytes]
theorem cj(xs:List Int):aN (bytes xs)=true:=by simp[aN,bytes,o_A]
def vT(x:Int):Prop:=0<=x/\x<=65535
def nP(c:Co):Prop:=vT c.1/\vT c.2.1/\vT c.2.2.1/\vT c.2.2.2
def vm(xs:List Int):Prop:=∀x,x∈xs->vT x
theorem yI(h:vm xs)(i:Nat):vT (xs.getD i 0):=by
 rcases J_ i xs.length with h'|h'
 ·have e:xs.getD i 0=xs[i]:=by simp[M_,h']
  rw[e];exact h _ (L_A h')
 ·have e:xs.getD i 0=0:=by simp[M_,h']
  rw[e];exact⟨by omega,by omega⟩
theorem Hu(h:vm xs)(k:Nat):nP (iX xs k):=⟨yI h _,yI h _,yI h _,yI h _⟩
def Bs(xs:List Int):Prop:=∀n∈xs,0<=n/\n<=255
theorem Cu{base:Option D_}{len cap:Nat}
 (h:Sl N w base (bytes xs))(hl:len=xs.length)(hsz:len<=2^47)
 (hR:∀p k w',Ext w w'->Ow w.heap.size w'.heap.size w' p len k 1 (bytes xs)->R (.returned (.slice p len k)) w'):
  H_ P 93 #[.slice base len cap] w R:=by
 refine qo _ _ _ _ _ ?_;unfold lA;refine ak (fun hn=>?_) (fun _ k1 w1 hnew=>⟨bytes xs,by rw[ar];omega,cj _,(h.ext hnew.ext).cells,?_⟩)
 ·have hx:xs=[]:=by
   cases xs with
   |nil=>rfl
   |cons x xs=>obtain⟨a,ha,_⟩:=h 0 (u8 x) rfl;subst ha;cases hn
  subst hx;have hl0:len=0:=by simpa using hl
  subst hl0;exact hR none 0 w (Ext.refl w) (Ow.nil _ _ _ _ _)
 ·have hsz':=hnew.ext.size
  refine(Ow.nil w.heap.size w1.heap.size w1 (some ⟨k1,0,none⟩) 1).app (by simp[am]) hsz' (I_ _) rfl (by rw[ar];omega) (by omega) (by omega) fun p k w2 ho hc=>?_
  rw[Y_]at ho⊢;exact hR p k w2 (hnew.ext.step hc fun i hi=>hi.1) (by simpa using ho)
def fI(up:Bool)(i:Int):Int:=if up then 7-i%8 else i%8
def OM(up:Bool):FuncId:=if up then 134 else 135
def B2(up:Bool):C_:=.func (.func (OM up)) #[] #[]
theorem Hs(h0:0<=x)(h1:x<=18446744073709551615):G_.u64.wrap x=x:=by
 rw[G_.wrap];simp[G_.signed,G_.bits];omega
theorem Lb{i:Int}(h0:0<=i)(h1:i<=9223372036854775807)(hR:R (.returned (.int .u64 (7-i%8))) w):H_ P 134 #[aa i] w R:=by
 refine B1 _ _ _ ?_;unfold xT;rw[Hs h0 (by omega)]
 simp only[ad];rw[o_ h0,Hs (by omega) (by omega)]
 exact hR
theorem MK{i:Int}(h0:0<=i)(h1:i<=9223372036854775807)(hR:R (.returned (.int .u64 (i%8))) w):H_ P 135 #[aa i] w R:=by
 refine D4 _ _ _ ?_;unfold Ah;rw[Hs h0 (by omega)]
 simp only[ad];rw[o_ h0];exact hR
structure dZ(w:B_)(q:Option D_)(rb:Nat)(S:Nat->Prop)(bs:List Int)(k:Int)(up:Bool):Prop where
 ptr:q=some ⟨rb,0,none⟩
 obj:∃base cap,Cs w rb [.slice base bs.length cap,aa k,.bool up,B2 up]/\bZ S w base bs.length cap 1 (bytes bs)
 ne:¬S rb
 room:bs.length<=2^47
 fit:Bs bs
 lo:0<=k
 hi:k<=8*bs.length
theorem dZ.chg{rb:Nat}{S T:Nat->Prop}{k:Int}{up:Bool}(h:dZ w q rb S bs k up)(hc:Chg T w w')(h1:¬T rb)(h2:∀b,S b->b<w.heap.size->¬T b):dZ w' q rb S bs k up:=by
 obtain⟨base,cap,h3,h4⟩:=h.obj;exact⟨h.ptr,⟨base,cap,h3.chg hc h1,h4.chg hc h2⟩,h.ne,h.room,h.fit,h.lo,h.hi⟩
theorem dZ.ext{rb:Nat}{S:Nat->Prop}{k:Int}{up:Bool}(h:dZ w q rb S bs k up)(hc:Ext w w'):dZ w' q rb S bs k up:=
 h.chg (T:=fun _=>False) hc.chg id (fun _ _ _ h=>h)
theorem Ec{rb:Nat}{S:Nat->Prop}{k:Int}{up:Bool}(h:dZ w q rb S bs k up)
 (hR:R (.returned (aa (8*bs.length-k))) w.drew):H_ P 82 #[.pointer q] w R:=by
 refine rZ _ _ _ ?_;have hr:=h.room;have h1:=h.lo;have h2:=h.hi;obtain rfl:=h.ptr;obtain⟨base,cap,h3,h4⟩:=h.obj;refine al rfl (ap rfl ⟨_,_,_,h3.drew.cell (i:=0) rfl,ap rfl ⟨_,h3.drew.cell (i:=1) rfl,?_⟩⟩);rw[ai (x:=8*(bs.length:Int)),ai (by omega) (by omega)]
 exact hR
def ce(bs:List Int)(up:Bool)(i:Nat):Int:=(bs.getD (i/8) 0/2^(if up then 7-i%8 else i%8))%2
def ci(bs:List Int)(up:Bool)(i:Nat):Nat->Int
 |0=>0
 |n+1=>if up then 2*ci bs up i n+ce bs up (i+n)else ci bs up i n+ce bs up (i+n)*2^n
theorem sE(bs:List Int)(up:Bool)(i:Nat):0<=ce bs up i/\ce bs up i<=1:=by unfold ce;omega
theorem ke(bs:List Int)(up:Bool)(i:Nat):∀n,0<=ci bs up i n/\ci bs up i n<2^n
 |0=>by simp[ci]
 |n+1=>by
  have ih:=ke bs up i n;have hb:=sE bs up (i+n);have hp:(0:Int)<2^n:=Z_ (by omega)
  rw[ci,e_A]
  split
  ·omega
  ·rcases(by omega:ce bs up (i+n)=0\/ce bs up (i+n)=1)with e|e<;>rw[e]<;>omega
theorem xd{up:Bool}{i:Int}(h0:0<=i)(h1:i<=9223372036854775807)(hR:R (.returned (.int .u64 (fI up i))) w):dO P (B2 up) [aa i] w R:=by
 cases up
 ·exact mI (by kernel_rfl) (MK h0 h1 (by simpa[fI]using hR))
 ·exact mI (by kernel_rfl) (Lb h0 h1 (by simpa[fI]using hR))
theorem vI(up:Bool)(i:Int):0<=fI up i/\fI up i<=7:=by unfold fI;split<;>omega
theorem Ob(hf:Bs bs){up:Bool}{i:Int}(h0:0<=i)(h1:i<8*bs.length):
  G_.u32.wrap (aR .and .u32 (G_.u32.wrap (an .shr .u8 (bs.getD (i/8).toNat 0) (fI up i))) 1)=ce bs up i.toNat:=by
 have hlt:(i/8).toNat<bs.length:=by omega
 have hb:0<=bs.getD (i/8).toNat 0/\bs.getD (i/8).toNat 0<=255:=by
  rw[show bs.getD (i/8).toNat 0=bs[(i/8).toNat] by simp[M_,hlt]]
  exact hf _ (L_A hlt)
 have hp:=vI up i;generalize hv:bs.getD (i/8).toNat 0=v at hb;have hpow:(0:Int)<2^(fI up i).toNat:=Z_ (by omega)
 have hq0:0<=v/2^(fI up i).toNat:=Y_A hb.1 (S_A hpow);have hq1:v/2^(fI up i).toNat<=255:=Int.le_trans (Z_A _ hb.1) hb.2;rw[gm hb.1 hp.1 (by simp[G_.bits];omega),dj (x:=v/_) rfl hq0 (by simp[G_.bits];omega),CD hq0 (by simp[G_.bits];omega),dj rfl (by omega) (by simp[G_.bits];omega)]
 unfold ce;rw[show i.toNat/8=(i/8).toNat by omega,hv]
 congr 2;congr 1;unfold fI;cases up<;>simp<;>omega
theorem ES{rb:Nat}{S:Nat->Prop}{k n:Int}{up:Bool}(h:dZ w q rb S bs k up)
 (h1:n<0\/n>32->R (.returned (.tuple #[.int .u32 0,aa 2])) w)
 (h2:0<=n->n<=32->n>8*bs.length-k->R (.returned (.tuple #[.int .u32 0,aa 5])) w.drew)
 (h3:0<=n->n<=32->n<=8*bs.length-k->∀w',Chg (·=rb) w w'->dZ w' q rb S bs (k+n) up->R (.returned (.tuple #[.int .u32 (ci bs up k.toNat n.toNat),aa 0])) w'):
  H_ P 175 #[.pointer q,aa n] w R:=by
 refine sn _ _ _ _ ?_;have hroom:=h.room;have hlo:=h.lo;have hptr:=h.ptr;unfold mb;refine al (by rw[hptr];rfl) (ak (fun hb=>h1 (by simpa using hb)) (fun hb=>?_))
 have hb:0<=n/\n<=32:=by simpa using hb
 refine Ec h ⟨_,rfl,ak (fun hgt=>h2 hb.1 hb.2 (by simpa using hgt)) (fun hle=>?_)⟩
 have hle:n<=8*bs.length-k:=by simpa using hle
 refine⟨fun l w'=>match l with|[.int _ v,.int _ i]=>0<=i/\i<=n/\v=ci bs up k.toNat i.toNat/\Chg (·=rb) w w'/\dZ w' q rb S bs (k+i) up|_=>False,
  fun l _=>match l with|[.int _ _,.int _ i]=>(n-i).toNat|_=>0,⟨P_ _,hb.1,rfl,(Chg.refl _ w).drew,by rw[Int.add_zero];exact h.ext (Ext.refl w).drew⟩,fun v i w2 hI=>?_⟩
 obtain⟨i0,i1,hv,hc2,hr2⟩:=hI;refine ak (fun hlt=>?_) (fun hge=>?_)
 ·have hlt:i<n:=by simpa using hlt
  obtain⟨base,cap,h4,h5⟩:=hr2.obj;have hdiv:ad .quo .i64 (k+i) 8=(k+i)/8:=by
   simp only[ad];rw[X_A (by omega),ai (by omega) (by omega)]
  refine⟨fun l w'=>match l with|[.int _ v']=>v'=ci bs up k.toNat (i.toNat+1)/\Chg (·=rb) w w'/\dZ w' q rb S bs (k+i+1) up|_=>False,?_,fun v' w4 hI=>?_⟩
  ·refine ap hptr ⟨_,_,_,h4.drew.cell (i:=0) rfl,ap hptr ⟨_,h4.drew.cell (i:=1) rfl,?_⟩⟩
   rw[hdiv];refine(h5.sl.drew).get (by omega) (ar _) (fh (by omega)) fun a3 hc3=>⟨_,hc3,ap hptr ⟨_,_,_,h4.drew.cell (i:=3) rfl,ap hptr ⟨_,h4.drew.cell (i:=1) rfl,?_⟩⟩⟩
   have hp:=vI up (k+i);refine xd (by omega) (by omega) ⟨_,rfl,aU.refl _,hp.1,ap hptr ⟨_,h4.drew.cell (i:=1) rfl,ap hptr ⟨⟨_,h4.drew.cell (i:=1) rfl⟩,h4.drew.frozen 1,ap hptr ⟨up,?_,?_⟩⟩⟩⟩
   ·exact(h4.drew.set1 (off:=1) (v:=aa (A_.wrap (k+i+1))) (by simp)).cell (i:=2) rfl
   ·have hset:=Chg.setCells w2.drew ⟨rb,1,none⟩ [aa (A_.wrap (k+i+1))] 0
    have hc2':Chg (·=rb) w (ab w2.drew ⟨rb,1,none⟩ [aa (A_.wrap (k+i+1))] 0):=hc2.drew.trans hset fun j hj _=>hj;have hr':dZ (ab w2.drew ⟨rb,1,none⟩ [aa (A_.wrap (k+i+1))] 0) q rb S bs (k+i+1) up:=by
     refine⟨hptr,⟨base,cap,?_,bZ.chg (w:=w2.drew) h5 hset (fun b hb _ e=>h.ne (by have e:b=rb:=e;rwa[e]at hb))⟩,h.ne,h.room,h.fit,by omega,by omega⟩
     have:=h4.drew.set1 (off:=1) (v:=aa (A_.wrap (k+i+1))) (by simp)
     rw[ai (x:=k+i+1)]at this⊢;exact this
    have hbit:=Ob h.fit (up:=up) (i:=k+i) (by omega) (by omega)
    have hr:=ke bs up k.toNat i.toNat;have hr1:=ke bs up k.toNat (i.toNat+1);have hba:=sE bs up (k+i).toNat;have hki:(k+i).toNat=k.toNat+i.toNat:=by omega
    have hpow:(2:Int)^(i.toNat+1)<=2^32:=by
     have:(2:Nat)^(i.toNat+1)<=2^32:=I_A (by omega) (by omega)
     exact_mod_cast this
    rw[hbit];refine ak (fun hu=>⟨?_,hc2',hr'⟩) (fun hu=>⟨i0,?_,hc2',hr'⟩)
    ·subst hu
     rw[hki]at hba⊢;have e1:G_.u32.wrap (v*2^(1:Int).toNat)=2^1*v:=by
      rw[show(1:Int).toNat=1 by rfl,e_A]at*
      rw[dj rfl (by omega) (by simp[G_.bits];omega)];omega
     have e2:(2:Int)^1*v+ce bs true (k.toNat+i.toNat)=ci bs true k.toNat (i.toNat+1):=by rw[hv,ci,if_pos rfl];omega
     rw[la (by omega) (by simp[G_.bits]),e1,mT (by omega) (by rw[e2];simp[G_.bits];omega) hba.1 (by omega),e2]
     exact dj rfl hr1.1 (by simp[G_.bits];omega)
    ·subst hu
     rw[hki]at hba⊢;have hpi:(0:Int)<2^i.toNat:=Z_ (by omega)
     have hb2:0<=2^i.toNat*ce bs false (k.toNat+i.toNat)/\2^i.toNat*ce bs false (k.toNat+i.toNat)<=2^i.toNat:=by
      rcases(by omega:ce bs false (k.toNat+i.toNat)=0\/ce bs false (k.toNat+i.toNat)=1)with e|e<;>rw[e]<;>omega
     have e2:2^i.toNat*ce bs false (k.toNat+i.toNat)+v=ci bs false k.toNat (i.toNat+1):=by
      rw[hv,ci,if_neg (by simp),W_A];omega
     rw[e_A]at hpow;rw[la i0 (by simp[G_.bits];omega),W_A,dj (x:=2^i.toNat*_) rfl hb2.1 (by simp[G_.bits];omega)]
     rw[show aR .or .u32 v (2^i.toNat*ce bs false (k.toNat+i.toNat))=aR .or .u32 (2^i.toNat*ce bs false (k.toNat+i.toNat)) v by simp[aR,BitVec.or_comm]]
     rw[mT hba.1 (by rw[e2];simp[G_.bits];omega) (by omega) (by rw[hv];exact hr.2),e2]
     exact dj rfl hr1.1 (by simp[G_.bits];omega)
  ·obtain⟨rfl,hc4,hr4⟩:=hI
   rw[ai (x:=i+1)];refine⟨⟨by omega,by omega,by rw[show(i+1).toNat=i.toNat+1 by omega],hc4,by rw[<-Int.add_assoc];exact hr4⟩,?_⟩
   show(n-(i+1)).toNat<(n-i).toNat;omega
 ·have hge:i=n:=by simp at hge;omega
  subst hge;subst hv;exact h3 hb.1 hb.2 hle w2 hc2 hr2
theorem B8{up:Bool}(hR:R (.returned (B2 up)) w):H_ P 91 #[.bool up] w R:=by
 refine Au _ _ _ ?_;cases up
 ·exact al rfl hR
 ·exact aY rfl hR
theorem DY{base:Option D_}{len cap:Nat}{up:Bool}(h:Sl N w base (bytes bs))(hl:len=bs.length)(hsz:len<=2^47)(hf:Bs bs)
 (hR:∀rb w',Ext w w'->w.heap.size<=rb->dZ w' (some ⟨rb,0,none⟩) rb (fun i=>w.heap.size<=i/\i<rb) bs 0 up->R (.returned (.pointer (some ⟨rb,0,none⟩))) w'):
  H_ P 80 #[.slice base len cap,.bool up] w R:=by
 refine vk _ _ _ _ _ _ ?_;refine Cu h hl hsz fun p c w1 hE1 ho=>⟨_,_,_,rfl,?_⟩;refine B8 ⟨_,_,_,rfl,fun k3 w3 hn=>?_⟩;have hs:=hE1.size;have hk:k3=w1.heap.size:=hn.1;refine hR k3 w3 (hE1.trans hn.ext) (by omega) ⟨rfl,⟨p,c,?_,?_⟩,fun hh=>Nat.lt_irrefl _ hh.2,by omega,hf,P_ _,by omega⟩
 ·rw[<-hl];exact hn.cs
 ·rw[<-hl]
  exact((ho.ext hn.ext).ownS).mono fun i hi _=>⟨hi.1,by omega⟩
def kT(up:Bool)(n:Nat):Nat:=if up then 7-n%8 else n%8
theorem HF(up:Bool)(n:Nat):kT up n<8:=by unfold kT;split<;>omega
theorem N9{up:Bool}(h:kT up n=kT up m):n%8=m%8:=by unfold kT at h;split at h<;>omega
def f6(up:Bool)(bs:List Int)(n:Nat)(x:Int):List Int:=
 let cs:=if n%8=0 then bs++[0]else bs
 cs.set (n/8) (cs.getD (n/8) 0+x*2^kT up n)
structure oo(up:Bool)(bs:List Int)(n:Nat):Prop where
 fit:Bs bs
 lo:n<=8*bs.length
 hi:8*bs.length<n+8
 rest:∀j,n<=j->ce bs up j=0
theorem uH(bs:List Int)(up:Bool)(i:Nat):ce bs up i=(bs.getD (i/8) 0/2^kT up i)%2:=rfl
theorem NZ:∀v<256,∀p<8,v/2^p%2=0->v|||2^p=v+2^p:=by decide+kernel
theorem IL:∀v<256,∀p<8,v/2^p%2=0->v+2^p<256:=by decide+kernel
theorem Nl:∀v<256,∀p<8,∀q<8,v/2^p%2=0->(v+2^p)/2^q%2=if q=p then 1 else v/2^q%2:=by decide+kernel
theorem Gl(h:Bs bs)(i:Nat):∃v:Nat,bs.getD i 0=v/\v<256:=by
 by_cases hi:i<bs.length
 ·rw[show bs.getD i 0=bs[i] by simp[M_,hi]]
  have:=h _ (L_A hi);exact⟨bs[i].toNat,by omega,by omega⟩
 ·exact⟨0,by simp[M_,U_ (f_A hi)],by omega⟩
def fz(bs:List Int)(n:Nat):List Int:=if n%8=0 then bs++[0]else bs
theorem yg(up:Bool)(bs:List Int)(n:Nat)(x:Int):f6 up bs n x=(fz bs n).set (n/8) ((fz bs n).getD (n/8) 0+x*2^kT up n):=rfl
theorem zX(up:Bool)(bs:List Int)(n j:Nat):ce (fz bs n) up j=ce bs up j:=by
 unfold fz
 split
 ·simp only[uH]
  congr 2;by_cases h:j/8<bs.length
  ·simp[M_,X_ h]
  ·simp only[M_,U_ (f_A h),m_ (f_A h)]
   cases j/8-bs.length<;>simp
 ·rfl
theorem oo.wide{up:Bool}(h:oo up bs n):Bs (fz bs n)/\n/8<(fz bs n).length/\(fz bs n).length=(n+8)/8:=by
 have h1:=h.lo;have h2:=h.hi;unfold fz
 split
 ·refine⟨fun x hx=>?_,by simp;omega,by simp;omega⟩
  rcases List.mem_append.1 hx with hx|hx
  ·exact h.fit x hx
  ·simp at hx;omega
 ·exact⟨h.fit,by omega,by omega⟩
theorem oo.add{up:Bool}(h:oo up bs n)(hx:x=0\/x=1):
  oo up (f6 up bs n x) (n+1)/\(∀j,ce (f6 up bs n x) up j=if j=n then x else ce bs up j)/\(f6 up bs n x).length=(n+8)/8/\
  ∃v:Nat,(fz bs n).getD (n/8) 0=v/\v<256/\v/2^kT up n%2=0:=by
 obtain⟨g1,g2,g3⟩:=h.wide;obtain⟨v,hv,hv2⟩:=Gl g1 (n/8);have h0:v/2^kT up n%2=0:=by
  have:=h.rest n (I_ _);rw[<-zX up bs n n,uH,hv]at this
  exact_mod_cast this
 have hp:=HF up n;have hget:∀i,(f6 up bs n x).getD i 0=if i=n/8 then(v:Int)+x*2^kT up n else(fz bs n).getD i 0:=by
  intro i;rw[yg,hv];by_cases hi:i=n/8
  ·subst hi;simp[M_,g2]
  ·simp[M_,List.getElem?_set_ne (Ne.symm hi),hi]
 have hbit:∀j,ce (f6 up bs n x) up j=if j=n then x else ce bs up j:=by
  intro j;rw[<-zX up bs n j,uH,uH,hget];by_cases hj:j/8=n/8
  ·rw[if_pos hj,hj,hv]
   rcases hx with rfl|rfl
   ·rw[Int.zero_mul,Int.add_zero]
    split
    ·rename_i e;subst e;exact_mod_cast h0
    ·rfl
   ·have:=Nl v hv2 _ hp _ (HF up j) h0
    rw[Int.one_mul];by_cases e:j=n
    ·subst e;simp at this⊢;exact_mod_cast this
    ·rw[if_neg (fun he=>e (by have:=N9 he;omega))]at this
     rw[if_neg e];exact_mod_cast this
  ·rw[if_neg hj,if_neg (fun e=>hj (by rw[e]))]
 have hlen:(f6 up bs n x).length=(n+8)/8:=by rw[yg,List.length_set,g3]
 refine⟨⟨fun y hy=>?_,by omega,by omega,fun j hj=>?_⟩,hbit,hlen,v,hv,hv2,h0⟩
 ·obtain⟨i,hi,rfl⟩:=D_B hy
  have e:(f6 up bs n x).getD i 0=(f6 up bs n x)[i]:=by simp[M_,hi]
  rw[<-e,hget]
  split
  ·rcases hx with rfl|rfl
   ·omega
   ·have:=IL v hv2 _ hp h0
    constructor
    ·have:(0:Int)<2^kT up n:=Z_ (by omega)
     omega
    ·have e:((v+2^kT up n:Nat):Int)<256:=by exact_mod_cast this
     simp at e;omega
  ·obtain⟨u,hu,hu2⟩:=Gl g1 i
   omega
 ·rw[hbit,if_neg (by omega)];exact h.rest j (by omega)
structure eP(w:B_)(q:Option D_)(wb:Nat)(S:Nat->Prop)(bs:List Int)(n:Nat)(up:Bool):Prop where
 ptr:q=some ⟨wb,0,none⟩
 obj:∃base cap,Cs w wb [.slice base bs.length cap,aa n,.bool up,B2 up]/\dA S w base bs.length cap 1 (bytes bs)
 ne:¬S wb
theorem eP.chg{wb:Nat}{S T:Nat->Prop}{up:Bool}(h:eP w q wb S bs n up)(hc:Chg T w w')(h1:¬T wb)(h2:∀i,S i->¬T i):eP w' q wb S bs n up:=by
 obtain⟨base,cap,h3,h4⟩:=h.obj;exact⟨h.ptr,⟨base,cap,h3.chg hc h1,h4.chg hc h2⟩,h.ne⟩
theorem eP.ext{wb:Nat}{S:Nat->Prop}{up:Bool}(h:eP w q wb S bs n up)(hc:Ext w w'):eP w' q wb S bs n up:=
 h.chg (T:=fun _=>False) hc.chg id (fun _ _=>id)
theorem eP.lt{wb:Nat}{S:Nat->Prop}{up:Bool}(h:eP w q wb S bs n up):wb<w.heap.size:=by
 obtain⟨_,_,h,_⟩:=h.obj;exact h.lt
theorem mq{up:Bool}
 (hR:∀wb w',Ext w w'->w.heap.size<=wb->eP w' (some ⟨wb,0,none⟩) wb (fun _=>False) [] 0 up->R (.returned (.pointer (some ⟨wb,0,none⟩))) w'):
  H_ P 37 #[.bool up] w R:=by
 refine vn _ _ _ ?_;refine B8 ⟨_,_,_,rfl,fun k1 w2 hn=>?_⟩;refine hR k1 w2 hn.ext (by rw[hn.1];exact I_ _) ⟨rfl,⟨none,0,hn.cs,dA.nil _ _ _⟩,id⟩
theorem Ia{wb:Nat}{S:Nat->Prop}{up:Bool}(h:eP w q wb S bs n up)(hsz:bs.length<=2^47)
 (hR:∀p k w',Ext w w'->Ow w.heap.size w'.heap.size w' p bs.length k 1 (bytes bs)->R (.returned (.slice p bs.length k)) w'):H_ P 42 #[.pointer q] w R:=by
 refine qC _ _ _ ?_;obtain rfl:=h.ptr;obtain⟨base,cap,h3,h4⟩:=h.obj;refine al rfl (ap rfl ⟨_,_,_,h3.cell (i:=0) rfl,?_⟩);exact Cu h4.own.sl rfl hsz fun p k w' hE ho=>⟨_,_,_,rfl,hR p k w' hE ho⟩
theorem NS{v:Nat}{p:Nat}(hv:v<256)(hp:p<8)(h0:v/2^p%2=0)(hx:x=0\/x=1):
  G_.u8.wrap (aR .or .u8 (v:Int) (an .shl .u8 x (p:Int)))=v+x*2^p:=by
 have h2:(2:Int)^p<256:=by
  have:(2:Nat)^p<2^8:=Nat.pow_lt_pow_right (by omega) hp
  exact_mod_cast this
 have h3:(0:Int)<2^p:=Z_ (by omega)
 rw[la (by omega) (by simp[G_.bits];omega),a_]
 rcases hx with rfl|rfl
 ·rw[Int.zero_mul,dj (x:=0) rfl (by omega) (by decide),Bw (by omega) (by simp[G_.bits];omega) (by omega) (by simp[G_.bits])]
  simp;exact dj rfl (by omega) (by simp[G_.bits];omega)
 ·rw[Int.one_mul,dj (x:=2^p) rfl (by omega) (by simp[G_.bits];omega),Bw (by omega) (by simp[G_.bits];omega) (by omega) (by simp[G_.bits];omega)]
  have e:((2:Int)^p).toNat=2^p:=by
   have:((2:Int)^p)=((2^p:Nat):Int):=by simp
   rw[this,a_]
  have hle:=IL v hv p hp h0;rw[a_,e,NZ v hv p hp h0];have:((v+2^p:Nat):Int)<256:=by exact_mod_cast hle
  rw[dj rfl (by omega) (by simp[G_.bits]at this⊢;omega)]
  simp
theorem Ht{wb:Nat}{S:Nat->Prop}{up:Bool}(h:eP w q wb S bs n up)(hok:oo up bs n)(hx:x=0\/x=1)(hsz:n<=2^49)
 (hR:∀S' w',Gr S S' w w'->Chg (fun k=>k=wb\/S k) w w'->eP w' q wb S' (f6 up bs n x) (n+1) up->R (.returned (.tuple #[])) w'):H_ P 92 #[.pointer q,.int .u8 x] w R:=by
 refine sR _ _ _ _ ?_;have hptr:=h.ptr;have hlo:=hok.lo;have hhi:=hok.hi;have hlt:=h.lt;obtain⟨base,cap,h3,h4⟩:=h.obj;have hrem:ad .rem .i64 (n:Int) 8=((n%8:Nat):Int):=by simp only[ad];rw[o_ (by omega)];simp
 have hquo:ad .quo .i64 (n:Int) 8=((n/8:Nat):Int):=by
  simp only[ad];rw[X_A (by omega),ai (by omega) (by omega)];simp
 obtain⟨gfit,glt,glen⟩:=hok.wide;unfold no;refine⟨fun vs w'=>∃S',Gr S S' w w'/\Chg (fun k=>k=wb\/S k) w w'/\eP w' q wb S' (fz bs n) n up,?_,fun w3 hI=>?_⟩
 ·refine ap hptr ⟨_,h3.cell (i:=1) rfl,?_⟩
  rw[hrem];refine ak (fun h0=>?_) (fun h0=>?_)
  ·have h0:n%8=0:=by
    have:((n%8:Nat):Int)=0:=by simpa using h0
    omega
   refine ap hptr ⟨_,_,_,h3.cell (i:=0) rfl,fun k3 hk3 w1 hL=>?_⟩;have hE1:Ext w w1:=hL.ext (by simp;omega)
   refine(h4.ext hE1).app (by simp[am];exact fun hS=>by have:=h4.bd _ hS;omega) rfl rfl (by omega) (by omega) fun S' p' c' w2 hg ho hc=>?_
   have h3':=(h3.ext hE1).chg hc h.ne;refine ap hptr ⟨⟨_,h3'.cell (i:=0) rfl⟩,h3'.frozen 0,by simp;omega,?_⟩
   have hset:=Chg.setCells w2 ⟨wb,0,none⟩ [.slice p' (bs.length+1) c'] 0;have hg':=hg.pre hE1.size;have hne:¬S' wb:=fun hS=>by
    rcases hg'.2 _ hS with hS|hS
    ·exact h.ne hS
    ·omega
   have e:fz bs n=bs++[0]:=by simp[fz,h0]
   refine⟨S',hg'.size hset.size,((hE1.chg.trans hc fun i hi _=>.inr hi).trans hset fun i hi _=>.inl hi),hptr,⟨p',c',?_,?_⟩,hne⟩
   ·have:=h3'.set1 (off:=0) (v:=.slice p' (bs.length+1) c') (by simp)
    rw[e];simpa using this
   ·rw[e,bY,K_]
    exact ho.chg hset fun i hi e=>hne (by have e:i=wb:=e;rwa[e]at hi)
  ·have h0:n%8≠0:=by
    have:((n%8:Nat):Int)≠0:=by simpa using h0
    omega
   have e:fz bs n=bs:=by simp[fz,h0]
   exact⟨S,Gr.refl _ _,Chg.refl _ _,by rw[e];exact h⟩
 ·obtain⟨S',hg,hc,h'⟩:=hI
  obtain⟨base',cap',h5,h6⟩:=h'.obj;obtain⟨hok',_,hlen',v,hv,hv2,hv0⟩:=hok.add hx;have hp:=HF up n;refine ap hptr ⟨_,_,_,h5.drew.cell (i:=0) rfl,ap hptr ⟨_,h5.drew.cell (i:=1) rfl,?_⟩⟩;rw[hquo];refine(h6.own.sl.drew).get (by omega) (ar _) (fh (by rw[a_];exact glt)) fun a6 hc6=>⟨_,hc6,ap hptr ⟨_,_,_,h5.drew.cell (i:=3) rfl,ap hptr ⟨_,h5.drew.cell (i:=1) rfl,?_⟩⟩⟩
  refine xd (by omega) (by omega) ⟨_,rfl,aU.refl _,?_⟩
  have hpl:fI up n=(kT up n:Int):=by unfold fI kT;split<;>omega
  obtain⟨b,rfl,hSb,hblt⟩:=h6.own.base (by omega)
  rw[hpl];have hown:bZ S' w3.drew (some ⟨b,0,none⟩) (fz bs n).length cap' 1 (bytes (fz bs n)):=h6.own;obtain⟨hu,hf,hw⟩:=hown.write (i:=n/8) glt;have hne:b≠wb:=fun e=>h'.ne (e▸hSb);refine⟨by omega,bo (a:=⟨b,0,none⟩) (by omega) (by omega) rfl ?_⟩
  have ea:(⟨b,0,none⟩:D_).add ((↑(n/8):Int).toNat*1)=⟨b,n/8,none⟩:=by rw[af,a_];simp
  rw[ea];refine⟨hu,hf,?_⟩;rw[a_,hv,NS hv2 hp hv0 hx];obtain⟨ho,hc7⟩:=hw (u8 (v+x*2^kT up n));have h7:=h5.drew.chg hc7 (fun e=>hne e.symm);refine ap hptr ⟨_,h7.cell (i:=1) rfl,ap hptr ⟨⟨_,h7.cell (i:=1) rfl⟩,h7.frozen 1,?_⟩⟩;rw[ai (x:=(n:Int)+1)];have hset:=Chg.setCells (ab w3.drew ⟨b,n/8,none⟩ [u8 (v+x*2^kT up n)] 0) ⟨wb,1,none⟩ [aa ((n:Int)+1)] 0;have e1:bytes (f6 up bs n x)=(bytes (fz bs n)).set (n/8) (u8 (v+x*2^kT up n)):=by
   rw[yg,hv];simp[bytes]
  have e2:(f6 up bs n x).length=(fz bs n).length:=by rw[hlen',glen]
  have hcc:Chg (fun k=>k=wb\/S k) w (ab (ab w3.drew ⟨b,n/8,none⟩ [u8 (v+x*2^kT up n)] 0) ⟨wb,1,none⟩ [aa ((n:Int)+1)] 0):=by
   refine(hc.drew.trans hc7 fun i hi hlt=>?_).trans hset fun i hi _=>.inl hi;have hi:i=b:=hi;subst hi;rcases hg.2 _ hSb with h|h
   ·exact .inr h
   ·omega
  have hs3:w3.heap.size<=(ab (ab w3.drew ⟨b,n/8,none⟩ [u8 (v+x*2^kT up n)] 0) ⟨wb,1,none⟩ [aa ((n:Int)+1)] 0).heap.size:=N_ (show w3.drew.heap.size<=_ from hc7.size) hset.size
  refine hR S' _ (hg.size hs3) hcc ⟨hptr,⟨some ⟨b,0,none⟩,cap',?_,?_⟩,h'.ne⟩
  ·have:=h7.set1 (off:=1) (v:=aa ((n:Int)+1)) (by simp)
   rw[e2];exact this
  ·rw[e1,e2]
   refine⟨ho.chg hset fun i hi _ e=>h'.ne (by have e:i=wb:=e;rwa[e]at hi),fun i hi=>O_ (h6.bd i hi) hs3⟩
def jB(up:Bool)(v:Int)(n i:Nat):Int:=(v/2^(if up then n-1-i else i))%2
def jQ(up:Bool)(bs:List Int)(m:Nat)(v:Int)(n:Nat):Nat->List Int
 |0=>bs
 |k+1=>f6 up (jQ up bs m v n k) (m+k) (jB up v n k)
theorem Ar(up:Bool)(v:Int)(n i:Nat):jB up v n i=0\/jB up v n i=1:=by unfold jB;omega
theorem mG{up:Bool}{bs:List Int}{m:Nat}{v:Int}{n:Nat}(h:oo up bs m):∀k,oo up (jQ up bs m v n k) (m+k)
 |0=>h
 |k+1=>((mG h k).add (Ar up v n k)).1
theorem Jh{i:Int}(x0:0<=x)(x1:x<2^32)(i0:0<=i)(i1:i<=31):
  G_.u32.wrap (aR .and .u32 (an .shr .u32 x i) 1)=x/2^i.toNat%2/\ad .rem .u32 (an .shr .u32 x i) 2=x/2^i.toNat%2:=by
 have hp:(0:Int)<2^i.toNat:=Z_ (by omega)
 have h0:0<=x/2^i.toNat:=Y_A x0 (S_A hp);have h1:x/2^i.toNat<=x:=Z_A _ x0;rw[gm x0 i0 (by simp[G_.bits];omega)]
 refine⟨?_,?_⟩
 ·rw[CD h0 (by simp[G_.bits];omega)]
  exact dj rfl (by omega) (by simp[G_.bits];omega)
 ·simp only[ad];rw[o_ h0]
theorem AF{wb:Nat}{S:Nat->Prop}{up:Bool}{v n:Int}(h:eP w q wb S bs m up)(hok:oo up bs m)(hm:m<=2^48+2^47)(v0:0<=v)(v1:v<2^32)
 (h1:n<0\/n>32->R (.returned (aa 2)) w)
 (h2:0<=n->n<=32->∀S' w',Gr S S' w w'->Chg (fun k=>k=wb\/S k) w w'->eP w' q wb S' (jQ up bs m v n.toNat n.toNat) (m+n.toNat) up->R (.returned (aa 0)) w'):
  H_ P 40 #[.pointer q,.int .u32 v,aa n] w R:=by
 refine sM _ _ _ _ _ ?_;have hptr:=h.ptr;refine al (by rw[hptr];rfl) (ak (fun hb=>h1 (by simpa using hb)) (fun hb=>?_))
 have hb:0<=n/\n<=32:=by simpa using hb
 refine⟨fun l w'=>match l with|[.int _ i]=>0<=i/\i<=n/\∃S',Gr S S' w w'/\Chg (fun k=>k=wb\/S k) w w'/\eP w' q wb S' (jQ up bs m v n.toNat i.toNat) (m+i.toNat) up|_=>False,
  fun l _=>match l with|[.int _ i]=>(n-i).toNat|_=>0,⟨P_ _,hb.1,S,Gr.refl _ _,Chg.refl _ _,h⟩,fun i w1 hI=>?_⟩
 obtain⟨i0,i1,S1,hg1,hc1,h1'⟩:=hI;refine ak (fun hlt=>?_) (fun hge=>?_)
 ·have hlt:i<n:=by simpa using hlt
  obtain⟨base,cap,h3,h4⟩:=h1'.obj;have key:∀x S2 w2,Gr S1 S2 w1 w2->Chg (fun k=>k=wb\/S1 k) w1 w2->x=jB up v n.toNat i.toNat->eP w2 q wb S2 (f6 up (jQ up bs m v n.toNat i.toNat) (m+i.toNat) x) (m+i.toNat+1) up->
    ∃S',Gr S S' w w2/\Chg (fun k=>k=wb\/S k) w w2/\eP w2 q wb S' (jQ up bs m v n.toNat (i.toNat+1)) (m+(i.toNat+1)) up:=by
   intro x S2 w2 hg hc hx hw;refine⟨S2,hg1.trans hg,hc1.trans hc fun j hj hlt=>?_,?_⟩
   ·rcases hj with hj|hj
    ·exact .inl hj
    ·rcases hg1.2 j hj with hj|hj
     ·exact .inr hj
     ·omega
   ·rw[jQ,<-hx];exact hw
  have h01:=Ar up v n.toNat i.toNat;have hko:=mG (v:=v) (n:=n.toNat) hok i.toNat;refine⟨fun _ w'=>∃S',Gr S S' w w'/\Chg (fun k=>k=wb\/S k) w w'/\eP w' q wb S' (jQ up bs m v n.toNat (i.toNat+1)) (m+(i.toNat+1)) up,?_,fun w4 hI=>?_⟩
  ·refine ap hptr ⟨_,h3.cell (i:=2) rfl,ak (fun hu=>?_) (fun hu=>?_)⟩
   ·subst hu
    rw[ai (x:=n-1),ai (x:=n-1-i)];have e:=(Jh v0 v1 (i:=n-1-i) (by omega) (by omega)).1
    have e2:v/2^(n-1-i).toNat%2=jB true v n.toNat i.toNat:=by
     unfold jB;rw[if_pos rfl];congr 3;omega
    rw[e,dj (k:=.u8) rfl (by omega) (by simp[G_.bits];omega),e2]
    exact⟨by omega,Ht h1' hko h01 (by omega) fun S2 w2 hg hc hw=>⟨rfl,key _ S2 w2 hg hc rfl hw⟩⟩
   ·subst hu
    have e:=(Jh v0 v1 (i:=i) (by omega) (by omega)).1
    have e2:v/2^i.toNat%2=jB false v n.toNat i.toNat:=by unfold jB;simp
    rw[e,dj (k:=.u8) rfl (by omega) (by simp[G_.bits];omega),e2]
    exact⟨by omega,Ht h1' hko h01 (by omega) fun S2 w2 hg hc hw=>⟨rfl,key _ S2 w2 hg hc rfl hw⟩⟩
  ·obtain⟨S2,hg2,hc2,hw2⟩:=hI
   rw[ai (x:=i+1)];refine⟨⟨by omega,by omega,S2,hg2,hc2,by rw[show(i+1).toNat=i.toNat+1 by omega];exact hw2⟩,?_⟩
   show(n-(i+1)).toNat<(n-i).toNat;omega
 ·have hge:i=n:=by simp at hge;omega
  subst hge;exact h2 hb.1 hb.2 S1 w1 hg1 hc1 h1'
end Go.Proofs.YtoomejkiagonpaaGreatDoor
