/- Coefs: things that stand in memory and stay: rows, rows of rows, comps; a slice that grows beside them. -/
import Derived.Test.YtoomejkiagonpaaGreatDoorCP4
import Derived.Test.YtoomejkiagonpaaGreatDoorCP5
import Derived.Test.YtoomejkiagonpaaGreatDoorCP6
set_option linter.unusedVariables false
set_option linter.unusedSimpArgs false
set_option maxRecDepth 100000
set_option maxHeartbeats 4000000
open Go.IntKind renaming i64->A_,u64->B_
open Go renaming World->C_,Value->D_,Addr->E_,IntKind->F_,Calls->G_
open Go.Value renaming int->H_,slice->K_,agg->H_A,tuple->S_A,pointer->W_A
open Nat renaming le_refl->I_,zero_add->L_,lt_or_ge->O_,zero_le->R_,add_zero->Y_,mul_one->b_,mul_comm->c_,mul_le_mul->d_,mul_assoc->h_,add_mul->i_,le_trans->n_,eq_zero_or_pos->q_,mul_add->r_,mod_lt->s_,dvd_zero->y_,sub_zero->z_,div_eq_of_lt->A_A,mul_le_mul_left->B_A,div_lt_iff_lt_mul->C_A,mul_le_mul_right->D_A,mul_pos->E_A,div_add_mod->F_A,lt_of_lt_of_le->I_A,mul_left_comm->M_A,mul_add_mod->N_A,mod_eq_of_lt->O_A,mul_add_div->P_A,lt_of_le_of_lt->U_A
open Go.BinOp renaming quo->J_,sub->p_,rem->u_
open Int renaming toNat_natCast->M_,natCast_mul->U_,natCast_add->l_,eq_ofNat_of_zero_le->v_
open List renaming range->N_,getD_eq_getElem?_getD->P_,getElem?_append_left->Q_,length_append->V_,getElem?_append_right->W_,getElem?_eq_none->X_,range_succ->Z_,append_assoc->a_,mem_cons_of_mem->e_,getElem?_eq_getElem->f_,getElem?_map->g_,map_append->j_,getElem?_range->k_,length_cons->m_,drop_left'->o_,getElem?_of_mem->t_,length_take->w_,take_left'->x_,drop_eq_getElem_cons->J_A,cons_append->K_A,set_append_right->L_A,getElem?_drop->Q_A,length_drop->R_A,prefix_refl->V_A,take_length->X_A,map_map->Y_A
open List.cons renaming injEq->S_
open Go.Value.int renaming injEq->T_
open Go.Obj renaming cells->G_A
open Bool renaming eq_iff_iff->T_A
namespace Go.Proofs.YtoomejkiagonpaaGreatDoor
open Go Go.Vc Go.RowKit Go.Qn
variable {w u w' u' : C_} {R : Ending -> C_ -> Prop} {n i b k m W a H j s d : Nat} {vs fs zero : List D_} {p q : Option E_} {v : D_} {xs : List Int} {l L av X : List Nat} {A : Nat -> Prop} {x : Int} {F : Option E_ -> Nat -> Nat -> C_ -> Prop}
def Kp(A A':Nat->Prop)(w u:C_):Prop:=∀p vs,aD A w p vs->aD A' u p vs
theorem Kp.refl(A:Nat->Prop)(w:C_):Kp A A w w:=fun _ _ h=>h
theorem Kp.trans{B C:Nat->Prop}{a b c:C_}(h:Kp A B a b)(k:Kp B C b c):Kp A C a c:=fun p vs hs=>k p vs (h p vs hs)
theorem Kp.mono{B C:Nat->Prop}{a b:C_}(h:Kp A B a b)(hc:∀i,B i->i<b.heap.size->C i):Kp A C a b:=fun p vs hs=>(h p vs hs).mono hc
def d7:Nat->Prop:=fun _=>True
theorem po{a b:C_}(h:Ext a b):Kp d7 d7 a b:=fun p vs hs=>hs.chg (T:=fun _=>False) h.chg fun _ _ _=>id
def gh(A:Nat->Prop)(w:C_)(vs:List D_)(bs:List (List Int)):Prop:=
 vs.length=bs.length/\∀(j:Nat) (l:List Int),bs[j]?=some l->l.length=64/\∃p c,vs[j]?=some (K_ p 64 c)/\64<=c/\aD A w p (ii l)
theorem gh.kp{B:Nat->Prop}{bs:List (List Int)}(h:gh A w vs bs)(k:Kp A B w u):gh B u vs bs:=
 ⟨h.1,fun j l hj=>by obtain⟨h1,p,c,h2,h4,h3⟩:=h.2 j l hj;exact⟨h1,p,c,h2,h4,k _ _ h3⟩⟩
theorem gh.nil(A:Nat->Prop)(w:C_):gh A w [] []:=⟨rfl,fun j l h=>by simp at h⟩
theorem gh.snoc{bs:List (List Int)}{c:Nat}{l:List Int}(h:gh A w vs bs)(hl:l.length=64)(hc:64<=c)(hs:aD A w p (ii l)):gh A w (vs++[K_ p 64 c]) (bs++[l]):=by
 refine⟨by simp[h.1],fun j m hj=>?_⟩
 rcases O_ j bs.length with h'|h'
 ·rw[Q_ h']at hj
  obtain⟨h1,p,c,h2,h4,h3⟩:=h.2 j m hj;exact⟨h1,p,c,by rw[Q_ (by rw[h.1];exact h')];exact h2,h4,h3⟩
 ·rw[W_ h']at hj
  have hj0:j-bs.length=0:=by
   rcases O_ (j-bs.length) 1 with h2|h2
   ·omega
   ·rw[X_ (by simpa using h2)]at hj;cases hj
  rw[hj0]at hj;cases hj;refine⟨hl,p,c,?_,hc,hs⟩;rw[W_ (by rw[h.1];exact h'),h.1,hj0];rfl
theorem Fg.cap{sz:Nat}{base:Option E_}{len cap:Nat}(h:Fg av w w' sz base len cap vs):len<=cap:=by
 obtain⟨S,_,_,h2⟩:=h.own;exact h2.own.2.1
structure CM where
 h:Int
 v:Int
 q:List Int
 bl:List (List Int)
def j6(A:Nat->Prop)(w:C_)(cs:List D_)(c:CM):Prop:=
 ∃qp qc bp bc vs,cs=[aa c.h,aa c.v,.slice qp 64 qc,.slice bp c.bl.length bc]/\c.q.length=64/\aD A w qp (ii c.q)/\c.bl.length<=bc/\aD A w bp vs/\gh A w vs c.bl
theorem j6.kp{B:Nat->Prop}{cs:List D_}{c:CM}(h:j6 A w cs c)(k:Kp A B w u):j6 B u cs c:=by
 obtain⟨qp,qc,bp,bc,vs,h1,h2,h3,h4,h5,h6⟩:=h;exact⟨qp,qc,bp,bc,vs,h1,h2,k _ _ h3,h4,k _ _ h5,h6.kp k⟩
theorem j6.len{cs:List D_}{c:CM}(h:j6 A w cs c):cs.length=4:=by
 obtain⟨qp,qc,bp,bc,vs,h1,_⟩:=h;subst h1;rfl
def cP(A:Nat->Prop)(w:C_)(css:List (List D_))(l:List CM):Prop:=css.length=l.length/\∀(i:Nat) (c:CM),l[i]?=some c->∃cs,css[i]?=some cs/\j6 A w cs c
theorem cP.kp{B:Nat->Prop}{css:List (List D_)}{l:List CM}(h:cP A w css l)(k:Kp A B w u):cP B u css l:=
 ⟨h.1,fun i c hc=>by obtain⟨cs,h1,h2⟩:=h.2 i c hc;exact⟨cs,h1,h2.kp k⟩⟩
theorem cP.snoc{css:List (List D_)}{l:List CM}{cs:List D_}{c:CM}(h:cP A w css l)(hc:j6 A w cs c):cP A w (css++[cs]) (l++[c]):=by
 refine⟨by simp[h.1],fun j m hj=>?_⟩
 rcases O_ j l.length with h'|h'
 ·rw[Q_ h']at hj
  obtain⟨cs,h1,h2⟩:=h.2 j m hj;exact⟨cs,by rw[Q_ (by rw[h.1];exact h')];exact h1,h2⟩
 ·rw[W_ h']at hj
  have hj0:j-l.length=0:=by
   rcases O_ (j-l.length) 1 with h2|h2
   ·omega
   ·rw[X_ (by simpa using h2)]at hj;cases hj
  rw[hj0]at hj;cases hj;refine⟨cs,?_,hc⟩;rw[W_ (by rw[h.1];exact h'),h.1,hj0];rfl
theorem cP.nil(A:Nat->Prop)(w:C_):cP A w [] []:=⟨rfl,fun j l h=>by simp at h⟩
def mi(w:C_)(p:Option E_)(l:List CM):Prop:=∃css,cP d7 w css l/\aD d7 w p (ax id css)
def jV(w0 w:C_)(p:Option E_)(l:List CM):Prop:=∃css,cP (fun b=>w0.heap.size<=b) w css l/\aD (fun b=>w0.heap.size<=b) w p (ax id css)
theorem mi.ext{l:List CM}(h:mi w p l)(hE:Ext w u):mi u p l:=by
 obtain⟨css,h1,h2⟩:=h;exact⟨css,h1.kp (po hE),po hE _ _ h2⟩
structure dT(A:Nat->Prop)(X:List Nat)(w u:C_)(base:Option E_)(len cap:Nat)(vs:List D_):Prop where
 ext:Ext w u
 own:∃G:Nat->Prop,(∀i,G i->w.heap.size<=i)/\(∀i,A i->¬G i)/\dA G u base len cap 1 vs
 lt:∀i,A i->i<u.heap.size
 xs:∀b,b∈X->A b/\w.heap.size<=b
 lo:∀i,A i->w.heap.size<=i
def Da(A:Nat->Prop)(X:List Nat):Nat->Prop:=fun b=>A b/\b∉X
def Nw(A:Nat->Prop)(u u':C_):Nat->Prop:=fun b=>A b\/(u.heap.size<=b/\b<u'.heap.size)
theorem dT.step{T:Nat->Prop}{base:Option E_}{len cap:Nat}(h:dT A X w u base len cap vs)(hc:Chg T u u')(hT:∀b,T b->b<u.heap.size->b∈X):
  dT (Nw A u u') X w u' base len cap vs/\Kp (Da A X) (Da (Nw A u u') X) u u':=by
 obtain⟨G,h1,h2,h3⟩:=h.own;have hz:=hc.size;refine⟨⟨?_,⟨G,h1,fun i hi hg=>?_,h3.chg (T:=fun b=>T b/\b<u.heap.size) ?_ fun i hi ht=>?_⟩,fun i hi=>?_,fun b hb=>⟨.inl (h.xs b hb).1,(h.xs b hb).2⟩,fun i hi=>hi.elim (h.lo i) fun hi=>n_ h.ext.size hi.1⟩,fun p vs hs=>?_⟩
 ·refine h.ext.step (hc.mono (T:=fun b=>T b/\b<u.heap.size) fun i hi hl=>⟨hi,hl⟩) fun i hi=>(h.xs i (hT i hi.1 hi.2)).2
 ·have:=h3.bd i hg
  rcases hi with hi|hi
  ·exact h2 i hi hg
  ·omega
 ·exact hc.mono fun i hi hl=>⟨hi,hl⟩
 ·exact h2 i (h.xs i (hT i ht.1 ht.2)).1 hi
 ·rcases hi with hi|hi
  ·have:=h.lt i hi;omega
  ·exact hi.2
 ·refine(hs.chg hc fun b hb hl ht=>hb.2 (hT b ht hl)).mono fun b hb _=>⟨.inl hb.1,hb.2⟩
theorem dT.addX{bs:List Nat}{base:Option E_}{len cap:Nat}(h:dT A X w u base len cap vs)(hL:Locl (k::bs) u u')(hb:∀b,b∈bs->b∈X)(hk:u.heap.size<=k):
  dT (Nw A u u') (k::X) w u' base len cap vs/\Kp (Da A X) (Da (Nw A u u') (k::X)) u u':=by
 have hT:∀b,b∈k::bs->b<u.heap.size->b∈X:=fun b hm hl=>by
  rcases List.mem_cons.1 hm with e|hm
  ·omega
  ·exact hb b hm
 obtain⟨g,kp⟩:=h.step hL.chg hT;have hkl:=hL.there k (by simp)
 have hwz:=h.ext.size;refine⟨⟨g.ext,g.own,g.lt,fun b hm=>?_,g.lo⟩,fun p vs hs=>?_⟩
 ·rcases List.mem_cons.1 hm with e|hm
  ·subst e;exact⟨.inr ⟨hk,hkl⟩,by omega⟩
  ·exact g.xs b hm
 ·have h1:=hs.chg hL.chg fun b hb hl ht=>hb.2 (hT b ht hl)
  refine h1.mono fun b hb _=>⟨.inl hb.1,fun hm=>?_⟩;rcases List.mem_cons.1 hm with e|hm
  ·have:=h.lt b hb.1;omega
  ·exact hb.2 hm
theorem dT.app{l:List (Nat×Nat×List D_)}{base:Option E_}{len cap bytes:Nat}{elem:TypeId}
 (h:dT A X w u base len cap vs)(hl:∀b,b∈am l->A b)(hz:zero.length=1)(hn:fs.length=n*1)
 (hby:(len+n)*bytes<=2^47)(h62:len+n<2^62)
 (hF:∀base' cap' u',dT A X w u' base' (len+n) cap' (vs++fs)->Kp (Da A X) (Da A X) u u'->(∀b,A b->u'.heap[b]?=u.heap[b]?)->u.heap.size<=u'.heap.size->F base' (len+n) cap' u'):
  ay u l base len cap n 1 bytes elem zero fs F:=by
 obtain⟨G,h1,h2,h3⟩:=h.own;refine h3.app (fun b hb hS=>h2 b (hl b hb) hS) hz hn hby h62 fun S' base' cap' u' hg ho hc=>hF base' cap' u' ⟨h.ext.step hc h1,⟨S',fun i hi=>?_,fun b hb hS=>?_,ho⟩,fun i hi=>I_A (h.lt i hi) hc.size,h.xs,h.lo⟩ (fun p vs hs=>hs.chg hc fun b hb _ hS=>h2 b hb.1 hS) (fun b hb=>hc.block b (h.lt b hb) (h2 b hb)) hc.size
 ·have:=h.ext.size
  rcases hg.2 i hi with hi|hi
  ·exact h1 i hi
  ·omega
 ·have:=h.lt b hb
  rcases hg.2 b hS with hS|hS
  ·exact h2 b hb hS
  ·omega
theorem dT.nil(hE:Ext w u)(hA:∀i,A i->w.heap.size<=i/\i<u.heap.size)(hX:∀b,b∈X->A b/\w.heap.size<=b):dT A X w u none 0 0 []:=
 ⟨hE,⟨fun _=>False,fun _ h=>h.elim,fun _ _=>id,dA.nil _ _ _⟩,fun i hi=>(hA i hi).2,hX,fun i hi=>(hA i hi).1⟩
theorem dT.perm{Y:List Nat}{base:Option E_}{len cap:Nat}(h:dT A X w u base len cap vs)(hX:∀b,b∈Y->b∈X):dT A Y w u base len cap vs:=
 ⟨h.ext,h.own,h.lt,fun b hb=>h.xs b (hX b hb),h.lo⟩
theorem dT.all{base:Option E_}{len cap:Nat}(h:dT A X w u base len cap vs):
  dT (fun b=>w.heap.size<=b/\b<u.heap.size) X w u none 0 0 []/\Kp (Da A X) (Da (fun b=>w.heap.size<=b/\b<u.heap.size) X) u u:=
 ⟨dT.nil h.ext (fun _ h=>h) fun b hb=>⟨⟨(h.xs b hb).2,h.lt b (h.xs b hb).1⟩,(h.xs b hb).2⟩,fun p vs hs=>hs.mono fun b hb hl=>⟨⟨h.lo b hb.1,hl⟩,hb.2⟩⟩
theorem dT.slS{base:Option E_}{len cap:Nat}(h:dT A X w u base len cap vs):aD (fun b=>(w.heap.size<=b/\b<u.heap.size)/\¬A b) u base vs:=fun j v hj=>by
 obtain⟨G,h1,h2,h3⟩:=h.own;obtain⟨⟨o1,o2,o3⟩,hb⟩:=h3;have hlt:j<vs.length:=by
  rcases O_ j vs.length with h'|h'
  ·exact h'
  ·rw[X_ h']at hj;cases hj
 rcases o3 with o3|⟨b,rest,o3,o4,o5,o6⟩
 ·omega
 refine⟨_,o4,⟨⟨h1 _ o3,hb _ o3⟩,fun ha=>h2 _ ha o3⟩,?_⟩;rw[af,L_];refine o6.cell ?_;rw[Q_ hlt];exact hj
structure gE(sz:Nat)(A:Nat->Prop)(X:List Nat)(w u:C_)(base:Option E_)(len cap:Nat)(vs:List D_):Prop where
 ext:Ext w u
 own:∃G:Nat->Prop,(∀i,G i->w.heap.size<=i)/\(∀i,A i->¬G i)/\dA G u base len cap sz vs
 lt:∀i,A i->i<u.heap.size
 xs:∀b,b∈X->A b/\w.heap.size<=b
theorem gE.step{sz:Nat}{T:Nat->Prop}{base:Option E_}{len cap:Nat}(h:gE sz A X w u base len cap vs)(hc:Chg T u u')(hT:∀b,T b->b<u.heap.size->b∈X):
  gE sz (Nw A u u') X w u' base len cap vs/\Kp (Da A X) (Da (Nw A u u') X) u u':=by
 obtain⟨G,h1,h2,h3⟩:=h.own;have hz:=hc.size;refine⟨⟨?_,⟨G,h1,fun i hi hg=>?_,h3.chg (T:=fun b=>T b/\b<u.heap.size) ?_ fun i hi ht=>?_⟩,fun i hi=>?_,fun b hb=>⟨.inl (h.xs b hb).1,(h.xs b hb).2⟩⟩,fun p vs hs=>?_⟩
 ·refine h.ext.step (hc.mono (T:=fun b=>T b/\b<u.heap.size) fun i hi hl=>⟨hi,hl⟩) fun i hi=>(h.xs i (hT i hi.1 hi.2)).2
 ·have:=h3.bd i hg
  rcases hi with hi|hi
  ·exact h2 i hi hg
  ·omega
 ·exact hc.mono fun i hi hl=>⟨hi,hl⟩
 ·exact h2 i (h.xs i (hT i ht.1 ht.2)).1 hi
 ·rcases hi with hi|hi
  ·have:=h.lt i hi;omega
  ·exact hi.2
 ·refine(hs.chg hc fun b hb hl ht=>hb.2 (hT b ht hl)).mono fun b hb _=>⟨.inl hb.1,hb.2⟩
theorem gE.addX{sz:Nat}{bs:List Nat}{base:Option E_}{len cap:Nat}(h:gE sz A X w u base len cap vs)(hL:Locl (k::bs) u u')(hb:∀b,b∈bs->b∈X)(hk:u.heap.size<=k):
  gE sz (Nw A u u') (k::X) w u' base len cap vs/\Kp (Da A X) (Da (Nw A u u') (k::X)) u u':=by
 have hT:∀b,b∈k::bs->b<u.heap.size->b∈X:=fun b hm hl=>by
  rcases List.mem_cons.1 hm with e|hm
  ·omega
  ·exact hb b hm
 obtain⟨g,kp⟩:=h.step hL.chg hT;have hkl:=hL.there k (by simp)
 have hwz:=h.ext.size;refine⟨⟨g.ext,g.own,g.lt,fun b hm=>?_⟩,fun p vs hs=>?_⟩
 ·rcases List.mem_cons.1 hm with e|hm
  ·subst e;exact⟨.inr ⟨hk,hkl⟩,by omega⟩
  ·exact g.xs b hm
 ·have h1:=hs.chg hL.chg fun b hb hl ht=>hb.2 (hT b ht hl)
  refine h1.mono fun b hb _=>⟨.inl hb.1,fun hm=>?_⟩;rcases List.mem_cons.1 hm with e|hm
  ·have:=h.lt b hb.1;omega
  ·exact hb.2 hm
theorem gE.app{sz:Nat}{l:List (Nat×Nat×List D_)}{base:Option E_}{len cap bytes:Nat}{elem:TypeId}
 (h:gE sz A X w u base len cap vs)(hl:∀b,b∈am l->A b)(hz:zero.length=sz)(hn:fs.length=n*sz)
 (hby:(len+n)*bytes<=2^47)(h62:len+n<2^62)
 (hF:∀base' cap' u',gE sz A X w u' base' (len+n) cap' (vs++fs)->Kp (Da A X) (Da A X) u u'->(∀b,A b->u'.heap[b]?=u.heap[b]?)->u.heap.size<=u'.heap.size->F base' (len+n) cap' u'):
  ay u l base len cap n sz bytes elem zero fs F:=by
 obtain⟨G,h1,h2,h3⟩:=h.own;refine h3.app (fun b hb hS=>h2 b (hl b hb) hS) hz hn hby h62 fun S' base' cap' u' hg ho hc=>hF base' cap' u' ⟨h.ext.step hc h1,⟨S',fun i hi=>?_,fun b hb hS=>?_,ho⟩,fun i hi=>I_A (h.lt i hi) hc.size,h.xs⟩ (fun p vs hs=>hs.chg hc fun b hb _ hS=>h2 b hb.1 hS) (fun b hb=>hc.block b (h.lt b hb) (h2 b hb)) hc.size
 ·have:=h.ext.size
  rcases hg.2 i hi with hi|hi
  ·exact h1 i hi
  ·omega
 ·have:=h.lt b hb
  rcases hg.2 b hS with hS|hS
  ·exact h2 b hb hS
  ·omega
theorem gE.nil{sz:Nat}(hE:Ext w u)(hA:∀i,A i->i<u.heap.size)(hX:∀b,b∈X->A b/\w.heap.size<=b):gE sz A X w u none 0 0 []:=
 ⟨hE,⟨fun _=>False,fun _ h=>h.elim,fun _ _=>id,dA.nil _ _ _⟩,hA,hX⟩
theorem gE.perm{sz:Nat}{Y:List Nat}{base:Option E_}{len cap:Nat}(h:gE sz A X w u base len cap vs)(hX:∀b,b∈Y->b∈X):gE sz A Y w u base len cap vs:=
 ⟨h.ext,h.own,h.lt,fun b hb=>h.xs b (hX b hb)⟩
theorem gE.slS{sz:Nat}{base:Option E_}{len cap:Nat}(h:gE sz A X w u base len cap vs):aD (fun b=>b<u.heap.size/\¬A b) u base vs:=fun j v hj=>by
 obtain⟨G,h1,h2,h3⟩:=h.own;obtain⟨⟨o1,o2,o3⟩,hb⟩:=h3;have hlt:j<vs.length:=by
  rcases O_ j vs.length with h'|h'
  ·exact h'
  ·rw[X_ h']at hj;cases hj
 rcases o3 with o3|⟨b,rest,o3,o4,o5,o6⟩
 ·have hl0:len=0:=by omega
  subst hl0;omega
 refine⟨_,o4,⟨hb _ o3,fun ha=>h2 _ ha o3⟩,?_⟩;rw[af,L_];refine o6.cell ?_;rw[Q_ hlt];exact hj
abbrev Cn:=Int×Option E_×Nat×Nat
def NG:Cn:=(0,none,0,0)
def cn(c:Cn):List D_:=[aa c.1,.slice c.2.1 c.2.2.1 c.2.2.2]
def d9(l:List Cn):List D_:=ax cn l
theorem gi(l:List Cn):(d9 l).length=l.length*2:=bi (sz:=2) (fun _=>rfl) l
theorem jy(a b:List Cn):d9 (a++b)=d9 a++d9 b:=by simp[d9,ax]
theorem Oc(c:Cn):d9 [c]=cn c:=by simp[d9,ax]
theorem Hl(c:Cn)(l:List Cn):d9 (c::l)=cn c++d9 l:=by rw[show c::l=[c]++l from rfl,jy,Oc]
theorem HS{l:List Cn}{c:Cn}(h:l[i]?=some c):d9 l=d9 (l.take i)++cn c++d9 (l.drop (i+1)):=by
 have hlt:i<l.length:=by
  rcases O_ i l.length with h'|h'
  ·exact h'
  ·rw[X_ h']at h;cases h
 have hc:l[i]=c:=by rw[f_ hlt]at h;exact Option.some.inj h
 conv=>lhs;rw[<-List.take_append_drop i l,J_A hlt,hc]
 rw[jy,Hl,a_]
def So(u:C_)(b n:Nat)(D:Nat->Cn):Prop:=∃rest,Cs u b (d9 (dk D 0 n)++rest)
section
variable {u u' : C_} {b n : Nat} {D : Nat -> Cn}
theorem So.ext(h:So u b n D)(hE:Ext u u'):So u' b n D:=by obtain⟨r,h⟩:=h;exact⟨r,h.ext hE⟩
theorem So.drew(h:So u b n D):So u.drew b n D:=h
theorem So.cell(h:So u b n D)(hi:i<n)(hv:(cn (D i))[j]?=some v):u.cell? ((⟨b,i*2,none⟩:E_).add j)=some v:=by
 obtain⟨r,h⟩:=h;rw[af];refine h.cell ?_;have hs:(dk D 0 n)[i]?=some (D i):=by rw[Dl D (by omega),L_]
 have hj:j<2:=by
  rcases O_ j 2 with h'|h'
  ·exact h'
  ·rw[X_ (by simpa[cn]using h')]at hv;cases hv
 have hl:(d9 ((dk D 0 n).take i)).length=i*2:=by rw[gi,w_,fY];omega
 rw[HS hs,a_,a_,W_ (by omega),hl,show i*2+j-i*2=j by omega,Q_ (by simpa[cn]using hj)]
 exact hv
theorem So.can(h:So u b n D)(hi:i<n):dq u ⟨b,i*2,none⟩ 2:=by
 obtain⟨r,h⟩:=h;exact h.canSet (by rw[V_,gi,fY];omega)
theorem So.ld(h:So u b n D){i:Int}(h0:0<=i)(h1:i<n){F:E_->Prop}
 (hF:u.cell? ⟨b,i.toNat*2,none⟩=some (aa (D i.toNat).1)->u.cell? ((⟨b,i.toNat*2,none⟩:E_).add 1)=some (.slice (D i.toNat).2.1 (D i.toNat).2.2.1 (D i.toNat).2.2.2)->F ⟨b,i.toNat*2,none⟩):aq (some ⟨b,0,none⟩) n i 2 F:=by
 refine bo h0 (by omega) rfl ?_
 rw[af,L_];have hi:i.toNat<n:=by omega
 have e0:=h.cell hi (j:=0) rfl;rw[eg]at e0;exact hF e0 (h.cell hi (j:=1) rfl)
theorem So.st(h:So u b n D){i:Int}(h0:0<=i)(h1:i<n){K:E_->Prop}(hK:K ⟨b,i.toNat*2,none⟩):
  aq (some ⟨b,0,none⟩) n i 2 fun a=>(∃v,u.cell? a=some v)/\(u.frozen? a=false)/\(∃v,u.cell? (a.add 1)=some v)/\(u.frozen? (a.add 1)=false)/\K a:=by
 refine bo h0 (by omega) rfl ?_
 rw[af,L_];have hc:=h.can (i:=i.toNat) (by omega)
 have c0:=hc 0 (by omega)
 rw[eg]at c0;exact⟨c0.1,c0.2,(hc 1 (by omega)).1,(hc 1 (by omega)).2,hK⟩
def ge(D:Nat->Cn)(i:Nat)(c:Cn):Nat->Cn:=fun k=>if k=i then c else D k
theorem So.put(h:So u b n D)(hi:i<n)(c:Cn):So (ab u ⟨b,i*2,none⟩ (cn c) 0) b n (ge D i c):=by
 obtain⟨r,h⟩:=h;refine⟨r,?_⟩;have hs:(dk D 0 n)[i]?=some (D i):=by rw[Dl D (by omega),L_]
 have hs':(dk (ge D i c) 0 n)[i]?=some c:=by rw[Dl _ (by omega),L_];simp[ge]
 have hl:(d9 ((dk D 0 n).take i)).length=i*2:=by rw[gi,w_,fY];omega
 have et:(dk (ge D i c) 0 n).take i=(dk D 0 n).take i:=by
  rw[ff _ (R_ i) (by omega:i<=n),ff D (R_ i) (by omega:i<=n),x_ (by rw[fY];omega),x_ (by rw[fY];omega)]
  exact qX fun k _ hk=>by simp[ge,show k≠i by omega]
 have ed:(dk (ge D i c) 0 n).drop (i+1)=(dk D 0 n).drop (i+1):=by
  rw[ff _ (R_ (i+1)) (by omega:i+1<=n),ff D (R_ (i+1)) (by omega:i+1<=n),o_ (by rw[fY];omega),o_ (by rw[fY];omega)]
  exact qX fun k hk _=>by simp[ge,show k≠i by omega]
 have hst:=h.set (off:=i*2) (us:=cn c) (by rw[V_,gi,fY];simp[cn];omega)
 rw[HS hs',et,ed];rw[HS hs]at hst;have l4:(cn (D i)).length=2:=rfl;have l4':(cn c).length=2:=rfl;rw[show d9 ((dk D 0 n).take i)++cn (D i)++d9 ((dk D 0 n).drop (i+1))++r=d9 ((dk D 0 n).take i)++(cn (D i)++(d9 ((dk D 0 n).drop (i+1))++r)) by simp[a_]]at hst
 rw[x_ hl,l4',<-List.drop_drop,o_ hl,o_ l4]at hst;simpa[a_]using hst
theorem So.two(h:So u b n D)(hi:i<n)(hj:j<n):So (ab (ab u ⟨b,i*2,none⟩ (cn (D j)) 0) ⟨b,j*2,none⟩ (cn (D i)) 0) b n (swp D i j)/\Chg (·=b) u (ab (ab u ⟨b,i*2,none⟩ (cn (D j)) 0) ⟨b,j*2,none⟩ (cn (D i)) 0):=by
 refine⟨?_,?_⟩
 ·have:=(h.put hi (D j)).put hj (D i)
  have e:ge (ge D i (D j)) j (D i)=swp D i j:=by
   funext k;simp only[ge,swp]
   repeat' split
   all_goals first|rfl|(exfalso;omega)|(congr 1;omega)
  rwa[e]at this
 ·exact((Chg.setCells u ⟨b,i*2,none⟩ (cn (D j)) 0:)).trans (Chg.setCells _ ⟨b,j*2,none⟩ (cn (D i)) 0:) fun i hi _=>hi
end
theorem Mi(D:Nat->Cn)(i j:Nat):swp D i j=swp D j i:=by
 funext k;simp only[swp]
 repeat' split
 all_goals first|rfl|(exfalso;omega)|(congr 1;omega)
theorem ir{v:C_}(h:Chg (·=b) u v)(k:Chg (·=b) v w):Chg (·=b) u w:=h.trans k fun i hi _=>hi
theorem gn{v:C_}(h:Chg (·=b) u v):Chg (·=b) u v.drew:=h.drew
theorem ud{va:D_}{cap p q:Nat}{D:Nat->Cn}(h:So w b n D)(hp:p+m<=q)(hq:q+m<=n)(hn:n<=2^40)
 (hR:∀w',So w' b n (qV D p q m)->Chg (·=b) w w'->R (.returned (.tuple #[])) w'):
  G_ P 217 #[.slice (some ⟨b,0,none⟩) n cap,aa p,aa q,aa m,va] w R:=by
 refine ic _ _ _ _ _ _ _ _ _ ?_;unfold eN;refine⟨fun vs u=>∃k:Nat,vs=[aa k]/\k<=m/\So u b n (qV D p q k)/\Chg (·=b) w u,fun vs _=>match vs with|[.int _ k]=>(m-k).toNat|_=>0,
  ⟨0,rfl,R_ _,by rw[Ny];exact h,Chg.refl _ _⟩,fun k' w1 hI=>?_⟩
 obtain⟨k,hv,hk,hS,hC⟩:=hI;obtain rfl:k'=k:=by simpa using hv
 refine ak (fun hlt=>?_) fun hge=>?_
 ·have hlt:k<m:=by simp at hlt;omega
  rw[ai (x:=(q:Int)+k),ai (x:=(p:Int)+k),ai (x:=(k:Int)+1)];refine hS.drew.ld (by omega) (by omega) fun e1 e2=>⟨_,_,_,_,e1,e2,?_⟩
  refine hS.drew.ld (by omega) (by omega) fun e1 e2=>⟨_,_,_,_,e1,e2,?_⟩
  have ep:((p:Int)+k).toNat=p+k:=by omega
  have eq:((q:Int)+k).toNat=q+k:=by omega
  refine hS.drew.st (by omega) (by omega) ?_
  have h1:=hS.drew.put (i:=p+k) (by omega) (qV D p q k (q+k))
  rw[ep,eq];refine h1.st (i:=(q:Int)+k) (by omega) (by omega) ?_
  rw[eq];obtain⟨h2,h3⟩:=hS.drew.two (i:=p+k) (j:=q+k) (by omega) (by omega)
  rw[ML D (by omega)]at h2
  exact⟨⟨k+1,by simp,by omega,h2,ir (gn hC) h3⟩,by show((m:Int)-((k:Int)+1)).toNat<((m:Int)-k).toNat;omega⟩
 ·have hge:k=m:=by simp at hge;omega
  subst hge;exact hR w1 hS hC
theorem H1{va:D_}{cap e:Nat}{D:Nat->Cn}(h:So w b n D)(ham:a<m)(hme:m<e)(he:e<=n)(hn:n<=2^40)
 (hR:∀w',So w' b n (dh D a m e)->Chg (·=b) w w'->R (.returned (.tuple #[])) w'):
  G_ P 211 #[.slice (some ⟨b,0,none⟩) n cap,aa a,aa m,aa e,va] w R:=by
 refine iN _ _ _ _ _ _ _ _ _ ?_;unfold fj;rw[ai (x:=(m:Int)-a),ai (x:=(e:Int)-m)];refine⟨fun vs u=>∃(i j:Nat) (E:Nat->Cn),vs=[aa i,aa j]/\0<i/\0<j/\i<=m-a/\j<=e-m/\So u b n E/\Chg (·=b) w u/\dh E (m-i) m (m+j)=dh D a m e,
  fun vs _=>match vs with|[.int _ i,.int _ j]=>(i+j).toNat|_=>0,
  ⟨m-a,e-m,D,by simp;omega,by omega,by omega,I_ _,I_ _,h,Chg.refl _ _,by rw[show m-(m-a)=a by omega,show m+(e-m)=e by omega]⟩,fun i' j' w1 hI=>?_⟩
 obtain⟨i,j,E,hv,hi,hj,hi2,hj2,hS,hC,hE⟩:=hI;obtain⟨rfl,rfl⟩:i'=i/\j'=j:=by simpa using hv
 rw[ai (x:=(m:Int)-i)];have e1:(m:Int)-i=((m-i:Nat):Int):=by omega
 refine ak (fun hne=>?_) fun heq=>?_
 ·have hne:i≠j:=by simp at hne;omega
  refine⟨fun vs u=>∃(i' j':Nat) (E:Nat->Cn),vs=[aa i',aa j']/\0<i'/\0<j'/\i'<=m-a/\j'<=e-m/\i'+j'<i+j/\So u b n E/\Chg (·=b) w u/\dh E (m-i') m (m+j')=dh D a m e,?_,fun n3 n4 w4 hI=>?_⟩
  ·refine ak (fun hgt=>?_) fun hle=>?_
   ·have hgt:j<i:=by simp at hgt;omega
    rw[e1];refine ud hS (by omega) (by omega) hn fun w' h1 h2=>⟨rfl,i-j,j,_,?_,by omega,hj,by omega,hj2,by omega,h1,ir hC h2,?_⟩
    ·rw[ai (x:=(i:Int)-j)];simp;omega
    ·have:=Nu E (a:=m-i) (m:=m) (b:=m+j) (by omega) (by omega) (by omega)
     rw[show m+j-m=j by omega,show m-i+j=m-(i-j) by omega]at this
     rw[this];exact hE
   ·have hle:i<j:=by simp at hle;omega
    rw[ai (x:=(m:Int)+j),ai (x:=(m:Int)+j-i),e1,show(m:Int)+j-i=((m+j-i:Nat):Int) by omega]
    refine ud hS (by omega) (by omega) hn fun w' h1 h2=>⟨rfl,i,j-i,_,?_,hi,by omega,hi2,by omega,by omega,h1,ir hC h2,?_⟩
    ·rw[ai (x:=(j:Int)-i)];simp;omega
    ·have:=LS E (a:=m-i) (m:=m) (b:=m+j) (by omega) (by omega) (by omega)
     rw[show m-(m-i)=i by omega]at this
     rw[show m+(j-i)=m+j-i by omega,this];exact hE
  ·obtain⟨i2,j2,E2,hv2,h1,h2,h3,h4,h5,h6,h7,h8⟩:=hI
   obtain⟨rfl,rfl⟩:n3=i2/\n4=j2:=by simpa using hv2
   exact⟨⟨i2,j2,E2,rfl,h1,h2,h3,h4,h6,h7,h8⟩,by show((i2:Int)+j2).toNat<((i:Int)+j).toNat;omega⟩
 ·have heq:i=j:=by simp at heq;omega
  subst heq;rw[e1];refine ud hS (by omega) (by omega) hn fun w' h1 h2=>⟨rfl,hR w' ?_ (ir hC h2)⟩
  have:=Mx E (a:=m-i) (m:=m) (b:=m+i) (by omega) (by omega) (by omega)
  rw[show m-(m-i)=i by omega]at this
  rw[<-hE,<-this];exact h1
def eR(sa1:aj)(sl1 sc1:Nat)(x1 x2 x3:Int)(va1:D_)(w:C_)(R:bV):Prop:=
 ae (A_.wrap (x2-x1)==1) (∃I1:aw,∃m1:List D_->C_->Nat,(I1 [aa x2,aa x3] w)/\∀n1 n2 w1,(I1 [aa n1,aa n2] w1)->ae (decide (n1<n2)) (∃I2:aw,(aq (sa1) (sl1) (A_.wrap (an .shr .u64 (B_.wrap (A_.wrap (n1+n2))) 1)) (2) fun a1=>∃(n3:Int) (p1:aj) (k1 k2:Nat),(w1.drew.cell? a1=some (aa n3))/\(w1.drew.cell? (a1.add 1)=some (.slice p1 k1 k2))/\aq (sa1) (sl1) (x1) (2) fun a2=>∃(n4:Int) (p2:aj) (k3 k4:Nat),(w1.drew.cell? a2=some (aa n4))/\(w1.drew.cell? (a2.add 1)=some (.slice p2 k3 k4))/\dO P (va1) [.agg #[aa n3,.slice p1 k1 k2],.agg #[aa n4,.slice p2 k3 k4]] (w1.drew) fun e1 w2=>∃n5,(e1=.returned (aa n5))/\ae (decide (n5<0)) (I2 [aa (A_.wrap (A_.wrap (an .shr .u64 (B_.wrap (A_.wrap (n1+n2))) 1)+1)),aa n2] w2) (I2 [aa n1,aa (A_.wrap (an .shr .u64 (B_.wrap (A_.wrap (n1+n2))) 1))] w2))/\∀n6 n7 w3,(I2 [aa n6,aa n7] w3)->(I1 [aa n6,aa n7] w3)/\m1 [aa n6,aa n7] w3<m1 [aa n1,aa n2] w1) (∃I3:aw,∃m2:List D_->C_->Nat,(I3 [aa x1] w1)/\∀n8 w4,(I3 [aa n8] w4)->ae (decide (n8<A_.wrap (n1-1))) (aq (sa1) (sl1) (A_.wrap (n8+1)) (2) fun a3=>∃(n9:Int) (p3:aj) (k5 k6:Nat),(w4.drew.cell? a3=some (aa n9))/\(w4.drew.cell? (a3.add 1)=some (.slice p3 k5 k6))/\aq (sa1) (sl1) (n8) (2) fun a4=>∃(n10:Int) (p4:aj) (k7 k8:Nat),(w4.drew.cell? a4=some (aa n10))/\(w4.drew.cell? (a4.add 1)=some (.slice p4 k7 k8))/\aq (sa1) (sl1) (n8) (2) fun a5=>aI w4.drew a5 [aa n9,.slice p3 k5 k6] fun u1=>(∃v2,w4.drew.cell? (a5.add 1)=some v2)/\(w4.drew.frozen? (a5.add 1)=false)/\aq (sa1) (sl1) (A_.wrap (n8+1)) (2) fun a6=>aI u1 a6 [aa n10,.slice p4 k7 k8] fun u2=>(∃v4,u1.cell? (a6.add 1)=some v4)/\(u1.frozen? (a6.add 1)=false)/\(I3 [aa (A_.wrap (n8+1))] u2)/\m2 [aa (A_.wrap (n8+1))] u2<m2 [aa n8] w4) (R (aM #[]) w4))) (ae (A_.wrap (x3-x2)==1) (∃I4:aw,∃m3:List D_->C_->Nat,(I4 [aa x1,aa x2] w)/\∀n11 n12 w5,(I4 [aa n11,aa n12] w5)->ae (decide (n11<n12)) (∃I5:aw,(aq (sa1) (sl1) (x2) (2) fun a7=>∃(n13:Int) (p5:aj) (k9 k10:Nat),(w5.drew.cell? a7=some (aa n13))/\(w5.drew.cell? (a7.add 1)=some (.slice p5 k9 k10))/\aq (sa1) (sl1) (A_.wrap (an .shr .u64 (B_.wrap (A_.wrap (n11+n12))) 1)) (2) fun a8=>∃(n14:Int) (p6:aj) (k11 k12:Nat),(w5.drew.cell? a8=some (aa n14))/\(w5.drew.cell? (a8.add 1)=some (.slice p6 k11 k12))/\dO P (va1) [.agg #[aa n13,.slice p5 k9 k10],.agg #[aa n14,.slice p6 k11 k12]] (w5.drew) fun e2 w6=>∃n15,(e2=.returned (aa n15))/\ae (!decide (n15<0)) (I5 [aa (A_.wrap (A_.wrap (an .shr .u64 (B_.wrap (A_.wrap (n11+n12))) 1)+1)),aa n12] w6) (I5 [aa n11,aa (A_.wrap (an .shr .u64 (B_.wrap (A_.wrap (n11+n12))) 1))] w6))/\∀n16 n17 w7,(I5 [aa n16,aa n17] w7)->(I4 [aa n16,aa n17] w7)/\m3 [aa n16,aa n17] w7<m3 [aa n11,aa n12] w5) (∃I6:aw,∃m4:List D_->C_->Nat,(I6 [aa x2] w5)/\∀n18 w8,(I6 [aa n18] w8)->ae (decide (n18>n11)) (aq (sa1) (sl1) (A_.wrap (n18-1)) (2) fun a9=>∃(n19:Int) (p7:aj) (k13 k14:Nat),(w8.drew.cell? a9=some (aa n19))/\(w8.drew.cell? (a9.add 1)=some (.slice p7 k13 k14))/\aq (sa1) (sl1) (n18) (2) fun a10=>∃(n20:Int) (p8:aj) (k15 k16:Nat),(w8.drew.cell? a10=some (aa n20))/\(w8.drew.cell? (a10.add 1)=some (.slice p8 k15 k16))/\aq (sa1) (sl1) (n18) (2) fun a11=>aI w8.drew a11 [aa n19,.slice p7 k13 k14] fun u3=>(∃v6,w8.drew.cell? (a11.add 1)=some v6)/\(w8.drew.frozen? (a11.add 1)=false)/\aq (sa1) (sl1) (A_.wrap (n18-1)) (2) fun a12=>aI u3 a12 [aa n20,.slice p8 k15 k16] fun u4=>(∃v8,u3.cell? (a12.add 1)=some v8)/\(u3.frozen? (a12.add 1)=false)/\(I6 [aa (A_.wrap (n18-1))] u4)/\m4 [aa (A_.wrap (n18-1))] u4<m4 [aa n18] w8) (R (aM #[]) w8))) (∃I7:aw,(ae (decide (x2>A_.wrap (an .shr .u64 (B_.wrap (A_.wrap (x1+x3))) 1))) (I7 [aa (A_.wrap (A_.wrap (A_.wrap (an .shr .u64 (B_.wrap (A_.wrap (x1+x3))) 1)+x2)-x3)),aa (A_.wrap (an .shr .u64 (B_.wrap (A_.wrap (x1+x3))) 1))] w) (I7 [aa x1,aa x2] w))/\∀n21 n22 w9,(I7 [aa n21,aa n22] w9)->∃(I8:aw) (m5:List D_->C_->Nat),(I8 [aa n21,aa n22] w9)/\∀n23 n24 w10,(I8 [aa n23,aa n24] w10)->ae (decide (n23<n24)) (∃I9:aw,(aq (sa1) (sl1) (A_.wrap (A_.wrap (A_.wrap (A_.wrap (an .shr .u64 (B_.wrap (A_.wrap (x1+x3))) 1)+x2)-1)-A_.wrap (an .shr .u64 (B_.wrap (A_.wrap (n23+n24))) 1))) (2) fun a13=>∃(n25:Int) (p9:aj) (k17 k18:Nat),(w10.drew.cell? a13=some (aa n25))/\(w10.drew.cell? (a13.add 1)=some (.slice p9 k17 k18))/\aq (sa1) (sl1) (A_.wrap (an .shr .u64 (B_.wrap (A_.wrap (n23+n24))) 1)) (2) fun a14=>∃(n26:Int) (p10:aj) (k19 k20:Nat),(w10.drew.cell? a14=some (aa n26))/\(w10.drew.cell? (a14.add 1)=some (.slice p10 k19 k20))/\dO P (va1) [.agg #[aa n25,.slice p9 k17 k18],.agg #[aa n26,.slice p10 k19 k20]] (w10.drew) fun e3 w11=>∃n27,(e3=.returned (aa n27))/\ae (!decide (n27<0)) (I9 [aa (A_.wrap (A_.wrap (an .shr .u64 (B_.wrap (A_.wrap (n23+n24))) 1)+1)),aa n24] w11) (I9 [aa n23,aa (A_.wrap (an .shr .u64 (B_.wrap (A_.wrap (n23+n24))) 1))] w11))/\∀n28 n29 w12,(I9 [aa n28,aa n29] w12)->(I8 [aa n28,aa n29] w12)/\m5 [aa n28,aa n29] w12<m5 [aa n23,aa n24] w10) (∃I10:aw,(ae (decide (n23<x2)&&decide (x2<A_.wrap (A_.wrap (A_.wrap (an .shr .u64 (B_.wrap (A_.wrap (x1+x3))) 1)+x2)-n23))) (G_ P 211 #[.slice sa1 sl1 sc1,aa n23,aa x2,aa (A_.wrap (A_.wrap (A_.wrap (an .shr .u64 (B_.wrap (A_.wrap (x1+x3))) 1)+x2)-n23)),va1] w10 fun e4 w13=>(e4=.returned (.tuple #[]))/\I10 [] w13) (I10 [] w10))/\∀w14,(I10 [] w14)->∃I11:aw,(ae (decide (x1<n23)&&decide (n23<A_.wrap (an .shr .u64 (B_.wrap (A_.wrap (x1+x3))) 1))) (G_ P 197 #[.slice sa1 sl1 sc1,aa x1,aa n23,aa (A_.wrap (an .shr .u64 (B_.wrap (A_.wrap (x1+x3))) 1)),va1] w14 fun e5 w15=>(e5=.returned (.tuple #[]))/\I11 [] w15) (I11 [] w14))/\∀w16,(I11 [] w16)->ae (decide (A_.wrap (an .shr .u64 (B_.wrap (A_.wrap (x1+x3))) 1)<A_.wrap (A_.wrap (A_.wrap (an .shr .u64 (B_.wrap (A_.wrap (x1+x3))) 1)+x2)-n23))&&decide (A_.wrap (A_.wrap (A_.wrap (an .shr .u64 (B_.wrap (A_.wrap (x1+x3))) 1)+x2)-n23)<x3)) (G_ P 197 #[.slice sa1 sl1 sc1,aa (A_.wrap (an .shr .u64 (B_.wrap (A_.wrap (x1+x3))) 1)),aa (A_.wrap (A_.wrap (A_.wrap (an .shr .u64 (B_.wrap (A_.wrap (x1+x3))) 1)+x2)-n23)),aa x3,va1] w16 fun e6 w17=>(e6=.returned (.tuple #[]))/\R (aM #[]) w17) (R (aM #[]) w16))))
theorem iw(sa1:aj)(sl1 sc1:Nat)(x1 x2 x3:Int)(va1:D_)(w:C_)(R:bV)(h:eR sa1 sl1 sc1 x1 x2 x3 va1 w R):G_ P 197 #[.slice sa1 sl1 sc1,aa x1,aa x2,aa x3,va1] w R:=
  aF (ac:=i5) Tryz.func197 h
structure K7(va:D_)(key:Cn->Int)(b:Nat)(Q:C_->Prop):Prop where
 go:∀(u:C_) (x y:Cn) (R:Ending->C_->Prop),Q u->(∀(n:Int) w',Ext u w'->(n<0↔key x<key y)->R (.returned (aa n)) w')->dO P va [.agg (cn x).toArray,.agg (cn y).toArray] u R
 kp:∀u u',Q u->Chg (·=b) u u'->Q u'
theorem F2{y:Int}(h0:0<=x+y)(h1:x+y<2^60):A_.wrap (an BinOp.shr B_ (B_.wrap (A_.wrap (x+y))) 1)=(x+y)/2:=by
 rw[ai (x:=x+y),Ps (by omega) (by omega),gm (by omega) (by omega) (by simp[F_.bits]),show(2:Int)^(Int.toNat 1)=2 from rfl,ai (by omega) (by omega)]
theorem zV{va:D_}{key:Cn->Int}{Q:C_->Prop}{cap e:Nat}{D:Nat->Cn}(h:So w b n D)(hQ:Q w)(hC:K7 va key b Q)(hae:a<=e)(hen:e<=n)(hn:n<=2^40)
 (hR:∀w' E,So w' b n E->Chg (·=b) w w'->dE key D E a e->ca key E a e->R (.returned (.tuple #[])) w'):
  G_ P 196 #[.slice (some ⟨b,0,none⟩) n cap,aa a,aa e,va] w R:=by
 refine gw _ _ _ _ _ _ _ _ ?_;unfold d8;rw[ai (x:=(a:Int)+1)];refine⟨fun vs u=>∃(k:Nat) (E:Nat->Cn),vs=[aa k]/\a+1<=k/\(k<=e\/k=a+1)/\So u b n E/\Chg (·=b) w u/\dE key D E a e/\ca key E a k,fun vs _=>match vs with|[.int _ k]=>(e-k).toNat|_=>0,
  ⟨a+1,D,by simp,I_ _,.inr rfl,h,Chg.refl _ _,dE.refl _ _ _ _,ca.short (I_ _)⟩,fun k' w1 hI=>?_⟩
 obtain⟨k,E,hv,hk0,hk1,hS,hCh,hRe,hA⟩:=hI;obtain rfl:k'=k:=by simpa using hv
 refine ak (fun hlt=>?_) fun hge=>?_
 ·have hlt:k<e:=by simp at hlt;omega
  refine⟨fun vs u=>vs=[]/\∃E:Nat->Cn,So u b n E/\Chg (·=b) w u/\dE key D E a e/\ca key E a (k+1),?_,fun w4 hI=>?_⟩
  ·refine⟨fun vs u=>∃(j:Nat) (E:Nat->Cn),vs=[aa j]/\a<=j/\j<=k/\So u b n E/\Chg (·=b) w u/\dE key D E a e/\fi key E a j k,fun vs _=>match vs with|[.int _ j]=>j.toNat|_=>0,
    ⟨k,E,rfl,by omega,I_ _,hS,hCh,hRe,fi.start hA⟩,fun j' w2 hI=>?_⟩
   obtain⟨j,E2,hv2,hj0,hj1,hS2,hCh2,hRe2,hIn⟩:=hI;obtain rfl:j'=j:=by simpa using hv2
   refine ak (fun hgt=>?_) fun hle=>?_
   ·have hgt:a<j:=by simp at hgt;omega
    rw[ai (x:=(j:Int)-1)];have ej:((j:Int)-1).toNat=j-1:=by omega
    have ej':(j:Int).toNat=j:=by omega
    refine hS2.drew.ld (by omega) (by omega) fun e1 e2=>⟨_,_,_,_,e1,e2,?_⟩
    refine hS2.drew.ld (by omega) (by omega) fun e1 e2=>⟨_,_,_,_,e1,e2,?_⟩
    rw[ej,ej'];refine hC.go _ (E2 j) (E2 (j-1)) _ (hC.kp _ _ hQ (gn hCh2)) fun c w3 hE3 hc=>⟨c,rfl,?_⟩;have hS3:=(hS2.drew.ext hE3).drew;have hCh3:=gn (ir (gn hCh2) hE3.chg);refine ak (fun hlt=>?_) fun hge=>?_
    ·have hlt:key (E2 j)<key (E2 (j-1)):=hc.1 (by simpa using hlt)
     refine hS3.ld (by omega) (by omega) fun e1 e2=>⟨_,_,_,_,e1,e2,?_⟩
     refine hS3.ld (by omega) (by omega) fun e1 e2=>⟨_,_,_,_,e1,e2,?_⟩
     rw[ej,ej'];refine hS3.st (by omega) (by omega) ?_
     rw[ej'];have h1:=hS3.put (i:=j) (by omega) (E2 (j-1))
     refine h1.st (i:=(j:Int)-1) (by omega) (by omega) ?_
     rw[ej];obtain⟨h2,h3⟩:=hS3.two (i:=j) (j:=j-1) (by omega) (by omega)
     obtain⟨i,rfl⟩:∃i,j=i+1:=⟨j-1,by omega⟩
     simp only[Nat.add_sub_cancel]at*;rw[Mi]at h2;refine⟨⟨i,_,by simp,by omega,by omega,h2,ir hCh3 h3,hRe2.trans ((dE.swp hlt).wide (by omega) (by omega) (by omega)),hIn.step (by omega) (by omega) hlt⟩,?_⟩
     show(((i+1:Nat):Int)-1).toNat<((i+1:Nat):Int).toNat;omega
    ·have hge:key (E2 (j-1))<=key (E2 j):=by
      have:¬c<0:=by simpa using hge
      have:=mt hc.2 this;omega
     exact⟨rfl,E2,hS2.drew.ext hE3,ir (gn hCh2) hE3.chg,hRe2,hIn.done (.inr ⟨j-1,by omega,hge⟩)⟩
   ·have hle:j<=a:=by simp at hle;omega
    exact⟨rfl,E2,hS2.drew,gn hCh2,hRe2,hIn.done (.inl hle)⟩
  ·obtain⟨_,E2,h1,h2,h3,h4⟩:=hI
   rw[ai (x:=(k:Int)+1)];exact⟨⟨k+1,E2,by simp,by omega,.inl (by omega),h1,h2,h3,h4⟩,by show((e:Int)-((k:Int)+1)).toNat<((e:Int)-k).toNat;omega⟩
 ·have hge:e<=k:=by simp at hge;omega
  exact hR w1 E hS hCh hRe (hA.sub (I_ _) hge)
theorem vS{va:D_}{key:Cn->Int}{Q:C_->Prop}{cap:Nat}(hC:K7 va key b Q)(hn:n<=2^40):∀(d:Nat) {w:C_} {D:Nat->Cn} {a m e:Nat} {R:Ending->C_->Prop},e-a<=d->a<m->m<e->e<=n->
  So w b n D->Q w->ca key D a m->ca key D m e->
  (∀w' E,So w' b n E->Chg (·=b) w w'->dE key D E a e->ca key E a e->R (.returned (.tuple #[])) w')->
  G_ P 197 #[.slice (some ⟨b,0,none⟩) n cap,aa a,aa m,aa e,va] w R:=by
 intro d
 induction d with
 |zero=>intro w D a m e R hd h1 h2;omega
 |succ d ih=>
 intro w D a m e R hd ham hme hen hS hQ hL hRt hR;refine iw _ _ _ _ _ _ _ _ _ ?_;unfold eR;rw[ai (x:=(m:Int)-a)];refine ak (fun h1=>?_) fun h1=>?_
 ·-- one on the left
  have h1:m=a+1:=by simp at h1;omega
  refine⟨fun vs u=>∃i j:Nat,vs=[aa i,aa j]/\m<=i/\i<=j/\j<=e/\So u b n D/\Chg (·=b) w u/\(i=m\/key (D (i-1))<key (D a))/\(j=e\/key (D a)<=key (D j)),
   fun vs _=>match vs with|[.int _ i,.int _ j]=>(j-i).toNat|_=>0,⟨m,e,rfl,I_ _,by omega,I_ _,hS,Chg.refl _ _,.inl rfl,.inl rfl⟩,fun i' j' w1 hI=>?_⟩
  obtain⟨i,j,hv,hi,hij,hj,hS1,hC1,hlt,hle⟩:=hI;obtain⟨rfl,rfl⟩:i'=i/\j'=j:=by simpa using hv
  refine ak (fun hij'=>?_) fun hij'=>?_
  ·have hij':i<j:=by simp at hij';omega
   refine⟨fun vs u=>∃x y:Nat,vs=[aa x,aa y]/\m<=x/\x<=y/\y<=e/\So u b n D/\Chg (·=b) w u/\(x=m\/key (D (x-1))<key (D a))/\(y=e\/key (D a)<=key (D y))/\y-x<j-i,?_,fun x' y' w3 hI=>?_⟩
   ·rw[F2 (by omega) (by omega)]
    have eh:(((i:Int)+j)/2).toNat=(i+j)/2:=by omega
    have ea:(a:Int).toNat=a:=by omega
    refine hS1.drew.ld (by omega) (by omega) fun e1 e2=>⟨_,_,_,_,e1,e2,?_⟩
    refine hS1.drew.ld (by omega) (by omega) fun e1 e2=>⟨_,_,_,_,e1,e2,?_⟩
    rw[eh,ea];refine hC.go _ (D ((i+j)/2)) (D a) _ (hC.kp _ _ hQ (gn hC1)) fun c w2 hE2 hc=>⟨c,rfl,?_⟩;have hS2:=hS1.drew.ext hE2;have hC2:=ir (gn hC1) hE2.chg;refine ak (fun hlt'=>?_) fun hge'=>?_
    ·have hlt':key (D ((i+j)/2))<key (D a):=hc.1 (by simpa using hlt')
     rw[ai (x:=((i:Int)+j)/2+1)];exact⟨(i+j)/2+1,j,by simp,by omega,by omega,hj,hS2,hC2,.inr (by simpa using hlt'),hle,by omega⟩
    ·have hge':key (D a)<=key (D ((i+j)/2)):=by
      have:¬c<0:=by simpa using hge'
      have:=mt hc.2 this;omega
     exact⟨i,(i+j)/2,by simp,hi,by omega,by omega,hS2,hC2,hlt,.inr hge',by omega⟩
   ·obtain⟨x,y,hv,h2,h3,h4,h5,h6,h7,h8,h9⟩:=hI
    obtain⟨rfl,rfl⟩:x'=x/\y'=y:=by simpa using hv
    exact⟨⟨x,y,rfl,h2,h3,h4,h5,h6,h7,h8⟩,by show((y:Int)-x).toNat<((j:Int)-i).toNat;omega⟩
  ·have hij':i=j:=by simp at hij';omega
   subst hij';rw[ai (x:=(i:Int)-1)];refine⟨fun vs u=>∃k:Nat,vs=[aa k]/\a<=k/\k<=i-1/\So u b n (dh D a (a+1) (k+1))/\Chg (·=b) w u,fun vs _=>match vs with|[.int _ k]=>(i-k).toNat|_=>0,
    ⟨a,rfl,I_ _,by omega,by rw[BB D (.inr rfl)];exact hS1,hC1⟩,fun k' w4 hI=>?_⟩
   obtain⟨k,hv,hk0,hk1,hS4,hC4⟩:=hI;obtain rfl:k'=k:=by simpa using hv
   refine ak (fun hlt'=>?_) fun hge'=>?_
   ·have hlt':k<i-1:=by simp at hlt';omega
    rw[ai (x:=(k:Int)+1)];have ek:((k:Int)+1).toNat=k+1:=by omega
    have ek':(k:Int).toNat=k:=by omega
    refine hS4.drew.ld (by omega) (by omega) fun e1 e2=>⟨_,_,_,_,e1,e2,?_⟩
    refine hS4.drew.ld (by omega) (by omega) fun e1 e2=>⟨_,_,_,_,e1,e2,?_⟩
    rw[ek,ek'];refine hS4.drew.st (by omega) (by omega) ?_
    rw[ek'];have h2:=hS4.drew.put (i:=k) (by omega) (dh D a (a+1) (k+1) (k+1))
    refine h2.st (i:=(k:Int)+1) (by omega) (by omega) ?_
    rw[ek];obtain⟨h3,h4⟩:=hS4.drew.two (i:=k) (j:=k+1) (by omega) (by omega)
    rw[OH D hk0]at h3;exact⟨⟨k+1,by simp,by omega,by omega,h3,ir (gn hC4) h4⟩,by show((i:Int)-((k:Int)+1)).toNat<((i:Int)-k).toNat;omega⟩
   ·have hge':k=i-1:=by simp at hge';omega
    subst h1;rw[show k+1=i by omega]at hS4
    have hcut:tw key D a a (a+1) i e:=⟨I_ _,by omega,hi,hj,by rcases hlt with h|h;exact .inr (.inl h.symm);exact .inr (.inr h),.inl rfl⟩
    obtain⟨q1,q2⟩:=hcut.all hL hRt (by rcases hle with h|h;exact .inr (.inl h);exact .inr (.inr (by simpa using h))) (.inl rfl)
    exact hR w4 _ hS4 hC4 q1 q2
 rw[ai (x:=(e:Int)-m)];refine ak (fun h2=>?_) fun h2=>?_
 ·-- one on the right
  have h2:e=m+1:=by simp at h2;omega
  refine⟨fun vs u=>∃i j:Nat,vs=[aa i,aa j]/\a<=i/\i<=j/\j<=m/\So u b n D/\Chg (·=b) w u/\(i=a\/key (D (i-1))<=key (D m))/\(j=m\/key (D m)<key (D j)),
   fun vs _=>match vs with|[.int _ i,.int _ j]=>(j-i).toNat|_=>0,⟨a,m,rfl,I_ _,by omega,I_ _,hS,Chg.refl _ _,.inl rfl,.inl rfl⟩,fun i' j' w1 hI=>?_⟩
  obtain⟨i,j,hv,hi,hij,hj,hS1,hC1,hle,hlt⟩:=hI;obtain⟨rfl,rfl⟩:i'=i/\j'=j:=by simpa using hv
  refine ak (fun hij'=>?_) fun hij'=>?_
  ·have hij':i<j:=by simp at hij';omega
   refine⟨fun vs u=>∃x y:Nat,vs=[aa x,aa y]/\a<=x/\x<=y/\y<=m/\So u b n D/\Chg (·=b) w u/\(x=a\/key (D (x-1))<=key (D m))/\(y=m\/key (D m)<key (D y))/\y-x<j-i,?_,fun x' y' w3 hI=>?_⟩
   ·rw[F2 (by omega) (by omega)]
    have eh:(((i:Int)+j)/2).toNat=(i+j)/2:=by omega
    have em:(m:Int).toNat=m:=by omega
    refine hS1.drew.ld (by omega) (by omega) fun e1 e2=>⟨_,_,_,_,e1,e2,?_⟩
    refine hS1.drew.ld (by omega) (by omega) fun e1 e2=>⟨_,_,_,_,e1,e2,?_⟩
    rw[eh,em];refine hC.go _ (D m) (D ((i+j)/2)) _ (hC.kp _ _ hQ (gn hC1)) fun c w2 hE2 hc=>⟨c,rfl,?_⟩;have hS2:=hS1.drew.ext hE2;have hC2:=ir (gn hC1) hE2.chg;refine ak (fun hge'=>?_) fun hlt'=>?_
    ·have hge':key (D ((i+j)/2))<=key (D m):=by
      have:¬c<0:=by simpa using hge'
      have:=mt hc.2 this;omega
     rw[ai (x:=((i:Int)+j)/2+1)];exact⟨(i+j)/2+1,j,by simp,by omega,by omega,hj,hS2,hC2,.inr (by simpa using hge'),hlt,by omega⟩
    ·have hlt':key (D m)<key (D ((i+j)/2)):=hc.1 (by simpa using hlt')
     exact⟨i,(i+j)/2,by simp,hi,by omega,by omega,hS2,hC2,hle,.inr hlt',by omega⟩
   ·obtain⟨x,y,hv,h3,h4,h5,h6,h7,h8,h9,h10⟩:=hI
    obtain⟨rfl,rfl⟩:x'=x/\y'=y:=by simpa using hv
    exact⟨⟨x,y,rfl,h3,h4,h5,h6,h7,h8,h9⟩,by show((y:Int)-x).toNat<((j:Int)-i).toNat;omega⟩
  ·have hij':i=j:=by simp at hij';omega
   subst hij';refine⟨fun vs u=>∃k:Nat,vs=[aa k]/\i<=k/\k<=m/\So u b n (dh D k m (m+1))/\Chg (·=b) w u,fun vs _=>match vs with|[.int _ k]=>k.toNat|_=>0,
    ⟨m,rfl,by omega,I_ _,by rw[BB D (.inl rfl)];exact hS1,hC1⟩,fun k' w8 hI=>?_⟩
   obtain⟨k,hv,hk0,hk1,hS8,hC8⟩:=hI;obtain rfl:k'=k:=by simpa using hv
   refine ak (fun hgt'=>?_) fun hle'=>?_
   ·have hgt':i<k:=by simp at hgt';omega
    obtain⟨k,rfl⟩:∃j,k=j+1:=⟨k-1,by omega⟩
    rw[ai (x:=((k+1:Nat):Int)-1)];have ek:(((k+1:Nat):Int)-1).toNat=k:=by omega
    have ek':((k+1:Nat):Int).toNat=k+1:=by omega
    refine hS8.drew.ld (by omega) (by omega) fun e1 e2=>⟨_,_,_,_,e1,e2,?_⟩
    refine hS8.drew.ld (by omega) (by omega) fun e1 e2=>⟨_,_,_,_,e1,e2,?_⟩
    rw[ek,ek'];refine hS8.drew.st (by omega) (by omega) ?_
    rw[ek'];have h3:=hS8.drew.put (i:=k+1) (by omega) (dh D (k+1) m (m+1) k)
    refine h3.st (i:=((k+1:Nat):Int)-1) (by omega) (by omega) ?_
    rw[ek];obtain⟨h4,h5⟩:=hS8.drew.two (i:=k+1) (j:=k) (by omega) (by omega)
    rw[Mo D hk1]at h4;exact⟨⟨k,by simp,by omega,by omega,h4,ir (gn hC8) h5⟩,by show(((k+1:Nat):Int)-1).toNat<((k+1:Nat):Int).toNat;omega⟩
   ·have hle':k=i:=by simp at hle';omega
    subst hle';subst h2;have hcut:tw key D a k m (m+1) (m+1):=⟨hi,hj,by omega,I_ _,by rcases hlt with h|h;exact .inl h;exact .inr (.inr (by simpa using h)),.inr (.inl rfl)⟩
    obtain⟨q1,q2⟩:=hcut.all hL hRt (.inr (.inl rfl)) (by rcases hle with h|h;exact .inl h;exact .inr (.inr h))
    exact hR w8 _ hS8 hC8 q1 q2
 have h1:m-a≠1:=by simp at h1;omega
 have h2:e-m≠1:=by simp at h2;omega
 have hM:((a:Int)+e)/2=(((a+e)/2:Nat):Int):=by omega
 rw[F2 (x:=(a:Int)) (y:=e) (by omega) (by omega),hM]
 generalize hMd:(a+e)/2=M;have M0:a<M:=by omega
 have M1:M<e:=by omega
 rw[ai (x:=(M:Int)+m),ai (x:=(M:Int)+m-e),ai (x:=(M:Int)+m-1)];refine⟨fun vs u=>∃s0 r0:Nat,vs=[aa s0,aa r0]/\u=w/\a<=s0/\s0<=r0/\(s0=a\/s0+e=M+m)/\M+m<=s0+e/\(r0=m\/(r0=M/\M<=m))/\r0<=M,?_,fun s0' r0' w9 hI=>?_⟩
 ·refine ak (fun hgt=>?_) fun hle=>?_
  ·have hgt:M<m:=by simp at hgt;omega
   exact⟨M+m-e,M,by simp;omega,rfl,by omega,by omega,.inr (by omega),by omega,.inr ⟨rfl,by omega⟩,I_ _⟩
  ·have hle:m<=M:=by simp at hle;omega
   exact⟨a,m,rfl,rfl,I_ _,by omega,.inl rfl,by omega,.inl rfl,hle⟩
 obtain⟨s0,r0,hv,rfl,hs1,hs2,hs3,hs4,hr1,hr2⟩:=hI;obtain⟨rfl,rfl⟩:s0'=s0/\r0'=r0:=by simpa using hv
 refine⟨fun vs u=>∃s r:Nat,vs=[aa s,aa r]/\s0<=s/\s<=r/\r<=r0/\So u b n D/\Chg (·=b) w9 u/\(s=s0\/key (D (s-1))<=key (D (M+m-s)))/\(r=r0\/key (D (M+m-1-r))<key (D r)),
  fun vs _=>match vs with|[.int _ s,.int _ r]=>(r-s).toNat|_=>0,⟨s0,r0,rfl,I_ _,hs2,I_ _,hS,Chg.refl _ _,.inl rfl,.inl rfl⟩,fun s' r' w10 hI=>?_⟩
 obtain⟨s,r,hv,hs,hsr,hr,hS10,hC10,hle,hlt⟩:=hI;obtain⟨rfl,rfl⟩:s'=s/\r'=r:=by simpa using hv
 refine ak (fun hsr'=>?_) fun hsr'=>?_
 ·have hsr':s<r:=by simp at hsr';omega
  refine⟨fun vs u=>∃x y:Nat,vs=[aa x,aa y]/\s0<=x/\x<=y/\y<=r0/\So u b n D/\Chg (·=b) w9 u/\(x=s0\/key (D (x-1))<=key (D (M+m-x)))/\(y=r0\/key (D (M+m-1-y))<key (D y))/\y-x<r-s,?_,fun x' y' w12 hI=>?_⟩
  ·rw[F2 (by omega) (by omega),ai (x:=(M:Int)+m-1-((s:Int)+r)/2)]
   have eh:(((s:Int)+r)/2).toNat=(s+r)/2:=by omega
   have em:((M:Int)+m-1-((s:Int)+r)/2).toNat=M+m-1-(s+r)/2:=by omega
   refine hS10.drew.ld (by omega) (by omega) fun e1 e2=>⟨_,_,_,_,e1,e2,?_⟩
   refine hS10.drew.ld (by omega) (by omega) fun e1 e2=>⟨_,_,_,_,e1,e2,?_⟩
   rw[eh,em];refine hC.go _ (D (M+m-1-(s+r)/2)) (D ((s+r)/2)) _ (hC.kp _ _ hQ (gn hC10)) fun c w11 hE11 hc=>⟨c,rfl,?_⟩;have hS11:=hS10.drew.ext hE11;have hC11:=ir (gn hC10) hE11.chg;refine ak (fun hge'=>?_) fun hlt'=>?_
   ·have hge':key (D ((s+r)/2))<=key (D (M+m-1-(s+r)/2)):=by
     have:¬c<0:=by simpa using hge'
     have:=mt hc.2 this;omega
    rw[ai (x:=((s:Int)+r)/2+1)];exact⟨(s+r)/2+1,r,by simp,by omega,by omega,hr,hS11,hC11,.inr (by rw[show M+m-((s+r)/2+1)=M+m-1-(s+r)/2 by omega];simpa using hge'),hlt,by omega⟩
   ·have hlt':key (D (M+m-1-(s+r)/2))<key (D ((s+r)/2)):=hc.1 (by simpa using hlt')
    exact⟨s,(s+r)/2,by simp,hs,by omega,by omega,hS11,hC11,hle,.inr hlt',by omega⟩
  ·obtain⟨x,y,hv,h3,h4,h5,h6,h7,h8,h9,h10⟩:=hI
   obtain⟨rfl,rfl⟩:x'=x/\y'=y:=by simpa using hv
   exact⟨⟨x,y,rfl,h3,h4,h5,h6,h7,h8,h9⟩,by show((y:Int)-x).toNat<((r:Int)-s).toNat;omega⟩
 have hsr':s=r:=by simp at hsr';omega
 subst hsr';rw[ai (x:=(M:Int)+m-s)];obtain⟨e',he'⟩:∃e',M+m-s=e':=⟨_,rfl⟩;have he2:(M:Int)+m-s=(e':Int):=by omega
 rw[he2];have hcut:tw key D a s m e' e:=by
  refine⟨by omega,by omega,by omega,by omega,?_,?_⟩
  ·rcases hlt with h|h
   ·rcases hr1 with h'|h'
    ·exact .inl (by omega)
    ·exact .inr (.inl (by omega))
   ·exact .inr (.inr (by rw[show e'-1=M+m-1-s by omega];exact h))
  ·rcases hle with h|h
   ·rcases hs3 with h'|h'
    ·exact .inl (by omega)
    ·exact .inr (.inl (by omega))
   ·exact .inr (.inr (by rw[<-he'];exact h))
 have esm:s+(e'-m)=M:=by have:=hcut.me;omega
 obtain⟨l1,l2,l3,l4⟩:=hcut.lo hL hRt;rw[esm]at l2 l3;have c1:=hcut.az;have c2:=hcut.sm;have c3:=hcut.me;have c4:=hcut.eb;refine⟨fun vs u=>vs=[]/\So u b n (dh D s m e')/\Chg (·=b) w9 u,?_,fun w14 hI=>?_⟩
 ·refine ak (fun hb=>?_) fun hb=>?_
  ·have hb:s<m/\m<e':=by simp at hb;omega
   exact H1 hS10 hb.1 hb.2 (by omega) hn fun w' h3 h4=>⟨rfl,rfl,h3,ir hC10 h4⟩
  ·have hb:s=m\/m=e':=by simp at hb;omega
   refine⟨rfl,?_,hC10⟩;rw[BB D (by omega)];exact hS10
 obtain⟨_,hS14,hC14⟩:=hI;refine⟨fun vs u=>vs=[]/\∃E:Nat->Cn,So u b n E/\Chg (·=b) w9 u/\dE key (dh D s m e') E a M/\ca key E a M,?_,fun w16 hI=>?_⟩
 ·refine ak (fun hb=>?_) fun hb=>?_
  ·have hb:a<s/\s<M:=by simp at hb;omega
   exact ih (by omega) hb.1 hb.2 (by omega) hS14 (hC.kp _ _ hQ hC14) l1 l2 fun w' E h3 h4 h5 h6=>⟨rfl,rfl,E,h3,ir hC14 h4,h5,h6⟩
  ·have hb:s=a\/s=M:=by simp at hb;omega
   refine⟨rfl,_,hS14,hC14,dE.refl _ _ _ _,?_⟩;rcases hb with hb|hb
   ·rw[<-hb];exact l2
   ·rw[<-hb];exact l1
 obtain⟨_,E,hS16,hC16,hRe,hA⟩:=hI;have l3':ca key E M e':=l3.congr fun k hk _=>hRe.out k (by omega)
 have l4':ca key E e' e:=l4.congr fun k hk _=>hRe.out k (by omega)
 refine ak (fun hb=>?_) fun hb=>?_
 ·have hb:M<e'/\e'<e:=by simp at hb;omega
  refine ih (by omega) hb.1 hb.2 hen hS16 (hC.kp _ _ hQ hC16) l3' l4' fun w' G h3 h4 h5 h6=>⟨rfl,?_⟩
  have q:=hcut.merge (E:=E) (F:=G) hL hRt (by rw[esm];exact hRe) (by rw[esm];exact hA) (by rw[esm];exact h5) (by rw[esm];exact h6)
  exact hR w' G h3 (ir hC16 h4) q.1 q.2
 ·have hb:e'=M\/e'=e:=by simp at hb;omega
  have hA2:ca key E M e:=by
   rcases hb with hb|hb
   ·rw[<-hb];exact l4'
   ·rw[<-hb];exact l3'
  have q:=hcut.merge (E:=E) (F:=E) hL hRt (by rw[esm];exact hRe) (by rw[esm];exact hA) (by rw[esm];exact dE.refl _ _ _ _) (by rw[esm];exact hA2)
  exact hR w16 E hS16 hC16 q.1 q.2
theorem o8(h1:d∣s)(h2:d∣a)(h:s<a):s+d<=a:=by
 have:=Nat.le_of_dvd (by omega) (Nat.dvd_sub h2 h1)
 omega
def Bk(key:Cn->Int)(E:Nat->Cn)(z n:Nat):Prop:=∀s,z∣s->ca key E s (min (s+z) n)
theorem Ie{va:D_}{key:Cn->Int}{Q:C_->Prop}{cap:Nat}{D:Nat->Cn}(h:So w b n D)(hQ:Q w)(hC:K7 va key b Q)(hn:n<=2^40)
 (hR:∀w' E,So w' b n E->Chg (·=b) w w'->dE key D E 0 n->ca key E 0 n->R (.returned (.tuple #[])) w'):
  G_ P 178 #[.slice (some ⟨b,0,none⟩) n cap,aa n,va] w R:=by
 refine iP _ _ _ _ _ _ _ ?_;unfold fm;refine⟨fun vs u=>∃(a:Nat) (E:Nat->Cn),vs=[aa a,aa (a+20:Nat)]/\a<=n/\20∣a/\So u b n E/\Chg (·=b) w u/\dE key D E 0 n/\(∀s,20∣s->s<a->ca key E s (s+20)),
  fun vs _=>match vs with|[.int _ a,_]=>(n-a).toNat|_=>0,⟨0,D,rfl,R_ _,y_ _,h,Chg.refl _ _,dE.refl _ _ _ _,fun s _ hs=>by omega⟩,fun a' b' w1 hI=>?_⟩
 obtain⟨a,E,hv,ha,hd,hS,hCh,hRe,hA⟩:=hI;obtain⟨rfl,rfl⟩:a'=a/\b'=(a+20:Nat):=by simpa using hv
 refine ak (fun hle=>?_) fun hgt=>?_
 ·have hle:a+20<=n:=by simp at hle;omega
  refine zV hS (hC.kp _ _ hQ hCh) hC (by omega) hle hn fun w' G h1 h2 h3 h4=>⟨rfl,⟨a+20,G,?_,hle,by omega,h1,ir hCh h2,hRe.trans (h3.wide (R_ _) hle (by omega)),fun s hs hlt=>?_⟩,?_⟩
  ·rw[ai (x:=((a+20:Nat):Int)+20)];simp
  ·rcases O_ s a with hsa|hsa
   ·have:=o8 hs hd hsa
    exact(hA s hs hsa).congr fun k _ hk=>h3.out k (by omega)
   ·rw[show s=a by omega];exact h4
  ·show((n:Int)-((a+20:Nat):Int)).toNat<((n:Int)-a).toNat;omega
 have hgt:n<a+20:=by simp at hgt;omega
 refine zV hS (hC.kp _ _ hQ hCh) hC ha (I_ _) hn fun w3 G h1 h2 h3 h4=>⟨rfl,?_⟩;have hB:Bk key G 20 n:=by
  intro s hs;rcases O_ s a with hsa|hsa
  ·have:=o8 hs hd hsa
   rw[show min (s+20) n=s+20 by omega]
   exact(hA s hs hsa).congr fun k _ hk=>h3.out k (by omega)
  ·exact h4.sub hsa (by omega)
 refine⟨fun vs u=>∃(z:Nat) (E:Nat->Cn),vs=[aa z]/\0<z/\z<=2*n+20/\So u b n E/\Chg (·=b) w u/\dE key D E 0 n/\Bk key E z n,fun vs _=>match vs with|[.int _ z]=>(n-z).toNat|_=>0,
  ⟨20,G,rfl,by omega,by omega,h1,ir hCh h2,hRe.trans (h3.wide (R_ _) (I_ _) ha),hB⟩,fun z' w4 hI=>?_⟩
 clear hB h1 h2 h3 h4 hS hCh hRe hA;obtain⟨z,E,hv,hz0,hz1,hS,hCh,hRe,hB⟩:=hI;obtain rfl:z'=z:=by simpa using hv
 refine ak (fun hlt=>?_) fun hge=>?_
 ·have hlt:z<n:=by simp at hlt;omega
  rw[ai (x:=2*(z:Int)),ai (x:=(z:Int)*2)];refine⟨fun vs u=>vs=[aa (2*z:Nat)]/\∃E:Nat->Cn,So u b n E/\Chg (·=b) w u/\dE key D E 0 n/\Bk key E (2*z) n,?_,fun z2 w8 hI=>?_⟩
  ·refine⟨fun vs u=>∃(a:Nat) (E:Nat->Cn),vs=[aa a,aa (a+2*z:Nat)]/\a<=n/\2*z∣a/\So u b n E/\Chg (·=b) w u/\dE key D E 0 n/\(∀s,2*z∣s->s<a->ca key E s (s+2*z))/\(∀s,z∣s->a<=s->ca key E s (min (s+z) n)),
    fun vs _=>match vs with|[.int _ a,_]=>(n-a).toNat|_=>0,⟨0,E,by simp,R_ _,y_ _,hS,hCh,hRe,fun s _ hs=>by omega,fun s hs _=>hB s hs⟩,fun a' b' w5 hI=>?_⟩
   obtain⟨a,E5,hv,ha,hd,hS5,hCh5,hRe5,hA5,hB5⟩:=hI;obtain⟨rfl,rfl⟩:a'=a/\b'=(a+2*z:Nat):=by simpa using hv
   have hza:z∣a:=Nat.dvd_trans (Nat.dvd_mul_left z 2) hd;have hza2:z∣a+z:=Nat.dvd_add hza (Nat.dvd_refl z);rw[ai (x:=(a:Int)+z)];have eaz:(a:Int)+z=((a+z:Nat):Int):=by omega
   have L:=hB5 a hza (I_ _);have Rr:=hB5 (a+z) hza2 (by omega)
   refine ak (fun hle=>?_) fun hgt=>?_
   ·have hle:a+2*z<=n:=by simp at hle;omega
    rw[show min (a+z) n=a+z by omega]at L
    rw[show min (a+z+z) n=a+2*z by omega]at Rr
    rw[eaz];refine vS hC hn _ (I_ _) (by omega) (by omega) hle hS5 (hC.kp _ _ hQ hCh5) L Rr fun w' G h1 h2 h3 h4=>⟨rfl,⟨a+2*z,G,?_,hle,Nat.dvd_add hd (Nat.dvd_refl _),h1,ir hCh5 h2,hRe5.trans (h3.wide (R_ _) hle (by omega)),fun s hs hlt=>?_,fun s hs hge=>?_⟩,?_⟩
    ·rw[ai (x:=((a+2*z:Nat):Int)+2*(z:Int))];simp
    ·rcases O_ s a with hsa|hsa
     ·have:=o8 hs hd hsa
      exact(hA5 s hs hsa).congr fun k _ hk=>h3.out k (by omega)
     ·have:s=a:=by
       rcases Nat.eq_or_lt_of_le hsa with h|h
       ·exact h.symm
       ·have:=o8 hd hs h;omega
      rw[this];exact h4
    ·exact(hB5 s hs (by omega)).congr fun k hk _=>h3.out k (by omega)
    ·show((n:Int)-((a+2*z:Nat):Int)).toNat<((n:Int)-a).toNat;omega
   ·have hgt:n<a+2*z:=by simp at hgt;omega
    have ez:(z:Int)*2=((2*z:Nat):Int):=by omega
    refine ak (fun hlt'=>?_) fun hge'=>?_
    ·have hlt':a+z<n:=by simp at hlt';omega
     rw[show min (a+z) n=a+z by omega]at L
     rw[show min (a+z+z) n=n by omega]at Rr
     rw[eaz];refine vS hC hn _ (I_ _) (by omega) (by omega) (I_ _) hS5 (hC.kp _ _ hQ hCh5) L Rr fun w' G h1 h2 h3 h4=>⟨rfl,by rw[ez],G,h1,ir hCh5 h2,hRe5.trans (h3.wide (R_ _) (I_ _) (by omega)),fun s hs=>?_⟩
     rcases O_ s a with hsa|hsa
     ·have:=o8 hs hd hsa
      rw[show min (s+2*z) n=s+2*z by omega]
      exact(hA5 s hs hsa).congr fun k _ hk=>h3.out k (by omega)
     ·exact h4.sub hsa (by omega)
    ·have hge':n<=a+z:=by simp at hge';omega
     refine⟨by rw[ez],E5,hS5,hCh5,hRe5,fun s hs=>?_⟩
     rcases O_ s a with hsa|hsa
     ·have:=o8 hs hd hsa
      rw[show min (s+2*z) n=s+2*z by omega]
      exact hA5 s hs hsa
     ·rw[show min (a+z) n=n by omega]at L
      exact L.sub hsa (by omega)
  ·obtain⟨hv,E8,h1,h2,h3,h4⟩:=hI
   obtain rfl:z2=(2*z:Nat):=by simpa using hv
   exact⟨⟨2*z,E8,rfl,by omega,by omega,h1,h2,h3,h4⟩,by show((n:Int)-((2*z:Nat):Int)).toNat<((n:Int)-z).toNat;omega⟩
 ·have hge:n<=z:=by simp at hge;omega
  have:=hB 0 (y_ _);rw[show min (0+z) n=n by omega]at this
  exact hR w4 E hS hCh hRe this
def Ex(u:C_)(b:Nat)(l:List Cn):Prop:=∃rest,Cs u b (d9 l++rest)
theorem Hv(l:List Cn):dk (fun i=>l.getD i NG) 0 l.length=l:=by
 refine List.ext_getElem (by simp[fY]) fun i h1 h2=>?_
 simp[dk,List.getD,h2]
theorem Ex.so{l:List Cn}(h:Ex u b l):So u b l.length fun i=>l.getD i NG:=by
 obtain⟨r,h⟩:=h;exact⟨r,by rw[Hv];exact h⟩
theorem EH{va:D_}{key:Cn->Int}{Q:C_->Prop}{cap:Nat}{l:List Cn}(h:Ex w b l)(hQ:Q w)(hC:K7 va key b Q)(hn:l.length<=2^40)
 (hR:∀w',Ex w' b (fT key l)->Chg (·=b) w w'->R (.returned (.tuple #[])) w'):
  G_ P 161 #[.slice (some ⟨b,0,none⟩) l.length cap,va] w R:=by
 refine iA _ _ _ _ _ _ ?_;unfold eZ;refine Ie h.so hQ hC hn fun w' E h1 h2 h3 h4=>⟨rfl,hR w' ?_ h2⟩;obtain⟨r,h1⟩:=h1;have:=wM (key:=key) (l:=l) (m:=dk E 0 l.length) (by have:=h3.same;rwa[Hv]at this) h4.asc
 exact⟨r,by rw[<-this];exact h1⟩
theorem Fg.cut0{sz:Nat}{base:Option E_}{len cap:Nat}(h:Fg av w u sz base len cap vs):Fg av w u sz base 0 cap []:=by
 obtain⟨S,h1,h2,h3,hb⟩:=h.own;obtain⟨o1,o2,o3⟩:=h3;refine⟨h.ext,⟨S,h1,h2,⟨by simp,by omega,?_⟩,hb⟩,h.avs⟩
 rcases o3 with o3|⟨b,rest,o3,o4,o5,o6⟩
 ·exact .inl o3
 ·exact .inr ⟨b,vs++rest,o3,o4,by rw[V_];simpa using o5,o6⟩
theorem KF(hn:n<=2^30)
 (hR:∀p c w',Fg [] w w' 1 p 0 c []->R (.returned (.slice p 0 c)) w'):G_ P 179 #[.slice none 0 0,aa (n:Nat)] w R:=by
 refine sN _ _ _ _ _ _ ?_;have e:A_.wrap (((n:Nat):Int)-A_.wrap (((0:Nat):Int)-((0:Nat):Int)))=((n:Nat):Int):=by
  rw[ai (x:=((0:Nat):Int)-((0:Nat):Int)),ai (by omega) (by omega)];omega
 unfold nL;refine al (decide_eq_false (by omega)) ?_
 rw[e];refine ak (fun hp=>?_) fun hp=>hR none 0 w (Fg.nil (Ext.refl w) 1);refine⟨by omega,by omega,by omega,by omega,by omega,by omega,?_⟩
 have e2:A_.wrap (jk p_ ((n:Nat):Int) (A_.wrap (jk p_ ((0:Nat):Int) ((0:Nat):Int))))=((n:Nat):Int):=e;rw[e2];have hr:(cY ((n:Nat):Int).toNat ((fun x:D_=>x.cells.toList) (aa 0))).length=((n:Nat):Int).toNat*1:=by
  have:(fun x:D_=>x.cells.toList) (aa 0)=[aa 0]:=rfl;rw[this,JE];simp
 refine(Fg.nil (Ext.refl w) 1).app' (by simp[am]) rfl hr (by rw[M_];simp;omega) (by rw[M_];simp;omega) fun p c w4 hF _ _=>?_
 have hF0:=Fg.cut0 hF;refine⟨by omega,by omega,by omega,?_⟩
 simp only[M_,z_,show(0:Int).toNat=0 from rfl,fP]
 exact hR p c w4 hF0
theorem OB(a b:D_):∀n:Nat,(cY n [a,b]).length=n*2
 |0=>rfl
 |n+1=>by rw[show cY (n+1) [a,b]=[a,b]++cY n [a,b]from rfl,V_,OB a b n];simp;omega
theorem C1(l:List Cn):aN (d9 l)=true:=by
 induction l with
 |nil=>rfl
 |cons c l ih=>
  rw[Hl];unfold aN at*;rw[List.all_append,ih];rfl
theorem Jy(hn:n<=2^30)
 (hR:∀p c w',Fg [] w w' 2 p 0 c []->R (.returned (.slice p 0 c)) w'):G_ P 180 #[.slice none 0 0,aa (n:Nat)] w R:=by
 refine lO _ _ _ _ _ _ ?_;have e:A_.wrap (((n:Nat):Int)-A_.wrap (((0:Nat):Int)-((0:Nat):Int)))=((n:Nat):Int):=by
  rw[ai (x:=((0:Nat):Int)-((0:Nat):Int)),ai (by omega) (by omega)];omega
 unfold iG;refine al (decide_eq_false (by omega)) ?_
 rw[e];refine ak (fun hp=>?_) fun hp=>hR none 0 w (Fg.nil (Ext.refl w) 2);refine⟨by omega,by omega,by omega,by omega,by omega,by omega,?_⟩
 have e2:A_.wrap (jk p_ ((n:Nat):Int) (A_.wrap (jk p_ ((0:Nat):Int) ((0:Nat):Int))))=((n:Nat):Int):=e;rw[e2];have hr:(cY ((n:Nat):Int).toNat ((fun x:D_=>x.cells.toList) (.agg #[aa 0,.slice none 0 0]))).length=((n:Nat):Int).toNat*2:=by
  have:(fun x:D_=>x.cells.toList) (.agg #[aa 0,.slice none 0 0])=[aa 0,.slice none 0 0]:=rfl;rw[this];exact OB _ _ _
 refine(Fg.nil (Ext.refl w) 2).app' (by simp[am]) rfl hr (by rw[M_];simp;omega) (by rw[M_];simp;omega) fun p c w4 hF _ _=>?_
 have hF0:=Fg.cut0 hF;refine⟨by omega,by omega,by omega,?_⟩
 simp only[M_,z_,show(0:Int).toNat=0 from rfl,fP]
 exact hR p c w4 hF0
theorem GW{c:Nat}{ys:List Int}(hk:Cs w k [.slice p n c,.slice q m d])(hx:aD A w p (ii xs))(hy:aD A w q (ii ys))(hn:n=xs.length)(hm:m=ys.length)(hsz:n+m<=2^30)
 (hR:∀b cp w',Fg [] w w' 1 b (n+m) cp (ii (xs++ys))->R (.returned (.slice b (n+m) cp)) w'):G_ P 162 #[.slice (some ⟨k,0,none⟩) 2 2] w R:=by
 refine qE _ _ _ _ _ ?_
 let T:Nat->Nat:=fun i=>if i=0 then 0 else if i=1 then n else n+m
 refine⟨fun vs u=>∃i:Nat,vs=[aa (T i:Nat),aa (i:Nat)]/\i<=2/\u=w,fun vs _=>match vs with|[_,.int _ i]=>(2-i:Int).toNat|_=>0,⟨0,rfl,by omega,rfl⟩,fun n1 n2 w1 hI=>?_⟩
 obtain⟨i,hv,hi,rfl⟩:=hI;simp only[S_,T_,true_and,and_true]at hv;obtain⟨rfl,rfl⟩:=hv;refine ak (fun hlt=>?_) fun hge=>?_
 ·have hlt:i<2:=by have:=of_decide_eq_true hlt;omega
  refine bo (by omega) (by omega) rfl ?_
  simp only[M_,af,L_,b_];have:i=0\/i=1:=by omega
  rcases this with rfl|rfl
  ·refine⟨_,_,_,hk.cell (i:=0) rfl,?_⟩
   have e:A_.wrap (((T 0:Nat):Int)+((n:Nat):Int))=((T 1:Nat):Int):=by
    show A_.wrap (((0:Nat):Int)+((n:Nat):Int))=((n:Nat):Int);rw[ai (by omega) (by omega)];omega
   rw[e];refine al (decide_eq_false (by omega)) ⟨⟨1,rfl,by omega,trivial⟩,by decide⟩
  ·refine⟨_,_,_,hk.cell (i:=1) rfl,?_⟩
   have e:A_.wrap (((T 1:Nat):Int)+((m:Nat):Int))=((T 2:Nat):Int):=by
    show A_.wrap (((n:Nat):Int)+((m:Nat):Int))=((n+m:Nat):Int);rw[ai (by omega) (by omega)];omega
   rw[e];refine al (decide_eq_false (by omega)) ⟨⟨2,rfl,by omega,trivial⟩,by decide⟩
 have hge:i=2:=by have:=of_decide_eq_false hge;omega
 subst hge;show G_ P 179 #[.slice none 0 0,aa ((n+m:Nat):Int)] w1 _;refine KF hsz fun p2 c2 w2 hF2=>⟨_,_,_,rfl,?_⟩
 let V:Nat->List Int:=fun i=>if i=0 then[]else if i=1 then xs else xs++ys
 refine⟨fun vs u=>∃(i:Nat) (b:Option E_) (cp:Nat),vs=[.slice b (T i) cp,aa (i:Nat)]/\i<=2/\Fg [] w1 u 1 b (T i) cp (ii (V i)),fun vs _=>match vs with|[_,.int _ i]=>(2-i:Int).toNat|_=>0,⟨0,_,_,rfl,by omega,hF2⟩,fun p3 k5 k6 n3 w3 hI=>?_⟩
 obtain⟨i,b,cp,hv,hi,hF3⟩:=hI;simp only[S_,T_,K_.injEq,true_and,and_true]at hv;obtain⟨⟨rfl,rfl,rfl⟩,rfl⟩:=hv;have hE3:=hF3.ext;refine ak (fun hlt=>?_) fun hge=>?_
 ·have hlt:i<2:=by have:=of_decide_eq_true hlt;omega
  refine bo (by omega) (by omega) rfl ?_
  simp only[M_,af,L_,b_];have:i=0\/i=1:=by omega
  rcases this with rfl|rfl
  ·refine⟨_,_,_,(hk.ext hE3).cell (i:=0) rfl,ii xs,by rw[aG];omega,fE _,((hx.chg (hE3.chg (S:=fun _=>False)) fun _ _ _=>id).sl).cells,?_⟩
   have hT:T 0=0:=rfl;have hT1:T 1=n:=rfl;refine hF3.app' (by simp[am]) rfl (by rw[aG];omega) (by omega) (by omega) fun b' c' w4 hF4 _ _=>⟨⟨1,b',c',?_,by omega,?_⟩,by decide⟩
   ·rw[hT,hT1,L_];rfl
   ·rw[hT,L_]at hF4;exact hF4
  ·refine⟨_,_,_,(hk.ext hE3).cell (i:=1) rfl,ii ys,by rw[aG];omega,fE _,((hy.chg (hE3.chg (S:=fun _=>False)) fun _ _ _=>id).sl).cells,?_⟩
   have hT1:T 1=n:=rfl;have hT2:T 2=n+m:=rfl;refine hF3.app' (by simp[am]) rfl (by rw[aG];omega) (by omega) (by omega) fun b' c' w4 hF4 _ _=>⟨⟨2,b',c',?_,by omega,?_⟩,by decide⟩
   ·rw[hT1,hT2];rfl
   ·rw[hT2]
    show Fg [] w1 w4 1 b' (n+m) c' (ii (xs++ys));rw[rz];exact hF4
 have hge:i=2:=by have:=of_decide_eq_false hge;omega
 subst hge;exact hR _ _ _ hF3
theorem GK{c:Nat}{xs ys:List Cn}(hk:Cs w k [.slice p n c,.slice q m d])(hx:aD A w p (d9 xs))(hy:aD A w q (d9 ys))(hn:n=xs.length)(hm:m=ys.length)(hsz:n+m<=2^30)
 (hR:∀b cp w',Fg [] w w' 2 b (n+m) cp (d9 (xs++ys))->R (.returned (.slice b (n+m) cp)) w'):G_ P 163 #[.slice (some ⟨k,0,none⟩) 2 2] w R:=by
 refine kX _ _ _ _ _ ?_
 let T:Nat->Nat:=fun i=>if i=0 then 0 else if i=1 then n else n+m
 refine⟨fun vs u=>∃i:Nat,vs=[aa (T i:Nat),aa (i:Nat)]/\i<=2/\u=w,fun vs _=>match vs with|[_,.int _ i]=>(2-i:Int).toNat|_=>0,⟨0,rfl,by omega,rfl⟩,fun n1 n2 w1 hI=>?_⟩
 obtain⟨i,hv,hi,rfl⟩:=hI;simp only[S_,T_,true_and,and_true]at hv;obtain⟨rfl,rfl⟩:=hv;refine ak (fun hlt=>?_) fun hge=>?_
 ·have hlt:i<2:=by have:=of_decide_eq_true hlt;omega
  refine bo (by omega) (by omega) rfl ?_
  simp only[M_,af,L_,b_];have:i=0\/i=1:=by omega
  rcases this with rfl|rfl
  ·refine⟨_,_,_,hk.cell (i:=0) rfl,?_⟩
   have e:A_.wrap (((T 0:Nat):Int)+((n:Nat):Int))=((T 1:Nat):Int):=by
    show A_.wrap (((0:Nat):Int)+((n:Nat):Int))=((n:Nat):Int);rw[ai (by omega) (by omega)];omega
   rw[e];refine al (decide_eq_false (by omega)) ⟨⟨1,rfl,by omega,trivial⟩,by decide⟩
  ·refine⟨_,_,_,hk.cell (i:=1) rfl,?_⟩
   have e:A_.wrap (((T 1:Nat):Int)+((m:Nat):Int))=((T 2:Nat):Int):=by
    show A_.wrap (((n:Nat):Int)+((m:Nat):Int))=((n+m:Nat):Int);rw[ai (by omega) (by omega)];omega
   rw[e];refine al (decide_eq_false (by omega)) ⟨⟨2,rfl,by omega,trivial⟩,by decide⟩
 have hge:i=2:=by have:=of_decide_eq_false hge;omega
 subst hge;show G_ P 180 #[.slice none 0 0,aa ((n+m:Nat):Int)] w1 _;refine Jy hsz fun p2 c2 w2 hF2=>⟨_,_,_,rfl,?_⟩
 let V:Nat->List Cn:=fun i=>if i=0 then[]else if i=1 then xs else xs++ys
 refine⟨fun vs u=>∃(i:Nat) (b:Option E_) (cp:Nat),vs=[.slice b (T i) cp,aa (i:Nat)]/\i<=2/\Fg [] w1 u 2 b (T i) cp (d9 (V i)),fun vs _=>match vs with|[_,.int _ i]=>(2-i:Int).toNat|_=>0,⟨0,_,_,rfl,by omega,hF2⟩,fun p3 k5 k6 n3 w3 hI=>?_⟩
 obtain⟨i,b,cp,hv,hi,hF3⟩:=hI;simp only[S_,T_,K_.injEq,true_and,and_true]at hv;obtain⟨⟨rfl,rfl,rfl⟩,rfl⟩:=hv;have hE3:=hF3.ext;refine ak (fun hlt=>?_) fun hge=>?_
 ·have hlt:i<2:=by have:=of_decide_eq_true hlt;omega
  refine bo (by omega) (by omega) rfl ?_
  simp only[M_,af,L_,b_];have:i=0\/i=1:=by omega
  rcases this with rfl|rfl
  ·refine⟨_,_,_,(hk.ext hE3).cell (i:=0) rfl,d9 xs,by rw[gi];omega,C1 _,((hx.chg (hE3.chg (S:=fun _=>False)) fun _ _ _=>id).sl).cells,?_⟩
   have hT:T 0=0:=rfl;have hT1:T 1=n:=rfl;refine hF3.app' (by simp[am]) rfl (by rw[gi];omega) (by omega) (by omega) fun b' c' w4 hF4 _ _=>⟨⟨1,b',c',?_,by omega,?_⟩,by decide⟩
   ·rw[hT,hT1,L_];rfl
   ·rw[hT,L_]at hF4;exact hF4
  ·refine⟨_,_,_,(hk.ext hE3).cell (i:=1) rfl,d9 ys,by rw[gi];omega,C1 _,((hy.chg (hE3.chg (S:=fun _=>False)) fun _ _ _=>id).sl).cells,?_⟩
   have hT1:T 1=n:=rfl;have hT2:T 2=n+m:=rfl;refine hF3.app' (by simp[am]) rfl (by rw[gi];omega) (by omega) (by omega) fun b' c' w4 hF4 _ _=>⟨⟨2,b',c',?_,by omega,?_⟩,by decide⟩
   ·rw[hT1,hT2];rfl
   ·rw[hT2]
    show Fg [] w1 w4 2 b' (n+m) c' (d9 (xs++ys));rw[jy];exact hF4
 have hge:i=2:=by have:=of_decide_eq_false hge;omega
 subst hge;exact hR _ _ _ hF3
theorem Eb{W:List Int}{p:Nat}:∀{n:Nat} {c:Nat},ci W true p n=(c:Nat)->∀j,j<n->ci W true (p+j) 1=((c/2^(n-1-j)%2:Nat):Int)
 |0,c,h,j,hj=>by omega
 |n+1,c,h,j,hj=>by
  have hr:=ke W true p n;have hb:=sE W true (p+n);rw[ci,if_pos rfl]at h;have hc:ci W true p n=((c/2:Nat):Int):=by omega
  have ho:ci W true (p+j) 1=ce W true (p+j):=by rw[ci,if_pos rfl,ci];simp
  rcases O_ j n with g|g
  ·rw[Eb hc j g,show n+1-1-j=(n-1-j)+1 by omega,Nat.pow_succ,c_,<-Nat.div_div_eq_div_mul]
  ·obtain rfl:j=n:=by omega
   rw[ho,show j+1-1-j=0 by omega,Nat.pow_zero,Nat.div_one]
   omega
theorem EO(bs:List Int)(l:List Nat)(d e:Nat):∀f n v x k,sW bs l d e f n v x k=LU (fun k=>El bs k 1) l d e f n v x k
 |0,_,_,_,_=>rfl
 |f+1,n,v,x,k=>by
  unfold sW LU;cases El bs k 1 with
  |error er=>rfl
  |ok p=>simp only[EO bs l d e f]
theorem MM{W:List Int}{p:Nat}(hs:s<l.length)(h1:1<=l.getD s 0)(h16:l.getD s 0<=16)(hu:jU l l.length<=65536)
 (hr:cS true W p [(bO l s,l.getD s 0)]):tZ W l p=.ok (s,p+l.getD s 0):=by
 obtain⟨r1,r2,_⟩:=hr;simp only at r1 r2;have hd:l.getD s 0<=aQ l:=Az h16 (fun e=>by
  have h:=sT hs (rfl:l.getD s 0=l.getD s 0);have:aW l (l.getD s 0) l.length=[]:=e;rw[this]at h;cases h) h1
 obtain⟨c1,c2,c3⟩:=uo hs h1;have hfit:=HQ hu h16;have:=I0 (tk:=fun k=>El W k 1) (K:=p) hs h1 h16 (fun j hj=>by
  have hb:=Eb r2 j hj;show El W (p+j) 1=_;unfold El;rw[if_pos (by omega),hb,M_]) (aQ l) 0 (by omega) (by omega)
 rw[z_,A_A (by omega),Y_]at this
 unfold tZ;rw[EO];exact this
structure bM(L:List Nat):Prop where
 len:L.length=256
 le:∀s,L.getD s 0<=16
 fit:jU L L.length<65536
 top:L.getD 255 0=0
theorem Mb{W:List Int}{p:Nat}(h:bM L)(hs:s<256)(h1:1<=L.getD s 0)
 (hr:cS true W p [(bO L s,L.getD s 0)]):tZ W (eo L) p=.ok (ju L s,p+L.getD s 0)/\(aO L 16)[ju L s]?=some s:=by
 obtain⟨g1,g2,g3,g4⟩:=Ml (by rw[h.len];exact hs) h1 (h.le s)
 refine⟨?_,g1⟩;have:=MM (W:=W) (l:=eo L) (s:=ju L s) (p:=p) g2 (by omega) (by rw[g3];exact h.le s) (by rw[Ei h.le];exact Nat.le_of_lt h.fit) (by rw[g4,g3];exact hr)
 rw[g3]at this;exact this
theorem GS(h:bM L)(hs:s<256)(h1:1<=L.getD s 0):bO L s<2^L.getD s 0:=by
 obtain⟨c1,c2,c3⟩:=uo (by rw[h.len];exact hs) h1
 have:=HQ (Nat.le_of_lt h.fit) (h.le s);omega
def bA(l:List (Nat×Nat)):Nat:=(l.map (·.2)).sum
theorem gZ(a b:List (Nat×Nat)):bA (a++b)=bA a+bA b:=by simp[bA]
theorem cS.app{up:Bool}{W:List Int}:∀{a b:List (Nat×Nat)} {p:Nat},cS up W p (a++b)->cS up W p a/\cS up W (p+bA a) b
 |[],b,p,h=>⟨trivial,by simpa[bA]using h⟩
 |e::a,b,p,h=>by
  obtain⟨h1,h2,h3⟩:=h;obtain⟨i1,i2⟩:=cS.app h3;refine⟨⟨h1,h2,i1⟩,?_⟩;rw[show p+bA (e::a)=p+e.2+bA a by simp[bA];omega]
  exact i2
theorem Cz{up:Bool}{V W:List Int}{m:Nat}(hb:∀j,j<m->ce V up j=ce W up j){p:Nat}:∀{n:Nat},p+n<=m->ci V up p n=ci W up p n
 |0,_=>rfl
 |n+1,h=>by rw[ci,ci,Cz hb (by omega),hb _ (by omega)]
theorem cS.same{up:Bool}{V W:List Int}{m:Nat}(hb:∀j,j<m->ce V up j=ce W up j)(hV:m<=8*V.length):∀{l:List (Nat×Nat)} {p:Nat},p+bA l<=m->cS up W p l->cS up V p l
 |[],p,_,_=>trivial
 |e::l,p,h,hr=>by
  obtain⟨h1,h2,h3⟩:=hr;have hs:bA (e::l)=e.2+bA l:=by simp[bA]
  exact⟨by omega,by rw[Cz hb (by omega)];exact h2,cS.same hb hV (by omega) h3⟩
theorem mL{up:Bool}:∀(l:List (Nat×Nat)) (s:List Int×Nat),(cT up l s).2=s.2+bA l
 |[],s=>by simp[cT,bA]
 |e::l,s=>by rw[cT,mL l];simp[bA];omega
theorem vK{up:Bool}:∀(a b:List (Nat×Nat)) (s:List Int×Nat),cT up (a++b) s=cT up b (cT up a s)
 |[],b,s=>rfl
 |e::a,b,s=>by rw[K_A,cT,cT,vK a b]
def xR(L0 L1:List Nat)(x:Nat×bb):List (Nat×Nat):=
 [(bO (if x.1=0 then L0 else L1) x.2.1,(if x.1=0 then L0 else L1).getD x.2.1 0),(x.2.2.1,x.2.2.2)]
def bn(L0 L1:List Nat)(l:List (Nat×bb)):List (Nat×Nat):=l.flatMap (xR L0 L1)
theorem mM(L0 L1:List Nat)(a b:List (Nat×bb)):bn L0 L1 (a++b)=bn L0 L1 a++bn L0 L1 b:=by simp[bn]
theorem Nt(L0 L1:List Nat)(x:Nat×bb):bn L0 L1 [x]=xR L0 L1 x:=by simp[bn]
def bh(bl:Nat->Nat->List Int):List Int->List (Nat×Nat)->List (Nat×bb)×List Int
 |ah,[]=>([],ah)
 |ah,x::r=>(((0,(fw (ah.getD x.1 0) (bl x.1 x.2)).1)::(fw (ah.getD x.1 0) (bl x.1 x.2)).2.map fun y=>(1,y))++(bh bl (ah.set x.1 ((bl x.1 x.2).getD 0 0)) r).1,(bh bl (ah.set x.1 ((bl x.1 x.2).getD 0 0)) r).2)
theorem lH(bl:Nat->Nat->List Int):∀(ah:List Int) (a b:List (Nat×Nat)),bh bl ah (a++b)=((bh bl ah a).1++(bh bl (bh bl ah a).2 b).1,(bh bl (bh bl ah a).2 b).2)
 |ah,[],b=>rfl
 |ah,x::a,b=>by rw[K_A,bh,lH bl _ a b,bh];simp
def kD(bl:Nat->Nat->List Int)(ah:List Int)(x:Nat×Nat):List (Nat×bb):=(0,(fw (ah.getD x.1 0) (bl x.1 x.2)).1)::(fw (ah.getD x.1 0) (bl x.1 x.2)).2.map fun y=>(1,y)
theorem Ek(bl:Nat->Nat->List Int)(ah:List Int)(x:Nat×Nat):bh bl ah [x]=(kD bl ah x,ah.set x.1 ((bl x.1 x.2).getD 0 0)):=by simp[bh,kD]
theorem oC(bl:Nat->Nat->List Int)(ah:List Int)(a:List (Nat×Nat))(x:Nat×Nat):bh bl ah (a++[x])=((bh bl ah a).1++kD bl (bh bl ah a).2 x,(bh bl ah a).2.set x.1 ((bl x.1 x.2).getD 0 0)):=by
 rw[lH,Ek]
theorem xo(bl:Nat->Nat->List Int):∀(ah:List Int) (a:List (Nat×Nat)),(bh bl ah a).2.length=ah.length
 |ah,[]=>rfl
 |ah,x::a=>by rw[bh,xo bl _ a,List.length_set]
theorem mY{bl:Nat->Nat->List Int}(hb:∀i k, -1024<=(bl i k).getD 0 0/\(bl i k).getD 0 0<=1023):∀(ah:List Int) (a:List (Nat×Nat)),(∀i, -1024<=ah.getD i 0/\ah.getD i 0<=1023)->∀i, -1024<=(bh bl ah a).2.getD i 0/\(bh bl ah a).2.getD i 0<=1023
 |ah,[],h=>h
 |ah,x::a,h=>by
  rw[bh];refine mY hb _ a fun i=>?_;rw[P_,List.getElem?_set];have:=h i;rw[P_]at this
  split
  ·split
   ·exact hb _ _
   ·simp
  ·exact this
def JV(s:Nat×Nat):Nat×Nat:=
 if(s.1+s.2)%2=0/\s.2=7\/(s.1+s.2)%2=1/\s.1<7/\s.2=0 then(s.1+1,s.2)
 else if(s.1+s.2)%2=0/\s.1=0\/(s.1+s.2)%2=1/\s.1=7 then(s.1,s.2+1)
 else if(s.1+s.2)%2=0 then(s.1-1,s.2+1)else(s.1+1,s.2-1)
def lu:Nat->Nat×Nat
 |0=>(0,0)
 |n+1=>JV (lu n)
def bD(n:Nat):Nat:=8*(lu n).1+(lu n).2
def Mj:List Nat:=(N_ 64).map bD
theorem LZ:∀n,n<64->(lu n).1<8/\(lu n).2<8:=by decide+kernel
theorem o9(h:n<64):bD n<64:=by have:=LZ n h;unfold bD;omega
theorem LH:∀k,k<64->∃n,n<64/\bD n=k:=by
 have:∀k,k<64->((N_ 64).any fun n=>bD n==k)=true:=by decide+kernel
 intro k hk;have:=this k hk;rw[List.any_eq_true]at this;obtain⟨n,h1,h2⟩:=this;exact⟨n,List.mem_range.1 h1,by simpa using h2⟩
theorem Ga:∀a,a<64->∀b,b<64->bD a=bD b->a=b:=by decide+kernel
theorem K4:bD 0=0:=rfl
theorem pE(h:n<64)(h1:1<=n):1<=bD n:=by
 rcases q_ (bD n)with g|g
 ·have:=Ga n h 0 (by omega) (by rw[g];rfl);omega
 ·exact g
def zz(l:List Int):List Int:=(N_ 64).map fun n=>l.getD (bD n) 0
theorem gq(l:List Int):(zz l).length=64:=by simp[zz]
theorem gM{l:List Int}(h:n<64):(zz l).getD n 0=l.getD (bD n) 0:=by
 unfold zz;rw[P_,g_,k_ h];rfl
theorem N2{l:List Int}(h:k<64):(zz l).drop k=l.getD (bD k) 0::(zz l).drop (k+1):=by
 rw[J_A (by rw[gq];exact h)]
 congr 1;have:=gM (l:=l) h;rw[P_,f_ (by rw[gq];exact h)]at this
 exact this
theorem wN(h:n<=2^62:=by omega):A_.wrap ((n:Nat):Int)=n:=ai (by omega) (by omega)
theorem qN(h:a<=2^60)(hb:1<=b):ad .quo .i64 ((a:Nat):Int) ((b:Nat):Int)=((a/b:Nat):Int):=by
 rw[lM (by omega) (by omega) (by omega)];rfl
theorem rN:ad .rem .i64 ((a:Nat):Int) ((b:Nat):Int)=((a%b:Nat):Int):=by
 rw[O7 (by omega)];rfl
def mX(t:gH)(i:Nat):Int:=match i with|0=>t.1|1=>t.2.1|_=>t.2.2
def vd(T:List gH)(W H:Int)(i:Nat)(x y:Nat):Int:=mX (T.getD (bI (y:Nat) H*W+bI (x:Nat) W).toNat (0,0,0)) i
def gS(T:List gH)(W H:Int)(i d bx by' p n:Nat):Int:=((d*d/2:Nat):Int)+SI (fun q=>vd T W H i ((8*bx+p%8)*d+q%d) ((8*by'+p/8)*d+q/d)) n
def iO(T:List gH)(W H:Int)(i d bx by' p:Nat):Int:=gS T W H i d bx by' p (d*d)/((d*d:Nat):Int)-128
def vx(T:List gH)(W H:Int)(i d bx by':Nat):List Int:=(N_ 64).map (iO T W H i d bx by')
def nU(sub:Nat):Nat:=max sub 1
def aJ(W n:Nat):Nat:=(W+8*n-1)/(8*n)
def hU(sub i:Nat):Nat:=if i=0 then nU sub else 1
def dU(sub i:Nat):Nat:=if i=0 then 1 else nU sub
def mU(sub:Nat):Nat:=if 0<sub then 3 else 1
def vG(T:List gH)(W H:Nat)(q:List Int)(sub i k:Nat):List Int:=
 lN (vx T W H i (dU sub i) (k%(aJ W (nU sub)*hU sub i)) (k/(aJ W (nU sub)*hU sub i))) q
def nB(W H sub i:Nat):Nat:=aJ W (nU sub)*hU sub i*(aJ H (nU sub)*hU sub i)
def oQ(T:List gH)(W H quality sub i:Nat):CM:=
 ⟨(hU sub i:Nat),(hU sub i:Nat),cC quality (decide (0<i)),(N_ (nB W H sub i)).map (vG T W H (cC quality (decide (0<i))) sub i)⟩
def yG(T:List gH)(W H quality sub:Nat):List CM:=(N_ (mU sub)).map (oQ T W H quality sub)
theorem Ii{g:Bool}{l:List Co}(hc:∀c,c∈l->nP c)(k i:Nat):0<=mX ((l.map (cU g)).getD k (0,0,0)) i/\mX ((l.map (cU g)).getD k (0,0,0)) i<=255:=by
 rw[P_,g_];cases e:l[k]? with
 |none=>unfold mX;split<;>simp
 |some c=>
  have hm:nP c:=hc c (List.mem_of_getElem? e);have:=Gq (g:=g) hm;unfold mX;show 0<=(match i with|0=>(cU g c).1|1=>(cU g c).2.1|_=>(cU g c).2.2)/\_
  split
  ·exact this.1
  ·exact this.2.1
  ·exact this.2.2
theorem Lo{f:Nat->Int}{c:Int}:∀{n:Nat},(∀i,i<n->0<=f i/\f i<=c)->0<=SI f n/\SI f n<=n*c
 |0,_=>by simp[SI]
 |n+1,h=>by
  have ih:=Lo (c:=c) (n:=n) fun i hi=>h i (by omega)
  have hn:=h n (by omega)
  have e:((n+1:Nat):Int)*c=n*c+c:=by rw[l_,Int.add_mul];omega
  rw[SI,e];omega
structure Jf(T:List gH)(W H:Nat):Prop where
 rng:∀k i,0<=mX (T.getD k (0,0,0)) i/\mX (T.getD k (0,0,0)) i<=255
 len:T.length=W*H
 dims:1<=W/\W<=4096/\1<=H/\H<=4096
theorem Cy{T:List gH}{bx by' p:Nat}(h:Jf T W H)(hd:d<=2)(hn:n<=d*d):0<=gS T W H i d bx by' p n/\gS T W H i d bx by' p n<=((d*d/2:Nat):Int)+255*(n:Nat):=by
 have:=Lo (f:=fun q=>vd T W H i ((8*bx+p%8)*d+q%d) ((8*by'+p/8)*d+q/d)) (c:=255) (n:=n) fun q _=>h.rng _ _
 unfold gS;omega
theorem uE{T:List gH}{bx by' p:Nat}(h:Jf T W H)(hd:d=1\/d=2): -128<=iO T W H i d bx by' p/\iO T W H i d bx by' p<=127:=by
 have hs:=Cy (i:=i) (bx:=bx) (by':=by') (p:=p) h (show d<=2 by omega) (I_ (d*d))
 unfold iO;rcases hd with rfl|rfl
 ·simp only[b_]at hs⊢
  omega
 ·rw[show 2*2=4 from rfl]at hs⊢
  omega
theorem C0{T:List gH}{bx by':Nat}(h:Jf T W H)(hd:d=1\/d=2):∀x,x∈vx T W H i d bx by'-> -256<=x/\x<=256:=fun x hx=>by
 obtain⟨p,_,rfl⟩:=xN hx;have:=uE (i:=i) (bx:=bx) (by':=by') (p:=p) h hd
 omega
theorem dM{sub:Nat}:mU sub=1\/mU sub=3:=by unfold mU;split<;>omega
theorem cX{sub:Nat}(h:sub<=2):nU sub=1\/nU sub=2:=by unfold nU;omega
theorem HL{sub:Nat}(h:sub<=2):dU sub i=1\/dU sub i=2:=by unfold dU;have:=cX h;split<;>omega
theorem it{sub:Nat}(h:sub<=2):hU sub i=1\/hU sub i=2:=by unfold hU;have:=cX h;split<;>omega
theorem NQ{sub:Nat}(h:sub<=2):nU sub/hU sub i=dU sub i:=by
 unfold hU dU;have:=cX h
 split
 ·rcases this with e|e<;>rw[e]
 ·rw[Nat.div_one]
theorem gW(hW:1<=W)(hW2:W<=4096)(hn:n=1\/n=2):aJ W n<=512/\1<=aJ W n:=by
 unfold aJ;rcases hn with rfl|rfl
 ·simp only[b_];omega
 ·rw[show 8*2=16 from rfl];omega
def NO(sub i:Nat):List D_:=[aa (hU sub i:Nat),aa (hU sub i:Nat),.slice none 0 0,.slice none 0 0]
def fa(sub i m:Nat):List D_:=ax (NO sub) (List.range' i (m-i))
theorem Ey{sub:Nat}(h:i<m):fa sub i m=NO sub i++fa sub (i+1) m:=by
 unfold fa;rw[show m-i=(m-(i+1))+1 by omega,List.range'_succ]
 simp[ax]
theorem Gn{sub:Nat}(h:m<=i):fa sub i m=[]:=by
 unfold fa;rw[show m-i=0 by omega];rfl
theorem re(css:List (List D_))(cs:List D_):ax id (css++[cs])=ax id css++cs:=by simp[ax]
theorem Jo(P:List D_)(a b c d v:D_)(t:List D_):(P++(a::b::c::d::t)).set (P.length+2) v=P++(a::b::v::d::t):=by
 rw[L_A _ _ (by omega),show P.length+2-P.length=2 by omega];rfl
theorem Jp(P:List D_)(a b c d v:D_)(t:List D_):(P++(a::b::c::d::t)).set (P.length+3) v=P++(a::b::c::v::t):=by
 rw[L_A _ _ (by omega),show P.length+3-P.length=3 by omega];rfl
theorem gB(P:List D_)(l:List D_)(k:Nat):(P++l)[P.length+k]?=l[k]?:=by
 rw[W_ (by omega),show P.length+k-P.length=k by omega]
def jN(W H sub:Nat)(q:Nat->List Int)(b:Nat->Nat->List Int)(i:Nat):CM:=⟨(hU sub i:Nat),(hU sub i:Nat),q i,(N_ (nB W H sub i)).map (b i)⟩
def iB(W H sub:Nat)(q:Nat->List Int)(b:Nat->Nat->List Int):List CM:=(N_ (mU sub)).map (jN W H sub q b)
structure gD(W H sub:Nat)(q:Nat->List Int)(b:Nat->Nat->List Int):Prop where
 dims:1<=W/\W<=4096/\1<=H/\H<=4096/\W*H<=65536
 hsub:sub<=2
 ql:∀i,(q i).length=64
 qr:∀i x,x∈q i->1<=x/\x<=255
 bl:∀i k,(b i k).length=64
 b0:∀i k, -1024<=(b i k).getD 0 0/\(b i k).getD 0 0<=1023
 br:∀i k j,1<=j-> -1023<=(b i k).getD j 0/\(b i k).getD j 0<=1023
theorem iJ(W H sub:Nat)(q:Nat->List Int)(b:Nat->Nat->List Int):(iB W H sub q b).length=mU sub:=by simp[iB]
theorem sI{sub:Nat}{q:Nat->List Int}{b:Nat->Nat->List Int}(h:i<mU sub):(iB W H sub q b)[i]?=some (jN W H sub q b i):=by
 unfold iB;rw[g_,k_ h];rfl
theorem G0{sub:Nat}{q:Nat->List Int}{b:Nat->Nat->List Int}:(jN W H sub q b i).bl.length=nB W H sub i:=by simp[jN]
theorem MZ(T:List gH)(W H quality sub:Nat):yG T W H quality sub=iB W H sub (fun i=>cC quality (decide (0<i))) (fun i k=>vG T W H (cC quality (decide (0<i))) sub i k):=rfl
theorem Ja(hn:n=1\/n=2)(hW:1<=W):aJ W n*(8*n)<=W+8*n-1:=by
 unfold aJ;exact Nat.div_mul_le_self _ _
theorem Mw(hn:n=1\/n=2)(hW:1<=W)(hW2:W<=4096)(hH:1<=H)(hH2:H<=4096)(h:W*H<=65536):aJ W n*aJ H n*(8*n*(8*n))<=65536+(8*n-1)*4112+(8*n-1)*(8*n-1):=by
 have h1:=Ja hn hW;have h2:=Ja hn hH;have h3:=d_ h1 h2;have e1:aJ W n*(8*n)*(aJ H n*(8*n))=aJ W n*aJ H n*(8*n*(8*n)):=by
  generalize 8*n=m;rw[h_,h_,M_A m]
 rw[e1]at h3;have hs:W+H<=4112:=by
  have h4:0<=((4096:Int)-W)*(4096-H):=Int.mul_nonneg (by omega) (by omega)
  have e:((4096:Int)-W)*(4096-H)=16777216-4096*W-4096*H+W*H:=by
   rw[Int.sub_mul,Int.mul_sub,Int.mul_sub];omega
  have h5:((W*H:Nat):Int)<=65536:=Int.ofNat_le.2 h;rw[U_]at h5;omega
 refine n_ h3 ?_;generalize hm:8*n-1=m;rw[show W+8*n-1=W+m by omega,show H+8*n-1=H+m by omega,i_,r_,r_,c_ W m]
 have:m*W+m*H=m*(W+H):=(r_ _ _ _).symm;have h6:m*(W+H)<=m*4112:=B_A _ hs;omega
theorem gD.units{sub:Nat}{q:Nat->List Int}{b:Nat->Nat->List Int}(h:gD W H sub q b):aJ W (nU sub)*aJ H (nU sub)*(nU sub*nU sub)<=1991:=by
 obtain⟨d1,d2,d3,d4,d5⟩:=h.dims;have hn:=cX h.hsub;have:=Mw hn d1 d2 d3 d4 d5;rcases hn with e|e<;>rw[e]at this⊢<;>omega
theorem gD.nB{sub:Nat}{q:Nat->List Int}{b:Nat->Nat->List Int}(h:gD W H sub q b)(i:Nat):nB W H sub i<=1991:=by
 have hu:=h.units;have h1:hU sub i<=nU sub:=by have:=cX h.hsub;unfold hU;split<;>omega
 have h2:hU sub i*hU sub i<=nU sub*nU sub:=d_ h1 h1;have h3:=B_A (aJ W (nU sub)*aJ H (nU sub)) h2;have e:Proofs.YtoomejkiagonpaaGreatDoor.nB W H sub i=aJ W (nU sub)*aJ H (nU sub)*(hU sub i*hU sub i):=by
  unfold Proofs.YtoomejkiagonpaaGreatDoor.nB;rw[h_,h_,M_A (hU sub i)]
 omega
def kR(ac h u y x:Nat):Nat:=(u/ac*h+y)*ac*h+u%ac*h+x
def jc(W sub u i y n:Nat):List (Nat×Nat):=(N_ n).map fun x=>(i,kR (aJ W (nU sub)) (hU sub i) u y x)
def jd(W sub u i n:Nat):List (Nat×Nat):=(N_ n).flatMap fun y=>jc W sub u i y (hU sub i)
def i6(W sub u n:Nat):List (Nat×Nat):=(N_ n).flatMap fun i=>jd W sub u i (hU sub i)
def bJ(W sub n:Nat):List (Nat×Nat):=(N_ n).flatMap fun u=>i6 W sub u (mU sub)
theorem Ly(W sub u i y n:Nat):jc W sub u i y (n+1)=jc W sub u i y n++[(i,kR (aJ W (nU sub)) (hU sub i) u y n)]:=by simp[jc,Z_]
theorem Er(W sub u i n:Nat):jd W sub u i (n+1)=jd W sub u i n++jc W sub u i n (hU sub i):=by simp[jd,Z_]
theorem Ev(W sub u n:Nat):i6 W sub u (n+1)=i6 W sub u n++jd W sub u n (hU sub n):=by simp[i6,Z_]
theorem wE(W sub n:Nat):bJ W sub (n+1)=bJ W sub n++i6 W sub n (mU sub):=by simp[bJ,Z_]
theorem KZ{sub u y x:Nat}(hu:u<aJ W (nU sub)*aJ H (nU sub))(hy:y<hU sub i)(hx:x<hU sub i)(hac:1<=aJ W (nU sub)):kR (aJ W (nU sub)) (hU sub i) u y x<nB W H sub i:=by
 unfold kR nB;generalize aJ W (nU sub)=ac at*;generalize aJ H (nU sub)=dn at*;generalize hU sub i=h at*;have h1:u/ac<dn:=by
  rw[C_A hac,c_];exact hu
 have h2:u%ac<ac:=s_ _ hac;have h3:u/ac*h+y+1<=dn*h:=by
  have:(u/ac+1)*h<=dn*h:=D_A _ h1;rw[i_]at this;omega
 have h4:u%ac*h+x+1<=ac*h:=by
  have:(u%ac+1)*h<=ac*h:=D_A _ h2;rw[i_]at this;omega
 have h5:=D_A (ac*h) h3;rw[i_,<-h_]at h5;rw[c_ (ac*h) (dn*h)];omega
theorem Nx{sub:Nat}(hk:k<nB W H sub i):∃u y x,u<aJ W (nU sub)*aJ H (nU sub)/\y<hU sub i/\x<hU sub i/\kR (aJ W (nU sub)) (hU sub i) u y x=k:=by
 unfold nB at hk;generalize aJ W (nU sub)=ac at*;generalize aJ H (nU sub)=dn at*;generalize hU sub i=h at*;have hh:0<h:=by
  rcases q_ h with e|e
  ·subst e;simp at hk
  ·exact e
 have hac:0<ac:=by
  rcases q_ ac with e|e
  ·subst e;simp at hk
  ·exact e
 have hm:0<ac*h:=E_A hac hh;have hr:k/(ac*h)<dn*h:=Nat.div_lt_of_lt_mul hk;have hc:k%(ac*h)<ac*h:=s_ _ hm;have r1:k/(ac*h)/h<dn:=by rw[C_A hh];exact hr
 have c1:k%(ac*h)/h<ac:=by rw[C_A hh];exact hc
 refine⟨ac*(k/(ac*h)/h)+k%(ac*h)/h,k/(ac*h)%h,k%(ac*h)%h,?_,s_ _ hh,s_ _ hh,?_⟩
 ·have:=B_A ac r1
  rw[Nat.mul_succ]at this;omega
 ·unfold kR
  rw[N_A,O_A c1,P_A hac,A_A c1,Y_];have e1:k/(ac*h)/h*h+k/(ac*h)%h=k/(ac*h):=by rw[c_];exact F_A _ _
  have e2:k%(ac*h)/h*h+k%(ac*h)%h=k%(ac*h):=by rw[c_];exact F_A _ _
  rw[e1,h_,Nat.add_assoc,e2,c_];exact F_A _ _
theorem MO{sub:Nat}:(i,k)∈bJ W sub n↔i<mU sub/\∃u y x,u<n/\y<hU sub i/\x<hU sub i/\kR (aJ W (nU sub)) (hU sub i) u y x=k:=by
 unfold bJ i6 jd jc;simp only[List.mem_flatMap,List.mem_map,List.mem_range,Prod.mk.injEq];constructor
 ·rintro⟨u,hu,i',hi,y,hy,x,hx,rfl,hk⟩
  exact⟨hi,u,y,x,hu,hy,hx,hk⟩
 ·rintro⟨hi,u,y,x,hu,hy,hx,hk⟩
  exact⟨u,hu,i,hi,y,hy,x,hx,rfl,hk⟩
theorem G4(W sub:Nat)(hs:sub<=2):∀n,(bJ W sub n).length<=n*6/\n<=(bJ W sub n).length/\(bJ W sub n).length*1<=n*(nU sub*nU sub)*3
 |0=>by simp[bJ]
 |n+1=>by
  have ih:=G4 W sub hs n;rw[wE,V_];have:(i6 W sub n (mU sub)).length<=6/\1<=(i6 W sub n (mU sub)).length/\(i6 W sub n (mU sub)).length<=nU sub*nU sub*3:=by
   have:sub=0\/sub=1\/sub=2:=by omega
   rcases this with rfl|rfl|rfl<;>simp[i6,jd,jc,mU,hU,nU,Z_]
  have e3:(n+1)*(nU sub*nU sub)*3=n*(nU sub*nU sub)*3+nU sub*nU sub*3:=by rw[i_,Nat.one_mul,i_]
  rw[e3];generalize n*(nU sub*nU sub)*3=z at*;generalize nU sub*nU sub*3=y at*;omega
theorem gD.blocks{sub:Nat}{q:Nat->List Int}{b:Nat->Nat->List Int}(h:gD W H sub q b):(bJ W sub (aJ W (nU sub)*aJ H (nU sub))).length<=5973/\1<=(bJ W sub (aJ W (nU sub)*aJ H (nU sub))).length:=by
 have h1:=h.units;obtain⟨l1,l2,l3⟩:=G4 W sub h.hsub (aJ W (nU sub)*aJ H (nU sub));obtain⟨d1,d2,d3,d4,d5⟩:=h.dims;have a1:=gW d1 d2 (cX h.hsub);have a2:=gW d3 d4 (cX h.hsub);have:=E_A a1.2 a2.2;omega
structure gj(x:Nat×bb):Prop where
 tab:x.1=0\/x.1=1
 sym:x.2.1<255
 val:x.2.2.1<2^x.2.2.2
 size:x.2.2.2<=11
theorem yQ:∀(l:List Int) (run:Nat),(cJ l run).length<=l.length+(run+15)/16
 |[],run=>by
  unfold cJ
  split
  ·simp;omega
  ·simp
 |x::r,run=>by
  unfold cJ
  split
  ·have:=yQ r (run+1)
   simp only[m_];omega
  ·have:=yQ r 0
   simp only[V_,List.length_replicate,m_];omega
theorem wJ:∀(l:List Int) (run:Nat),(∀x,x∈l-> -1023<=x/\x<=1023)->∀y,y∈cJ l run->gj (1,y)
 |[],run,_,y,hy=>by
  unfold cJ at hy
  split at hy
  ·obtain rfl:y=(0,0,0):=by simpa using hy
   exact⟨.inr rfl,by decide,by decide,by decide⟩
  ·cases hy
 |x::r,run,h,y,hy=>by
  unfold cJ at hy
  split at hy
  ·exact wJ r (run+1) (fun z hz=>h z (e_ _ hz)) y hy
  ·rcases List.mem_append.1 hy with hy|hy
   ·obtain rfl:=(List.mem_replicate.1 hy).2
    exact⟨.inr rfl,by decide,by decide,by decide⟩
   ·rcases List.mem_cons.1 hy with rfl|hy
    ·have hx:=h x (by simp)
     have h1:=DG hx.1 hx.2;refine⟨.inr rfl,?_,uU x,by show aE x<=11;omega⟩
     show 16*(run%16)+aE x<255;omega
    ·exact wJ r 0 (fun z hz=>h z (e_ _ hz)) y hy
structure C8(bl:Nat->Nat->List Int):Prop where
 len:∀i k,(bl i k).length=64
 dc:∀i k, -1024<=(bl i k).getD 0 0/\(bl i k).getD 0 0<=1023
 ac:∀i k x,x∈(bl i k).drop 1-> -1023<=x/\x<=1023
theorem gD.zz{sub:Nat}{q:Nat->List Int}{b:Nat->Nat->List Int}(h:gD W H sub q b):C8 (fun i k=>zz (b i k)):=by
 refine⟨fun i k=>gq _,fun i k=>?_,fun i k x hx=>?_⟩
 ·rw[gM (by omega)];exact h.b0 i k
 ·obtain⟨j,hj⟩:=t_ hx
  rw[Q_A]at hj;have hlt:=(List.getElem?_eq_some_iff.1 hj).1;rw[gq]at hlt;have:x=(Proofs.YtoomejkiagonpaaGreatDoor.zz (b i k)).getD (1+j) 0:=by rw[P_,hj];rfl
  rw[this,gM hlt];exact h.br i k _ (pE hlt (by omega))
theorem Oq{bl:Nat->Nat->List Int}(h:C8 bl){ah:List Int}(ha:∀i, -1024<=ah.getD i 0/\ah.getD i 0<=1023)(x:Nat×Nat):(∀y,y∈kD bl ah x->gj y)/\(kD bl ah x).length<=64:=by
 have hd:=h.dc x.1 x.2;have hx:=ha x.1;constructor
 ·intro y hy
  rcases List.mem_cons.1 hy with rfl|hy
  ·have h1:=Dn hd.1 hd.2 hx.1 hx.2
   exact⟨.inl rfl,by show aE _<255;omega,uU _,h1⟩
  ·obtain⟨z,hz,rfl⟩:=List.mem_map.1 hy
   exact wJ _ _ (h.ac x.1 x.2) z hz
 ·have:=yQ ((bl x.1 x.2).drop 1) 0
  rw[R_A,h.len]at this;simp only[kD,fw,m_,List.length_map];omega
theorem LA{bl:Nat->Nat->List Int}(h:C8 bl){ah:List Int}(ha:∀i, -1024<=ah.getD i 0/\ah.getD i 0<=1023)(x:Nat×Nat):∀i, -1024<=(ah.set x.1 ((bl x.1 x.2).getD 0 0)).getD i 0/\(ah.set x.1 ((bl x.1 x.2).getD 0 0)).getD i 0<=1023:=fun i=>by
 have:=mY (bl:=bl) h.dc ah [x] ha i;rwa[Ek]at this
theorem pX{bl:Nat->Nat->List Int}(h:C8 bl):∀(ah:List Int) (a:List (Nat×Nat)),(∀i, -1024<=ah.getD i 0/\ah.getD i 0<=1023)->(∀y,y∈(bh bl ah a).1->gj y)/\(bh bl ah a).1.length<=64*a.length
 |ah,[],ha=>⟨fun y hy=>(List.not_mem_nil hy).elim,by simp[bh]⟩
 |ah,x::a,ha=>by
  obtain⟨b1,b2⟩:=Oq h ha x;obtain⟨i1,i2⟩:=pX h _ a (LA h ha x);have e:(bh bl ah (x::a)).1=kD bl ah x++(bh bl (ah.set x.1 ((bl x.1 x.2).getD 0 0)) a).1:=rfl;rw[e];refine⟨fun y hy=>?_,?_⟩
  ·rcases List.mem_append.1 hy with hy|hy
   ·exact b1 y hy
   ·exact i1 y hy
  ·rw[V_,m_];omega
theorem rE{L0 L1:List Nat}(h0:bM L0)(h1:bM L1):∀l:List (Nat×bb),(∀x,x∈l->gj x)->bA (bn L0 L1 l)<=27*l.length
 |[],_=>by simp[bn,bA]
 |x::l,h=>by
  have ih:=rE h0 h1 l fun y hy=>h y (e_ _ hy);have hx:=h x (by simp)
  have e:bn L0 L1 (x::l)=xR L0 L1 x++bn L0 L1 l:=by simp[bn]
  have h3:(if x.1=0 then L0 else L1).getD x.2.1 0<=16:=by split;exact h0.le _;exact h1.le _
  have h4:=hx.size;have h5:bA (xR L0 L1 x)=(if x.1=0 then L0 else L1).getD x.2.1 0+x.2.2.2:=by simp[xR,bA]
  rw[e,gZ,m_];omega
theorem Mv{L0 L1:List Nat}(h0:bM L0)(h1:bM L1){l:List (Nat×bb)}(h:∀x,x∈l->gj x)(hc:∀x,x∈l->1<=(if x.1=0 then L0 else L1).getD x.2.1 0):OI (bn L0 L1 l):=by
 intro e he;obtain⟨x,hx,he⟩:=List.mem_flatMap.1 he;have hk:=h x hx;have ht:bM (if x.1=0 then L0 else L1):=by split;exact h0;exact h1
 have he:e=(bO (if x.1=0 then L0 else L1) x.2.1,(if x.1=0 then L0 else L1).getD x.2.1 0)\/e=(x.2.2.1,x.2.2.2):=by simpa[xR]using he
 rcases he with rfl|rfl
 ·exact⟨GS ht (by have:=hk.sym;omega) (hc x hx),ht.le _⟩
 ·exact⟨hk.val,by have:=hk.size;show x.2.2.2<=16;omega⟩
def iU(l:List (Nat×bb))(t s:Nat):Nat:=l.countP fun x=>x.1==t&&x.2.1==s
def mw(l:List (Nat×bb))(t:Nat):List Nat:=(N_ 256).map (iU l t)
theorem iv(l:List (Nat×bb))(t:Nat):(mw l t).length=256:=by simp[mw]
theorem Bj{l:List (Nat×bb)}{t:Nat}(h:s<256):(mw l t).getD s 0=iU l t s:=by
 unfold mw;rw[P_,g_,k_ h];rfl
theorem IR(l:List (Nat×bb))(t s:Nat):iU l t s<=l.length:=List.countP_le_length
theorem Ba{l:List (Nat×bb)}{x:Nat×bb}(h:x∈l):iU l x.1 x.2.1≠0:=by
 have:0<iU l x.1 x.2.1:=List.countP_pos_iff.2 ⟨x,h,by simp⟩
 omega
theorem Lx(l:List (Nat×bb))(x:Nat×bb)(t s:Nat):iU (l++[x]) t s=iU l t s+if x.1=t/\x.2.1=s then 1 else 0:=by
 unfold iU;rw[List.countP_append,List.countP_cons,List.countP_nil];simp only[Bool.and_eq_true,beq_iff_eq,L_]
def iq(l:List (Nat×bb))(t:Nat):List Nat:=mw l t++[1]
def bw(l:List (Nat×bb))(t:Nat):List Nat:=(b8 (iq l t) 16).take 256
theorem kz(l:List (Nat×bb))(t:Nat):(iq l t).length=257:=by simp[iq,iv]
theorem vu{l:List (Nat×bb)}{t:Nat}(h:s<256):(iq l t).getD s 0=iU l t s:=by
 unfold iq;rw[P_,Q_ (by rw[iv];exact h),<-P_,Bj h]
theorem AI(l:List (Nat×bb))(t:Nat):(iq l t).getD 256 0=1:=by
 unfold iq;rw[P_,W_ (by rw[iv];exact I_ _),iv];rfl
theorem GN{cs:List Nat}(hab:a<b)(hb:b<cs.length)(h1:cs.getD a 0≠0)(h2:cs.getD b 0≠0):2<=(eQ cs).length:=by
 have m1:=uZ (cs:=cs) cs.length a (by omega) h1
 have m2:=uZ (cs:=cs) cs.length b hb h2;have hne:((((cs.getD a 0:Nat):Int),[a]):bR)≠(((cs.getD b 0:Nat):Int),[b]):=fun e=>by
  have:=congrArg (fun c:bR=>c.2) e;simp at this;omega
 unfold eQ;rcases hL:gC cs cs.length with _|⟨x,_|⟨y,r⟩⟩
 ·rw[hL]at m1;cases m1
 ·rw[hL]at m1 m2
  have e1:=List.mem_singleton.1 m1;have e2:=List.mem_singleton.1 m2;exact(hne (e1.trans e2.symm)).elim
 ·simp
theorem uW(cs:List Nat):∀n,(gC cs n).length<=n
 |0=>I_ _
 |n+1=>by
  have:=uW cs n;unfold gC
  split
  ·omega
  ·rw[V_];simp;omega
theorem tQ{l:List (Nat×bb)}{t:Nat}(h:s<256):(bw l t).getD s 0=(b8 (iq l t) 16).getD s 0:=by
 unfold bw;rw[P_,List.getElem?_take_of_lt h,<-P_]
theorem Al(l:List (Nat×bb))(t:Nat):(bw l t).length=256:=by
 unfold bw;rw[w_,uF,kz];omega
theorem D8{l:List (Nat×bb)}{t:Nat}(h:∀x,x∈l->gj x)(hx:∃x,x∈l/\x.1=t):bM (bw l t)/\(∀x,x∈l->x.1=t->1<=(bw l t).getD x.2.1 0)/\
  1<=(b8 (iq l t) 16).getD 256 0/\(b8 (iq l t) 16).getD 256 0<=16:=by
 obtain⟨x,hx,rfl⟩:=hx;have hs:=(h x hx).sym;have h2:=GN (cs:=iq l x.1) (a:=x.2.1) (b:=256) (by omega) (by rw[kz];omega) (by rw[vu (by omega)];exact Ba hx) (by rw[AI];omega)
 have hle:(eQ (iq l x.1)).length<=2^16:=by
  have:=uW (iq l x.1) (iq l x.1).length;rw[kz]at this;unfold eQ;rw[kz];omega
 obtain⟨b1,b2,b3⟩:=K0 (most:=16) h2 (by omega) hle
 rw[kz]at b1 b2 b3;have btop:=b1 256 (by omega) (by rw[AI];omega)
 refine⟨⟨Al _ _,fun s=>?_,?_,?_⟩,fun y hy e=>?_,btop.1,btop.2⟩
 ·rcases O_ s 256 with g|g
  ·rw[tQ g]
   by_cases h0:(iq l x.1).getD s 0=0
   ·rw[b2 s (by omega) h0];omega
   ·exact(b1 s (by omega) h0).2
  ·rw[P_,X_ (by rw[Al];exact g)];simp
 ·rw[Al]
  unfold jU;rw[Z_,j_,List.sum_append]at b3;have e:((N_ 256).map fun j=>if(bw l x.1).getD j 0=0 then 0 else 2^(16-(bw l x.1).getD j 0))=(N_ 256).map fun j=>if(b8 (iq l x.1) 16).getD j 0=0 then 0 else 2^(16-(b8 (iq l x.1) 16).getD j 0):=by
   apply List.map_congr_left;intro j hj;rw[tQ (List.mem_range.1 hj)]
  rw[e];have hp:0<2^(16-(b8 (iq l x.1) 16).getD 256 0):=Nat.pow_pos (by omega)
  simp only[List.map_cons,List.map_nil,List.sum_cons,List.sum_nil,Y_]at b3;rw[if_neg (by omega)]at b3
  have:(2:Nat)^16=65536:=by decide
  omega
 ·rw[tQ (by omega)]
  refine b2 255 (by omega) ?_
  rw[vu (by omega)]
  refine List.countP_eq_zero.2 fun y hy=>?_;have:=(h y hy).sym;simp;omega
 ·have hs':=(h y hy).sym
  rw[tQ (by omega)]
  refine(b1 y.2.1 (by omega) ?_).1
  rw[vu (by omega),<-e]
  exact Ba hy
def Fv(x1 x2:Int)(sa1:aj)(sl1 sc1:Nat)(x3 x4:Int)(w:C_)(R:bV):Prop:=
 ∀k1,w.heap.size<=k1->∀k2,w.heap.size<=k2->∀w1,Locl [k2,k1] w w1->G_ P 47 #[.agg #[aa x1,aa x2,.slice sa1 sl1 sc1]] w1 fun e1 w2=>∃p1 n1,(e1=.returned (.tuple #[.pointer p1,aa n1]))/\ao [k2,k1] w1 w2/\ae (n1 !=0) (∀w3,Locl [k2,k1] w2 w3->R (aM #[.agg #[aa 0,aa 0,aa 0,.slice none 0 0],aa n1]) w3) (ae (decide (x3<1)||decide (x3>100)||decide (x4<0)||decide (x4>2)) (∀w4,Locl [k2,k1] w2 w4->R (aM #[.agg #[aa 0,aa 0,aa 0,.slice none 0 0],aa 2]) w4) (∀k3:Nat,∀w5,(aK w2 (G_A #[aa (max x4 1),aa (max x4 1),.slice none 0 0,.slice none 0 0] 55) k3 w5)->∀k4,w5.heap.size<=k4->∃I1:aw,(ae (decide (x4>0)) (∀k5,w5.heap.size<=k5->∀w6,Locl [k5,k4,k2,k1] w5 w6->ay (w6) ([(65,k5,[aa 1,aa 1,.slice none 0 0,.slice none 0 0,aa 1,aa 1,.slice none 0 0,.slice none 0 0]),(10,k4,[aa x1,aa x2,aa 0,.slice (aH k3) 1 1]),(6,k2,[aa 0,aa 0,aa 0,.slice none 0 0]),(3,k1,[aa x1,aa x2,.slice sa1 sl1 sc1])]) (aH k3) (1) (1) (2) (4) (64) (55) ([aa 0,aa 0,.slice none 0 0,.slice none 0 0]) ([aa 1,aa 1,.slice none 0 0,.slice none 0 0,aa 1,aa 1,.slice none 0 0,.slice none 0 0]) fun p2 k6 k7 w7=>∀w8,Locl [k5,k4,k2,k1] w7 w8->I1 [aa x1,aa x2,aa 0,.slice p2 k6 k7] w8) (∀w9,Locl [k4,k2,k1] w5 w9->I1 [aa x1,aa x2,aa 0,.slice (aH k3) 1 1] w9))/\∀n2 n3 n4 p3 k8 k9 w10,(I1 [aa n2,aa n3,aa n4,.slice p3 k8 k9] w10)->∃I2:aw,((G_ P 59 #[.bool (x4==0)] (w10.drew) fun e2 w11=>∃(y1:FuncId) (y2 y3:Array D_),(e2=.returned (.func (Fn.func y1) y2 y3))/\(ao ([k4,k2,k1]) (w10.drew) w11)/\(aU (w10.drew) w11)/\(G_ P 58 #[.pointer p1,.func (Fn.func y1) y2 y3] w11 fun e3 w12=>∃p4,(e3=.returned (.pointer p4))/\ao [k4,k2,k1] w11 w12/\(aU w11 w12)/\(G_ P 60 #[.pointer p4] w12 fun e4 w13=>∃p5 k10 k11,(e4=.returned (.slice p5 k10 k11))/\ao [k4,k2,k1] w12 w13/\(aU w12 w13)/\∀k12,w13.heap.size<=k12->∀w14,Locl [k12,k4,k2,k1] w13 w14->I2 [.pointer (aH k12),aa x1,aa x2,.slice p5 k10 k11] w14)/\∀k13,w12.heap.size<=k13->∀w15,Locl [k13,k4,k2,k1] w12 w15->G_ P 60 #[.pointer p4] w15 fun e5 w16=>∃p6 k14 k15,(e5=.returned (.slice p6 k14 k15))/\ao [k13,k4,k2,k1] w15 w16/\(aU w15 w16)/\∀w17,Locl [k13,k4,k2,k1] w16 w17->I2 [.pointer (aH k13),aa x1,aa x2,.slice p6 k14 k15] w17)/\∀k16,w11.heap.size<=k16->∀w18,Locl [k16,k4,k2,k1] w11 w18->G_ P 58 #[.pointer p1,.func (Fn.func y1) y2 y3] w18 fun e6 w19=>∃p7,(e6=.returned (.pointer p7))/\ao [k16,k4,k2,k1] w18 w19/\(aU w18 w19)/\G_ P 60 #[.pointer p7] w19 fun e7 w20=>∃p8 k17 k18,(e7=.returned (.slice p8 k17 k18))/\ao [k16,k4,k2,k1] w19 w20/\(aU w19 w20)/\∀w21,Locl [k16,k4,k2,k1] w20 w21->I2 [.pointer (aH k16),aa x1,aa x2,.slice p8 k17 k18] w21)/\∀k19,(w10.drew.heap.size<=k19)->∀w22:C_,(Locl ([k19,k4,k2,k1]) (w10.drew) w22)->G_ P 59 #[.bool (x4==0)] w22 fun e8 w23=>∃(y4:FuncId) (y5 y6:Array D_),(e8=.returned (.func (Fn.func y4) y5 y6))/\ao [k19,k4,k2,k1] w22 w23/\(aU w22 w23)/\G_ P 58 #[.pointer p1,.func (Fn.func y4) y5 y6] w23 fun e9 w24=>∃p9,(e9=.returned (.pointer p9))/\ao [k19,k4,k2,k1] w23 w24/\(aU w23 w24)/\G_ P 60 #[.pointer p9] w24 fun e10 w25=>∃p10 k20 k21,(e10=.returned (.slice p10 k20 k21))/\ao [k19,k4,k2,k1] w24 w25/\(aU w24 w25)/\∀w26,Locl [k19,k4,k2,k1] w25 w26->I2 [.pointer (aH k19),aa x1,aa x2,.slice p10 k20 k21] w26)/\∀k22 n5 n6 p11 k23 k24 w27,(I2 [.pointer (aH k22),aa n5,aa n6,.slice p11 k23 k24] w27)->(A_.wrap (8*max x4 1)≠0)/\(A_.wrap (8*max x4 1)≠0)/\∃(I3:aw) (m1:List D_->C_->Nat),(I3 [aa 0] w27.drew)/\∀n7 w28,(I3 [aa n7] w28)->ae (decide (n7<(k8:Int))) (aq (p3) (k8) (n7) (4) fun a1=>G_ P 61 #[aa x3,.bool (decide (n7>0))] w28 fun e11 w29=>∃p12 k25 k26 n8,(e11=.returned (.tuple #[.slice p12 k25 k26,aa n8]))/\ao [k22,k4,k2,k1] w28 w29/\aI w29 (a1.add 2) [.slice p12 k25 k26] fun u1=>(¬(a1.add 2).block∈[k22,k4,k2,k1])/\∃n9,(u1.cell? a1=some (aa n9))/\(n9≠0)/\∃n10,(u1.cell? (a1.add 1)=some (aa n10))/\∃(I4:aw) (m2:List D_->C_->Nat),(I4 [aa 0] u1)/\∀n11 w30,(I4 [aa n11] w30)->ae (decide (n11<A_.wrap (ad .quo .i64 (A_.wrap (A_.wrap (x2+A_.wrap (8*max x4 1))-1)) (A_.wrap (8*max x4 1))*n10))) (∃n12,(w30.cell? a1=some (aa n12))/\∃(I5:aw) (m3:List D_->C_->Nat),(I5 [aa 0] w30)/\∀n13 w31,(I5 [aa n13] w31)->ae (decide (n13<A_.wrap (ad .quo .i64 (A_.wrap (A_.wrap (x1+A_.wrap (8*max x4 1))-1)) (A_.wrap (8*max x4 1))*n12))) (((0:Int)<=64)/\((64:Int)<=64)/\((512:Int)<=281474976710656)/\((64:Int)<4611686018427387904)/\∀k27 w32,(aK w31 (G_A (bg [aa 0] 64) 3) k27 w32)->∃(I6:aw) (m4:List D_->C_->Nat),(I6 [aa 0] w32)/\∀n14 w33,(I6 [aa n14] w33)->ae (decide (n14<64)) (∃I7:aw,∃m5:List D_->C_->Nat,(I7 [aa (ad .quo .i64 (A_.wrap (ad .quo .i64 (max x4 1) n9*ad .quo .i64 (max x4 1) n9)) 2),aa 0] w33)/\∀n15 n16 w34,(I7 [aa n15,aa n16] w34)->ae (decide (n16<A_.wrap (ad .quo .i64 (max x4 1) n9*ad .quo .i64 (max x4 1) n9))) ((ad .quo .i64 (max x4 1) n9≠0)/\(ad .quo .i64 (max x4 1) n9≠0)/\G_ P 62 #[.agg #[aa n5,aa n6,.slice p11 k23 k24],aa (A_.wrap (A_.wrap (A_.wrap (A_.wrap (8*n13)+ad .rem .i64 n14 8)*ad .quo .i64 (max x4 1) n9)+ad .rem .i64 n16 (ad .quo .i64 (max x4 1) n9))),aa (A_.wrap (A_.wrap (A_.wrap (A_.wrap (8*n11)+ad .quo .i64 n14 8)*ad .quo .i64 (max x4 1) n9)+ad .quo .i64 n16 (ad .quo .i64 (max x4 1) n9)))] (w34.drew) fun e12 w35=>∃n17 n18 n19,(e12=.returned (.agg #[aa n17,aa n18,aa n19]))/\(ao ([k22,k4,k2,k1]) (w34.drew) w35)/\(0<=n7)/\(n7<3)/\∃n20:Int,([H_ .i64 n17,H_ .i64 n18,H_ .i64 n19][n7.toNat]?=some (H_ .i64 n20))/\(I7 [aa (A_.wrap (n15+n20)),aa (A_.wrap (n16+1))] w35)/\m5 [aa (A_.wrap (n15+n20)),aa (A_.wrap (n16+1))] w35<m5 [aa n15,aa n16] w34) ((A_.wrap (ad .quo .i64 (max x4 1) n9*ad .quo .i64 (max x4 1) n9)≠0)/\aq (aH k27) (64) (n14) (1) fun a2=>aI w34 a2 [aa (A_.wrap (ad .quo .i64 n15 (A_.wrap (ad .quo .i64 (max x4 1) n9*ad .quo .i64 (max x4 1) n9))-128))] fun u2=>(¬a2.block∈[k22,k4,k2,k1])/\(I6 [aa (A_.wrap (n14+1))] u2)/\m4 [aa (A_.wrap (n14+1))] u2<m4 [aa n14] w33)) (∃p13:aj,∃k28 k29,(w33.drew.cell? (a1.add 3)=some (.slice p13 k28 k29))/\∃p14 k30 k31,(w33.drew.cell? (a1.add 2)=some (.slice p14 k30 k31))/\G_ P 63 #[.slice (aH k27) 64 64,.slice p14 k30 k31] (w33.drew) fun e13 w36=>∃p15 k32 k33,(e13=.returned (.slice p15 k32 k33))/\(ao ([k22,k4,k2,k1]) (w33.drew) w36)/\(aU (w33.drew) w36)/\∀k34,w36.heap.size<=k34->∀w37,Locl [k34,k22,k4,k2,k1] w36 w37->ay (w37) ([(209,k34,[.slice p15 k32 k33]),(11,k22,[aa n5,aa n6,.slice p11 k23 k24]),(10,k4,[aa n2,aa n3,aa n4,.slice p3 k8 k9]),(6,k2,[aa 0,aa 0,aa 0,.slice none 0 0]),(3,k1,[aa x1,aa x2,.slice sa1 sl1 sc1])]) (p13) (k28) (k29) (1) (1) (24) (52) ([.slice none 0 0]) ([.slice p15 k32 k33]) fun p16 k35 k36 w38=>aI w38 (a1.add 3) [.slice p16 k35 k36] fun u3=>(¬(a1.add 3).block∈[k34,k22,k4,k2,k1])/\(I5 [aa (A_.wrap (n13+1))] u3)/\m3 [aa (A_.wrap (n13+1))] u3<m3 [aa n13] w31)) ((I4 [aa (A_.wrap (n11+1))] w31)/\m2 [aa (A_.wrap (n11+1))] w31<m2 [aa n11] w30)) ((I3 [aa (A_.wrap (n7+1))] w30)/\m1 [aa (A_.wrap (n7+1))] w30<m1 [aa n7] w28)) (∀w39,Locl [k22,k4,k2,k1] w28 w39->R (aM #[.agg #[aa n2,aa n3,aa n4,.slice p3 k8 k9],aa 0]) w39)))
theorem Bu(x1 x2:Int)(sa1:aj)(sl1 sc1:Nat)(x3 x4:Int)(w:C_)(R:bV)(h:Fv x1 x2 sa1 sl1 sc1 x3 x4 w R):G_ P 16 #[.agg #[aa x1,aa x2,.slice sa1 sl1 sc1],aa x3,aa x4] w R:=
  aF (ac:=FZ) Tryz.func16 h
theorem K9{q:Nat}{ch:Bool}(h1:1<=q)(h2:q<=100)
 (hR:∀b cp w',Fg [] w w' 1 b 64 cp (ii (cC (q:Nat) ch))->R (.returned (.tuple #[.slice b 64 cp,aa 0])) w'):G_ P 61 #[aa (q:Nat),.bool ch] w R:=
 Ka (by omega) (by omega) hR
theorem pf(hW:1<=W/\W<=4096)(hn:n=1\/n=2):ad .quo .i64 (A_.wrap (A_.wrap (((W:Nat):Int)+A_.wrap (8*((n:Nat):Int)))-1)) (A_.wrap (8*((n:Nat):Int)))=((aJ W n:Nat):Int):=by
 have e:8*((n:Nat):Int)=((8*n:Nat):Int):=by push_cast;rfl
 rw[e,wN,ai (x:=((W:Nat):Int)+((8*n:Nat):Int)),ai (by omega) (by omega),show((W:Nat):Int)+((8*n:Nat):Int)-1=((W+8*n-1:Nat):Int) by omega,qN (by omega) (by omega)]
 rfl
theorem yK{T:List gH}{bx by' p:Nat}(h:Jf T W H)(hd:d=1\/d=2)(hn:n<=d*d):0<=gS T W H i d bx by' p n/\gS T W H i d bx by' p n<=1022:=by
 have hs:=Cy (i:=i) (bx:=bx) (by':=by') (p:=p) h (show d<=2 by omega) hn
 rcases hd with rfl|rfl
 ·rw[show 1*1=1 from rfl]at*;omega
 ·rw[show 2*2=4 from rfl]at*;omega
theorem KE{w28:C_}{cb k22 k4 k2 k1:Nat}{T:List gH}{q sub:Nat}{p11:Option E_}{k23 k24 k9:Nat}{rest:List D_}{x1 x2:Int}{sa1:Option E_}{sl1 sc1:Nat}
 (hT:Jf T W H)(hq:1<=q/\q<=100)(hsub:sub<=2){A0:Nat->Prop}
 (hG:dT A0 [cb,k22,k4,k2,k1] w w28 none 0 0 [])(hne:cb∉[k22,k4,k2,k1])
 (hC:Cs w28 cb (fa sub 0 (mU sub)++rest))(hTs:aD (Da A0 [cb,k22,k4,k2,k1]) w28 p11 (fN T))(hk:k23=T.length)(hcap:mU sub<=k9)
 (hR:∀w',Ext w w'->jV w w' (some ⟨cb,0,none⟩) (yG T W H q sub)->R (.returned (.tuple #[.agg #[aa (W:Nat),aa (H:Nat),aa 0,.slice (some ⟨cb,0,none⟩) (mU sub) k9],aa 0])) w'):
  ∃I3:List D_->C_->Prop,∃m1:List D_->C_->Nat,(I3 [aa 0] w28.drew)/\∀n7:Int,∀w28:C_,(I3 [aa n7] w28)->
   ae (decide (n7<((mU sub:Nat):Int)))
    (aq (some ⟨cb,0,none⟩) (mU sub) (n7) (4) fun a1=>
    G_ P 61 #[aa (q:Nat),D_.bool (decide (n7>0))] w28 fun e11 w29=>
    ∃p12:Option E_,
    ∃k25:Nat,
    ∃k26:Nat,
    ∃n8:Int,
    (e11=Ending.returned (S_A #[K_ p12 k25 k26,H_ A_ n8]))/\
    (ao ([k22,k4,k2,k1]) w28 w29)/\
    (∃v1:D_,
     w29.cell? (a1.add 2)=some v1)/\
    (w29.frozen? (a1.add 2)=false)/\
    (¬(a1.add 2).block∈[k22,k4,k2,k1])/\
    ∃n9:Int,
    ((ab w29 (a1.add 2) [K_ p12 k25 k26] 0).cell? a1=some (H_ A_ n9))/\
    (n9≠0)/\
    ∃n10:Int,
    ((ab w29 (a1.add 2) [K_ p12 k25 k26] 0).cell? (a1.add 1)=some (H_ A_ n10))/\
    ∃I4:List D_->C_->Prop,
    ∃m2:List D_->C_->Nat,
    (I4 [H_ A_ 0] (ab w29 (a1.add 2) [K_ p12 k25 k26] 0))/\
    ∀n11:Int,
    ∀w30:C_,
    (I4 [H_ A_ n11] w30)->
    ae (decide (n11<A_.wrap (ad J_ A_ (A_.wrap (A_.wrap (((H:Nat):Int)+A_.wrap (8*((nU sub:Nat):Int)))-1)) (A_.wrap (8*((nU sub:Nat):Int)))*n10)))
     (∃n12:Int,
     (w30.cell? a1=some (H_ A_ n12))/\
     ∃I5:List D_->C_->Prop,
     ∃m3:List D_->C_->Nat,
     (I5 [H_ A_ 0] w30)/\
     ∀n13:Int,
     ∀w31:C_,
     (I5 [H_ A_ n13] w31)->
     ae (decide (n13<A_.wrap (ad J_ A_ (A_.wrap (A_.wrap (((W:Nat):Int)+A_.wrap (8*((nU sub:Nat):Int)))-1)) (A_.wrap (8*((nU sub:Nat):Int)))*n12)))
      (((0:Int)<=64)/\
      ((64:Int)<=64)/\
      ((512:Int)<=281474976710656)/\
      ((64:Int)<4611686018427387904)/\
      ∀k27:Nat,
      ∀w32:C_,
      (aK w31 (G_A (bg [H_ A_ 0] 64) 3) k27 w32)->
      ∃I6:List D_->C_->Prop,
      ∃m4:List D_->C_->Nat,
      (I6 [H_ A_ 0] w32)/\
      ∀n14:Int,
      ∀w33:C_,
      (I6 [H_ A_ n14] w33)->
      ae (decide (n14<64))
       (∃I7:List D_->C_->Prop,
       ∃m5:List D_->C_->Nat,
       (I7 [H_ A_ (ad J_ A_ (A_.wrap (ad J_ A_ ((nU sub:Nat):Int) n9*ad J_ A_ ((nU sub:Nat):Int) n9)) 2),H_ A_ 0] w33)/\
       ∀n15:Int,
       ∀n16:Int,
       ∀w34:C_,
       (I7 [H_ A_ n15,H_ A_ n16] w34)->
       ae (decide (n16<A_.wrap (ad J_ A_ ((nU sub:Nat):Int) n9*ad J_ A_ ((nU sub:Nat):Int) n9)))
        ((ad J_ A_ ((nU sub:Nat):Int) n9≠0)/\
        (ad J_ A_ ((nU sub:Nat):Int) n9≠0)/\
        G_ P 62 #[H_A #[aa (W:Nat),aa (H:Nat),K_ p11 k23 k24],H_ A_ (A_.wrap (A_.wrap (A_.wrap (A_.wrap (8*n13)+ad u_ A_ n14 8)*ad J_ A_ ((nU sub:Nat):Int) n9)+ad u_ A_ n16 (ad J_ A_ ((nU sub:Nat):Int) n9))),H_ A_ (A_.wrap (A_.wrap (A_.wrap (A_.wrap (8*n11)+ad J_ A_ n14 8)*ad J_ A_ ((nU sub:Nat):Int) n9)+ad J_ A_ n16 (ad J_ A_ ((nU sub:Nat):Int) n9)))] (w34.drew) fun e12 w35=>
        ∃n17:Int,
        ∃n18:Int,
        ∃n19:Int,
        (e12=Ending.returned (H_A #[H_ A_ n17,H_ A_ n18,H_ A_ n19]))/\
        (ao ([k22,k4,k2,k1]) (w34.drew) w35)/\
        (0<=n7)/\
        (n7<3)/\
        ∃n20:Int,
        ([H_ A_ n17,H_ A_ n18,H_ A_ n19][n7.toNat]?=some (H_ A_ n20))/\
        (I7 [H_ A_ (A_.wrap (n15+n20)),H_ A_ (A_.wrap (n16+1))] w35)/\
        m5 [H_ A_ (A_.wrap (n15+n20)),H_ A_ (A_.wrap (n16+1))] w35<m5 [H_ A_ n15,H_ A_ n16] w34)
        ((A_.wrap (ad J_ A_ ((nU sub:Nat):Int) n9*ad J_ A_ ((nU sub:Nat):Int) n9)≠0)/\
        aq (some {block:=k27,off:=0}) (64) (n14) (1) fun a2=>
        (∃v2:D_,
         w34.cell? a2=some v2)/\
        (w34.frozen? a2=false)/\
        (¬a2.block∈[k22,k4,k2,k1])/\
        (I6 [H_ A_ (A_.wrap (n14+1))] (ab w34 a2 [H_ A_ (A_.wrap (ad J_ A_ n15 (A_.wrap (ad J_ A_ ((nU sub:Nat):Int) n9*ad J_ A_ ((nU sub:Nat):Int) n9))-128))] 0))/\
        m4 [H_ A_ (A_.wrap (n14+1))] (ab w34 a2 [H_ A_ (A_.wrap (ad J_ A_ n15 (A_.wrap (ad J_ A_ ((nU sub:Nat):Int) n9*ad J_ A_ ((nU sub:Nat):Int) n9))-128))] 0)<m4 [H_ A_ n14] w33))
       (∃p13:Option E_,
       ∃k28:Nat,
       ∃k29:Nat,
       (w33.drew.cell? (a1.add 3)=some (K_ p13 k28 k29))/\
       ∃p14:Option E_,
       ∃k30:Nat,
       ∃k31:Nat,
       (w33.drew.cell? (a1.add 2)=some (K_ p14 k30 k31))/\
       G_ P 63 #[K_ (some {block:=k27,off:=0}) 64 64,K_ p14 k30 k31] (w33.drew) fun e13 w36=>
       ∃p15:Option E_,
       ∃k32:Nat,
       ∃k33:Nat,
       (e13=Ending.returned (K_ p15 k32 k33))/\
       (ao ([k22,k4,k2,k1]) (w33.drew) w36)/\
       (aU (w33.drew) w36)/\
       ∀k34:Nat,
       (w36.heap.size<=k34)->
       ∀w37:C_,
       (Locl ([k34,k22,k4,k2,k1]) w36 w37)->
       ay (w37) ([(209,k34,[K_ p15 k32 k33]),(11,k22,[aa (W:Nat),aa (H:Nat),K_ p11 k23 k24]),(10,k4,[aa (W:Nat),aa (H:Nat),H_ A_ 0,K_ (some ⟨cb,0,none⟩) (mU sub) k9]),(6,k2,[H_ A_ 0,H_ A_ 0,H_ A_ 0,K_ none 0 0]),(3,k1,[H_ A_ x1,H_ A_ x2,K_ sa1 sl1 sc1])]) (p13) (k28) (k29) (1) (1) (24) (52) ([K_ none 0 0]) ([K_ p15 k32 k33]) fun p16 k35 k36 w38=>
       (∃v3:D_,
        w38.cell? (a1.add 3)=some v3)/\
       (w38.frozen? (a1.add 3)=false)/\
       (¬(a1.add 3).block∈[k34,k22,k4,k2,k1])/\
       (I5 [H_ A_ (A_.wrap (n13+1))] (ab w38 (a1.add 3) [K_ p16 k35 k36] 0))/\
       m3 [H_ A_ (A_.wrap (n13+1))] (ab w38 (a1.add 3) [K_ p16 k35 k36] 0)<m3 [H_ A_ n13] w31))
      ((I4 [H_ A_ (A_.wrap (n11+1))] w31)/\
      m2 [H_ A_ (A_.wrap (n11+1))] w31<m2 [H_ A_ n11] w30))
     ((I3 [H_ A_ (A_.wrap (n7+1))] w30)/\
     m1 [H_ A_ (A_.wrap (n7+1))] w30<m1 [H_ A_ n7] w28))
    (∀w39:C_,
    (Locl ([k22,k4,k2,k1]) w28 w39)->
    R (Ending.returned (S_A #[H_A #[aa (W:Nat),aa (H:Nat),H_ A_ 0,K_ (some ⟨cb,0,none⟩) (mU sub) k9],H_ A_ 0])) w39):=by
 generalize hX:[cb,k22,k4,k2,k1]=X at*;have hcX:cb∈X:=by rw[<-hX];simp
 have hlX:∀b,b∈[k22,k4,k2,k1]->b∈X:=fun b hb=>by rw[<-hX];exact e_ _ hb
 have hmU:mU sub=1\/mU sub=3:=by unfold mU;split<;>omega
 obtain⟨dW,dW2,dH,dH2⟩:=hT.dims;have hnU:=cX hsub;have haW:=gW dW dW2 hnU;have haH:=gW dH dH2 hnU;refine⟨fun vs u=>∃(i:Nat) (A:Nat->Prop) (css:List (List D_)),vs=[aa (i:Nat)]/\i<=mU sub/\dT A X w u none 0 0 []/\cP (Da A X) u css ((N_ i).map (oQ T W H q sub))/\(ax id css).length=4*i/\Cs u cb (ax id css++(fa sub i (mU sub)++rest))/\aD (Da A X) u p11 (fN T),
  fun vs _=>match vs with|[.int _ n]=>(mU sub-n:Int).toNat|_=>0,?_,fun n7 w28 hI=>?_⟩
 ·obtain⟨g,kp⟩:=hG.step (T:=fun _=>False) (u':=w28.drew) (Ext.refl _).drew.chg fun _ h=>h.elim
  exact⟨0,_,[],rfl,by omega,g,cP.nil _ _,rfl,hC.drew,kp _ _ hTs⟩
 obtain⟨i,A,css,hv,hi,hG28,hD28,hPl,hC28,hT28⟩:=hI;obtain rfl:n7=(i:Nat):=by simpa using hv
 refine ak (fun hlt=>?_) fun hge=>?_
 rotate_left
 ·have hge:i=mU sub:=by have:=of_decide_eq_false hge;omega
  subst hge;intro w39 hL;obtain⟨g,kp⟩:=hG28.step hL.chg fun b hb _=>hlX b hb;rw[Gn (I_ _),List.nil_append]at hC28;have hC39:=hC28.locl hL hne;refine hR w39 g.ext ⟨css,(hD28.kp kp).kp ((Kp.refl _ _).mono fun b hb _=>g.lo b hb.1),fun j v hj=>?_⟩;refine⟨_,rfl,(g.xs cb hcX).2,?_⟩;rw[af,L_];refine hC39.cell ?_;rw[Q_ (by rw[List.getElem?_eq_some_iff]at hj;exact hj.1)];exact hj
 have hlt:i<mU sub:=by have:=of_decide_eq_true hlt;omega
 have hh:=it (i:=i) hsub;have hd:=HL (i:=i) hsub;have hde:=NQ (i:=i) hsub;generalize hPP:ax id css=PP at*;rw[Ey hlt,a_]at hC28;generalize htail:fa sub (i+1) (mU sub)++rest=tail at*;have hC28:Cs w28 cb (PP++(aa (hU sub i:Nat)::aa (hU sub i:Nat)::.slice none 0 0::.slice none 0 0::tail)):=hC28;refine bo (by omega) (by omega) rfl ?_
 simp only[M_,af,L_,show i*4=PP.length by omega]
 have hcq:decide (((i:Nat):Int)>0)=decide (0<i):=by
  rw[T_A];simp
 rw[hcq];refine K9 hq.1 hq.2 fun qb qc w29 hF29=>⟨_,_,_,_,rfl,hF29.ext.keep _,?_⟩;have hE29:=hF29.ext;obtain⟨hG29,kp29⟩:=hG28.step (T:=fun _=>False) hE29.chg fun _ h=>h.elim;have hQ29:aD (Da (Nw A w28 w29) X) w29 qb (ii (cC q (decide (0<i)))):=(Fg.toS hF29).mono fun b hb _=>⟨.inr hb,fun hm=>by have:=hG28.lt b (hG28.xs b hm).1;omega⟩
 have hD29:=hD28.kp kp29;have hT29:=kp29 _ _ hT28;have hC29:=hC28.ext hE29;generalize Nw A w28 w29=A1 at*;have hlen4:PP.length+3<(PP++(aa (hU sub i:Nat)::aa (hU sub i:Nat)::.slice none 0 0::.slice none 0 0::tail)).length:=by simp
 refine⟨⟨_,hC29.cell (i:=PP.length+2) (gB PP _ 2)⟩,hC29.frozen _,hne,?_⟩;have s1:=hC29.set1 (off:=PP.length+2) (v:=.slice qb 64 qc) (by omega)
 rw[Jo]at s1;have c1:=Chg.setCells w29 ⟨cb,PP.length+2,none⟩ [.slice qb 64 qc] 0;generalize ab w29 ⟨cb,PP.length+2,none⟩ [.slice qb 64 qc] 0=wq at*;obtain⟨hGq,kpq⟩:=hG29.step c1 fun b hb _=>by have hb:b=cb:=hb;rw[hb];exact hcX
 have hDq:=hD29.kp kpq;have hTq:=kpq _ _ hT29;have hQq:=kpq _ _ hQ29;generalize Nw A1 w29 wq=A2 at*;refine⟨((hU sub i:Nat):Int),s1.cell (i:=PP.length) (by have:=gB PP (aa (hU sub i:Nat)::aa (hU sub i:Nat)::.slice qb 64 qc::.slice none 0 0::tail) 0;rwa[Y_]at this),by omega,((hU sub i:Nat):Int),s1.cell (i:=PP.length+1) (gB PP _ 1),?_⟩
 have edn:ad .quo .i64 ((nU sub:Nat):Int) ((hU sub i:Nat):Int)=((dU sub i:Nat):Int):=by rw[qN (by omega) (by omega),hde]
 have edd:A_.wrap (((dU sub i:Nat):Int)*((dU sub i:Nat):Int))=((dU sub i*dU sub i:Nat):Int):=by
  have:dU sub i*dU sub i<=4:=by rcases hd with e|e<;>rw[e]<;>decide
  rw[<-U_,wN]
 rw[pf ⟨dH,dH2⟩ hnU,pf ⟨dW,dW2⟩ hnU,edn,edd];have hww:aJ W (nU sub)*hU sub i<=1024:=n_ (d_ haW.1 (show hU sub i<=2 by omega)) (by omega)
 have hhh:aJ H (nU sub)*hU sub i<=1024:=n_ (d_ haH.1 (show hU sub i<=2 by omega)) (by omega)
 have hw1:1<=aJ W (nU sub)*hU sub i:=E_A haW.2 (by omega)
 have ew:A_.wrap (((aJ W (nU sub):Nat):Int)*((hU sub i:Nat):Int))=((aJ W (nU sub)*hU sub i:Nat):Int):=by rw[<-U_,wN]
 have eh:A_.wrap (((aJ H (nU sub):Nat):Int)*((hU sub i:Nat):Int))=((aJ H (nU sub)*hU sub i:Nat):Int):=by rw[<-U_,wN]
 rw[eh];have hnb:nB W H sub i=aJ W (nU sub)*hU sub i*(aJ H (nU sub)*hU sub i):=rfl;have hcm:oQ T W H q sub i=⟨(hU sub i:Nat),(hU sub i:Nat),cC q (decide (0<i)),(N_ (nB W H sub i)).map (vG T W H (cC q (decide (0<i))) sub i)⟩:=rfl;generalize hbk:vG T W H (cC q (decide (0<i))) sub i=bk at*;have hbkv:∀x y,x<aJ W (nU sub)*hU sub i->bk (aJ W (nU sub)*hU sub i*y+x)=lN (vx T W H i (dU sub i) x y) (cC q (decide (0<i))):=fun x y hx=>by
  rw[<-hbk];unfold vG;rw[N_A,O_A hx,P_A (by omega),A_A hx,Y_]
 generalize hwd:aJ W (nU sub)*hU sub i=wd at*;generalize hhg:aJ H (nU sub)*hU sub i=hg at*;generalize hqL:cC q (decide (0<i))=qL at*;have hqLl:qL.length=64:=by rw[<-hqL];exact eL _
 have hqLr:∀x,x∈qL->1<=x/\x<=65535:=fun x hx=>by rw[<-hqL]at hx;have:=pk x hx;omega
 generalize hdd:dU sub i=d at*;generalize hhv:hU sub i=hv at*
 let St:Nat->C_->Prop:=fun k u=>∃(A:Nat->Prop) (bp:Option E_) (bc:Nat) (vs:List D_),dT A X w u bp k bc vs/\gh (Da A X) u vs ((N_ k).map bk)/\cP (Da A X) u css ((N_ i).map (oQ T W H q sub))/\
  Cs u cb (PP++(aa (hv:Nat)::aa (hv:Nat)::.slice qb 64 qc::.slice bp k bc::tail))/\aD (Da A X) u p11 (fN T)/\aD (Da A X) u qb (ii qL)
 refine⟨fun vs u=>∃y:Nat,vs=[aa (y:Nat)]/\y<=hg/\St (wd*y) u,fun vs _=>match vs with|[.int _ n]=>(hg-n:Int).toNat|_=>0,⟨0,rfl,by omega,A2,none,0,[],hGq,gh.nil _ _,hDq,s1,hTq,hQq⟩,fun n11 w30 hI=>?_⟩
 obtain⟨y,hv',hy,hSt⟩:=hI;obtain rfl:n11=(y:Nat):=by simpa using hv'
 refine ak (fun hlt2=>?_) fun hge=>?_
 rotate_left
 ·have hge:y=hg:=by have:=of_decide_eq_false hge;omega
  subst hge;obtain⟨A,bp,bc,vs,g1,g2,g3,g4,g5,g6⟩:=hSt;rw[ai (x:=(i:Int)+1)];obtain⟨ga,kpa⟩:=g1.all;have hbs:aD (Da (fun b=>w.heap.size<=b/\b<w30.heap.size) X) w30 bp vs:=g1.slS.mono fun b hb _=>⟨hb.1,fun hm=>hb.2 (g1.xs b hm).1⟩;obtain⟨GG,o1,o2,o3⟩:=g1.own;have hbc:=o3.own.2.1;have hcomp:j6 (Da (fun b=>w.heap.size<=b/\b<w30.heap.size) X) w30 [aa (hv:Nat),aa (hv:Nat),.slice qb 64 qc,.slice bp (wd*y) bc] (oQ T W H q sub i):=by
   rw[hcm];refine⟨qb,qc,bp,bc,vs,?_,hqLl,kpa _ _ g6,?_,hbs,?_⟩
   ·simp[hnb]
   ·simpa[hnb]using hbc
   ·rw[hnb];exact g2.kp kpa
  refine⟨⟨i+1,_,css++[[aa (hv:Nat),aa (hv:Nat),.slice qb 64 qc,.slice bp (wd*y) bc]],rfl,hlt,ga,?_,?_,?_,kpa _ _ g5⟩,by show((mU sub:Int)-((i:Int)+1)).toNat<((mU sub:Int)-i).toNat;omega⟩
  ·rw[Z_,j_]
   exact(g3.kp kpa).snoc hcomp
  ·rw[re,hPP,V_,hPl];simp;omega
  ·rw[re,hPP,a_,htail]
   exact g4
 have hlt2:y<hg:=by have:=of_decide_eq_true hlt2;omega
 refine⟨((hv:Nat):Int),?_,?_⟩
 ·obtain⟨A,bp,bc,vs,g1,g2,g3,g4,g5,g6⟩:=hSt
  exact g4.cell (i:=PP.length) (by have:=gB PP (aa (hv:Nat)::aa (hv:Nat)::.slice qb 64 qc::.slice bp (wd*y) bc::tail) 0;rwa[Y_]at this)
 rw[ew];refine⟨fun vs u=>∃x:Nat,vs=[aa (x:Nat)]/\x<=wd/\St (wd*y+x) u,fun vs _=>match vs with|[.int _ n]=>(wd-n:Int).toNat|_=>0,⟨0,rfl,by omega,hSt⟩,fun n13 w31 hI=>?_⟩
 obtain⟨x,hv',hx,hSt⟩:=hI;obtain rfl:n13=(x:Nat):=by simpa using hv'
 refine ak (fun hlt3=>?_) fun hge=>?_
 rotate_left
 ·have hge:x=wd:=by have:=of_decide_eq_false hge;omega
  subst hge;rw[ai (x:=(y:Int)+1)];exact⟨⟨y+1,rfl,hlt2,hSt⟩,by show((hg:Int)-((y:Int)+1)).toNat<((hg:Int)-y).toNat;omega⟩
 have hlt3:x<wd:=by have:=of_decide_eq_true hlt3;omega
 obtain⟨A,bp,bc,vs,g1,g2,g3,g4,g5,g6⟩:=hSt;have hkb:wd*y+x<1048576:=by
  have:wd*(y+1)<=1024*1024:=d_ hww (by omega)
  rw[r_]at this;omega
 refine⟨by omega,by omega,by omega,by omega,?_⟩
 intro k27 w32 hn32;have e32:=hn32.1;have s32:=hn32.size;have hE32:=hn32.ext;have z32:=hE32.size;have hin:∀b,b∈X->b<w31.heap.size:=fun b hb=>g1.lt b (g1.xs b hb).1;have hC32:Cs w32 k27 (aB 64 (iu (iO T W H i d x y) 0)):=by rw[xD];exact aK.zeros hn32
 refine⟨fun vs u=>∃n:Nat,vs=[aa (n:Nat)]/\n<=64/\Chg (·=k27) w32 u/\Cs u k27 (aB 64 (iu (iO T W H i d x y) n)),fun vs _=>match vs with|[.int _ n]=>(64-n:Int).toNat|_=>0,⟨0,rfl,by omega,Chg.refl _ _,hC32⟩,fun n14 w33 hI=>?_⟩
 obtain⟨n,hv',hn,hc33,hC33⟩:=hI;obtain rfl:n14=(n:Nat):=by simpa using hv'
 have hE33:Ext w31 w33:=hE32.step hc33 fun i hi=>by have hi:i=k27:=hi;omega
 have z33:=hE33.size;refine ak (fun hlt4=>?_) fun hge=>?_
 ·have hlt4:n<64:=by have:=of_decide_eq_true hlt4;omega
  have hd4:d*d<=4:=by rcases hd with e|e<;>rw[e]<;>decide
  have hd1:1<=d*d:=by rcases hd with e|e<;>rw[e]<;>decide
  refine⟨fun vs u=>∃t:Nat,vs=[aa (gS T W H i d x y n t),aa (t:Nat)]/\t<=d*d/\Ext w33 u/\Chg (·=k27) w32 u/\Cs u k27 (aB 64 (iu (iO T W H i d x y) n)),fun vs _=>match vs with|[_,.int _ t]=>(((d*d:Nat):Int)-t:Int).toNat|_=>0,⟨0,?_,by omega,Ext.refl _,hc33,hC33⟩,fun n15 n16 w34 hI=>?_⟩
  ·have:(2:Int)=((2:Nat):Int):=rfl
   rw[this,qN (by omega) (by omega)]
   unfold gS;rw[SI,Int.add_zero];rfl
  obtain⟨t,hv',ht,hE34,hc34,hC34⟩:=hI;simp only[S_,T_,true_and,and_true]at hv';obtain⟨rfl,rfl⟩:=hv';have hsr:=yK (i:=i) (bx:=x) (by':=y) (p:=n) hT hd ht
  have hE34':Ext w31 w34:=hE33.trans hE34;refine ak (fun hlt5=>?_) fun hge=>?_
  ·have hlt5:t<d*d:=by have:=of_decide_eq_true hlt5;omega
   have hp:((n:Nat):Int)%8=((n%8:Nat):Int):=rfl;have hex:A_.wrap (A_.wrap (A_.wrap (A_.wrap (8*((x:Nat):Int))+ad u_ A_ ((n:Nat):Int) 8)*((d:Nat):Int))+ad u_ A_ ((t:Nat):Int) ((d:Nat):Int))=(((8*x+n%8)*d+t%d:Nat):Int):=by
    have hb1:(8*x+n%8)*d<=(8*1024+8)*2:=d_ (by omega) (by omega)
    have hb2:t%d<4:=U_A (Nat.mod_le _ _) (by omega)
    have e8:(8:Int)=((8:Nat):Int):=rfl;rw[e8,<-U_,wN,rN,rN,<-l_,wN,<-U_,wN,<-l_,wN]
   have hey:A_.wrap (A_.wrap (A_.wrap (A_.wrap (8*((y:Nat):Int))+ad J_ A_ ((n:Nat):Int) 8)*((d:Nat):Int))+ad J_ A_ ((t:Nat):Int) ((d:Nat):Int))=(((8*y+n/8)*d+t/d:Nat):Int):=by
    have hb1:(8*y+n/8)*d<=(8*1024+8)*2:=d_ (by omega) (by omega)
    have hb2:t/d<4:=U_A (Nat.div_le_self _ _) (by omega)
    have e8:(8:Int)=((8:Nat):Int):=rfl;rw[e8,<-U_,wN,qN (by omega) (by omega),qN (by omega) (by omega),<-l_,wN,<-U_,wN,<-l_,wN]
   rw[hex,hey];refine⟨by omega,by omega,?_⟩
   have hTd:Sl w34.drew.heap.size w34.drew p11 (fN T):=(g5.sl.ext (hE34'.trans (Ext.refl w34).drew)).up;refine Ll hTd hk ⟨by omega,by omega⟩ ⟨by omega,by omega⟩ (by rw[hT.len];push_cast;rfl) fun w35 hE35=>?_
   refine⟨_,_,_,rfl,hE35.keep _,by omega,by omega,vd T W H i ((8*x+n%8)*d+t%d) ((8*y+n/8)*d+t/d),?_,?_⟩
   ·unfold vd mX
    have:i=0\/i=1\/i=2:=by omega
    rcases this with rfl|rfl|rfl<;>rfl
   ·have hE5:Ext w34 w35:=(Ext.refl w34).drew.trans hE35
    have es:gS T W H i d x y n (t+1)=gS T W H i d x y n t+vd T W H i ((8*x+n%8)*d+t%d) ((8*y+n/8)*d+t/d):=by
     unfold gS;rw[SI,Int.add_assoc]
    have hsr2:=yK (i:=i) (bx:=x) (by':=y) (p:=n) (n:=t+1) hT hd (by omega)
    rw[<-es,ai (x:=gS T W H i d x y n (t+1)),ai (x:=(t:Int)+1)];exact⟨⟨t+1,rfl,hlt5,hE34.trans hE5,hc34.trans hE5.chg fun _ h _=>h,hC34.ext hE5⟩,by show(((d*d:Nat):Int)-((t:Int)+1)).toNat<(((d*d:Nat):Int)-t).toNat;omega⟩
  ·have hge:t=d*d:=by have:=of_decide_eq_false hge;omega
   subst hge;have hvr:=uE (i:=i) (bx:=x) (by':=y) (p:=n) hT hd
   have hval:A_.wrap (ad J_ A_ (gS T W H i d x y n (d*d)) ((d*d:Nat):Int)-128)=iO T W H i d x y n:=by
    rw[lM hsr.1 (by omega) (by omega)]
    show A_.wrap (iO T W H i d x y n)=_;rw[ai (by omega) (by omega)]
   rw[hval];have hl34:(aB 64 (iu (iO T W H i d x y) n)).length=64:=bC _ _;have t1:=Cs.set1 hC34 (off:=n) (v:=aa (iO T W H i d x y n)) (by omega)
   have t2:=Chg.setCells w34 ⟨k27,n,none⟩ [aa (iO T W H i d x y n)] 0;rw[AL]at t1;refine⟨by omega,bo (by omega) (by omega) rfl ?_⟩
   rw[M_,af,L_,b_,ai (x:=(n:Int)+1)];have hkX:k27∉[k22,k4,k2,k1]:=fun hm=>by have:=hin k27 (hlX k27 hm);omega
   exact⟨⟨_,hC34.cell (i:=n) (f_ (by omega))⟩,hC34.frozen _,hkX,⟨n+1,rfl,hlt4,hc34.trans t2 fun _ h _=>h,t1⟩,by show((64:Int)-((n:Int)+1)).toNat<((64:Int)-n).toNat;omega⟩
 have hge:n=64:=by have:=of_decide_eq_false hge;omega
 subst hge;rw[xJ]at hC33;have hE33d:Ext w31 w33.drew:=hE33.trans (Ext.refl w33).drew;have g4':=g4.ext hE33d;refine⟨_,_,_,g4'.cell (i:=PP.length+3) (gB PP _ 3),_,_,_,g4'.cell (i:=PP.length+2) (gB PP _ 2),?_⟩;have hC33':Cs w33.drew k27 (ii (vx T W H i d x y)):=hC33.drew;refine Jx (N:=k27+1) (hC33'.sl (off:=0) (V_A _) (by omega)) (eL _) (C0 hT hd) (g6.sl.ext hE33d) hqLl hqLr fun p15 c15 w36 hF36=>⟨_,_,_,rfl,hF36.ext.keep _,hF36.ext.keeps,?_⟩
 have hE36:=hE33d.trans hF36.ext;obtain⟨hG36,kp36⟩:=g1.step (T:=fun _=>False) hE36.chg fun _ h=>h.elim;have z36:=hF36.ext.size;have zd:w33.drew.heap.size=w33.heap.size:=rfl;have hB36:aD (Da (Nw A w31 w36) X) w36 p15 (ii (bk (wd*y+x))):=by
  rw[hbkv x y hlt3];exact(Fg.toS hF36).mono fun b hb _=>⟨.inr ⟨by omega,hb.2⟩,fun hm=>by have:=hin b hm;omega⟩
 have hS36:=g2.kp kp36;have hD36:=g3.kp kp36;have hT36:=kp36 _ _ g5;have hQ36:=kp36 _ _ g6;have hC36:=g4.ext hE36;generalize Nw A w31 w36=A3 at*;intro k34 hk34 w37 hL37;have hmem:∀b,b∈[k34,k22,k4,k2,k1]->b<w36.heap.size->b∈X:=fun b hb hl=>by
  rcases List.mem_cons.1 hb with e|hb
  ·omega
  ·exact hlX b hb
 obtain⟨hG37,kp37⟩:=hG36.step hL37.chg hmem;have hcl:cb∉[k34,k22,k4,k2,k1]:=fun hm=>by
  rcases List.mem_cons.1 hm with e|hm
  ·have:=hG36.lt cb (hG36.xs cb hcX).1;omega
  ·exact hne hm
 have hC37:=hC36.locl hL37 hcl;have hB37:=kp37 _ _ hB36;have hS37:=hS36.kp kp37;have hD37:=hD36.kp kp37;have hT37:=kp37 _ _ hT36;have hQ37:=kp37 _ _ hQ36;have hk34A:Nw A3 w36 w37 k34:=.inr ⟨hk34,hL37.there k34 (by simp)⟩
 generalize Nw A3 w36 w37=A4 at*;refine hG37.app (fun b hb=>?_) rfl rfl (by omega) (by omega) fun p16 c16 w38 hG38 kp38 hk38 z38=>?_
 ·have hb:b∈[k34,k22,k4,k2,k1]:=by simpa[am]using hb
  rcases List.mem_cons.1 hb with e|hb
  ·rw[e];exact hk34A
  ·exact(hG37.xs b (hlX b hb)).1
 have hC38:=hC37.same (hk38 cb (hG37.xs cb hcX).1);have hB38:=kp38 _ _ hB37;have hS38:=hS37.kp kp38;have hD38:=hD37.kp kp38;have hT38:=kp38 _ _ hT37;have hQ38:=kp38 _ _ hQ37;refine⟨⟨_,hC38.cell (i:=PP.length+3) (gB PP _ 3)⟩,hC38.frozen _,hcl,?_⟩;have u1:=hC38.set1 (off:=PP.length+3) (v:=.slice p16 (wd*y+x+1) c16) (by simp)
 rw[Jp]at u1;have u2:=Chg.setCells w38 ⟨cb,PP.length+3,none⟩ [.slice p16 (wd*y+x+1) c16] 0;obtain⟨hG39,kp39⟩:=hG38.step u2 fun b hb _=>by have hb:b=cb:=hb;rw[hb];exact hcX
 rw[ai (x:=(x:Int)+1)];refine⟨⟨x+1,rfl,hlt3,_,p16,c16,_,hG39,?_,hD38.kp kp39,u1,kp39 _ _ hT38,kp39 _ _ hQ38⟩,by show((wd:Int)-((x:Int)+1)).toNat<((wd:Int)-x).toNat;omega⟩
 rw[show wd*y+(x+1)=(wd*y+x)+1 by omega,Z_,j_]
 refine(hS38.kp kp39).snoc ?_ (Fg.cap hF36) (kp39 _ _ hB38);rw[hbkv x y hlt3];exact MJ _ _
theorem rg(h:vm xs)(n:Nat):∀c,c∈gp xs n->nP c:=fun c hc=>by
 obtain⟨k,_,rfl⟩:=List.mem_map.1 hc;exact Hu h k
def cu(xs:List Int)(W H sub:Nat):List gH:=(gp xs (W*H)).map (cU (decide (sub=0)))
theorem Gh{sub:Nat}(h:vm xs)(hd:1<=W/\W<=4096/\1<=H/\H<=4096):Jf (cu xs W H sub) W H:=
 ⟨fun k i=>Ii (rg h _) k i,by simp[cu,nY],hd⟩
def NH:D_:=.agg #[aa 0,aa 0,aa 0,.slice none 0 0]
theorem Ku{len cap:Nat}{W H q sub:Int}(h:nm w p len xs)(hc:len<=cap)(hpx:vm xs)
 (h1:fU W H xs=false->∀w',Ext w w'->R (.returned (.tuple #[NH,aa 6])) w')
 (h2:fU W H xs=true->¬(1<=q/\q<=100/\0<=sub/\sub<=2)->∀w',Ext w w'->R (.returned (.tuple #[NH,aa 2])) w')
 (h3:fU W H xs=true->1<=q/\q<=100/\0<=sub/\sub<=2->∀cb c w',Ext w w'->mU sub.toNat<=c->jV w w' (some ⟨cb,0,none⟩) (yG (cu xs W.toNat H.toNat sub.toNat) W.toNat H.toNat q.toNat sub.toNat)->
 R (.returned (.tuple #[.agg #[aa W,aa H,aa 0,.slice (some ⟨cb,0,none⟩) (mU sub.toNat) c],aa 0])) w'):
  G_ P 16 #[.agg #[aa W,aa H,.slice p len cap],aa q,aa sub] w R:=by
 refine Bu _ _ _ _ _ _ _ _ _ ?_;intro k1 hk1 k2 hk2 w1 hL1;have hE1:Ext w w1:=hL1.ext (by simp;omega)
 refine Ee (h.ext hE1) hc (fun hg w2 hE2=>⟨_,_,rfl,hE2.keep _,aY rfl fun w3 hL3=>h1 hg w3 ((hE1.trans hE2).step hL3.chg (by simp;omega))⟩) fun hg gb gc w2 hE2 hgb hgc hGr=>⟨_,_,rfl,hE2.keep _,al rfl ?_⟩
 have hE12:=hE1.trans hE2;obtain⟨hgf,hxl⟩:=mA.1 hg;obtain⟨d1,d2,d3,d4,d5⟩:=eK.1 hgf;refine ak (fun hb=>fun w4 hL4=>?_) fun hb=>?_
 ·refine h2 hg (fun hh=>?_) w4 (hE12.step hL4.chg (by simp;omega))
  simp only[Bool.or_eq_true,decide_eq_true_eq]at hb;omega
 have hq:1<=q/\q<=100/\0<=sub/\sub<=2:=by
  simp only[Bool.or_eq_false_iff,decide_eq_false_iff_not]at hb;omega
 obtain⟨W,rfl⟩:=v_ (show 0<=W by omega)
 obtain⟨H,rfl⟩:=v_ (show 0<=H by omega)
 obtain⟨q,rfl⟩:=v_ (show 0<=q by omega)
 obtain⟨sub,rfl⟩:=v_ (show 0<=sub by omega)
 have h3:=h3 hg hq;simp only[M_]at h3;have hT:=Gh (sub:=sub) hpx (W:=W) (H:=H) (by omega)
 rw[show(((W:Nat):Int)*((H:Nat):Int)).toNat=W*H by rw[<-U_,M_]]at hGr
 have emx:max ((sub:Nat):Int) 1=((nU sub:Nat):Int):=by unfold nU;omega
 rw[emx];intro k3 w5 hn5 k4 hk4;have e5:=hn5.1;have s5:=hn5.size;have z12:=hE12.size;have z5:=hn5.ext.size;have hE5:=hE12.trans hn5.ext;have hC5:Cs w5 k3 [aa (nU sub:Nat),aa (nU sub:Nat),.slice none 0 0,.slice none 0 0]:=hn5.cs;have hG5:=hGr.ext hn5.ext;have hl5:=hGr.lt;have ht1:=hL1.there k1 (by simp)
 have ht2:=hL1.there k2 (by simp)
 have z2:=hE2.size;have hini:∀b,b∈[k4,k2,k1]->w.heap.size<=b:=by simp;omega
 refine⟨fun vs u=>∃(cb cg:Nat) (rest:List D_) (A:Nat->Prop),vs=[aa (W:Nat),aa (H:Nat),aa 0,.slice (some ⟨cb,0,none⟩) (mU sub) cg]/\mU sub<=cg/\Cs u cb (fa sub 0 (mU sub)++rest)/\dT A [cb,k4,k2,k1] w u none 0 0 []/\cb∉[k4,k2,k1]/\fB u (some ⟨gb,0,none⟩) gb gc (W:Nat) (H:Nat) (gp xs (W*H))/\gb∉[k4,k2,k1]/\gc∉[k4,k2,k1],?_,?_⟩
 ·refine ak (fun h=>?_) fun h=>?_
  ·have h0:0<sub:=by have:=of_decide_eq_true h;omega
   intro k5 hk5 w6 hL6;have hm3:mU sub=3:=by unfold mU;rw[if_pos h0]
   have z6:=hL6.size;have t5:=hL6.there k5 (by simp)
   have t4:=hL6.there k4 (by simp)
   have hO5:=hn5.own (N:=w2.heap.size) (M:=w5.heap.size) (vs:=[aa (nU sub:Nat),aa (nU sub:Nat),.slice none 0 0,.slice none 0 0]) (len:=1) (cap:=1) (sz:=4) (V_A _) rfl rfl (by omega) (by omega) (by omega)
   have hO6:=(hO5.chg hL6.chg (by simp;omega)).owB (by omega)
   refine hO6.app (fun b hb hS=>?_) rfl rfl (by omega) (by omega) fun S' p2 c2 w7 hg ho hc7=>?_
   ·have hb:b=k5\/b=k4\/b=k2\/b=k1:=by simpa[am]using hb
    omega
   intro w8 hL8;have z7:=hc7.size;have z8:=hL8.size;obtain⟨⟨o1,o2,o3⟩,hb7⟩:=ho;rcases o3 with o3|⟨cb,rest,o3,o4,o5,o6⟩
   ·omega
   have hcb:(w2.heap.size<=cb/\cb<w5.heap.size)\/w6.heap.size<=cb:=by
    rcases hg.2 cb o3 with hh|hh
    ·exact .inl hh
    ·exact .inr hh.1
   have hcb7:=hb7 cb o3;have hno:cb∉[k5,k4,k2,k1]:=by simp;omega
   have hno2:cb∉[k4,k2,k1]:=fun hm=>hno (by simp at hm⊢;omega)
   have hE6:Ext w w6:=hE5.step hL6.chg (by simp;omega)
   have hE7:Ext w w7:=hE6.step hc7 fun i hi=>by omega
   have hE8:Ext w w8:=hE7.step hL8.chg (by simp;omega)
   have hg6:=hG5.chg hL6.chg (by simp;omega) (by simp;omega)
   have hg7:=hg6.chg hc7 (by omega) (by omega)
   have hg8:=hg7.chg hL8.chg (by simp;omega) (by simp;omega)
   have hC8:=o6.locl hL8 hno;subst o4;refine⟨cb,c2,rest,fun b=>w.heap.size<=b/\b<w8.heap.size,by rw[hm3],by omega,?_,dT.nil hE8 (fun _ h=>h) fun b hb=>?_,hno2,hg8,by simp;omega,by simp;omega⟩
   ·rw[hm3]
    have e:fa sub 0 3=[aa (nU sub:Nat),aa (nU sub:Nat),.slice none 0 0,.slice none 0 0]++[aa 1,aa 1,.slice none 0 0,.slice none 0 0,aa 1,aa 1,.slice none 0 0,.slice none 0 0]:=rfl;rw[e];exact hC8
   ·have hb:b=cb\/b=k4\/b=k2\/b=k1:=by simpa using hb
    omega
  ·have h0:sub=0:=by have:=of_decide_eq_false h;omega
   subst h0;intro w9 hL9;have z9:=hL9.size;have t4:=hL9.there k4 (by simp)
   have hE9:Ext w w9:=hE5.step hL9.chg (by simp;omega)
   have hC9:=hC5.locl hL9 (by simp;omega)
   refine⟨k3,1,[],fun b=>w.heap.size<=b/\b<w9.heap.size,rfl,I_ _,?_,dT.nil hE9 (fun _ h=>h) fun b hb=>?_,by simp;omega,hG5.chg hL9.chg (by simp;omega) (by simp;omega),by simp;omega,by simp;omega⟩
   ·exact hC9
   ·have hb:b=k3\/b=k4\/b=k2\/b=k1:=by simpa using hb
    omega
 intro n2 n3 n4 p3 k8 k9 w10 hI;obtain⟨cb,cg,rest,A,hv,hcg,hC10,hG10,hcb,hgr10,hgb4,hgc4⟩:=hI;simp only[S_,T_,K_.injEq,true_and,and_true]at hv;obtain⟨rfl,rfl,rfl,rfl,rfl,rfl⟩:=hv;have hgl:=hgr10.lt;have hlX:∀b,b∈[k4,k2,k1]->b∈[cb,k4,k2,k1]:=fun b hb=>e_ _ hb;have hX10:∀b,b∈[k4,k2,k1]->b<w10.heap.size:=fun b hb=>hG10.lt b (hG10.xs b (hlX b hb)).1;have hcb10:=hG10.lt cb (hG10.xs cb (by simp)).1
 have hTl:(cu xs W H sub).length=W*H:=hT.len;have hcl:(gp xs (W*H)).length=W*H:=nY _ _;have hTe:(gp xs (W*H)).map (cU (((sub:Nat):Int)==0))=cu xs W H sub:=by
  unfold cu;congr 2;rw[T_A];simp
 have hWH:W*H<=65536:=by
  have:=d5;rw[<-U_]at this;omega
 generalize hTT:cu xs W H sub=T at*;refine⟨fun vs u=>∃(A:Nat->Prop) (k:Nat) (p:Option E_) (c:Nat),vs=[.pointer (some ⟨k,0,none⟩),aa (W:Nat),aa (H:Nat),.slice p T.length c]/\dT A (k::[cb,k4,k2,k1]) w u none 0 0 []/\Cs u cb (fa sub 0 (mU sub)++rest)/\aD (Da A (k::[cb,k4,k2,k1])) u p (fN T)/\cb≠k,?_,?_⟩
 ·obtain⟨hGd,_⟩:=hG10.step (T:=fun _=>False) (u':=w10.drew) (Ext.refl _).drew.chg fun _ h=>h.elim
  have hgrd:=hgr10.ext (Ext.refl w10).drew;have zd:w10.drew.heap.size=w10.heap.size:=rfl;generalize Nw A w10 w10.drew=Ad at*;have finA:∀(Ac:Nat->Prop) (u u2:C_) (p5:Option E_) (c5:Nat),dT Ac [cb,k4,k2,k1] w u none 0 0 []->Cs u cb (fa sub 0 (mU sub)++rest)->cb<u.heap.size->Ext u u2->Ow u.heap.size u2.heap.size u2 p5 (W*H) c5 3 (fN T)->∀k u3,u2.heap.size<=k->Locl (k::[k4,k2,k1]) u2 u3->
    ∃(A:Nat->Prop) (k':Nat) (p:Option E_) (c:Nat),[.pointer (some ⟨k,0,none⟩),aa (W:Nat),aa (H:Nat),.slice p5 (W*H) c5]=[W_A (some ⟨k',0,none⟩),aa (W:Nat),aa (H:Nat),.slice p T.length c]/\dT A (k'::[cb,k4,k2,k1]) w u3 none 0 0 []/\Cs u3 cb (fa sub 0 (mU sub)++rest)/\aD (Da A (k'::[cb,k4,k2,k1])) u3 p (fN T)/\cb≠k':=by
   intro Ac u u2 p5 c5 hG hC hlt hE ho k u3 hk hL;obtain⟨g1,_⟩:=hG.step (T:=fun _=>False) hE.chg fun _ h=>h.elim;have hz:=hE.size;have hs:aD (Da (Nw Ac u u2) [cb,k4,k2,k1]) u2 p5 (fN T):=(Ow.toS ho).mono fun b hb _=>⟨.inr hb,fun hm=>by have:=hG.lt b (hG.xs b hm).1;omega⟩
   obtain⟨g2,kp2⟩:=g1.addX hL hlX hk;have hC2:=(hC.ext hE).locl hL (by
    intro hm;rcases List.mem_cons.1 hm with e|hm
    ·omega
    ·exact hcb hm)
   exact⟨_,k,p5,c5,by rw[hTl],g2,hC2,kp2 _ _ hs,by omega⟩
  have finB:∀(Ac:Nat->Prop) (k:Nat) (u u2:C_) (p5:Option E_) (c5:Nat),dT Ac (k::[cb,k4,k2,k1]) w u none 0 0 []->Cs u cb (fa sub 0 (mU sub)++rest)->cb≠k->Ext u u2->Ow u.heap.size u2.heap.size u2 p5 (W*H) c5 3 (fN T)->∀u3,Locl (k::[k4,k2,k1]) u2 u3->
    ∃(A:Nat->Prop) (k':Nat) (p:Option E_) (c:Nat),[.pointer (some ⟨k,0,none⟩),aa (W:Nat),aa (H:Nat),.slice p5 (W*H) c5]=[W_A (some ⟨k',0,none⟩),aa (W:Nat),aa (H:Nat),.slice p T.length c]/\dT A (k'::[cb,k4,k2,k1]) w u3 none 0 0 []/\Cs u3 cb (fa sub 0 (mU sub)++rest)/\aD (Da A (k'::[cb,k4,k2,k1])) u3 p (fN T)/\cb≠k':=by
   intro Ac k u u2 p5 c5 hG hC hne hE ho u3 hL;obtain⟨g1,_⟩:=hG.step (T:=fun _=>False) hE.chg fun _ h=>h.elim;have hs:aD (Da (Nw Ac u u2) (k::[cb,k4,k2,k1])) u2 p5 (fN T):=(Ow.toS ho).mono fun b hb _=>⟨.inr hb,fun hm=>by have:=hG.lt b (hG.xs b hm).1;omega⟩
   have hmem:∀b,b∈k::[k4,k2,k1]->b∈k::[cb,k4,k2,k1]:=fun b hb=>by
    rcases List.mem_cons.1 hb with e|hb
    ·rw[e];simp
    ·exact e_ _ (hlX b hb)
   obtain⟨g2,kp2⟩:=g1.step hL.chg fun b hb _=>hmem b hb;have hC2:=(hC.ext hE).locl hL (by
    intro hm;rcases List.mem_cons.1 hm with e|hm
    ·exact hne e
    ·exact hcb hm)
   exact⟨_,k,p5,c5,by rw[hTl],g2,hC2,kp2 _ _ hs,hne⟩
  refine⟨?_,?_⟩
  ·refine pw _ _ _ fun fb w11 hnf=>?_
   have hfb:=hnf.1;have hfs:=hnf.size;have hE11:Ext w10.drew w11:=hnf.ext;have hgr11:=hgrd.ext hE11;have hf11:Cs w11 fb [.bool (((sub:Nat):Int)==0)]:=hnf.cs;refine⟨_,_,_,rfl,hE11.keep _,hE11.keeps,?_,?_⟩
   ·refine AR hgr11 hf11 (rg hpx _) fun km bm cm w12 hE12 hkm hCm hSm=>⟨_,rfl,hE12.keep _,hE12.keeps,?_,?_⟩
    ·rw[hTe]at hSm
     refine oq hCm hSm.sl (by rw[hcl,hTl]) (by omega) fun p5 c5 w13 hE13 ho=>⟨_,_,_,rfl,hE13.keep _,hE13.keeps,fun k12 hk12 w14 hL14=>?_⟩
     rw[hcl];rw[hcl]at ho;have hE0:=hE11.trans hE12;obtain⟨g0,_⟩:=hGd.step (T:=fun _=>False) hE0.chg fun _ h=>h.elim;exact finA _ w12 w13 p5 c5 g0 (hC10.ext ((Ext.refl w10).drew.trans hE0)) (by have:=hE0.size;omega) hE13 ho k12 w14 hk12 hL14
    ·intro k13 hk13 w15 hL15
     rw[hTe]at hSm;have hE0:=hE11.trans hE12;have z0:=hE0.size;have z11:=hE11.size;have zz12:=hE12.size;obtain⟨g0,_⟩:=hGd.step (T:=fun _=>False) hE0.chg fun _ h=>h.elim;obtain⟨g1,_⟩:=g0.addX hL15 hlX hk13;have hC12:=hC10.ext ((Ext.refl w10).drew.trans hE0);have hC15:=hC12.locl hL15 (by
      intro hm;rcases List.mem_cons.1 hm with e|hm
      ·omega
      ·exact hcb hm)
     have hkm':=hCm.lt;have hCm15:=hCm.locl hL15 (by
      intro hm;rcases List.mem_cons.1 hm with e|hm
      ·omega
      ·have:=hX10 km hm;omega)
     have hSm15:=hSm.chg hL15.chg fun b hb hl hm=>by
      rcases List.mem_cons.1 hm with e|hm
      ·omega
      ·have:=hX10 b hm;omega
     refine oq hCm15 hSm15.sl (by rw[hcl,hTl]) (by omega) fun p5 c5 w16 hE16 ho=>⟨_,_,_,rfl,hE16.keep _,hE16.keeps,fun w17 hL17=>?_⟩
     rw[hcl];rw[hcl]at ho;exact finB _ k13 w15 w16 p5 c5 g1 hC15 (by omega) hE16 ho w17 hL17
   ·intro k16 hk16 w18 hL18
    have z11:=hE11.size;obtain⟨g0,_⟩:=hGd.step (T:=fun _=>False) hE11.chg fun _ h=>h.elim;obtain⟨g1,_⟩:=g0.addX hL18 hlX hk16;have hC11:=hC10.ext ((Ext.refl w10).drew.trans hE11);have hno:∀b,b<w11.heap.size->b∉[k4,k2,k1]->b∉k16::[k4,k2,k1]:=fun b hl hn hm=>by
     rcases List.mem_cons.1 hm with e|hm
     ·omega
     ·exact hn hm
    have hC18:=hC11.locl hL18 (hno cb (by omega) hcb)
    have hgr18:=hgr11.chg hL18.chg (hno gb (by omega) hgb4) (hno gc (by omega) hgc4)
    have hf18:=hf11.locl hL18 (hno fb (by omega) fun hm=>by have:=hX10 fb hm;omega)
    refine AR hgr18 hf18 (rg hpx _) fun km bm cm w19 hE19 hkm hCm hSm=>⟨_,rfl,hE19.keep _,hE19.keeps,?_⟩;rw[hTe]at hSm;refine oq hCm hSm.sl (by rw[hcl,hTl]) (by omega) fun p5 c5 w20 hE20 ho=>⟨_,_,_,rfl,hE20.keep _,hE20.keeps,fun w21 hL21=>?_⟩
    rw[hcl];rw[hcl]at ho;obtain⟨g2,_⟩:=g1.step (T:=fun _=>False) hE19.chg fun _ h=>h.elim;exact finB _ k16 w19 w20 p5 c5 g2 (hC18.ext hE19) (by omega) hE20 ho w21 hL21
  ·intro k19 hk19 w22 hL22
   obtain⟨g1,_⟩:=hGd.addX hL22 hlX hk19;have hno:∀b,b<w10.drew.heap.size->b∉[k4,k2,k1]->b∉k19::[k4,k2,k1]:=fun b hl hn hm=>by
    rcases List.mem_cons.1 hm with e|hm
    ·omega
    ·exact hn hm
   have hC22:=(hC10.drew).locl hL22 (hno cb (by omega) hcb)
   have hgr22:=hgrd.chg hL22.chg (hno gb (by omega) hgb4) (hno gc (by omega) hgc4)
   refine pw _ _ _ fun fb w23 hnf=>?_;have hE23:Ext w22 w23:=hnf.ext;have hf23:Cs w23 fb [.bool (((sub:Nat):Int)==0)]:=hnf.cs;refine⟨_,_,_,rfl,hE23.keep _,hE23.keeps,?_⟩;refine AR (hgr22.ext hE23) hf23 (rg hpx _) fun km bm cm w24 hE24 hkm hCm hSm=>⟨_,rfl,hE24.keep _,hE24.keeps,?_⟩;rw[hTe]at hSm;refine oq hCm hSm.sl (by rw[hcl,hTl]) (by omega) fun p5 c5 w25 hE25 ho=>⟨_,_,_,rfl,hE25.keep _,hE25.keeps,fun w26 hL26=>?_⟩
   rw[hcl];rw[hcl]at ho;have hE0:=hE23.trans hE24;obtain⟨g2,_⟩:=g1.step (T:=fun _=>False) hE0.chg fun _ h=>h.elim;exact finB _ k19 w24 w25 p5 c5 g2 (hC22.ext hE0) (by omega) hE25 ho w26 hL26
 intro k22 n5 n6 p11 k23 k24 w27 hI;obtain⟨A',k,p,c,hv,hG27,hC27,hS27,hne⟩:=hI;simp only[S_,T_,K_.injEq,W_A.injEq,Option.some.injEq,E_.mk.injEq,true_and,and_true]at hv;obtain⟨rfl,rfl,rfl,rfl,rfl,rfl⟩:=hv;have hn8:=cX (sub:=sub) (by omega)
 have e8:(8:Int)*((nU sub:Nat):Int)=((8*nU sub:Nat):Int):=by push_cast;rfl
 refine⟨by rw[e8,wN];omega,by rw[e8,wN];omega,?_⟩
 have hperm:∀b,b∈[cb,k22,k4,k2,k1]↔b∈k22::[cb,k4,k2,k1]:=fun b=>by simp;omega
 refine KE hT (by omega) (by omega) (hG27.perm fun b hb=>(hperm b).1 hb) (by
  intro hm;rcases List.mem_cons.1 hm with e|hm
  ·exact hne e
  ·exact hcb hm) hC27 (hS27.mono fun b hb _=>⟨hb.1,fun hm=>hb.2 ((hperm b).1 hm)⟩) rfl hcg fun w' hE' hJ=>h3 cb _ w' hE' hcg hJ
def HV(w:C_)(p:Option E_)(l:List (Int×Int)):Prop:=∀(i:Nat) (x:Int×Int),l[i]?=some x->∃a,p=some a/\w.cell? (a.add (i*4))=some (aa x.1)/\w.cell? ((a.add (i*4)).add 1)=some (aa x.2)
theorem HV.ext{l:List (Int×Int)}(h:HV w p l)(hE:Ext w u):HV u p l:=fun i x hx=>by
 obtain⟨a,h1,h2,h3⟩:=h i x hx;exact⟨a,h1,hE.cell h2,hE.cell h3⟩
def ij(l:List Int):Int:=l.foldl max 1
theorem tH(l:List Int)(x:Int):ij (l++[x])=max (ij l) x:=by simp[ij]
theorem vR{l:List (Int×Int)}{f:Int×Int->Int}(h:n<l.length):(l.take (n+1)).map f=(l.take n).map f++[f l[n]]:=by
 rw[i7 h,j_];rfl
theorem Ko{c:Nat}{e:Int}{l:List (Int×Int)}(h:HV w p l)(hl:l.length<=3)
 (hm:ij (l.map (·.1))=(n:Nat)/\ij (l.map (·.2))=(n:Nat))(hn:n=1\/n=2)(hW:1<=W/\W<=4096)(hH:1<=H/\H<=4096)
 (hR:∀w',Ext w w'->R (.returned (.tuple #[aa (n:Nat),aa (n:Nat),aa (aJ W n:Nat),aa (aJ H n:Nat)])) w'):
  G_ P 19 #[.agg #[aa (W:Nat),aa (H:Nat),aa e,.slice p l.length c]] w R:=by
 refine zh _ _ _ _ _ _ _ _ ?_;intro k1 hk1;refine⟨fun vs u=>∃i:Nat,vs=[aa (ij ((l.take i).map (·.1))),aa (ij ((l.take i).map (·.2))),aa (i:Nat)]/\i<=l.length/\Ext w u,fun vs _=>match vs with|[_,_,.int _ i]=>(l.length-i:Int).toNat|_=>0,fun w1 hL=>⟨0,rfl,by omega,hL.ext (by simpa using hk1)⟩,fun n1 n2 n3 w2 hI=>?_⟩
 obtain⟨i,hv,hi,hE⟩:=hI;simp only[S_,T_,true_and,and_true]at hv;obtain⟨rfl,rfl,rfl⟩:=hv;refine ak (fun hlt=>?_) fun hge=>?_
 ·have hlt:i<l.length:=by have:=of_decide_eq_true hlt;omega
  obtain⟨a,rfl,c1,c2⟩:=(h.ext hE) i _ (f_ hlt);refine⟨fun vs u=>vs=[aa (ij ((l.take (i+1)).map (·.1))),aa (ij ((l.take (i+1)).map (·.2)))]/\u=w2,?_,fun n9 n10 w4 hI=>?_⟩
  ·rw[vR hlt,vR hlt,tH,tH]
   refine⟨fun vs u=>vs=[aa (max (ij ((l.take i).map (·.1))) l[i].1)]/\u=w2,?_,fun n6 w3 hI=>?_⟩
   ·refine bo (by omega) (by omega) rfl ?_
    rw[M_];refine⟨_,c1,ak (fun hg=>?_) fun hg=>?_⟩
    ·have hg:=of_decide_eq_true hg
     refine bo (by omega) (by omega) rfl ?_
     rw[M_];refine⟨_,c1,?_,rfl⟩;rw[show max (ij ((l.take i).map (·.1))) l[i].1=l[i].1 by omega]
    ·have hg:=of_decide_eq_false hg
     rw[show max (ij ((l.take i).map (·.1))) l[i].1=ij ((l.take i).map (·.1)) by omega]
     exact⟨rfl,rfl⟩
   ·obtain⟨hv,rfl⟩:=hI
    simp only[S_,T_,true_and,and_true]at hv;obtain rfl:=hv;refine bo (by omega) (by omega) rfl ?_
    rw[M_];refine⟨_,c2,ak (fun hg=>?_) fun hg=>?_⟩
    ·have hg:=of_decide_eq_true hg
     refine bo (by omega) (by omega) rfl ?_
     rw[M_];refine⟨_,c2,?_,rfl⟩;rw[show max (ij ((l.take i).map (·.2))) l[i].2=l[i].2 by omega]
    ·have hg:=of_decide_eq_false hg
     rw[show max (ij ((l.take i).map (·.2))) l[i].2=ij ((l.take i).map (·.2)) by omega]
     exact⟨rfl,rfl⟩
  ·obtain⟨hv,rfl⟩:=hI
   simp only[S_,T_,true_and,and_true]at hv;obtain⟨rfl,rfl⟩:=hv;rw[ai (x:=(i:Int)+1)];exact⟨⟨i+1,rfl,hlt,hE⟩,by show((l.length:Int)-((i:Int)+1)).toNat<((l.length:Int)-i).toNat;omega⟩
 ·have hge:i=l.length:=by have:=of_decide_eq_false hge;omega
  subst hge;rw[X_A,hm.1,hm.2];have e8:(8:Int)*((n:Nat):Int)=((8*n:Nat):Int):=by push_cast;rfl
  refine⟨by rw[e8,wN];omega,by rw[e8,wN];omega,?_⟩
  rw[pf hW hn,pf hH hn];exact hR _ (hE.trans (Ext.refl w2).drew)
def B0(sub:Nat):List (Int×Int):=(N_ (mU sub)).map fun i=>(((hU sub i:Nat):Int),((hU sub i:Nat):Int))
theorem Iz{sub:Nat}(h:sub<=2):ij ((B0 sub).map (·.1))=(nU sub:Nat)/\ij ((B0 sub).map (·.2))=(nU sub:Nat):=by
 have:sub=0\/sub=1\/sub=2:=by omega
 rcases this with rfl|rfl|rfl<;>decide
theorem Dk(sub:Nat):(B0 sub).length=mU sub:=by simp[B0]
theorem Oa{cb sub:Nat}{rest:List D_}(h:Cs w cb (fa sub 0 (mU sub)++rest)):HV w (some ⟨cb,0,none⟩) (B0 sub):=fun i x hx=>by
 have hlt:i<mU sub:=by
  rcases O_ i (B0 sub).length with h'|h'
  ·rwa[Dk]at h'
  ·rw[X_ h']at hx;cases hx
 have hx':x=(((hU sub i:Nat):Int),((hU sub i:Nat):Int)):=by
  unfold B0 at hx;rw[g_,k_ hlt]at hx;simpa using hx.symm
 subst hx';have hg:∀k,k<4->(fa sub 0 (mU sub)++rest)[i*4+k]?=(NO sub i)[k]?:=fun k hk=>by
  unfold fa;have hlen:(ax (NO sub) (List.range' 0 (mU sub-0))).length=mU sub*4:=by
   rw[bi (sz:=4) (fun _=>rfl)];simp
  rw[Q_ (by omega)]
  refine oE (sz:=4) (fun _=>rfl) ?_ hk;rw[List.getElem?_range' (by omega)];simp
 refine⟨_,rfl,?_,?_⟩
 ·rw[af,L_]
  exact h.cell (by have:=hg 0 (by omega);rwa[Y_]at this)
 ·rw[af,af,L_]
  exact h.cell (hg 1 (by omega))
theorem K5{sub:Nat}(h:k<W*H):(cu xs W H sub).getD k (0,0,0)=cU (decide (sub=0)) (iX xs k):=by
 unfold cu gp;rw[P_,Y_A,g_,k_ h];rfl
def CL(x1 x2 x3:Int)(sa1:aj)(sl1 sc1:Nat)(w:C_)(R:bV):Prop:=
 ∀k1,w.heap.size<=k1->∃I1:aw,(ae (decide (min x1 x2<1)||decide (max (max x1 x2) x3>65535)||decide (x3<0)) (∀w1,Locl [k1] w w1->R (.returned (.bool false)) w1) (ae ((sl1:Int)!=1) (ae ((sl1:Int)!=3) (∀w2,Locl [k1] w w2->R (.returned (.bool false)) w2) (∀w3,Locl [k1] w w3->I1 [] w3)) (∀w4,Locl [k1] w w4->I1 [] w4)))/\∀w5,(I1 [] w5)->∃(I2:aw) (m1:List D_->C_->Nat),(I2 [aa 0] w5)/\∀n1 w6,(I2 [aa n1] w6)->ae (decide (n1<(sl1:Int))) (aq (sa1) (sl1) (n1) (4) fun a1=>∃(n2 n3:Int) (p1:aj) (k2 k3:Nat) (p2:aj) (k4 k5:Nat),(w6.cell? a1=some (aa n2))/\(w6.cell? (a1.add 1)=some (aa n3))/\(w6.cell? (a1.add 2)=some (.slice p1 k2 k3))/\(w6.cell? (a1.add 3)=some (.slice p2 k4 k5))/\∀k6,w6.heap.size<=k6->∃I3:aw,(ae (decide (min n2 n3<1)||decide (max n2 n3>2)) (∀w7,Locl [k6,k1] w6 w7->R (.returned (.bool false)) w7) (ae ((sl1:Int)==1) (ae (decide (max n2 n3>1)) (∀w8,Locl [k6,k1] w6 w8->R (.returned (.bool false)) w8) (∀w9,Locl [k6,k1] w6 w9->I3 [] w9)) (∀w10,Locl [k6,k1] w6 w10->I3 [] w10)))/\∀w11,(I3 [] w11)->ae ((k2:Int)!=64) (R (.returned (.bool false)) w11) (G_ P 83 #[.slice p1 k2 k3] w11 fun e1 w12=>∃n4,(e1=.returned (aa n4))/\ao [k6,k1] w11 w12/\ae (decide (n4<1)) (R (.returned (.bool false)) w12) (G_ P 84 #[.slice p1 k2 k3] w12 fun e2 w13=>∃n5,(e2=.returned (aa n5))/\ao [k6,k1] w12 w13/\ae (decide (n5>255)) (R (.returned (.bool false)) w13) ((I2 [aa (A_.wrap (n1+1))] w13)/\m1 [aa (A_.wrap (n1+1))] w13<m1 [aa n1] w6)))) (G_ P 78 #[.agg #[aa x1,aa x2,aa x3,.slice sa1 sl1 sc1]] w6 fun e3 w14=>∃n6 n7 n8 n9,(e3=.returned (.agg #[aa n6,aa n7,aa n8,aa n9]))/\ao [k1] w6 w14/\∀k7,w14.heap.size<=k7->∃(I4:aw) (m2:List D_->C_->Nat),(∀w15,Locl [k7,k1] w14 w15->I4 [aa 0,aa 0] w15)/\∀n10 n11 w16,(I4 [aa n10,aa n11] w16)->ae (decide (n11<(sl1:Int))) (aq (sa1) (sl1) (n11) (4) fun a2=>∃(n12 n13:Int) (p3:aj) (k8 k9:Nat) (p4:aj) (k10 k11:Nat),(w16.cell? a2=some (aa n12))/\(w16.cell? (a2.add 1)=some (aa n13))/\(w16.cell? (a2.add 2)=some (.slice p3 k8 k9))/\(w16.cell? (a2.add 3)=some (.slice p4 k10 k11))/\∀k12,w16.heap.size<=k12->ae ((k10:Int)!=A_.wrap (A_.wrap (A_.wrap (n8*n12)*n9)*n13)) (∀w17,Locl [k12,k7,k1] w16 w17->R (.returned (.bool false)) w17) (∀w18,Locl [k12,k7,k1] w16 w18->G_ P 85 #[.slice p4 k10 k11,.func (Fn.func 86) #[] #[]] w18 fun e4 w19=>∃c1,(e4=.returned (.bool c1))/\ao [k12,k7,k1] w18 w19/\ae (c1) (R (.returned (.bool false)) w19) ((I4 [aa (A_.wrap (n10+(k10:Int))),aa (A_.wrap (n11+1))] w19)/\m2 [aa (A_.wrap (n10+(k10:Int))),aa (A_.wrap (n11+1))] w19<m2 [aa n10,aa n11] w16))) (R (.returned (.bool (decide (n10<=65536)))) w16))
theorem xM(x1 x2 x3:Int)(sa1:aj)(sl1 sc1:Nat)(w:C_)(R:bV)(h:CL x1 x2 x3 sa1 sl1 sc1 w R):G_ P 31 #[.agg #[aa x1,aa x2,aa x3,.slice sa1 sl1 sc1]] w R:=
  aF (ac:=B9) Tryz.func31 h
theorem Gs:∀{css:List (List D_)} {i k:Nat} {cs:List D_},(∀c,c∈css->c.length=4)->css[i]?=some cs->k<4->(ax id css)[i*4+k]?=cs[k]?
 |[],i,k,cs,_,h,_=>by simp at h
 |c::css,0,k,cs,h4,h,hk=>by
  obtain rfl:c=cs:=by simpa using h
  have hc:=h4 c (by simp)
  show(c++ax id css)[0*4+k]?=_;rw[Nat.zero_mul,L_,Q_ (by omega)]
 |c::css,i+1,k,cs,h4,h,hk=>by
  have hc:=h4 c (by simp)
  have h:css[i]?=some cs:=by simpa using h
  show(c++ax id css)[(i+1)*4+k]?=_;rw[W_ (by omega),hc,show(i+1)*4+k-4=i*4+k by omega]
  exact Gs (fun x hx=>h4 x (e_ _ hx)) h hk
theorem cP.four{css:List (List D_)}{l:List CM}(h:cP A w css l):∀c,c∈css->c.length=4:=fun c hc=>by
 obtain⟨i,hi⟩:=t_ hc;have hlt:=(List.getElem?_eq_some_iff.1 hi).1;have hl:l[i]?=some (l[i]'(by rw[<-h.1];exact hlt)):=f_ _
 obtain⟨cs,h1,h2⟩:=h.2 i _ hl;rw[hi]at h1;cases h1;exact h2.len
structure vL(w:C_)(a:E_)(c:CM)(qp:Option E_)(qc:Nat)(bp:Option E_)(bc:Nat)(vs:List D_):Prop where
 h:w.cell? a=some (aa c.h)
 v:w.cell? (a.add 1)=some (aa c.v)
 q:w.cell? (a.add 2)=some (.slice qp 64 qc)
 b:w.cell? (a.add 3)=some (.slice bp c.bl.length bc)
 ql:c.q.length=64
 qs:aD d7 w qp (ii c.q)
 bs:aD d7 w bp vs
 bl:gh d7 w vs c.bl
theorem mi.elem{l:List CM}{c:CM}{F:E_->Prop}(h:mi w p l)(hi:l[i]?=some c)(hn:n=l.length)(hF:∀a qp qc bp bc vs,vL w a c qp qc bp bc vs->F a):aq p n (i:Nat) 4 F:=by
 obtain⟨css,h1,h2⟩:=h;obtain⟨cs,g1,g2⟩:=h1.2 i c hi;obtain⟨qp,qc,bp,bc,vs,e,q1,q2,b1,b2,b3⟩:=g2;have hlt:=(List.getElem?_eq_some_iff.1 hi).1;have h4:=cP.four h1;have key:∀k v,k<4->cs[k]?=some v->∃a,p=some a/\w.cell? (a.add (i*4+k))=some v:=fun k v hk hv=>by
  obtain⟨a,e1,_,e2⟩:=h2 (i*4+k) v ((Gs h4 g1 hk).trans hv);exact⟨a,e1,e2⟩
 have k0:=key 0 (aa c.h) (by omega) (by rw[e];rfl)
 have k1:=key 1 (aa c.v) (by omega) (by rw[e];rfl)
 have k2:=key 2 (.slice qp 64 qc) (by omega) (by rw[e];rfl)
 have k3:=key 3 (.slice bp c.bl.length bc) (by omega) (by rw[e];rfl)
 obtain⟨a,rfl,k0⟩:=k0;obtain⟨a1,e1,k1⟩:=k1;obtain⟨a2,e2,k2⟩:=k2;obtain⟨a3,e3,k3⟩:=k3;cases e1;cases e2;cases e3;refine bo (by omega) (by omega) rfl ?_
 rw[M_];rw[Y_]at k0;rw[<-E_.add_add]at k1 k2 k3;exact hF _ qp qc bp bc vs ⟨k0,k1,k2,k3,q1,q2,b2,b3⟩
theorem vL.ext{a:E_}{c:CM}{qp bp:Option E_}{qc bc:Nat}(h:vL w a c qp qc bp bc vs)(hE:Ext w u):vL u a c qp qc bp bc vs:=
 ⟨hE.cell h.h,hE.cell h.v,hE.cell h.q,hE.cell h.b,h.ql,po hE _ _ h.qs,po hE _ _ h.bs,h.bl.kp (po hE)⟩
theorem vL.blk{a:E_}{c:CM}{qp bp:Option E_}{qc bc:Nat}(h:vL w a c qp qc bp bc vs){l:List Int}(hk:c.bl[k]?=some l){F:E_->Prop}(hF:∀b p cp,w.cell? b=some (.slice p 64 cp)->64<=cp->l.length=64->aD d7 w p (ii l)->F b):aq bp c.bl.length (k:Nat) 1 F:=by
 obtain⟨h1,p,cp,h2,h4,h3⟩:=h.bl.2 k l hk;exact h.bs.sl.get (by omega) h.bl.1 (by rw[M_];exact h2) fun b hb=>hF b p cp hb h4 h1 h3
theorem pu{c:Nat}{e:Int}{l:List CM}(h:mi w p l)(hl:l.length<=3)
 (hm:ij (l.map (·.h))=(n:Nat)/\ij (l.map (·.v))=(n:Nat))(hn:n=1\/n=2)(hW:1<=W/\W<=4096)(hH:1<=H/\H<=4096)
 (hR:∀w',Ext w w'->R (.returned (.agg #[aa (n:Nat),aa (n:Nat),aa (aJ W n:Nat),aa (aJ H n:Nat)])) w'):
  G_ P 78 #[.agg #[aa (W:Nat),aa (H:Nat),aa e,.slice p l.length c]] w R:=by
 refine tu _ _ _ _ _ _ _ _ ?_;intro k1 hk1 k2 hk2 k3 hk3;refine⟨fun vs u=>∃i:Nat,vs=[aa (i:Nat),aa (ij ((l.take i).map (·.h))),aa (ij ((l.take i).map (·.v))),aa 0,aa 0]/\i<=l.length/\Ext w u,fun vs _=>match vs with|[.int _ i,_,_,_,_]=>(l.length-i:Int).toNat|_=>0,fun w1 hL=>⟨0,rfl,by omega,hL.ext (by simp;omega)⟩,fun n1 n2 n3 n4 n5 w2 hI=>?_⟩
 obtain⟨i,hv,hi,hE⟩:=hI;simp only[S_,T_,true_and,and_true]at hv;obtain⟨rfl,rfl,rfl,rfl,rfl⟩:=hv;have hz:=hE.size;refine ak (fun hlt=>?_) fun hge=>?_
 ·have hlt:i<l.length:=by have:=of_decide_eq_true hlt;omega
  refine(h.ext hE).elem (f_ hlt) rfl fun a qp qc bp bc vs hC=>⟨_,_,_,_,_,_,_,_,hC.h,hC.v,hC.q,hC.b,?_⟩;intro k8 hk8 w3 hL3;have e1:(l.take (i+1)).map (·.h)=(l.take i).map (·.h)++[l[i].h]:=by rw[i7 hlt,j_];rfl
  have e2:(l.take (i+1)).map (·.v)=(l.take i).map (·.v)++[l[i].v]:=by rw[i7 hlt,j_];rfl
  refine⟨⟨i+1,?_,hlt,hE.step hL3.chg (by simp;omega)⟩,by rw[ai (x:=(i:Int)+1)];show((l.length:Int)-((i:Int)+1)).toNat<((l.length:Int)-i).toNat;omega⟩
  rw[e1,e2,tH,tH,ai (x:=(i:Int)+1)]
  rfl
 ·have hge:i=l.length:=by have:=of_decide_eq_false hge;omega
  subst hge;rw[X_A,hm.1,hm.2];have e8:(8:Int)*((n:Nat):Int)=((8*n:Nat):Int):=by push_cast;rfl
  refine⟨by rw[e8,wN];omega,by rw[e8,wN];omega,?_⟩
  intro w4 hL4;have zd:w2.drew.heap.size=w2.heap.size:=rfl;rw[pf hW hn,pf hH hn];exact hR _ ((hE.trans (Ext.refl w2).drew).step hL4.chg (by simp;omega))
theorem GH{sub:Nat}{q:Nat->List Int}{b:Nat->Nat->List Int}(h:sub<=2):ij ((iB W H sub q b).map (·.h))=(nU sub:Nat)/\ij ((iB W H sub q b).map (·.v))=(nU sub:Nat):=by
 have e:=Iz h;unfold B0 at e;unfold iB jN;simp only[Y_A]at e⊢;exact e
theorem DU{cp:Nat}{l:List Int}(h:aD d7 w p (ii l))(hl:l.length=64)(hc:64<=cp)(h0: -1024<=l.getD 0 0/\l.getD 0 0<=1023)(h1:∀j,1<=j-> -1023<=l.getD j 0/\l.getD j 0<=1023)
 (hR:R (.returned (.bool true)) w):G_ P 87 #[.slice p 64 cp] w R:=by
 refine qK _ _ _ _ _ ?_;refine al (by decide) ?_
 have hmem:∀x,x∈l->∃j,j<64/\x=l.getD j 0:=fun x hx=>by
  obtain⟨j,hj⟩:=t_ hx;have hlt:=(List.getElem?_eq_some_iff.1 hj).1;exact⟨j,by omega,by rw[P_,hj];rfl⟩
 refine h.sl.get (v:=aa (l.getD 0 0)) (by omega) (by rw[aG,hl]) (bz (by omega)) fun a ha=>⟨_,ha,al (decide_eq_false (by omega)) ?_⟩
 refine Bg h.sl hl.symm (by omega) (by omega) fun n hn=>⟨_,rfl,?_⟩
 have hn':n<=1023:=by
  obtain⟨j,hj,rfl⟩:=hmem n hn;rcases q_ j with g|g
  ·subst g;exact h0.2
  ·exact(h1 j g).2
 refine aY (decide_eq_true hn') ⟨by omega,by omega,by omega,?_⟩
 have hs:Sl w.heap.size w (aX p 1 cp 1) (ii (l.drop 1)):=h.sl.part (by rw[aG];omega) (by simp[ii,List.map_drop])
 refine Bi hs (by rw[R_A,hl];decide) (by decide) (by decide) fun m hm=>⟨_,rfl,?_⟩
 have hm':m>= -1023:=by
  obtain⟨j,hj⟩:=t_ hm;rw[Q_A]at hj;have:=(h1 (1+j) (by omega)).1
  rw[P_,hj]at this;exact this
 rw[decide_eq_true hm'];exact hR
end Go.Proofs.YtoomejkiagonpaaGreatDoor
