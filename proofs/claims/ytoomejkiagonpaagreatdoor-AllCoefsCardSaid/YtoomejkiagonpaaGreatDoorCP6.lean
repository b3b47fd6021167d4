/- Coefs: what a writer was given is read back. -/
import Derived.Test.YtoomejkiagonpaaGreatDoorCP4
import Derived.Test.YtoomejkiagonpaaGreatDoorCP5
set_option linter.unusedVariables false
set_option linter.unusedSimpArgs false
set_option maxRecDepth 100000
set_option maxHeartbeats 2000000
open Go.IntKind renaming i64->A_
open Go renaming World->B_,Value->C_,Addr->D_,IntKind->E_,Calls->F_
open Int renaming toNat_natCast->G_,mul_comm->V_,mul_nonneg->X_,mul_assoc->b_,mul_le_mul_of_nonneg_right->c_,zero_sub->d_,le_of_lt->g_,pow_pos->h_,ediv_nonneg->i_,eq_ofNat_of_zero_le->r_,pow_succ->s_,add_mul->w_,tmod_lt_of_pos->x_,lt_tmod_of_pos->y_,fdiv_eq_ediv_of_nonneg->B_A,mul_le_mul_of_nonneg_left->C_A,le_trans->D_A,natAbs_mul->K_A,mul_tdiv_add_tmod->M_A,ediv_lt_iff_lt_mul->O_A,add_assoc->P_A
open Go.Value renaming int->H_,oneCell'->E_A
open Nat renaming zero_add->I_,mul_one->K_,le_refl->Q_,lt_or_ge->U_,add_sub_cancel_left->f_,zero_le->k_,mul_le_mul->l_,le_trans->t_,pow_le_pow_right->G_A
open List renaming replicate->J_,range->N_,getElem?_eq_getElem->O_,getD_eq_getElem?_getD->P_,ext_getElem->S_,getElem_map->T_,getD->W_,map_congr_left->Y_,getElem?_map->Z_,drop_eq_nil_of_le->a_,take_of_length_le->e_,getElem_range->j_,getElem?_range->n_,map_map->o_,getElem_replicate->p_,getElem?_eq_none->q_,length_append->v_,prefix_refl->z_,length_replicate->A_A,getElem_set->F_A,append_nil->H_A,take_succ_eq_append_getElem->I_A,nil_prefix->J_A,getElem_mem->L_A,take_add_one->N_A,getElem?_append_left->Q_A
open List.cons renaming injEq->L_
open Go.Value.int renaming injEq->M_
open Go.Obj renaming cells->R_
open Bool renaming and_eq_true->m_,and_eq_false_iff->u_
namespace Go.Proofs.YtoomejkiagonpaaGreatDoor
open Go Go.Vc Go.RowKit Go.Qn
variable {w u w' : B_} {R : Ending -> B_ -> Prop} {n i b k N m j M : Nat} {vs fs zero : List C_} {p q : Option D_} {e : TypeId} {v : C_} {xs bs : List Int} {l av : List Nat} {Z D : Nat -> Prop} {x : Int} {F : Option D_ -> Nat -> Nat -> B_ -> Prop}
def cT(up:Bool):List (Nat×Nat)->List Int×Nat->List Int×Nat
 |[],s=>s
 |e::r,s=>cT up r (jQ up s.1 s.2 e.1 e.2 e.2,s.2+e.2)
theorem rA{up:Bool}{bs:List Int}{m:Nat}{v:Int}{n:Nat}(h:oo up bs m):∀k j,ce (jQ up bs m v n k) up j=if m<=j/\j<m+k then jB up v n (j-m)else ce bs up j
 |0,j=>by rw[if_neg (by omega)];rfl
 |k+1,j=>by
  rw[jQ,((mG h k).add (Ar up v n k)).2.1,rA h k];by_cases e:j=m+k
  ·subst e;rw[if_pos rfl,if_pos (by omega),f_]
  ·rw[if_neg e]
   by_cases h2:m<=j/\j<m+k
   ·rw[if_pos h2,if_pos (by omega)]
   ·rw[if_neg h2,if_neg (by omega)]
theorem Gk{v a b:Int}(v0:0<=v)(a0:0<=a)(b0:0<=b):v%(a*b)=v%a+a*(v/a%b):=by
 obtain⟨v,rfl⟩:=r_ v0;obtain⟨a,rfl⟩:=r_ a0;obtain⟨b,rfl⟩:=r_ b0;have:=Nat.mod_mul (x:=v) (a:=a) (b:=b)
 exact_mod_cast this
theorem HU{up:Bool}{v:Int}(v0:0<=v)(hb:∀j,j<n->ce bs up (m+j)=jB up v n j):ci bs up m n=v%2^n:=by
 cases up
 ·have key:∀k,k<=n->ci bs false m k=v%2^k:=by
   intro k
   induction k with
   |zero=>intro _;simp[ci]<;>omega
   |succ k ih=>
    intro hk;rw[ci,if_neg (by simp),ih (by omega),hb k (by omega)]
    unfold jB;rw[if_neg (by simp),s_,Gk v0 (g_ (h_ (by omega))) (by omega)]
    rw[V_]
  exact key n (Q_ _)
 ·have key:∀k,k<=n->ci bs true m k=v/2^(n-k)%2^k:=by
   intro k
   induction k with
   |zero=>intro _;simp[ci]<;>omega
   |succ k ih=>
    intro hk;rw[ci,if_pos rfl,ih (by omega),hb k (by omega)]
    unfold jB;rw[if_pos rfl,show n-1-k=n-(k+1) by omega]
    generalize hu:v/2^(n-(k+1))=u;have e:v/2^(n-k)=u/2:=by
     rw[<-hu,show n-k=(n-(k+1))+1 by omega,s_,Int.ediv_ediv_of_nonneg (g_ (h_ (by omega)))]
    have u0:0<=u:=hu▸i_ v0 (g_ (h_ (by omega)))
    rw[e,s_,V_ (2^k) 2,Gk u0 (by omega) (g_ (h_ (by omega)))]
    omega
  have:=key n (Q_ _);rwa[Nat.sub_self,Int.pow_zero,Int.ediv_one]at this
def cS(up:Bool)(W:List Int):Nat->List (Nat×Nat)->Prop
 |_,[]=>True
 |p,e::r=>p+e.2<=8*W.length/\ci W up p e.2=e.1/\cS up W (p+e.2) r
def OI(l:List (Nat×Nat)):Prop:=∀e∈l,e.1<2^e.2/\e.2<=16
theorem ny{up:Bool}:∀(l:List (Nat×Nat)) (s:List Int×Nat),oo up s.1 s.2->oo up (cT up l s).1 (cT up l s).2/\s.2<=(cT up l s).2/\∀j,j<s.2->ce (cT up l s).1 up j=ce s.1 up j
 |[],s,h=>⟨h,Q_ _,fun _ _=>rfl⟩
 |e::r,s,h=>by
  have h1:=mG (v:=e.1) (n:=e.2) h e.2;obtain⟨h2,h3,h4⟩:=ny r (jQ up s.1 s.2 e.1 e.2 e.2,s.2+e.2) h1;rw[cT];simp only at h3 h4;refine⟨h2,by omega,fun j hj=>?_⟩
  rw[h4 j (by omega),rA h,if_neg (by omega)]
theorem xf{up:Bool}:∀(l:List (Nat×Nat)) (s:List Int×Nat),oo up s.1 s.2->OI l->cS up (cT up l s).1 s.2 l
 |[],s,h,hf=>trivial
 |e::r,s,h,hf=>by
  have h1:=mG (v:=e.1) (n:=e.2) h e.2;obtain⟨h2,h3,h4⟩:=ny r (jQ up s.1 s.2 e.1 e.2 e.2,s.2+e.2) h1;have ih:=xf r (jQ up s.1 s.2 e.1 e.2 e.2,s.2+e.2) h1 (fun x hx=>hf x (by simp[hx]))
  have he:=hf e (by simp)
  rw[cT];simp only at h3 h4 ih;refine⟨t_ h3 h2.lo,?_,ih⟩;rw[HU (v:=e.1) (by omega) fun j hj=>by rw[h4 _ (by omega),rA h,if_pos (by omega),f_]]
  refine Int.emod_eq_of_lt (by omega) ?_
  have e2:((2:Int)^e.2)=((2^e.2:Nat):Int):=by simp
  rw[e2];omega
def El(bs:List Int)(k n:Nat):Except Int (Nat×Nat):=if k+n<=8*bs.length then .ok ((ci bs true k n).toNat,k+n)else .error 5
def sW(bs:List Int)(l:List Nat)(d e:Nat):Nat->Nat->Nat->Nat->Nat->Except Int (Nat×Nat)
 |0,_,_,_,_=>.error 32
 |f+1,n,v,x,k=>match El bs k 1 with
  |.error er=>.error er
  |.ok (b,k')=>
   if 2*x<=2*v+b/\2*v+b<2*x+(aP l (n+1)).length then .ok ((aP l (n+1)).getD (2*v+b-2*x) 0,k')
   else if n+1<d/\(2*v+b)*2^(d-(n+1))<e then sW bs l d e f (n+1) (2*v+b) (2*x+(aP l (n+1)).length) k'
   else .error 32
def tZ(bs:List Int)(l:List Nat)(k:Nat):Except Int (Nat×Nat):=sW bs l (aQ l) (bF l (aQ l)) (aQ l) 0 0 0 k
def ni(l:List Nat):List C_:=l.map fun n=>aa ((n:Nat):Int)
theorem fF(l:List Nat):(ni l).length=l.length:=by simp[ni]
theorem rt(a b:List Nat):ni (a++b)=ni a++ni b:=by simp[ni]
theorem LQ(l:List Nat):aN (ni l)=true:=by simp[aN,ni,E_A]
theorem qh(h:i<l.length):(ni l)[i]?=some (aa ((l.getD i 0:Nat):Int)):=by simp[ni,W_,h]
def aB(N:Nat)(G:Nat->C_):List C_:=(N_ N).map G
theorem bC(N:Nat)(G:Nat->C_):(aB N G).length=N:=by simp[aB]
theorem bL{G:Nat->C_}(h:i<N):(aB N G)[i]?=some (G i):=by simp[aB,h]
theorem cN{G H:Nat->C_}(h:∀i,i<N->G i=H i):aB N G=aB N H:=by
 unfold aB;exact Y_ fun i hi=>h i (by simpa using hi)
theorem dx{G H:Nat->C_}(hi:H i=v)(h:∀j,j<N->j≠i->H j=G j):(aB N G).set i v=aB N H:=by
 refine S_ (by simp[aB]) fun j h1 h2=>?_
 have hj:j<N:=by simpa[aB]using h2
 rw[F_A];simp only[aB,T_,j_];by_cases e:i=j
 ·subst e;rw[if_pos rfl,hi]
 ·rw[if_neg e,h j hj (fun e'=>e e'.symm)]
theorem bZ.grow{S:Nat->Prop}{w5:B_}{bs:List Nat}{l:List (Nat×Nat×List C_)}{base:Option D_}{len cap sz bytes:Nat}{elem:TypeId}
 (h:bZ S w base len cap sz vs)(hL:Locl bs w w5)(hb:∀b,b∈bs->w.heap.size<=b\/¬S b)(hS:∀i,w.heap.size<=i->S i)(hbl:∀b,b∈am l->b∈bs)(hz:zero.length=sz)(hn:fs.length=n*sz)
 (hby:(len+n)*bytes<=2^47)(h62:len+n<2^62)
 (hF:∀base' cap' w6,bZ (fun i=>S i/\i∉bs) w6 base' (len+n) cap' sz (vs++fs)->Chg (fun i=>S i\/i∈bs) w w6->F base' (len+n) cap' w6):
  ay w5 l base len cap n sz bytes elem zero fs F:=by
 have h1:bZ (fun i=>S i/\i∉bs) w base len cap sz vs:=bZ.mono h fun i hi hlt=>⟨hi,fun hm=>(hb i hm).elim (fun g=>by omega) fun g=>g hi⟩
 have h2:=bZ.chg h1 hL.chg fun b hb _ hm=>hb.2 hm;have hs:=hL.size;refine bZ.app h2 (fun b hb hs=>hs.2 (hbl b hb)) hz hn hby h62 fun base' cap' w6 ho hc=>hF base' cap' w6 (ho.mono fun i hi hlt=>?_) ?_
 ·rcases hi with hi|hi
  ·exact hi
  ·exact⟨hS i (by omega),fun hm=>by have:=hL.there i hm;omega⟩
 ·exact(hL.chg.mono fun i hi _=>.inr hi).trans hc fun i hi _=>.inl hi.1
def gf(l:List Nat):Nat->Int
 |0=>65536
 |i+1=>if 0<l.getD i 0 then gf l i-2^(16-l.getD i 0)else gf l i
def ur(l:List Nat):Int:=gf l l.length
theorem NA:∀n,n<17->(0:Int)<2^n/\(2:Int)^n<=65536:=by decide
theorem Bv(l:List Nat):∀i,gf l i<=65536/\65536-65536*(i:Int)<=gf l i
 |0=>by simp[gf]
 |i+1=>by
  have ih:=Bv l i;obtain⟨h1,h2⟩:=NA (16-l.getD i 0) (by omega)
  unfold gf
  split<;>omega
structure vr(l:List Nat):Prop where
 few:l.length<=4096
 low:∀x,x∈l->x<=16
theorem vr.at(h:vr l)(i:Nat):l.getD i 0<=16:=by
 rw[P_];cases e:l[i]? with
 |none=>simp
 |some x=>exact h.low x (List.mem_of_getElem? e)
theorem OA(h:n<=16):an .shl .i64 1 ((n:Nat):Int)=2^n:=by
 rw[la (by omega) (by show(n:Int)<=64;omega),Int.one_mul,G_]
 obtain⟨h1,h2⟩:=NA n (by omega)
 rw[ai (by omega) (by omega)]
theorem ER{len cap:Nat}(h:Sl N w p (ni l))(hl:l.length=len)(hk:vr l)
 (hR:R (.returned (.tuple #[aa (ur l),aa 0])) w):F_ P 122 #[.slice p len cap] w R:=by
 subst hl;have hf:=hk.few;refine zf _ _ _ _ _ ?_;refine al (decide_eq_false (by omega)) ?_
 refine⟨fun vs u=>u=w/\∃i:Nat,i<=l.length/\vs=[aa (gf l i),aa i],fun vs _=>match vs with|[_,.int _ i]=>(l.length-i).toNat|_=>0,⟨rfl,0,k_ _,rfl⟩,fun n1 n2 w1 hI=>?_⟩
 obtain⟨rfl,i,hi,hv⟩:=hI;simp only[L_,M_,true_and,and_true]at hv;obtain⟨rfl,rfl⟩:=hv;have hru:=Bv l i;refine ak (fun hlt=>?_) fun hge=>?_
 ·have hlt:i<l.length:=by simp at hlt;omega
  have hx:=hk.at i;have hru':=Bv l (i+1);refine⟨fun vs u=>u=w1/\vs=[aa (gf l (i+1))],?_,fun n4 w2 hI=>?_⟩
  ·refine h.get (by omega) (fF l) (by rw[G_];exact qh hlt) fun a ha=>⟨_,ha,?_⟩
   refine al (by rw[Bool.or_eq_false_iff];exact⟨decide_eq_false (by omega),decide_eq_false (by omega)⟩) ?_
   have e:A_.wrap (16-((l.getD i 0:Nat):Int))=((16-l.getD i 0:Nat):Int):=by rw[ai (by omega) (by omega)];omega
   refine ak (fun h0=>?_) fun h0=>?_
   ·have h0:0<l.getD i 0:=by have:=of_decide_eq_true h0;omega
    rw[e,OA (by omega)]
    have er:gf l (i+1)=gf l i-2^(16-l.getD i 0):=by rw[gf,if_pos h0]
    refine⟨by omega,rfl,?_⟩
    rw[<-er,ai (by omega) (by omega)]
   ·have h0:¬0<l.getD i 0:=by have:=of_decide_eq_false h0;omega
    exact⟨rfl,by rw[gf,if_neg h0]⟩
  ·obtain⟨rfl,hv⟩:=hI
   obtain rfl:n4=gf l (i+1):=by simpa using hv
   rw[ai (x:=(i:Int)+1)];exact⟨⟨rfl,i+1,hlt,by simp⟩,by show((l.length:Int)-((i:Int)+1)).toNat<((l.length:Int)-i).toNat;omega⟩
 ·have:i=l.length:=by simp at hge;omega
  subst this;exact hR
theorem xC{len cap:Nat}(h:Sl N w p (ni l))(hl:l.length=len)(hk:vr l)(h0:0<=ur l)
 (hR:R (.returned (aa 0)) w):F_ P 153 #[.slice p len cap] w R:=by
 refine tK _ _ _ _ _ ?_;exact ER h hl hk ⟨_,_,rfl,al (by rw[u_];exact .inr (decide_eq_false (by omega))) hR⟩
def FU(sa1:aj)(sl1 sc1:Nat)(w:B_)(R:bV):Prop:=
 F_ P 153 #[.slice sa1 sl1 sc1] w fun e1 w1=>∃n1,(e1=.returned (aa n1))/\ae (n1 !=0) (R (aM #[.pointer none,aa n1]) w1) (∀k1:Nat,∀w2,(aK w1 (R_ #[aa 0,aa 0,aa 0,aa 0,aa 0,aa 0,aa 0,aa 0,aa 0,aa 0,aa 0,aa 0,aa 0,aa 0,aa 0,aa 0,aa 0,aa 0,aa 0,aa 0,aa 0,aa 0,aa 0,aa 0,aa 0,aa 0,aa 0,aa 0,aa 0,aa 0,aa 0,aa 0,aa 0,aa 0,aa 0,aa 0,aa 0,aa 0,aa 0,aa 0,aa 0,aa 0,aa 0,aa 0,aa 0,aa 0,aa 0,aa 0,aa 0,aa 0,aa 0,.slice none 0 0,aa 0] 244) k1 w2)->∃(I1:aw) (m1:List C_->B_->Nat),(I1 [aa 0,aa 1] w2)/\∀n2 n3 w3,(I1 [aa n2,aa n3] w3)->ae (decide (n3<=16)) (∃p1:aj,∃k2 k3,(w3.drew.cell? {block:=k1,off:=51}=some (.slice p1 k2 k3))/\(0<=n3)/\(n3<17)/\aI w3.drew ({block:=k1,off:=0:D_}.add (n3.toNat*1)) [aa (an .shl .i64 n2 1)] fun u1=>(0<=n3)/\(n3<17)/\aI u1 ({block:=k1,off:=17:D_}.add (n3.toNat*1)) [aa (k2:Int)] fun u2=>∃(I2:aw) (m2:List C_->B_->Nat),(I2 [aa 0] u2)/\∀n4 w4,(I2 [aa n4] w4)->ae (decide (n4<(sl1:Int))) (∃I3:aw,(aq (sa1) (sl1) (n4) (1) fun a1=>∃n5,(w4.cell? a1=some (aa n5))/\ae (n5==n3) (∃p2:aj,∃k4 k5,(w4.cell? {block:=k1,off:=51}=some (.slice p2 k4 k5))/\∀k6,w4.heap.size<=k6->∀w5,Locl [k6] w4 w5->ay (w5) ([(55,k6,[aa n4])]) (p2) (k4) (k5) (1) (1) (8) (3) ([aa 0]) ([aa n4]) fun p3 k7 k8 w6=>aI w6 {block:=k1,off:=51} [.slice p3 k7 k8] fun u3=>(¬k1∈[k6])/\(0<=n3)/\(n3<17)/\∃n6,(u3.drew.cell? ({block:=k1,off:=34:D_}.add (n3.toNat*1))=some (aa n6))/\(0<=n3)/\(n3<17)/\aI u3.drew ({block:=k1,off:=34:D_}.add (n3.toNat*1)) [aa (A_.wrap (n6+1))] fun u4=>(¬({block:=k1,off:=34:D_}.add (n3.toNat*1)).block∈[k6])/\aI u4 {block:=k1,off:=52} [aa n3] fun u5=>(¬k1∈[k6])/\I3 [] u5) (I3 [] w4))/\∀w7,(I3 [] w7)->(I2 [aa (A_.wrap (n4+1))] w7)/\m2 [aa (A_.wrap (n4+1))] w7<m2 [aa n4] w4) ((0<=n3)/\(n3<17)/\∃n7,(w4.cell? ({block:=k1,off:=34:D_}.add (n3.toNat*1))=some (aa n7))/\(I1 [aa (A_.wrap (an .shl .i64 n2 1+n7)),aa (A_.wrap (n3+1))] w4)/\m1 [aa (A_.wrap (an .shl .i64 n2 1+n7)),aa (A_.wrap (n3+1))] w4<m1 [aa n2,aa n3] w3)) (R (aM #[.pointer (aH k1),aa 0]) w3))
theorem Av(sa1:aj)(sl1 sc1:Nat)(w:B_)(R:bV)(h:FU sa1 sl1 sc1 w R):F_ P 123 #[.slice sa1 sl1 sc1] w R:=
  aF (ac:=FX) Tryz.func123 h
def NF(l:List Nat)(n i:Nat):Nat:=if 1<=i/\i<=n then dB l i else 0
def Jj(l:List Nat)(n i:Nat):Nat:=if 1<=i/\i<=n then(aO l (i-1)).length else 0
def b7(l:List Nat)(n j i:Nat):Nat:=if 1<=i/\i<n then(aP l i).length else if i=n/\1<=n then(aW l n j).length else 0
def jJ(l:List Nat)(n j:Nat):Nat:=if n=0 then 0 else match aW l n j with|[]=>jD l (n-1)|_=>n
def dQ(l:List Nat)(n j:Nat)(p:Option D_)(len cap:Nat)(i:Nat):C_:=
 if i<17 then aa (NF l n i:Nat)else if i<34 then aa (Jj l n (i-17):Nat)else if i<51 then aa (b7 l n j (i-34):Nat)else if i=51 then .slice p len cap else aa (jJ l n j:Nat)
theorem tS(l:List Nat)(n:Nat):jJ l n l.length=jD l n:=by
 cases n with
 |zero=>rfl
 |succ n=>
  rw[jJ,if_neg (by omega),jD]
  unfold aP;cases aW l (n+1) l.length<;>rfl
theorem KC(l:List Nat)(n:Nat):jJ l (n+1) 0=jD l n:=by unfold jJ;rw[if_neg (by omega)];rfl
theorem J0(h:l.getD j 0≠n):jJ l n (j+1)=jJ l n j:=by unfold jJ;rw[cL h]
theorem L4(h:l.getD j 0=n):jJ l n (j+1)=n:=by
 unfold jJ;rw[dN h]
 split
 ·omega
 ·cases hs:aW l n j<;>rfl
theorem Ep(l:List Nat)(n i:Nat):b7 l (n+1) 0 i=b7 l n l.length i:=by
 unfold b7;by_cases h1:1<=i/\i<n
 ·rw[if_pos (by omega),if_pos h1]
 ·rw[if_neg h1]
  by_cases h2:i=n/\1<=n
  ·obtain⟨rfl,h3⟩:=h2
   rw[if_pos (by omega),if_pos ⟨rfl,h3⟩];rfl
  ·rw[if_neg h2,if_neg (by omega)]
   split<;>rfl
theorem Eg(h:l.getD j 0≠n)(i:Nat):b7 l n (j+1) i=b7 l n j i:=by unfold b7;rw[cL h]
theorem tX(h:l.getD j 0=n)(hn:1<=n)(i:Nat):b7 l n (j+1) i=b7 l n j i+if i=n then 1 else 0:=by
 unfold b7;rw[dN h];by_cases e:i=n
 ·subst e
  rw[if_neg (by omega),if_pos ⟨rfl,hn⟩,if_neg (by omega),if_pos ⟨rfl,hn⟩,if_pos rfl];simp
 ·rw[if_neg e]
  by_cases h1:1<=i/\i<n
  ·rw[if_pos h1,if_pos h1];rfl
  ·rw[if_neg h1,if_neg h1,if_neg (fun h2=>e h2.1),if_neg (fun h2=>e h2.1)]
theorem yE{len cap:Nat}(h:i<17):dQ l n j p len cap i=aa (NF l n i:Nat):=by unfold dQ;rw[if_pos h]
theorem yz{len cap:Nat}(h:i<17):dQ l n j p len cap (17+i)=aa (Jj l n i:Nat):=by
 unfold dQ;rw[if_neg (by omega),if_pos (by omega),f_]
theorem oI{len cap:Nat}(h:i<17):dQ l n j p len cap (34+i)=aa (b7 l n j i:Nat):=by
 unfold dQ;rw[if_neg (by omega),if_neg (by omega),if_pos (by omega),f_]
theorem yS{len cap:Nat}:dQ l n j p len cap 52=aa (jJ l n j:Nat):=rfl
theorem Ew(h:i<53):i<17\/(∃k,k<17/\i=17+k)\/(∃k,k<17/\i=34+k)\/i=51\/i=52:=by
 rcases U_ i 17 with g|g
 ·exact .inl g
 ·rcases U_ i 34 with g2|g2
  ·exact .inr (.inl ⟨i-17,by omega,by omega⟩)
  ·rcases U_ i 51 with g3|g3
   ·exact .inr (.inr (.inl ⟨i-34,by omega,by omega⟩))
   ·exact .inr (.inr (.inr (by omega)))
structure mV(w:B_)(kd:Nat)(D:Nat->Prop)(l:List Nat):Prop where
 obj:∃p cap,Cs w kd (aB 53 (dQ l 16 l.length p (aO l 16).length cap))/\bZ D w p (aO l 16).length cap 1 (ni (aO l 16))
 own:D kd
 lens:vr l
theorem mV.chg{kd:Nat}(h:mV w kd D l)(hc:Chg Z w w')(hz:∀b,D b->b<w.heap.size->¬Z b):mV w' kd D l:=by
 obtain⟨p,cap,h1,h2⟩:=h.obj;exact⟨⟨p,cap,h1.chg hc (hz kd h.own h1.lt),h2.chg hc hz⟩,h.own,h.lens⟩
theorem mV.mono{kd:Nat}{E:Nat->Prop}(h:mV w kd D l)(hE:∀b,D b->b<w.heap.size->E b):mV w kd E l:=by
 obtain⟨p,cap,h1,h2⟩:=h.obj;exact⟨⟨p,cap,h1,h2.mono hE⟩,hE kd h.own h1.lt,h.lens⟩
theorem NN(h0:0<=x)(h1:x<=2^40):an .shl .i64 x 1=2*x:=by
 rw[la (by omega) (by decide)]
 show A_.wrap (x*2^1)=2*x;rw[ai (by omega) (by omega)];omega
theorem uh(h:vr l)(hn:n<=17):bF l n<=2^30:=by
 have h1:=NR l n;have h2:=h.few;have h3:l.length*2^n<=4096*2^17:=l_ h2 (G_A (by omega) hn)
 omega
theorem Ns{len cap:Nat}(h:Sl N w p (ni l))(hl:l.length=len)(hk:vr l)(h0:0<=ur l)
 (hR:∀kd w',Ext w w'->mV w' kd (fun i=>w.heap.size<=i) l->R (.returned (.tuple #[.pointer (some ⟨kd,0,none⟩),aa 0])) w'):F_ P 123 #[.slice p len cap] w R:=by
 subst hl;have hfew:=hk.few;refine Av _ _ _ _ _ ?_;refine xC h rfl hk h0 ⟨_,rfl,al rfl fun k1 w2 hn2=>?_⟩;have hk1:k1=w.heap.size:=hn2.1;have hs2:=hn2.size;have hC2:Cs w2 k1 (aB 53 (dQ l 0 l.length none 0 0)):=hn2.cs;refine⟨fun vs u=>∃(n:Nat) (p:Option D_) (cap:Nat),n<=16/\vs=[aa (bF l n:Nat),aa (n+1:Nat)]/\Ext w u/\Cs u k1 (aB 53 (dQ l n l.length p (aO l n).length cap))/\
   bZ (fun i=>w.heap.size<=i/\i≠k1) u p (aO l n).length cap 1 (ni (aO l n)),fun vs _=>match vs with|[_,.int _ n]=>(17-n).toNat|_=>0,⟨0,none,0,by omega,rfl,hn2.ext,hC2,bZ.nil _ _ _ _⟩,fun n2 n3 w3 hI=>?_⟩
 obtain⟨n,q,qc,hn16,hv,hE3,hC3,hO3⟩:=hI;simp only[L_,M_,true_and,and_true]at hv;obtain⟨rfl,rfl⟩:=hv;have hs3:=hE3.size;have hk13:=hC3.lt;refine ak (fun hlt=>?_) fun hge=>?_
 rotate_left
 ·have:n=16:=by have:=of_decide_eq_false hge;omega
  subst this;exact hR k1 w3 hE3 ⟨⟨q,qc,hC3,hO3.mono fun i hi _=>hi.1⟩,by omega,hk⟩
 have hn:n<16:=by have:=of_decide_eq_true hlt;omega
 have hnx:=uh hk (n:=n) (by omega)
 have hnx1:=uh hk (n:=n+1) (by omega)
 have hshl:an .shl .i64 ((bF l n:Nat):Int) 1=((dB l (n+1):Nat):Int):=by
  rw[NN (by omega) (by omega)];simp[dB]
 rw[hshl];simp only[af,G_,K_,I_];have hd3:=hC3.drew;have g51:(aB 53 (dQ l n l.length q (aO l n).length qc))[51]?=some (.slice q (aO l n).length qc):=bL (by omega)
 have sA:Cs (ab w3.drew ⟨k1,n+1,none⟩ [aa (dB l (n+1):Nat)] 0) k1 (aB 53 fun i=>if i=n+1 then aa (dB l (n+1):Nat)else dQ l n l.length q (aO l n).length qc i):=by
  have:=hd3.set1 (off:=n+1) (v:=aa (dB l (n+1):Nat)) (by rw[bC];omega)
  rwa[dx (H:=fun i=>if i=n+1 then aa (dB l (n+1):Nat)else dQ l n l.length q (aO l n).length qc i) (by simp) (fun j _ hj=>by simp[hj])]at this
 have sB:Cs (ab (ab w3.drew ⟨k1,n+1,none⟩ [aa (dB l (n+1):Nat)] 0) ⟨k1,17+(n+1),none⟩ [aa ((aO l n).length:Nat)] 0) k1 (aB 53 (dQ l (n+1) 0 q (aO l n).length qc)):=by
  have:=sA.set1 (off:=17+(n+1)) (v:=aa ((aO l n).length:Nat)) (by rw[bC];omega)
  rwa[dx (H:=dQ l (n+1) 0 q (aO l n).length qc) (by rw[yz (by omega)];simp[Jj]) (fun j hj hne=>?_)]at this
  show dQ l (n+1) 0 q (aO l n).length qc j=if j=n+1 then aa (dB l (n+1):Nat)else dQ l n l.length q (aO l n).length qc j
  rcases Ew hj with g|⟨i,g,rfl⟩|⟨i,g,rfl⟩|rfl|rfl
  ·rw[yE g,yE g]
   unfold NF;by_cases e:j=n+1
   ·subst e;rw[if_pos (by omega),if_pos rfl]
   ·rw[if_neg e]
    by_cases e2:1<=j/\j<=n
    ·rw[if_pos (by omega),if_pos e2]
    ·rw[if_neg (by omega),if_neg e2]
  ·rw[if_neg (by omega),yz g,yz g]
   unfold Jj;by_cases e2:1<=i/\i<=n
   ·rw[if_pos (by omega),if_pos e2]
   ·rw[if_neg (by omega),if_neg e2]
  ·rw[if_neg (by omega),oI g,oI g,Ep]
  ·rw[if_neg (by omega)];rfl
  ·rw[if_neg (by omega),yS,yS,KC,tS]
 have cA:=Chg.setCells w3.drew ⟨k1,n+1,none⟩ [aa (dB l (n+1):Nat)] 0;have cB:=Chg.setCells (ab w3.drew ⟨k1,n+1,none⟩ [aa (dB l (n+1):Nat)] 0) ⟨k1,17+(n+1),none⟩ [aa ((aO l n).length:Nat)] 0;have cAB:=(Chg.refl (fun i=>i=k1) w3).drew.trans (cA.trans cB fun _ h _=>h) fun _ h _=>h;refine⟨_,_,_,hd3.cell g51,by omega,by omega,⟨_,hd3.cell (bL (by omega))⟩,hd3.frozen _,by omega,by omega,⟨_,sA.cell (bL (by omega))⟩,sA.frozen _,?_⟩
 refine⟨fun vs u=>∃(j:Nat) (p:Option D_) (cap:Nat),j<=l.length/\vs=[aa (j:Nat)]/\Ext w u/\Cs u k1 (aB 53 (dQ l (n+1) j p ((aO l n).length+(aW l (n+1) j).length) cap))/\
   bZ (fun i=>w.heap.size<=i/\i≠k1) u p ((aO l n).length+(aW l (n+1) j).length) cap 1 (ni (aO l n++aW l (n+1) j)),fun vs _=>match vs with|[.int _ n]=>(l.length-n).toNat|_=>0,⟨0,q,qc,by omega,rfl,hE3.step cAB (fun i hi=>by omega),sB,?_⟩,fun n4 w4 hI=>?_⟩
 ·rw[ip,H_A]
  exact hO3.chg cAB fun b hb _ hz=>hb.2 hz
 obtain⟨j,q4,qc4,hj,hv,hE4,hC4,hO4⟩:=hI;obtain rfl:n4=(j:Nat):=by simpa using hv
 have hs4:=hE4.size;have hk14:=hC4.lt;have htl:=mz l n;have hsl:=jo l (n+1) j;have htl2:n*l.length<=16*4096:=l_ (by omega) hfew
 refine ak (fun hlt=>?_) fun hge=>?_
 rotate_left
 ·have:j=l.length:=by have:=of_decide_eq_false hge;omega
  subst this;have ec:b7 l (n+1) l.length (n+1)=(aP l (n+1)).length:=by
   unfold b7;rw[if_neg (by omega),if_pos ⟨rfl,by omega⟩];rfl
  refine⟨by omega,by omega,_,hC4.cell (i:=34+(n+1)) (by rw[bL (by omega),oI (by omega),ec]),?_⟩
  have e1:A_.wrap (((dB l (n+1):Nat):Int)+((aP l (n+1)).length:Nat))=((bF l (n+1):Nat):Int):=by
   rw[F4]at hnx1⊢;rw[ai (by omega) (by omega)];omega
  rw[e1,ai (x:=((n+1:Nat):Int)+1)];refine⟨⟨n+1,q4,qc4,by omega,by simp,hE4,?_,?_⟩,?_⟩
  ·rw[aO,v_];exact hC4
  ·rw[aO,v_];exact hO4
  ·show((17:Int)-(((n+1:Nat):Int)+1)).toNat<((17:Int)-((n+1:Nat):Int)).toNat;omega
 have hj:j<l.length:=by have:=of_decide_eq_true hlt;omega
 refine⟨fun vs u=>vs=[]/\∃(p:Option D_) (cap:Nat),Ext w u/\Cs u k1 (aB 53 (dQ l (n+1) (j+1) p ((aO l n).length+(aW l (n+1) (j+1)).length) cap))/\
   bZ (fun i=>w.heap.size<=i/\i≠k1) u p ((aO l n).length+(aW l (n+1) (j+1)).length) cap 1 (ni (aO l n++aW l (n+1) (j+1))),?_,fun w7 hI=>?_⟩
 rotate_left
 ·obtain⟨_,p7,c7,hE7,hC7,hO7⟩:=hI
  rw[ai (x:=((j:Nat):Int)+1)];exact⟨⟨j+1,p7,c7,hj,by simp,hE7,hC7,hO7⟩,by show((l.length:Int)-((j:Int)+1)).toNat<((l.length:Int)-j).toNat;omega⟩
 refine(h.ext hE4).get (by omega) (fF l) (by rw[G_];exact qh hj) fun a1 ha1=>⟨_,ha1,?_⟩
 refine ak (fun heq=>?_) fun hne=>?_
 rotate_left
 ·have hne:l.getD j 0≠n+1:=fun e=>by rw[e]at hne;simp at hne
  refine⟨rfl,q4,qc4,hE4,?_,?_⟩
  ·rw[cL hne]
   rwa[cN (H:=dQ l (n+1) j q4 ((aO l n).length+(aW l (n+1) j).length) qc4)];intro i hi;unfold dQ;rw[Eg hne,J0 hne]
  ·rw[cL hne];exact hO4
 have heq:l.getD j 0=n+1:=by have:=eq_of_beq heq;omega
 refine⟨_,_,_,hC4.cell (bL (i:=51) (by omega)),fun k6 hk6 w5 hL5=>?_⟩
 refine bZ.grow hO4 hL5 (by simp;omega) (fun i hi=>⟨by omega,by omega⟩) (by simp[am]) rfl rfl (by omega) (by omega) fun p6 c6 w6 hO6 hc6=>?_
 have hk6':k1≠k6:=by omega
 have hC6:Cs w6 k1 (aB 53 (dQ l (n+1) j q4 ((aO l n).length+(aW l (n+1) j).length) qc4)):=hC4.chg hc6 (by simp;omega)
 have hE6:Ext w w6:=hE4.step hc6 fun i hi=>by
  rcases hi with hi|hi
  ·exact hi.1
  ·simp at hi;omega
 have hlen:(aO l n).length+(aW l (n+1) j).length+1=(aO l n).length+(aW l (n+1) (j+1)).length:=by rw[dN heq];simp;omega
 rw[hlen]at hO6⊢;generalize hT:(aO l n).length+(aW l (n+1) (j+1)).length=T at*;have hct:b7 l (n+1) j (n+1)+1=b7 l (n+1) (j+1) (n+1):=by rw[tX heq (by omega),if_pos rfl]
 have hcs:b7 l (n+1) j (n+1)<=4096:=by unfold b7;rw[if_neg (by omega),if_pos ⟨rfl,by omega⟩];omega
 have t1:=hC6.set1 (off:=51) (v:=.slice p6 T c6) (by rw[bC];omega)
 rw[dx (H:=fun i=>if i=51 then .slice p6 T c6 else dQ l (n+1) j q4 ((aO l n).length+(aW l (n+1) j).length) qc4 i) (by simp) (fun i _ hi=>by simp[hi])]at t1
 have t1c:(aB 53 fun i=>if i=51 then .slice p6 T c6 else dQ l (n+1) j q4 ((aO l n).length+(aW l (n+1) j).length) qc4 i)[34+(n+1)]?=some (aa (b7 l (n+1) j (n+1):Nat)):=by
  rw[bL (by omega),if_neg (by omega),oI (by omega)]
 have t2:=t1.drew.set1 (off:=34+(n+1)) (v:=aa (b7 l (n+1) (j+1) (n+1):Nat)) (by rw[bC];omega)
 rw[dx (H:=fun i=>if i=52 then aa (jJ l (n+1) j:Nat)else dQ l (n+1) (j+1) p6 T c6 i) (by rw[if_neg (by omega),oI (by omega)]) (fun i hi hne=>?_)]at t2
 rotate_left
 ·show(if i=52 then aa (jJ l (n+1) j:Nat)else dQ l (n+1) (j+1) p6 T c6 i)=if i=51 then .slice p6 T c6 else dQ l (n+1) j q4 ((aO l n).length+(aW l (n+1) j).length) qc4 i
  rcases Ew hi with g|⟨i',g,rfl⟩|⟨i',g,rfl⟩|rfl|rfl
  ·rw[if_neg (by omega),if_neg (by omega),yE g,yE g]
  ·rw[if_neg (by omega),if_neg (by omega),yz g,yz g]
  ·rw[if_neg (by omega),if_neg (by omega),oI g,oI g,tX heq (by omega),if_neg (by omega)];rfl
  ·rw[if_neg (by omega),if_pos rfl];rfl
  ·rw[if_pos rfl,if_neg (by omega),yS]
 have t3:=t2.set1 (off:=52) (v:=aa (n+1:Nat)) (by rw[bC];omega)
 rw[dx (H:=dQ l (n+1) (j+1) p6 T c6) (by rw[yS,L4 heq]) (fun i hi hne=>by simp[hne])]at t3
 have u1:=Chg.setCells w6 ⟨k1,51,none⟩ [.slice p6 T c6] 0;have u2:=Chg.setCells (ab w6 ⟨k1,51,none⟩ [.slice p6 T c6] 0).drew ⟨k1,34+(n+1),none⟩ [aa (b7 l (n+1) (j+1) (n+1):Nat)] 0;have u3:=Chg.setCells (ab (ab w6 ⟨k1,51,none⟩ [.slice p6 T c6] 0).drew ⟨k1,34+(n+1),none⟩ [aa (b7 l (n+1) (j+1) (n+1):Nat)] 0) ⟨k1,52,none⟩ [aa (n+1:Nat)] 0;have u:Chg (·=k1) w6 _:=u1.trans (((Chg.refl (·=k1) _).drew.trans u2 fun _ h _=>h).trans u3 fun _ h _=>h) fun _ h _=>h;have ew:A_.wrap (((b7 l (n+1) j (n+1):Nat):Int)+1)=((b7 l (n+1) (j+1) (n+1):Nat):Int):=by rw[ai (by omega) (by omega)];omega
 refine⟨⟨_,hC6.cell (bL (i:=51) (by omega))⟩,hC6.frozen _,by simp;omega,by omega,by omega,_,t1.drew.cell t1c,by omega,by omega,⟨_,t1.drew.cell t1c⟩,t1.drew.frozen _,by simp;omega,?_⟩
 rw[ew];refine⟨⟨_,t2.cell (bL (i:=52) (by omega))⟩,t2.frozen _,by simp;omega,rfl,p6,c6,hE6.step u (fun i hi=>by omega),t3,?_⟩
 refine bZ.chg (bZ.mono (T:=fun i=>w.heap.size<=i/\i≠k1) ?_ fun i hi _=>hi) u fun b hb _ hz=>hb.2 hz;have e2:ni (aO l n++aW l (n+1) (j+1))=ni (aO l n++aW l (n+1) j)++[aa (j:Nat)]:=by rw[dN heq,<-List.append_assoc,rt (aO l n++_)];rfl
 rw[e2];exact hO6.mono fun i hi _=>hi.1
theorem OR(h1:1<=i)(h2:i<=16):b7 l 16 l.length i=(aP l i).length:=by
 unfold b7;by_cases e:i<16
 ·rw[if_pos ⟨h1,e⟩]
 ·obtain rfl:i=16:=by omega
  rw[if_neg (by omega),if_pos ⟨rfl,by omega⟩];rfl
theorem Pl(h1:1<=i)(h2:i<=16):NF l 16 i=dB l i:=if_pos ⟨h1,h2⟩
theorem Pz(h2:i+1<=16):Jj l 16 (i+1)=(aO l i).length:=by
 unfold Jj;rw[if_pos (by omega)];rfl
theorem OQ(h:aQ l≠0):1<=bF l (aQ l):=by
 have h1:=Ej l 16 h;obtain⟨d,hd⟩:∃d,aQ l=d+1:=⟨aQ l-1,by omega⟩
 have h2:aP l (aQ l)≠[]:=h1;rw[hd]at h2⊢;have:0<(aP l (d+1)).length:=List.length_pos_iff.2 h2;rw[bF];omega
theorem K3{X:Nat}(h:X<=2^60):A_.wrap ((X:Int)+1)=((X+1:Nat):Int):=by rw[ai (by omega) (by omega)];omega
theorem KQ{kd:Nat}(hd:mV w kd D l)(h0:aQ l≠0)(hn:n<=16)
 (hR:∀v:Nat,(∀t:Nat,v<=t↔¬(n<aQ l/\t*2^(aQ l-n)<bF l (aQ l)))->R (.returned (aa (v:Nat))) w.drew):F_ P 195 #[.pointer (some ⟨kd,0,none⟩),aa (n:Nat)] w R:=by
 refine nQ _ _ _ _ ?_;obtain⟨p,cap,hC,hO⟩:=hd.obj;have hd16:aQ l<=16:=Bb l 16;have hC:=hC.drew;have c52:(aB 53 (dQ l 16 l.length p (aO l 16).length cap))[52]?=some (aa (aQ l:Nat)):=by rw[bL (by omega),yS,tS];rfl
 have cf:(aB 53 (dQ l 16 l.length p (aO l 16).length cap))[aQ l]?=some (aa (dB l (aQ l):Nat)):=by rw[bL (by omega),yE (by omega),Pl (by omega) hd16]
 have cc:(aB 53 (dQ l 16 l.length p (aO l 16).length cap))[34+aQ l]?=some (aa ((aP l (aQ l)).length:Nat)):=by rw[bL (by omega),oI (by omega),OR (by omega) hd16]
 have hnx:=uh hd.lens (n:=aQ l) (by omega)
 have hnp:=OQ h0;have hsum:dB l (aQ l)+(aP l (aQ l)).length=bF l (aQ l):=by
  obtain⟨d,e⟩:∃d,aQ l=d+1:=⟨aQ l-1,by omega⟩
  rw[e];exact(F4 l d).symm
 refine ap rfl ⟨_,hC.cell (i:=52) c52,ap rfl ⟨by omega,by omega,?_⟩⟩
 simp only[af,G_,K_,I_];refine⟨_,hC.cell cf,ap rfl ⟨_,hC.cell (i:=52) c52,ap rfl ⟨by omega,by omega,?_⟩⟩⟩
 simp only[af,G_,K_,I_];refine⟨_,hC.cell cc,ap rfl ⟨_,hC.cell (i:=52) c52,?_⟩⟩;refine ak (fun hge=>?_) fun hlt=>?_
 ·have hge:aQ l<=n:=by have:=of_decide_eq_true hge;omega
  exact hR 0 fun t=>⟨fun _ h=>by omega,fun _=>k_ _⟩
 ·have hlt:n<aQ l:=by have:=of_decide_eq_false hlt;omega
  refine ap rfl ⟨_,hC.cell (i:=52) c52,?_⟩;have e1:A_.wrap (((aQ l:Nat):Int)-(n:Nat))=((aQ l-n:Nat):Int):=by rw[ai (by omega) (by omega)];omega
  have e2:A_.wrap (A_.wrap (((dB l (aQ l):Nat):Int)+((aP l (aQ l)).length:Nat))-1)=((bF l (aQ l)-1:Nat):Int):=by
   rw[ai (x:=((dB l (aQ l):Nat):Int)+_),ai (by omega) (by omega)];omega
  have e3:an .shr .i64 ((bF l (aQ l)-1:Nat):Int) ((aQ l-n:Nat):Int)=(((bF l (aQ l)-1)/2^(aQ l-n):Nat):Int):=by
   rw[gm (by omega) (by omega) (by show((aQ l-n:Nat):Int)<=64;omega),G_]
   push_cast;rfl
  have hdv:(bF l (aQ l)-1)/2^(aQ l-n)<=bF l (aQ l)-1:=Nat.div_le_self _ _;rw[e1,e2,e3,K3 (t_ hdv (by omega))]
  refine⟨by omega,?_⟩
  have hp:0<2^(aQ l-n):=Nat.pow_pos (by omega)
  refine hR ((bF l (aQ l)-1)/2^(aQ l-n)+1) fun t=>?_;have h1:=Nat.div_lt_iff_lt_mul hp (x:=bF l (aQ l)-1) (y:=t);constructor
  ·intro h h2
   have:=h1.1 (by omega)
   omega
  ·intro h
   have:¬t*2^(aQ l-n)<bF l (aQ l):=fun g=>h ⟨hlt,g⟩;have:=h1.2 (by omega)
   omega
theorem O1{v:Nat}(hv:v<2^40)(hb:b<2):A_.wrap (aR .or .i64 (an .shl .i64 ((v:Nat):Int) 1) (A_.wrap ((b:Nat):Int)))=((2*v+b:Nat):Int):=by
 rw[NN (by omega) (by omega),ai (x:=((b:Nat):Int))]
 have:=mT (k:=.i64) (i:=1) (a:=((v:Nat):Int)) (b:=((b:Nat):Int)) (by omega) (by show(2:Int)^1*v+b<2^64;omega) (by omega) (by omega)
 rw[show(2:Int)*((v:Nat):Int)=2^1*((v:Nat):Int) by omega,this,ai (by omega) (by omega)]
 omega
theorem PB(h:k+1<=8*bs.length):El bs k 1=.ok ((ci bs true k 1).toNat,k+1)/\(ci bs true k 1).toNat<2/\((ci bs true k 1).toNat:Int)=ci bs true k 1:=by
 have:=ke bs true k 1;exact⟨if_pos h,by omega,by omega⟩
theorem K8{kd rb:Nat}{S:Nat->Prop}(hd:mV w kd D l)(hr:dZ w q rb S bs k true)(hD:∀b,D b->b≠rb)
 (hok:∀s k' w',tZ bs l k=.ok (s,k')->Chg (·=rb) w w'->dZ w' q rb S bs (k':Nat) true->R (.returned (.tuple #[aa (s:Nat),aa 0])) w')
 (herr:∀e w',tZ bs l k=.error e->Chg (·=rb) w w'->R (.returned (.tuple #[aa 0,aa e])) w'):F_ P 174 #[.pointer (some ⟨kd,0,none⟩),.pointer q] w R:=by
 refine oD _ _ _ _ ?_;have hptr:=hr.ptr;have hd16:aQ l<=16:=Bb l 16;refine al (by rw[hptr];rfl) ?_
 have hroom:=hr.room;refine⟨fun vs u=>tZ bs l k=.error 32/\Chg (·=rb) w u,?_,fun w4 hI=>herr 32 w4 hI.1 hI.2⟩;refine⟨fun vs u=>∃n v K,vs=[aa (v:Nat),aa (n+1:Nat)]/\n<=16/\v<2^n/\bF l n<=v/\tZ bs l k=sW bs l (aQ l) (bF l (aQ l)) (aQ l-n) n v (bF l n) K/\Chg (·=rb) w u/\dZ u q rb S bs (K:Nat) true,
  fun vs _=>match vs with|[_,.int _ n]=>(17-n).toNat|_=>0,⟨0,0,k,rfl,by omega,by omega,k_ _,rfl,Chg.refl _ _,hr⟩,fun n1 n2 w1 hI=>?_⟩
 obtain⟨n,v,K,hv,hn,hv2,hnv,hM,hc1,hr1⟩:=hI;simp only[L_,M_,true_and,and_true]at hv;obtain⟨rfl,rfl⟩:=hv;have hd1:=hd.chg hc1 fun b hb _ e=>hD b hb e;obtain⟨p,cap,hC,hO⟩:=hd1.obj;have c52:(aB 53 (dQ l 16 l.length p (aO l 16).length cap))[52]?=some (aa (aQ l:Nat)):=by rw[bL (by omega),yS,tS];rfl
 refine ap rfl ⟨_,hC.cell (i:=52) c52,ak (fun hle=>?_) fun hgt=>?_⟩
 rotate_left
 ·have hgt:aQ l<=n:=by have:=of_decide_eq_false hgt;omega
  rw[show aQ l-n=0 by omega]at hM
  exact⟨hM,hc1⟩
 have hle:n<aQ l:=by have:=of_decide_eq_true hle;omega
 have h0:aQ l≠0:=by omega
 obtain⟨f,hf⟩:∃f,aQ l-n=f+1:=⟨aQ l-n-1,by omega⟩
 rw[hf,sW]at hM;have hpow:2^n<=2^16:=G_A (by omega) hn
 refine ES hr1 (fun h=>by omega) (fun _ _ hgt=>?_) fun _ _ hle2 w2 hc2 hr2=>?_
 ·have:El bs K 1=.error 5:=if_neg (by omega)
  rw[this]at hM;exact⟨_,_,rfl,aY rfl (herr 5 _ hM hc1.drew)⟩
 obtain⟨e1,e2,e3⟩:=PB (bs:=bs) (k:=K) (by omega)
 rw[e1]at hM;simp only at hM;rw[show((K:Int)).toNat=K from G_ K,show(1:Int).toNat=1 from rfl,<-e3]
 generalize(ci bs true K 1).toNat=b at*;have hc12:Chg (·=rb) w w2:=hc1.trans hc2 fun _ h _=>h;have hd2:=hd.chg hc12 fun b hb _ e=>hD b hb e;obtain⟨p2,cap2,hC2,hO2⟩:=hd2.obj;refine⟨_,_,rfl,al rfl (ap rfl ⟨by omega,by omega,?_⟩)⟩
 simp only[af,G_,K_,I_];refine⟨_,hC2.cell (i:=n+1) (by rw[bL (by omega),yE (by omega),Pl (by omega) (by omega)]),ap rfl ⟨by omega,by omega,?_⟩⟩
 simp only[af,G_,K_,I_];refine⟨_,hC2.cell (i:=34+(n+1)) (by rw[bL (by omega),oI (by omega),OR (by omega) (by omega)]),?_⟩
 have hfs:dB l (n+1)=2*bF l n:=rfl;have hnx:=uh hd.lens (n:=n+1) (by omega)
 rw[F4]at hnx;rw[O1 (by omega) e2,ai (x:=((2*v+b:Nat):Int)-_)]
 refine ak (fun hin=>?_) fun hout=>?_
 ·have hin:2*bF l n<=2*v+b/\2*v+b<2*bF l n+(aP l (n+1)).length:=by
   simp only[m_,decide_eq_true_eq]at hin;omega
  rw[if_pos hin]at hM;have hlt:2*v+b-2*bF l n<(aP l (n+1)).length:=by omega
  have hget:=AD (l:=l) hlt 16 (by omega)
  have hget2:(aO l 16)[(aO l n).length+(2*v+b-2*bF l n)]?=some ((aP l (n+1)).getD (2*v+b-2*bF l n) 0):=by
   rw[hget,P_,O_ hlt];rfl
  have htl:=mz l n;have htl2:n*l.length<=16*4096:=l_ (by omega) hd.lens.few
  refine ap rfl ⟨_,_,_,hC2.drew.cell (i:=51) (bL (by omega)),ap rfl ⟨by omega,by omega,?_⟩⟩
  simp only[af,G_,K_,I_];refine⟨_,hC2.drew.cell (i:=17+(n+1)) (by rw[bL (by omega),yz (by omega),Pz (by omega)]),?_⟩
  rw[ai (x:=(((aO l n).length:Nat):Int)+_)];refine(hO2.sl.drew).get (by omega) (fF _) (v:=aa ((aP l (n+1)).getD (2*v+b-2*bF l n) 0:Nat)) ?_ fun a ha=>⟨_,ha,hok _ _ _ hM hc12.drew (hr2.ext (Ext.refl w2).drew)⟩
  rw[show((((aO l n).length:Nat):Int)+(((2*v+b:Nat):Int)-((dB l (n+1):Nat):Int))).toNat=(aO l n).length+(2*v+b-2*bF l n) by omega]
  simp only[ni,Z_,hget2];rfl
 ·have hout:¬(2*bF l n<=2*v+b/\2*v+b<2*bF l n+(aP l (n+1)).length):=fun g=>by
   have:(decide (((2*v+b:Nat):Int)-((dB l (n+1):Nat):Int)<((aP l (n+1)).length:Nat))&&decide (((2*v+b:Nat):Int)-((dB l (n+1):Nat):Int)>=0))=true:=by
    simp only[m_,decide_eq_true_eq];omega
   rw[this]at hout;cases hout
  rw[if_neg hout]at hM;have hge:bF l (n+1)<=2*v+b:=by rw[bF];omega
  refine KQ hd2 h0 (n:=n+1) (by omega) fun t ht=>⟨_,rfl,ak (fun h1=>?_) fun h1=>?_⟩
  ·have h1:t<=2*v+b:=by have:=of_decide_eq_true h1;omega
   rw[if_neg ((ht _).1 h1)]at hM;exact⟨hM,hc12.drew⟩
  ·have h1:¬t<=2*v+b:=by have:=of_decide_eq_false h1;omega
   have h2:n+1<aQ l/\(2*v+b)*2^(aQ l-(n+1))<bF l (aQ l):=Classical.byContradiction fun h2=>h1 ((ht _).2 h2);rw[if_pos h2]at hM;rw[ai (x:=((n+1:Nat):Int)+1)];refine⟨⟨n+1,2*v+b,K+1,by simp,by omega,by rw[Nat.pow_succ];omega,hge,?_,hc12.drew,?_⟩,by show((17:Int)-(((n+1:Nat):Int)+1)).toNat<((17:Int)-((n+1:Nat):Int)).toNat;omega⟩
   ·rw[hM,show aQ l-(n+1)=f by omega];rfl
   ·have:=hr2.ext (Ext.refl w2).drew
    push_cast;exact this
def be(xs:List Int):List Int:=xs.flatMap fun x=>if x=255 then[255,0]else[x]
theorem Ig(h:i<xs.length):be (xs.take (i+1))=be (xs.take i)++if xs.getD i 0=255 then[255,0]else[xs.getD i 0]:=by
 unfold be;rw[I_A h,List.flatMap_append,show xs.getD i 0=xs[i] by simp[W_,h]]
 simp only[List.flatMap_cons,List.flatMap_nil,H_A]
theorem iC(xs:List Int):(be xs).length<=2*xs.length:=by
 induction xs with
 |nil=>simp[be]
 |cons x xs ih=>
  have e:be (x::xs)=(if x=255 then[255,0]else[x])++be xs:=by simp[be]
  rw[e,v_]
  split<;>simp only[List.length_cons,List.length_nil]<;>omega
theorem JL{base:Option D_}{len cap:Nat}(h:Sl N w base (bytes xs))(hl:len=xs.length)(hsz:len<=2^45)
 (hR:∀p c w',Fg [] w w' 1 p (be xs).length c (bytes (be xs))->R (.returned (.slice p (be xs).length c)) w'):
  F_ P 41 #[.slice base len cap] w R:=by
 refine Bh _ _ _ _ _ ?_;refine⟨by omega,by omega,by omega,by omega,fun k1 w1 hn=>?_⟩
 have hf0:Fg [] w w1 1 (some ⟨k1,0,none⟩) 0 len []:=Fg.of_ow (M:=w1.heap.size) (Ext.refl w) hn.ext (hn.own (J_A) rfl (by rw[eO];rfl) (by omega) (Q_ _) (Q_ _)) (Q_ _)
 refine⟨fun l w'=>match l with|[.slice p l' c,.int _ i]=>0<=i/\i<=len/\l'=(be (xs.take i.toNat)).length/\Fg [] w w' 1 p l' c (bytes (be (xs.take i.toNat)))|_=>False,
  fun l _=>match l with|[.slice p l' c,.int _ i]=>(len-i).toNat|_=>0,⟨by omega,by omega,rfl,hf0⟩,fun p1 l1 c1 i w2 hI=>?_⟩
 obtain⟨i0,i1,rfl,hf⟩:=hI;refine ak (fun hlt=>?_) (fun hge=>?_)
 ·have hlt:i<len:=by simpa using hlt
  have hst:=Ig (xs:=xs) (i:=i.toNat) (by omega)
  have hlen:=iC (xs.take i.toNat);simp only[List.length_take]at hlen;refine⟨fun l w'=>match l with|[.slice p l' c]=>l'=(be (xs.take (i.toNat+1))).length/\Fg [] w w' 1 p l' c (bytes (be (xs.take (i.toNat+1))))|_=>False,?_,fun p4 l4 c4 w7 hI=>?_⟩
  ·refine(h.ext hf.ext).get i0 (by rw[ar];omega) (fh (by omega)) fun a1 hc1=>⟨_,hc1,fun k4 hk4 w3 hL3=>?_⟩
   refine hf.app hL3 (by simp;omega) (by simp[am]) rfl rfl (by omega) (by omega) fun p2 c2 w4 hf2=>?_
   refine ak (fun he k7 hk7 w5 hL5=>?_) (fun hne=>?_)
   ·have he:xs.getD i.toNat 0=255:=by simpa using he
    refine hf2.app hL5 (by simp;omega) (by simp[am]) rfl rfl (by omega) (by omega) fun p3 c3 w6 hf3=>?_
    rw[hst,if_pos he,bY];refine⟨by simp,?_⟩
    rw[he]at hf3;simpa[bytes]using hf3.weak
   ·have hne:¬xs.getD i.toNat 0=255:=by simpa using hne
    rw[hst,if_neg hne,bY];exact⟨by simp,by simpa[bytes]using hf2.weak⟩
  ·obtain⟨rfl,hf4⟩:=hI
   rw[ai (x:=i+1)];refine⟨⟨by omega,by omega,by rw[show(i+1).toNat=i.toNat+1 by omega],by rw[show(i+1).toNat=i.toNat+1 by omega];exact hf4⟩,?_⟩
   show(len-(i+1)).toNat<(len-i).toNat;omega
 ·have hge:i.toNat=xs.length:=by simp at hge;omega
  rw[hge,List.take_length]at hf⊢;exact hR p1 c1 w2 hf
def du:List Int->List Int×Nat
 |[]=>([],0)
 |[x]=>if x=255 then([],0)else([x],1)
 |x::y::r=>if x=255 then(if y=0 then(255::(du r).1,(du r).2+2)else([],0))else(x::(du (y::r)).1,(du (y::r)).2+1)
theorem Jd{r:List Int}(h:x≠255):du (x::r)=(x::(du r).1,(du r).2+1):=by
 cases r<;>simp[du,h]
def pN(xs acc:List Int)(i:Nat):Prop:=i<=xs.length/\(du xs).1=acc++(du (xs.drop i)).1/\(du xs).2=i+(du (xs.drop i)).2
theorem pN.nil(xs:List Int):pN xs [] 0:=⟨k_ _,rfl,by simp⟩
theorem nt(h:i<xs.length):xs.drop i=xs.getD i 0::xs.drop (i+1):=by
 rw[List.drop_eq_getElem_cons h];simp[W_,h]
theorem pN.plain{acc:List Int}(h:pN xs acc i)(hi:i<xs.length)(hx:xs.getD i 0≠255):pN xs (acc++[xs.getD i 0]) (i+1):=by
 obtain⟨h0,h1,h2⟩:=h;rw[nt hi,Jd hx]at h1 h2;exact⟨by omega,by simpa using h1,by simp only at h2;omega⟩
theorem pN.mark{acc:List Int}(h:pN xs acc i)(hi:i<xs.length)(hx:xs.getD i 0=255)(h1:i+1=xs.length\/xs.getD (i+1) 0≠0):(du xs).1=acc/\(du xs).2=i:=by
 obtain⟨h0,h2,h3⟩:=h;rw[nt hi,hx]at h2 h3;by_cases hl:i+1=xs.length
 ·rw[a_ (by omega)]at h2 h3
  have e:du [(255:Int)]=([],0):=by simp[du]
  rw[e]at h2 h3;exact⟨by simpa using h2,by simpa using h3⟩
 ·rw[nt (i:=i+1) (by omega)]at h2 h3
  have:=h1.resolve_left hl;simp only[du,if_true,this,if_false]at h2 h3;exact⟨by simpa using h2,by simpa using h3⟩
theorem pN.pair{acc:List Int}(h:pN xs acc i)(hi:i+1<xs.length)(hx:xs.getD i 0=255)(h1:xs.getD (i+1) 0=0):pN xs (acc++[255]) (i+2):=by
 obtain⟨h0,h2,h3⟩:=h;rw[nt (by omega),hx,nt hi,h1]at h2 h3
 simp only[du,if_true]at h2 h3;rw[show i+1+1=i+2 from rfl]at h2 h3
 exact⟨by omega,by simpa using h2,by omega⟩
theorem pN.end{acc:List Int}(h:pN xs acc i)(hi:i=xs.length):(du xs).1=acc/\(du xs).2=i:=by
 obtain⟨h0,h2,h3⟩:=h;rw[hi,List.drop_length]at h2 h3;have e:du []=([],0):=rfl;rw[e]at h2 h3;exact⟨by simpa using h2,by simp at h3;omega⟩
theorem HK{base:Option D_}{len cap:Nat}(h:Sl N w base (bytes xs))(hl:len=xs.length)(hsz:len<=2^46)
 (hR:∀p c w',Fg [] w w' 1 p (du xs).1.length c (bytes (du xs).1)->R (.returned (.tuple #[.slice p (du xs).1.length c,aa (du xs).2])) w'):
  F_ P 79 #[.slice base len cap] w R:=by
 refine wG _ _ _ _ _ ?_;refine⟨by omega,by omega,by omega,by omega,fun k1 w1 hn=>?_⟩
 have hf0:Fg [] w w1 1 (some ⟨k1,0,none⟩) 0 len []:=Fg.of_ow (M:=w1.heap.size) (Ext.refl w) hn.ext (hn.own (J_A) rfl (by rw[eO];rfl) (by omega) (Q_ _) (Q_ _)) (Q_ _)
 refine⟨fun l w'=>match l with|[.slice p l' c,.int _ i]=>∃acc:List Int,(du xs).1=acc/\((du xs).2:Int)=i/\l'=acc.length/\Fg [] w w' 1 p l' c (bytes acc)|_=>False,?_,fun p5 l5 c5 i w8 hI=>?_⟩
 ·refine⟨fun l w'=>match l with|[.slice p l' c,.int _ i]=>∃acc:List Int,0<=i/\pN xs acc i.toNat/\acc.length<=i/\l'=acc.length/\Fg [] w w' 1 p l' c (bytes acc)|_=>False,
   fun l _=>match l with|[.slice p l' c,.int _ i]=>(len-i).toNat|_=>0,⟨[],by omega,pN.nil xs,by simp,rfl,hf0⟩,fun p1 l1 c1 i w2 hI=>?_⟩
  obtain⟨acc,i0,hu,hal,rfl,hf⟩:=hI;have hle:=hu.1;refine ak (fun hlt=>?_) (fun hge=>?_)
  ·have hlt:i<len:=by simpa using hlt
   refine⟨fun l w'=>match l with|[.slice p l' c,.int _ j]=>∃acc:List Int,i<=j/\j<len/\pN xs acc (j.toNat+1)/\acc.length<=j+1/\l'=acc.length/\Fg [] w w' 1 p l' c (bytes acc)|_=>False,?_,fun p4 l4 c4 j w7 hI=>?_⟩
   ·refine(h.ext hf.ext).get i0 (by rw[ar];omega) (fh (by omega)) fun a1 hc1=>⟨_,hc1,ak (fun hx=>?_) (fun hx=>?_)⟩
    ·have hx:xs.getD i.toNat 0=255:=by simpa using hx
     rw[ai (x:=i+1)];refine ak (fun he=>?_) (fun he=>?_)
     ·have he:i+1=len:=by simpa using he
      obtain⟨e1,e2⟩:=hu.mark (by omega) hx (.inl (by omega))
      exact⟨acc,e1,by omega,rfl,hf⟩
     ·have he:i+1≠len:=by simpa using he
      refine(h.ext hf.ext).get (by omega) (by rw[ar];omega) (fh (by omega)) fun a2 hc2=>⟨_,hc2,ak (fun hy=>?_) (fun hy k4 hk4 w3 hL3=>?_)⟩
      ·have hy:xs.getD (i.toNat+1) 0≠0:=by rw[show i.toNat+1=(i+1).toNat by omega];simpa using hy
       obtain⟨e1,e2⟩:=hu.mark (by omega) hx (.inr hy)
       exact⟨acc,e1,by omega,rfl,hf⟩
      ·have hy:xs.getD (i.toNat+1) 0=0:=by rw[show i.toNat+1=(i+1).toNat by omega];simpa using hy
       refine hf.app hL3 (by simp;omega) (by simp[am]) rfl rfl (by omega) (by omega) fun p2 c2 w4 hf2=>?_
       have hp:=hu.pair (by omega) hx hy
       exact⟨acc++[255],by omega,by omega,by rw[show(i+1).toNat+1=i.toNat+2 by omega];exact hp,by simp;omega,by simp,by simpa[bytes]using hf2.weak⟩
    ·have hx:xs.getD i.toNat 0≠255:=by simpa using hx
     refine(h.ext hf.ext).get i0 (by rw[ar];omega) (fh (by omega)) fun a3 hc3=>⟨_,hc3,fun k7 hk7 w5 hL5=>?_⟩
     refine hf.app hL5 (by simp;omega) (by simp[am]) rfl rfl (by omega) (by omega) fun p2 c2 w4 hf2=>?_
     exact⟨acc++[xs.getD i.toNat 0],by omega,hlt,hu.plain (by omega) hx,by simp;omega,by simp,by simpa[bytes]using hf2.weak⟩
   ·obtain⟨acc,j0,j1,hu2,hal2,rfl,hf2⟩:=hI
    rw[ai (x:=j+1)];refine⟨⟨acc,by omega,by rw[show(j+1).toNat=j.toNat+1 by omega];exact hu2,hal2,rfl,hf2⟩,?_⟩
    show(len-(j+1)).toNat<(len-i).toNat;omega
  ·have hge:i=len:=by simp at hge;omega
   obtain⟨e1,e2⟩:=hu.end (by omega)
   exact⟨acc,e1,by omega,rfl,hf⟩
 ·obtain⟨acc,e1,e2,rfl,hf⟩:=hI
  subst e1;subst e2;exact hR p5 c5 w8 hf
theorem E1(m:Int)(r:List Int)(hm:m≠0):∀xs:List Int,du (be xs++255::m::r)=(xs,(be xs).length)
 |[]=>by
  show du (255::m::r)=_;rw[du];simp[hm,be]
 |x::xs=>by
  have ih:=E1 m r hm xs;have e:be (x::xs)=(if x=255 then[255,0]else[x])++be xs:=by simp[be]
  rw[e];by_cases h:x=255
  ·subst h
   rw[if_pos rfl];show du (255::0::(be xs++255::m::r))=_;rw[du];simp[ih]
  ·rw[if_neg h]
   show du (x::(be xs++255::m::r))=_;rw[Jd h,ih];simp
end Go.Proofs.YtoomejkiagonpaaGreatDoor
namespace Go.Qn
variable {w u w' : B_} {R : Ending -> B_ -> Prop} {n i b k N m j M : Nat} {vs fs zero : List C_} {p q : Option D_} {e : TypeId} {v : C_} {xs bs : List Int} {l av : List Nat} {Z D : Nat -> Prop} {x : Int} {F : Option D_ -> Nat -> Nat -> B_ -> Prop}
def SI(f:Nat->Int):Nat->Int
 |0=>0
 |n+1=>SI f n+f n
theorem Bz{f g:Nat->Int}:∀{n:Nat},(∀i,i<n->f i=g i)->SI f n=SI g n
 |0,_=>rfl
 |n+1,h=>by rw[SI,SI,Bz fun i hi=>h i (by omega),h n (by omega)]
theorem KV(c:Int)(f:Nat->Int):∀n,c*SI f n=SI (fun i=>c*f i) n
 |0=>by rw[SI,SI,Int.mul_zero]
 |n+1=>by rw[SI,SI,Int.mul_add,KV c f n]
theorem B4{f:Nat->Int}{c:Int}:∀{n:Nat},(∀i,i<n-> -c<=f i/\f i<=c)-> -(n*c)<=SI f n/\SI f n<=n*c
 |0,_=>by simp[SI]
 |n+1,h=>by
  have ih:=B4 (c:=c) (n:=n) fun i hi=>h i (by omega)
  have hn:=h n (by omega)
  have e:((n+1:Nat):Int)*c=n*c+c:=by rw[Int.natCast_add,w_];omega
  rw[SI,e];omega
def kL:List Int:=[0,8035,7568,6811,5793,4551,3135,1598,0]
def BM(u x:Nat):Int:=if u=0 then 5793 else
 let t:=min ((2*x+1)*u%32) (32-(2*x+1)*u%32)
 if 8<t then -(kL.getD (16-t) 0)else kL.getD t 0
def BD(u x:Nat):Int:=if u=0 then 5793 else
 let t:=(2*x+1)*u%32
 if t<8 then kL.getD t 0 else if 8<t/\t<=16 then -(kL.getD (16-t) 0)else if 16<t/\t<24 then -(kL.getD (t-16) 0)else if 24<t then kL.getD (32-t) 0 else 0
theorem JM:∀u,u<8->∀x,x<8->BM u x=BD u x:=by decide
theorem gG:∀u,u<8->∀x,x<8-> -8035<=BM u x/\BM u x<=8035:=by decide
def cw:List Int:=(N_ 64).map fun i=>BM (i/8) (i%8)
theorem Gg{u x:Nat}(hu:u<8)(hx:x<8):cw.getD (8*u+x) 0=BM u x:=by
 unfold cw;rw[P_,Z_,n_ (by omega)]
 show BM ((8*u+x)/8) ((8*u+x)%8)=_;rw[show(8*u+x)/8=u by omega,show(8*u+x)%8=x by omega]
def fA(l:List Int):List Int:=(N_ 64).map fun i=>SI (fun j=>BM (i/8) j*l.getD (8*(i%8)+j) 0) 8
theorem ye(l:List Int):(fA l).length=64:=by simp[fA]
theorem xx(l:List Int)(h:i<64):(fA l).getD i 0=SI (fun j=>BM (i/8) j*l.getD (8*(i%8)+j) 0) 8:=by
 unfold fA;rw[P_,Z_,n_ h];rfl
def xH(l:List Int)(i:Nat):Int:=SI (fun y=>SI (fun x=>BM (i%8) x*BM (i/8) y*l.getD (8*y+x) 0) 8) 8
def da(l:List Int):List Int:=(N_ 64).map fun i=>(134217728+xH l i)/268435456
theorem pW(l:List Int):(da l).length=64:=by simp[da]
theorem Ge(l:List Int)(h:i<64):(da l).getD i 0=(134217728+xH l i)/268435456:=by
 unfold da;rw[P_,Z_,n_ h];rfl
theorem O9(l:List Int)(h:i<64):(fA (fA l)).getD i 0=xH l i:=by
 rw[xx _ h];unfold xH;refine Bz fun y hy=>?_;rw[xx _ (show 8*(i%8)+y<64 by omega),show(8*(i%8)+y)/8=i%8 by omega,show(8*(i%8)+y)%8=y by omega,KV]
 refine Bz fun x hx=>?_;rw[<-b_,V_ (BM (i/8) y)]
theorem lK{a b A B:Int}(ha: -A<=a/\a<=A)(hb: -B<=b/\b<=B): -(A*B)<=a*b/\a*b<=A*B:=by
 have hA:0<=A:=by omega
 have hB:0<=B:=by omega
 have h1:(a*b).natAbs<=(A*B).natAbs:=by
  rw[K_A,K_A];exact l_ (by omega) (by omega)
 have h2:0<=A*B:=X_ hA hB;omega
theorem IV{l:List Int}{c:Int}(h:∀i, -c<=l.getD i 0/\l.getD i 0<=c)(i:Nat)(hi:i<64)(n:Nat)(hn:n<=8): -(64280*c)<=SI (fun j=>BM (i/8) j*l.getD (8*(i%8)+j) 0) n/\SI (fun j=>BM (i/8) j*l.getD (8*(i%8)+j) 0) n<=64280*c:=by
 have hc:0<=c:=by have:=h 0;omega
 have hb:=B4 (f:=fun j=>BM (i/8) j*l.getD (8*(i%8)+j) 0) (c:=8035*c) (n:=n) fun j hj=>lK (gG _ (by omega) _ (by omega)) (h _)
 have:(n:Int)*(8035*c)<=64280*c:=by
  have h8:(n:Int)*(8035*c)<=8*(8035*c):=c_ (by omega) (X_ (by omega) hc)
  omega
 omega
end Go.Qn
namespace Go.Proofs.YtoomejkiagonpaaGreatDoor
open Go Go.Vc Go.RowKit Go.Qn
variable {w u w' : B_} {R : Ending -> B_ -> Prop} {n i b k N m j M : Nat} {vs fs zero : List C_} {p q : Option D_} {e : TypeId} {v : C_} {xs bs : List Int} {l av : List Nat} {Z D : Nat -> Prop} {x : Int} {F : Option D_ -> Nat -> Nat -> B_ -> Prop}
def ii(l:List Int):List C_:=l.map aa
theorem aG(l:List Int):(ii l).length=l.length:=by simp[ii]
theorem rz(a b:List Int):ii (a++b)=ii a++ii b:=by simp[ii]
theorem fE(l:List Int):aN (ii l)=true:=by simp[aN,ii,E_A]
theorem bz{l:List Int}(h:i<l.length):(ii l)[i]?=some (aa (l.getD i 0)):=by simp[ii,W_,h]
theorem Cs.cellsAt(h:Cs w b vs):iK w ⟨b,0,none⟩ vs:=fun j v hv=>by
 rw[af,I_];exact h.cell hv
theorem eX{l:List Int}(h:i<l.length):l.getD i 0∈l:=by
 rw[P_,O_ h];exact L_A h
theorem Bi{len cap:Nat}{l:List Int}(h:Sl N w p (ii l))(hl:len=l.length)(h1:1<=len)(h62:len<2^62)
 (hR:∀n,n∈l->R (.returned (aa n)) w):F_ P 83 #[.slice p len cap] w R:=by
 refine uD _ _ _ _ _ ?_;refine al (decide_eq_false (by omega)) ?_
 refine h.get (by omega) (by rw[aG,hl]) (bz (by omega)) fun a ha=>⟨_,ha,?_⟩
 refine⟨fun vs u=>∃(n:Int) (i:Nat),vs=[aa n,aa (i:Nat)]/\n∈l/\i<=len/\u=w,fun vs _=>match vs with|[_,.int _ i]=>(len-i:Int).toNat|_=>0,⟨_,1,rfl,eX (by omega),h1,rfl⟩,fun n2 n3 w1 hI=>?_⟩
 obtain⟨n,i,hv,hn,hi,rfl⟩:=hI;simp only[L_,M_,true_and,and_true]at hv;obtain⟨rfl,rfl⟩:=hv;refine ak (fun hlt=>?_) (fun _=>hR _ hn);have hlt:i<len:=by have:=of_decide_eq_true hlt;omega
 refine h.get (by omega) (by rw[aG,hl]) (bz (by omega)) fun a2 ha2=>⟨_,ha2,?_⟩
 rw[ai (x:=(i:Int)+1)];refine⟨⟨_,i+1,rfl,?_,hlt,rfl⟩,by show((len:Int)-((i:Int)+1)).toNat<((len:Int)-i).toNat;omega⟩
 rcases Int.le_total n2 (l.getD (Int.toNat (i:Nat)) 0)with g|g
 ·rw[Int.min_eq_left g];exact hn
 ·rw[Int.min_eq_right g];exact eX (by omega)
theorem Bg{len cap:Nat}{l:List Int}(h:Sl N w p (ii l))(hl:len=l.length)(h1:1<=len)(h62:len<2^62)
 (hR:∀n,n∈l->R (.returned (aa n)) w):F_ P 84 #[.slice p len cap] w R:=by
 refine uy _ _ _ _ _ ?_;refine al (decide_eq_false (by omega)) ?_
 refine h.get (by omega) (by rw[aG,hl]) (bz (by omega)) fun a ha=>⟨_,ha,?_⟩
 refine⟨fun vs u=>∃(n:Int) (i:Nat),vs=[aa n,aa (i:Nat)]/\n∈l/\i<=len/\u=w,fun vs _=>match vs with|[_,.int _ i]=>(len-i:Int).toNat|_=>0,⟨_,1,rfl,eX (by omega),h1,rfl⟩,fun n2 n3 w1 hI=>?_⟩
 obtain⟨n,i,hv,hn,hi,rfl⟩:=hI;simp only[L_,M_,true_and,and_true]at hv;obtain⟨rfl,rfl⟩:=hv;refine ak (fun hlt=>?_) (fun _=>hR _ hn);have hlt:i<len:=by have:=of_decide_eq_true hlt;omega
 refine h.get (by omega) (by rw[aG,hl]) (bz (by omega)) fun a2 ha2=>⟨_,ha2,?_⟩
 rw[ai (x:=(i:Int)+1)];refine⟨⟨_,i+1,rfl,?_,hlt,rfl⟩,by show((len:Int)-((i:Int)+1)).toNat<((len:Int)-i).toNat;omega⟩
 rcases Int.le_total n2 (l.getD (Int.toNat (i:Nat)) 0)with g|g
 ·rw[Int.max_eq_right g];exact eX (by omega)
 ·rw[Int.max_eq_left g];exact hn
theorem An{cap:Nat}{l:List Int}{lo hi:Int}(h:Sl N w p (ii l))(hl:l.length=64)(hf:∀x,x∈l->lo<=x/\x<=hi)
 (hR:R (.returned (aa 0)) w):F_ P 145 #[.slice p 64 cap,aa lo,aa hi] w R:=by
 refine FI _ _ _ _ _ _ _ ?_;refine al (by decide) ?_
 refine Bi h hl.symm (by omega) (by omega) fun n hn=>⟨_,rfl,al (decide_eq_false (by have:=hf n hn;omega)) ?_⟩
 refine Bg h hl.symm (by omega) (by omega) fun n2 hn2=>⟨_,rfl,al (decide_eq_false (by have:=hf n2 hn2;omega)) hR⟩
theorem sf{cap:Nat}{l:List Int}{lo hi:Int}(h:Sl N w p (ii l))(hl:l.length=64)(hf:∀x,x∈l->lo<=x/\x<=hi)
 (hR:R (.returned (aa 0)) w):F_ P 68 #[.slice p 64 cap,aa lo,aa hi] w R:=by
 refine yf _ _ _ _ _ _ _ ?_;refine al (by decide) ?_
 refine⟨fun vs u=>∃i:Nat,vs=[aa (i:Nat)]/\i<=64/\u=w,fun vs _=>match vs with|[.int _ i]=>(64-i:Int).toNat|_=>0,⟨0,rfl,by omega,rfl⟩,fun n1 w1 hI=>?_⟩
 obtain⟨i,hv,hi',rfl⟩:=hI;obtain rfl:n1=(i:Nat):=by simpa using hv
 refine ak (fun hlt=>?_) (fun _=>hR);have hlt:i<64:=by have:=of_decide_eq_true hlt;omega
 have hm:=hf _ (eX (l:=l) (i:=i) (by omega))
 refine h.get (by omega) (by rw[aG,hl]) (bz (by omega)) fun a ha=>⟨_,ha,al (decide_eq_false (by rw[G_];omega)) ?_⟩
 refine h.get (by omega) (by rw[aG,hl]) (bz (by omega)) fun a2 ha2=>⟨_,ha2,al (decide_eq_false (by rw[G_];omega)) ?_⟩
 rw[ai (x:=(i:Int)+1)];exact⟨⟨i+1,rfl,hlt,rfl⟩,by show((64:Int)-((i:Int)+1)).toNat<((64:Int)-i).toNat;omega⟩
def D3(w:B_)(R:bV):Prop:=
 ∀k1 w1,(aK w (R_ IJ 149) k1 w1)->∀k2 w2,(aK w1 (R_ IJ 149) k2 w2)->∃(I1:aw) (m1:List C_->B_->Nat),(I1 [aa 0] w2)/\∀n1 w3,(I1 [aa n1] w3)->ae (decide (n1<8)) (∃I2:aw,∃m2:List C_->B_->Nat,(I2 [aa 0] w3)/\∀n2 w4,(I2 [aa n2] w4)->ae (decide (n2<8)) (F_ P 118 #[aa n1,aa n2] w4 fun e1 w5=>∃n3,(e1=.returned (aa n3))/\(0<=A_.wrap (A_.wrap (8*n1)+n2))/\(A_.wrap (A_.wrap (8*n1)+n2)<64)/\aI w5 ({block:=k2,off:=0:D_}.add ((A_.wrap (A_.wrap (8*n1)+n2)).toNat*1)) [aa n3] fun u1=>(I2 [aa (A_.wrap (n2+1))] u1)/\m2 [aa (A_.wrap (n2+1))] u1<m2 [aa n2] w4) ((I1 [aa (A_.wrap (n1+1))] w4)/\m1 [aa (A_.wrap (n1+1))] w4<m1 [aa n1] w3)) (∃l1:List C_,(l1.length=64)/\(iK w3 ({block:=k2,off:=0}) l1)/\ae (aN l1&&l1.length.beq 64) ((dq w3 ({block:=k1,off:=0}) (64))/\∃l2:List C_,(l2.length=64)/\(iK (ab w3 {block:=k1,off:=0} l1 0) ({block:=k1,off:=0}) l2)/\R (.returned (.agg l2.toArray)) (ab w3 {block:=k1,off:=0} l1 0)) (False))
theorem zn(w:B_)(R:bV)(h:D3 w R):F_ P 69 #[] w R:=
  aF (ac:=Df) Tryz.func69 h
theorem LY{v:Int}(h0: -(2^60)<=v)(h1:v<=2^60)(hR:R (.returned (aa (v/268435456))) w):F_ P 70 #[aa v] w R:=by
 refine Bd _ _ _ ?_;unfold vN;have hq:ad .rem .i64 v 268435456=v.tmod 268435456:=rfl;have e1:v=268435456*v.tdiv 268435456+v.tmod 268435456:=(M_A v 268435456).symm;have hd:ad .quo .i64 v 268435456=v.tdiv 268435456:=by
  show A_.wrap (v.tdiv 268435456)=_;have hm1:v.tmod 268435456<268435456:=x_ v (by omega)
  have hm0: -268435456<v.tmod 268435456:=by have:=y_ v (b:=268435456) (by omega);omega
  exact ai (by omega) (by omega)
 have hm1:v.tmod 268435456<268435456:=x_ v (by omega)
 have hm0: -268435456<v.tmod 268435456:=by have:=y_ v (b:=268435456) (by omega);omega
 rw[hq,hd];generalize v.tmod 268435456=m at*;generalize v.tdiv 268435456=q at*;refine ak (fun hlt=>?_) fun hge=>?_
 ·have hlt:m<0:=of_decide_eq_true hlt
  rw[ai (x:=q-1)];rw[show v/268435456=q-1 by omega]at hR
  exact hR
 ·have hge:¬m<0:=of_decide_eq_false hge
  rw[show v/268435456=q by omega]at hR
  exact hR
theorem Jb:∀u,u<8->∀x,x<8->ad .rem .i64 (A_.wrap (A_.wrap (A_.wrap (2*((x:Nat):Int))+1)*((u:Nat):Int))) 32=(((2*x+1)*u%32:Nat):Int):=by decide+kernel
def OU:List Int:=[0,8035,7568,6811,5793,4551,3135,1598]
theorem Ok:∀t,t<8->OU.getD t 0=kL.getD t 0:=by decide
theorem Kl{u x:Nat}(hu:u<8)(hx:x<8)(hR:∀w',Ext w w'->R (.returned (aa (BM u x))) w'):F_ P 118 #[aa (u:Nat),aa (x:Nat)] w R:=by
 refine y7 _ _ _ _ ?_;unfold tC;intro k1 w1 hn;have hb:=JM u hu x hx;have hR:=hR w1 hn.ext;rw[hb]at hR;have hS:Sl w1.heap.size w1 (some ⟨k1,0,none⟩) (ii OU):=hn.cs.sl (off:=0) (by exact z_ _) hn.size
 have hget:∀(t:Nat) (F:D_->Prop),t<8->(∀a,w1.cell? a=some (aa (kL.getD t 0))->F a)->aq (some ⟨k1,0,none⟩) 8 ((t:Nat):Int) 1 F:=fun t F ht hF=>
  hS.get (by omega) rfl (bz (l:=OU) (i:=((t:Nat):Int).toNat) (by rw[G_];exact ht)) fun a ha=>hF a (by rw[G_,Ok t ht]at ha;exact ha)
 rw[Jb u hu x hx];refine ak (fun h0=>?_) fun h0=>?_
 ·have h0:u=0:=by have:((u:Nat):Int)=0:=(by simpa using h0);omega
  unfold BD at hR;rw[if_pos h0]at hR;exact hR
 have h0:¬u=0:=by have:¬((u:Nat):Int)=0:=(by simpa using h0);omega
 unfold BD at hR;rw[if_neg h0]at hR;simp only at hR;have ht:(2*x+1)*u%32<32:=Nat.mod_lt _ (by omega)
 generalize(2*x+1)*u%32=t at*;have hk:∀i,i<9->0<=kL.getD i 0/\kL.getD i 0<=8035:=by decide
 refine ak (fun h8=>?_) fun h8=>?_
 ·have h8:t<8:=by have:=of_decide_eq_true h8;omega
  rw[if_pos h8]at hR;exact hget t _ h8 fun a ha=>⟨_,ha,hR⟩
 have h8:¬t<8:=by have:=of_decide_eq_false h8;omega
 rw[if_neg h8]at hR;refine ak (fun h16=>?_) fun h16=>?_
 ·have h16:8<t/\t<=16:=by simp only[m_,decide_eq_true_eq]at h16;omega
  rw[if_pos h16]at hR;rw[ai (x:=16-(t:Int)),show(16:Int)-(t:Nat)=((16-t:Nat):Int) by omega]
  refine hget (16-t) _ (by omega) fun a ha=>⟨_,ha,?_⟩
  have:=hk (16-t) (by omega)
  rw[ai (by omega) (by omega),d_]
  exact hR
 have h16:¬(8<t/\t<=16):=by simp only[u_,decide_eq_false_iff_not]at h16;omega
 rw[if_neg h16]at hR;refine ak (fun h24=>?_) fun h24=>?_
 ·have h24:16<t/\t<24:=by simp only[m_,decide_eq_true_eq]at h24;omega
  rw[if_pos h24]at hR;rw[ai (x:=(t:Int)-16),show((t:Nat):Int)-16=((t-16:Nat):Int) by omega]
  refine hget (t-16) _ (by omega) fun a ha=>⟨_,ha,?_⟩
  have:=hk (t-16) (by omega)
  rw[ai (by omega) (by omega),d_]
  exact hR
 have h24:¬(16<t/\t<24):=by simp only[u_,decide_eq_false_iff_not]at h24;omega
 rw[if_neg h24]at hR;refine ak (fun h32=>?_) fun h32=>?_
 ·have h32:24<t:=by have:=of_decide_eq_true h32;omega
  rw[if_pos h32]at hR;rw[ai (x:=32-(t:Int)),show(32:Int)-(t:Nat)=((32-t:Nat):Int) by omega]
  exact hget (32-t) _ (by omega) fun a ha=>⟨_,ha,hR⟩
 ·have h32:¬24<t:=by have:=of_decide_eq_false h32;omega
  rw[if_neg h32]at hR;exact hR
def ly(n i:Nat):C_:=aa (if i<n then BM (i/8) (i%8)else 0)
theorem LX:aB 64 (ly 64)=ii cw:=by
 unfold aB ii cw;rw[o_];apply Y_;intro i hi;have hi:=List.mem_range.1 hi;show ly 64 i=aa _;unfold ly;rw[if_pos hi]
theorem M2{v:Int}(hv:v=BM (n/8) (n%8)):(aB 64 (ly n)).set n (aa v)=aB 64 (ly (n+1)):=by
 refine dx ?_ fun j _ hj=>?_
 ·unfold ly
  rw[if_pos (by omega),hv]
 ·unfold ly
  by_cases h:j<n
  ·rw[if_pos h,if_pos (by omega)]
  ·rw[if_neg h,if_neg (by omega)]
theorem LF:aB 64 (ly 0)=J_ 64 (aa 0):=by
 unfold aB;refine S_ (by simp) fun i h1 h2=>?_
 rw[T_,p_];unfold ly;rw[if_neg (by omega)]
theorem KS(hR:∀w',Ext w w'->R (.returned (.agg (ii cw).toArray)) w'):F_ P 69 #[] w R:=by
 refine zn _ _ ?_;intro k1 w1 hn1 k2 w2 hn2;have e1:=hn1.1;have s1:=hn1.size;have e2:=hn2.1;have s2:=hn2.size;have z1:=hn1.ext.size;have z2:=hn2.ext.size;have hC1:Cs w2 k1 (J_ 64 (aa 0)):=hn1.cs.ext hn2.ext;have hC2:Cs w2 k2 (aB 64 (ly 0)):=by rw[LF];exact hn2.cs
 have hE2:=hn1.ext.trans hn2.ext;have fin:∀u,Chg (·=k2) w2 u->Ext w u:=fun u hc=>hE2.step hc fun i hi=>by have hi:i=k2:=hi;omega
 refine⟨fun vs u=>∃n:Nat,vs=[aa (n:Nat)]/\n<=8/\Chg (·=k2) w2 u/\Cs u k2 (aB 64 (ly (8*n))),fun vs _=>match vs with|[.int _ n]=>(8-n:Int).toNat|_=>0,⟨0,rfl,by omega,Chg.refl _ _,hC2⟩,fun n1 w3 hI=>?_⟩
 obtain⟨n,hv,hn,hc3,hC3⟩:=hI;obtain rfl:n1=(n:Nat):=by simpa using hv
 refine ak (fun hlt=>?_) fun hge=>?_
 ·have hlt:n<8:=by have:=of_decide_eq_true hlt;omega
  refine⟨fun vs u=>∃x:Nat,vs=[aa (x:Nat)]/\x<=8/\Chg (·=k2) w2 u/\Cs u k2 (aB 64 (ly (8*n+x))),fun vs _=>match vs with|[.int _ x]=>(8-x:Int).toNat|_=>0,⟨0,rfl,by omega,hc3,hC3⟩,fun n2 w4 hI=>?_⟩
  obtain⟨x,hv,hx,hc4,hC4⟩:=hI;obtain rfl:n2=(x:Nat):=by simpa using hv
  refine ak (fun hlt2=>?_) fun hge2=>?_
  ·have hlt2:x<8:=by have:=of_decide_eq_true hlt2;omega
   refine Kl hlt hlt2 fun w5 hE5=>⟨_,rfl,?_⟩;rw[ai (x:=8*(n:Int)),ai (x:=8*(n:Int)+x),show 8*((n:Nat):Int)+(x:Nat)=((8*n+x:Nat):Int) by omega,G_,af,I_,K_]
   have hC5:=hC4.ext hE5;have hln:(aB 64 (ly (8*n+x))).length=64:=bC _ _;have g1:=Cs.set1 hC5 (off:=8*n+x) (v:=aa (BM n x)) (by omega)
   have g2:=Chg.setCells w5 ⟨k2,8*n+x,none⟩ [aa (BM n x)] 0;rw[M2 (by rw[show(8*n+x)/8=n by omega,show(8*n+x)%8=x by omega])]at g1
   have hc5:Chg (·=k2) w2 w5:=hc4.trans hE5.chg fun _ h _=>h;rw[ai (x:=(x:Int)+1)];exact⟨by omega,by omega,⟨_,hC5.cell (i:=8*n+x) (O_ (by omega))⟩,hC5.frozen _,⟨x+1,rfl,hlt2,hc5.trans g2 fun _ h _=>h,g1⟩,by show((8:Int)-((x:Int)+1)).toNat<((8:Int)-x).toNat;omega⟩
  ·have hge2:x=8:=by have:=of_decide_eq_false hge2;omega
   subst hge2;rw[ai (x:=(n:Int)+1)];exact⟨⟨n+1,rfl,hlt,hc4,hC4⟩,by show((8:Int)-((n:Int)+1)).toNat<((8:Int)-n).toNat;omega⟩
 ·have hge:n=8:=by have:=of_decide_eq_false hge;omega
  subst hge;have hC3:Cs w3 k2 (aB 64 (ly 64)):=hC3;rw[LX]at hC3;have hl:(ii cw).length=64:=by rw[aG];rfl
  have hK1:Cs w3 k1 (J_ 64 (aa 0)):=hC1.chg hc3 (by show¬k1=k2;omega)
  have g1:=Cs.set hK1 (off:=0) (us:=ii cw) (by rw[hl,A_A];omega)
  have g2:=Chg.setCells w3 ⟨k1,0,none⟩ (ii cw) 0;have g1:Cs (ab w3 ⟨k1,0,none⟩ (ii cw) 0) k1 (ii cw):=by
   have e:(J_ 64 (aa 0)).take 0++ii cw++(J_ 64 (aa 0)).drop (0+(ii cw).length)=ii cw:=by
    rw[hl,a_ (by simp)];simp
   rw[e]at g1;exact g1
  refine⟨ii cw,hl,Cs.cellsAt hC3,aY (by rw[fE,hl];rfl) ⟨hK1.canSet (by simp),ii cw,hl,Cs.cellsAt g1,hR _ ?_⟩⟩
  refine(fin w3 hc3).step g2 fun i hi=>?_;have hi:i=k1:=hi;omega
def HA(w:B_)(R:bV):Prop:=
 ∀k1 w1,(aK w (R_ IJ 236) k1 w1)->∀k2 w2,(aK w1 (R_ #[aa 0,aa 0,aa 0,aa 0,aa 0,aa 0,aa 0,aa 0,aa 0] 266) k2 w2)->aI w2 {block:=k2,off:=0} [aa 0,aa 8035,aa 7568,aa 6811,aa 5793,aa 4551,aa 3135,aa 1598,aa 0] fun u1=>(∃v2,w2.cell? {block:=k2,off:=1}=some v2)/\(w2.frozen? {block:=k2,off:=1}=false)/\(∃v3,w2.cell? {block:=k2,off:=2}=some v3)/\(w2.frozen? {block:=k2,off:=2}=false)/\(∃v4,w2.cell? {block:=k2,off:=3}=some v4)/\(w2.frozen? {block:=k2,off:=3}=false)/\(∃v5,w2.cell? {block:=k2,off:=4}=some v5)/\(w2.frozen? {block:=k2,off:=4}=false)/\(∃v6,w2.cell? {block:=k2,off:=5}=some v6)/\(w2.frozen? {block:=k2,off:=5}=false)/\(∃v7,w2.cell? {block:=k2,off:=6}=some v7)/\(w2.frozen? {block:=k2,off:=6}=false)/\(∃v8,w2.cell? {block:=k2,off:=7}=some v8)/\(w2.frozen? {block:=k2,off:=7}=false)/\(∃v9,w2.cell? {block:=k2,off:=8}=some v9)/\(w2.frozen? {block:=k2,off:=8}=false)/\∀k3 w3,(aK u1 (R_ IJ 236) k3 w3)->∃(I1:aw) (m1:List C_->B_->Nat),(I1 [aa 0] w3)/\∀n1 w4,(I1 [aa n1] w4)->ae (decide (n1<8)) (((0:Int)<=0)/\((0:Int)<8)/\(0<=n1)/\(n1<8)/\aI w4 ({block:=k3,off:=0:D_}.add (n1.toNat*1)) [aa 5793] fun u2=>∃(I2:aw) (m2:List C_->B_->Nat),(I2 [aa 1] u2)/\∀n2 w5,(I2 [aa n2] w5)->ae (decide (n2<8)) (∃I3:aw,(ae (decide (min (ad .rem .i64 (A_.wrap (A_.wrap (A_.wrap (2*n1)+1)*n2)) 32) (A_.wrap (32-ad .rem .i64 (A_.wrap (A_.wrap (A_.wrap (2*n1)+1)*n2)) 32))>8)) ((0<=A_.wrap (16-min (ad .rem .i64 (A_.wrap (A_.wrap (A_.wrap (2*n1)+1)*n2)) 32) (A_.wrap (32-ad .rem .i64 (A_.wrap (A_.wrap (A_.wrap (2*n1)+1)*n2)) 32))))/\(A_.wrap (16-min (ad .rem .i64 (A_.wrap (A_.wrap (A_.wrap (2*n1)+1)*n2)) 32) (A_.wrap (32-ad .rem .i64 (A_.wrap (A_.wrap (A_.wrap (2*n1)+1)*n2)) 32)))<9)/\∃n3,(w5.drew.cell? ({block:=k2,off:=0:D_}.add ((A_.wrap (16-min (ad .rem .i64 (A_.wrap (A_.wrap (A_.wrap (2*n1)+1)*n2)) 32) (A_.wrap (32-ad .rem .i64 (A_.wrap (A_.wrap (A_.wrap (2*n1)+1)*n2)) 32)))).toNat*1))=some (aa n3))/\(0<=n2)/\(n2<8)/\(0<=n1)/\(n1<8)/\aI w5.drew (({block:=k3,off:=0:D_}.add (n2.toNat*8)).add (n1.toNat*1)) [aa (A_.wrap (0-n3))] fun u3=>I3 [] u3) ((0<=min (ad .rem .i64 (A_.wrap (A_.wrap (A_.wrap (2*n1)+1)*n2)) 32) (A_.wrap (32-ad .rem .i64 (A_.wrap (A_.wrap (A_.wrap (2*n1)+1)*n2)) 32)))/\(min (ad .rem .i64 (A_.wrap (A_.wrap (A_.wrap (2*n1)+1)*n2)) 32) (A_.wrap (32-ad .rem .i64 (A_.wrap (A_.wrap (A_.wrap (2*n1)+1)*n2)) 32))<9)/\∃n4,(w5.drew.cell? ({block:=k2,off:=0:D_}.add ((min (ad .rem .i64 (A_.wrap (A_.wrap (A_.wrap (2*n1)+1)*n2)) 32) (A_.wrap (32-ad .rem .i64 (A_.wrap (A_.wrap (A_.wrap (2*n1)+1)*n2)) 32))).toNat*1))=some (aa n4))/\(0<=n2)/\(n2<8)/\(0<=n1)/\(n1<8)/\aI w5.drew (({block:=k3,off:=0:D_}.add (n2.toNat*8)).add (n1.toNat*1)) [aa n4] fun u4=>I3 [] u4))/\∀w6,(I3 [] w6)->(I2 [aa (A_.wrap (n2+1))] w6)/\m2 [aa (A_.wrap (n2+1))] w6<m2 [aa n2] w5) ((I1 [aa (A_.wrap (n1+1))] w5)/\m1 [aa (A_.wrap (n1+1))] w5<m1 [aa n1] w4)) (∃l1:List C_,(l1.length=64)/\(iK w4 ({block:=k3,off:=0}) l1)/\ae (aN l1&&l1.length.beq 64) ((dq w4 ({block:=k1,off:=0}) (64))/\∃l2:List C_,(l2.length=64)/\(iK (ab w4 {block:=k1,off:=0} l1 0) ({block:=k1,off:=0}) l2)/\R (.returned (.agg l2.toArray)) (ab w4 {block:=k1,off:=0} l1 0)) (False))
theorem BK(w:B_)(R:bV)(h:HA w R):F_ P 147 #[] w R:=
  aF (ac:=HN) Tryz.func147 h
def gV(x u i:Nat):C_:=aa (if i%8<x\/i%8=x/\i/8<u then BM (i/8) (i%8)else 0)
theorem LK:aB 64 (gV 8 0)=ii cw:=by
 unfold aB ii cw;rw[o_];apply Y_;intro i hi;have hi:=List.mem_range.1 hi;show gV 8 0 i=aa _;unfold gV;rw[if_pos (by omega)]
theorem L5:aB 64 (gV 0 0)=J_ 64 (aa 0):=by
 unfold aB;refine S_ (by simp) fun i h1 h2=>?_
 rw[T_,p_];unfold gV;rw[if_neg (by omega)]
theorem F6{x u:Nat}(hx:x<8)(hu:u<8):(aB 64 (gV x u)).set (8*u+x) (aa (BM u x))=aB 64 (gV x (u+1)):=by
 refine dx ?_ fun j _ hj=>?_
 ·unfold gV
  rw[if_pos (by omega),show(8*u+x)/8=u by omega,show(8*u+x)%8=x by omega]
 ·unfold gV
  by_cases h:j%8<x\/j%8=x/\j/8<u
  ·rw[if_pos h,if_pos (by omega)]
  ·rw[if_neg h,if_neg (by omega)]
theorem Lm(x:Nat):aB 64 (gV x 8)=aB 64 (gV (x+1) 0):=by
 refine cN fun i hi=>?_;unfold gV;by_cases h:i%8<x+1
 ·rw[if_pos (by omega),if_pos (.inl h)]
 ·rw[if_neg (by omega),if_neg (by omega)]
theorem KN(hR:∀w',Ext w w'->R (.returned (.agg (ii cw).toArray)) w'):F_ P 147 #[] w R:=by
 refine BK _ _ ?_;intro k1 w1 hn1 k2 w2 hn2;have e1:=hn1.1;have s1:=hn1.size;have e2:=hn2.1;have s2:=hn2.size;have z1:=hn1.ext.size;have z2:=hn2.ext.size;have hC1:Cs w2 k1 (J_ 64 (aa 0)):=hn1.cs.ext hn2.ext;have hC2:Cs w2 k2 (J_ 9 (aa 0)):=hn2.cs;have hE2:=hn1.ext.trans hn2.ext;have cn:=hC2.canSet (off:=0) (n:=9) (by simp)
 have cz:∀j,j<9->(∃v,w2.cell? ⟨k2,j,none⟩=some v)/\w2.frozen? ⟨k2,j,none⟩=false:=fun j hj=>by
  have:=cn j hj;rw[af,I_]at this;exact this
 refine⟨(cz 0 (by omega)).1,(cz 0 (by omega)).2,(cz 1 (by omega)).1,(cz 1 (by omega)).2,(cz 2 (by omega)).1,(cz 2 (by omega)).2,(cz 3 (by omega)).1,(cz 3 (by omega)).2,(cz 4 (by omega)).1,(cz 4 (by omega)).2,(cz 5 (by omega)).1,(cz 5 (by omega)).2,(cz 6 (by omega)).1,(cz 6 (by omega)).2,(cz 7 (by omega)).1,(cz 7 (by omega)).2,(cz 8 (by omega)).1,(cz 8 (by omega)).2,?_⟩
 intro k3 w3 hn3;have g1:=Cs.set hC2 (off:=0) (us:=ii kL) (by simp[ii,kL])
 have g2:=Chg.setCells w2 ⟨k2,0,none⟩ (ii kL) 0;have gK:Cs (ab w2 ⟨k2,0,none⟩ (ii kL) 0) k2 (ii kL):=by
  have e:(J_ 9 (aa 0)).take 0++ii kL++(J_ 9 (aa 0)).drop (0+(ii kL).length)=ii kL:=by
   rw[a_ (by simp[ii,kL])];simp
  rw[e]at g1;exact g1
 have hn3:aK (ab w2 ⟨k2,0,none⟩ (ii kL) 0) (R_ (J_ 64 (aa 0)).toArray 236 (0,0)) k3 w3:=hn3;have e3:=hn3.1;have s3:=hn3.size;have z3:=hn3.ext.size;have zs:=g2.size;have hc23:Chg (·=k2) w2 w3:=g2.trans hn3.ext.chg fun _ h _=>h;have hK3:Cs w3 k2 (ii kL):=gK.ext hn3.ext;have hC13:Cs w3 k1 (J_ 64 (aa 0)):=hC1.chg hc23 (by show¬k1=k2;omega)
 have hC33:Cs w3 k3 (aB 64 (gV 0 0)):=by rw[L5];exact hn3.cs
 have hE3:Ext w w3:=hE2.step hc23 fun i hi=>by have hi:i=k2:=hi;omega
 have kget:∀(u:B_) (t:Nat),Chg (·=k3) w3 u->t<9->u.cell? ⟨k2,t,none⟩=some (aa (kL.getD t 0)):=fun u t hc ht=>(hK3.chg hc (by show¬k2=k3;omega)).cell (bz (by simpa[kL]using ht))
 refine⟨fun vs u=>∃x:Nat,vs=[aa (x:Nat)]/\x<=8/\Chg (·=k3) w3 u/\Cs u k3 (aB 64 (gV x 0)),fun vs _=>match vs with|[.int _ x]=>(8-x:Int).toNat|_=>0,⟨0,rfl,by omega,Chg.refl _ _,hC33⟩,fun n1 w4 hI=>?_⟩
 obtain⟨x,hv,hx,hc4,hC4⟩:=hI;obtain rfl:n1=(x:Nat):=by simpa using hv
 refine ak (fun hlt=>?_) fun hge=>?_
 ·have hlt:x<8:=by have:=of_decide_eq_true hlt;omega
  have hl4:(aB 64 (gV x 0)).length=64:=bC _ _;rw[G_,af,I_,K_];have g3:=Cs.set1 hC4 (off:=x) (v:=aa 5793) (by omega)
  have g4:=Chg.setCells w4 ⟨k3,x,none⟩ [aa 5793] 0;have g3:Cs (ab w4 ⟨k3,x,none⟩ [aa 5793] 0) k3 (aB 64 (gV x 1)):=by
   rw[<-F6 hlt (show 0<8 by omega),Nat.mul_zero,I_];exact g3
  refine⟨by omega,by omega,by omega,by omega,⟨_,hC4.cell (i:=x) (O_ (by omega))⟩,hC4.frozen _,?_⟩
  refine⟨fun vs u=>∃r:Nat,vs=[aa (r:Nat)]/\1<=r/\r<=8/\Chg (·=k3) w3 u/\Cs u k3 (aB 64 (gV x r)),fun vs _=>match vs with|[.int _ r]=>(8-r:Int).toNat|_=>0,⟨1,rfl,by omega,by omega,hc4.trans g4 fun _ h _=>h,g3⟩,fun n2 w5 hI=>?_⟩
  obtain⟨r,hv,hr1,hr,hc5,hC5⟩:=hI;obtain rfl:n2=(r:Nat):=by simpa using hv
  refine ak (fun hlt2=>?_) fun hge2=>?_
  ·have hlt2:r<8:=by have:=of_decide_eq_true hlt2;omega
   have hl5:(aB 64 (gV x r)).length=64:=bC _ _;have hBM:BM r x=(if 8<min ((2*x+1)*r%32) (32-(2*x+1)*r%32)then -(kL.getD (16-min ((2*x+1)*r%32) (32-(2*x+1)*r%32)) 0)else kL.getD (min ((2*x+1)*r%32) (32-(2*x+1)*r%32)) 0):=by
    unfold BM;rw[if_neg (by omega)]
   have ht:(2*x+1)*r%32<32:=Nat.mod_lt _ (by omega)
   rw[Jb r hlt2 x hlt];generalize(2*x+1)*r%32=t at*;rw[ai (x:=32-(t:Int)),show min ((t:Nat):Int) (32-(t:Nat))=((min t (32-t):Nat):Int) by omega]
   have hm16:min t (32-t)<=16:=by omega
   generalize min t (32-t)=m at*;have hk:∀i,i<9->0<=kL.getD i 0/\kL.getD i 0<=8035:=by decide
   have loc:∀(v:Int),v=BM r x->Cs (ab w5.drew ⟨k3,8*r+x,none⟩ [aa v] 0) k3 (aB 64 (gV x (r+1)))/\Chg (·=k3) w3 (ab w5.drew ⟨k3,8*r+x,none⟩ [aa v] 0):=fun v hv=>by
    subst hv;have g5:=Cs.set1 hC5.drew (off:=8*r+x) (v:=aa (BM r x)) (by omega)
    rw[F6 hlt hlt2]at g5;exact⟨g5,(hc5.trans (Ext.refl w5).drew.chg fun _ h _=>h).trans (Chg.setCells _ _ _ _) fun _ h _=>h⟩
   have el:(({block:=k3,off:=0}:D_).add (r*8)).add x=⟨k3,8*r+x,none⟩:=by
    rw[af,af];congr 1;omega
   simp only[G_,el];refine⟨fun vs u=>vs=[]/\Chg (·=k3) w3 u/\Cs u k3 (aB 64 (gV x (r+1))),?_,fun w6 hI=>?_⟩
   ·refine ak (fun h8=>?_) fun h8=>?_
    ·have h8:8<m:=by have:=of_decide_eq_true h8;omega
     rw[if_pos h8]at hBM;rw[ai (x:=16-(m:Int)),show(16:Int)-(m:Nat)=((16-m:Nat):Int) by omega,G_]
     have hk2:=hk (16-m) (by omega)
     refine⟨by omega,by omega,kL.getD (16-m) 0,?_,by omega,by omega,by omega,by omega,⟨_,hC5.drew.cell (i:=8*r+x) (O_ (by omega))⟩,hC5.drew.frozen _,?_⟩
     ·rw[af,I_,K_];exact kget w5.drew (16-m) (hc5.trans (Ext.refl w5).drew.chg fun _ h _=>h) (by omega)
     ·rw[ai (by omega) (by omega),d_]
      have:=loc _ hBM.symm;exact⟨rfl,this.2,this.1⟩
    ·have h8:¬8<m:=by have:=of_decide_eq_false h8;omega
     rw[if_neg h8]at hBM;refine⟨by omega,by omega,kL.getD m 0,?_,by omega,by omega,by omega,by omega,⟨_,hC5.drew.cell (i:=8*r+x) (O_ (by omega))⟩,hC5.drew.frozen _,?_⟩
     ·rw[af,I_,K_];exact kget w5.drew m (hc5.trans (Ext.refl w5).drew.chg fun _ h _=>h) (by omega)
     ·have:=loc _ hBM.symm
      exact⟨rfl,this.2,this.1⟩
   ·obtain⟨-,hc6,hC6⟩:=hI
    rw[ai (x:=(r:Int)+1)];exact⟨⟨r+1,rfl,by omega,hlt2,hc6,hC6⟩,by show((8:Int)-((r:Int)+1)).toNat<((8:Int)-r).toNat;omega⟩
  ·have hge2:r=8:=by have:=of_decide_eq_false hge2;omega
   subst hge2;rw[Lm]at hC5;rw[ai (x:=(x:Int)+1)];exact⟨⟨x+1,rfl,hlt,hc5,hC5⟩,by show((8:Int)-((x:Int)+1)).toNat<((8:Int)-x).toNat;omega⟩
 ·have hge:x=8:=by have:=of_decide_eq_false hge;omega
  subst hge;rw[LK]at hC4;have hl:(ii cw).length=64:=by rw[aG];rfl
  have hK1:Cs w4 k1 (J_ 64 (aa 0)):=hC13.chg hc4 (by show¬k1=k3;omega)
  have g1:=Cs.set hK1 (off:=0) (us:=ii cw) (by rw[hl,A_A];omega)
  have g2:=Chg.setCells w4 ⟨k1,0,none⟩ (ii cw) 0;have g1:Cs (ab w4 ⟨k1,0,none⟩ (ii cw) 0) k1 (ii cw):=by
   have e:(J_ 64 (aa 0)).take 0++ii cw++(J_ 64 (aa 0)).drop (0+(ii cw).length)=ii cw:=by
    rw[hl,a_ (by simp)];simp
   rw[e]at g1;exact g1
  refine⟨ii cw,hl,Cs.cellsAt hC4,aY (by rw[fE,hl];rfl) ⟨hK1.canSet (by simp),ii cw,hl,Cs.cellsAt g1,hR _ ?_⟩⟩
  refine(hE3.step hc4 fun i hi=>by have hi:i=k3:=hi;omega).step g2 fun i hi=>?_
  have hi:i=k1:=hi;omega
def HW(q1:aj)(vs1:List C_)(w:B_)(R:bV):Prop:=
 ∀k1 w1,(aK w (R_ vs1.toArray 236) k1 w1)->∀k2 w2,(aK w1 (R_ IJ 149) k2 w2)->∃(I1:aw) (m1:List C_->B_->Nat),(I1 [aa 0] w2)/\∀n1 w3,(I1 [aa n1] w3)->ae (decide (n1<8)) (nn (q1) fun a1=>cO (some a1) (64) (A_.wrap (8*n1)) (A_.wrap (A_.wrap (8*n1)+8)) (1) fun p1 k3 k4=>(8<=k3)/\nn (p1) fun a2=>∃n2 n3 n4 n5 n6 n7 n8 n9:Int,(w3.cell? a2=some (aa n2))/\(w3.cell? (a2.add 1)=some (aa n3))/\(w3.cell? (a2.add 2)=some (aa n4))/\(w3.cell? (a2.add 3)=some (aa n5))/\(w3.cell? (a2.add 4)=some (aa n6))/\(w3.cell? (a2.add 5)=some (aa n7))/\(w3.cell? (a2.add 6)=some (aa n8))/\(w3.cell? (a2.add 7)=some (aa n9))/\∀k5,w3.heap.size<=k5->∃(I2:aw) (m2:List C_->B_->Nat),(∀w4,Locl [k5] w3 w4->I2 [aa 0] w4)/\∀n10 w5,(I2 [aa n10] w5)->ae (decide (n10<8)) (∃I3:aw,∃m3:List C_->B_->Nat,(I3 [aa 0,aa 0] w5)/\∀n11 n12 w6,(I3 [aa n11,aa n12] w6)->ae (decide (n12<8)) ((0<=n12)/\(n12<8)/\∃n13:Int,([H_ .i64 n2,H_ .i64 n3,H_ .i64 n4,H_ .i64 n5,H_ .i64 n6,H_ .i64 n7,H_ .i64 n8,H_ .i64 n9][n12.toNat]?=some (H_ .i64 n13))/\(0<=n10)/\(n10<8)/\(0<=n12)/\(n12<8)/\∃n14,(w6.cell? (({block:=k1,off:=0:D_}.add (n10.toNat*8)).add (n12.toNat*1))=some (aa n14))/\(I3 [aa (A_.wrap (n11+A_.wrap (n14*n13))),aa (A_.wrap (n12+1))] w6)/\m3 [aa (A_.wrap (n11+A_.wrap (n14*n13))),aa (A_.wrap (n12+1))] w6<m3 [aa n11,aa n12] w6) ((0<=A_.wrap (A_.wrap (8*n10)+n1))/\(A_.wrap (A_.wrap (8*n10)+n1)<64)/\aI w6 ({block:=k2,off:=0:D_}.add ((A_.wrap (A_.wrap (8*n10)+n1)).toNat*1)) [aa n11] fun u1=>(¬({block:=k2,off:=0:D_}.add ((A_.wrap (A_.wrap (8*n10)+n1)).toNat*1)).block∈[k5])/\(I2 [aa (A_.wrap (n10+1))] u1)/\m2 [aa (A_.wrap (n10+1))] u1<m2 [aa n10] w5)) ((I1 [aa (A_.wrap (n1+1))] w5)/\m1 [aa (A_.wrap (n1+1))] w5<m1 [aa n1] w3)) (R (.returned (.pointer (aH k2))) w3)
theorem DS(q1:aj)(vs1:List C_)(w:B_)(R:bV)(h:HW q1 vs1 w R):F_ P 171 #[.pointer q1,.agg vs1.toArray] w R:=
  aF (ac:=Il) Tryz.func171 h
theorem JE(v:C_):∀n,cY n [v]=J_ n v
 |0=>rfl
 |n+1=>by simp[cY,JE v n,List.replicate_succ]
def jP(f:Nat->Int)(x u i:Nat):C_:=aa (if i%8<x\/i%8=x/\i/8<u then f i else 0)
theorem LM(f:Nat->Int):aB 64 (jP f 8 0)=ii ((N_ 64).map f):=by
 unfold aB ii;rw[o_];apply Y_;intro i hi;have hi:=List.mem_range.1 hi;show jP f 8 0 i=aa _;unfold jP;rw[if_pos (by omega)]
theorem Le(f:Nat->Int):aB 64 (jP f 0 0)=J_ 64 (aa 0):=by
 unfold aB;refine S_ (by simp) fun i h1 h2=>?_
 rw[T_,p_];unfold jP;rw[if_neg (by omega)]
theorem M3{f:Nat->Int}{x u:Nat}(hx:x<8)(hu:u<8):(aB 64 (jP f x u)).set (8*u+x) (aa (f (8*u+x)))=aB 64 (jP f x (u+1)):=by
 refine dx ?_ fun j _ hj=>?_
 ·unfold jP
  rw[if_pos (by omega)]
 ·unfold jP
  by_cases h:j%8<x\/j%8=x/\j/8<u
  ·rw[if_pos h,if_pos (by omega)]
  ·rw[if_neg h,if_neg (by omega)]
theorem Lf(f:Nat->Int)(x:Nat):aB 64 (jP f x 8)=aB 64 (jP f (x+1) 0):=by
 refine cN fun i hi=>?_;unfold jP;by_cases h:i%8<x+1
 ·rw[if_pos (by omega),if_pos (.inl h)]
 ·rw[if_neg (by omega),if_neg (by omega)]
theorem MU(l:List Int):fA l=(N_ 64).map fun i=>SI (fun j=>BM (i/8) j*l.getD (8*(i%8)+j) 0) 8:=rfl
theorem sU{l:List Int}{c:Int}(h:∀x,x∈l-> -c<=x/\x<=c)(hc:0<=c)(i:Nat): -c<=l.getD i 0/\l.getD i 0<=c:=by
 rcases U_ i l.length with h'|h'
 ·exact h _ (eX h')
 ·rw[P_,q_ h'];show -c<=0/\0<=c;omega
theorem EY{a:D_}{l:List Int}{c:Int}(h:Sl N w (some a) (ii l))(hl:l.length=64)(hc:∀i, -c<=l.getD i 0/\l.getD i 0<=c)(hc2:c<=2^40)
 (hR:∀b w',Ext w w'->Cs w' b (ii (fA l))->w.heap.size<=b->R (.returned (.pointer (some ⟨b,0,none⟩))) w'):F_ P 171 #[.pointer (some a),.agg (ii cw).toArray] w R:=by
 refine DS _ _ _ _ ?_;intro k1 w1 hn1 k2 w2 hn2;have e1:=hn1.1;have s1:=hn1.size;have e2:=hn2.1;have s2:=hn2.size;have z1:=hn1.ext.size;have z2:=hn2.ext.size;have hC1:Cs w2 k1 (ii cw):=by have:=hn1.cs.ext hn2.ext;simpa using this
 have hE2:=hn1.ext.trans hn2.ext;have hc0:0<=c:=by have:=hc 0;omega
 generalize hf:(fun i:Nat=>SI (fun j=>BM (i/8) j*l.getD (8*(i%8)+j) 0) 8)=f;have hfi:∀i,f i=SI (fun j=>BM (i/8) j*l.getD (8*(i%8)+j) 0) 8:=fun i=>by rw[<-hf]
 have hC2:Cs w2 k2 (aB 64 (jP f 0 0)):=by rw[Le];exact hn2.cs
 have hbl:cw.length=64:=rfl;have hS:∀u,Chg (·=k2) w2 u->Sl N u (some a) (ii l):=fun u hu=>h.ext (hE2.step hu fun i hi=>by have hi:i=k2:=hi;omega)
 refine⟨fun vs u=>∃r:Nat,vs=[aa (r:Nat)]/\r<=8/\Chg (·=k2) w2 u/\Cs u k2 (aB 64 (jP f r 0)),fun vs _=>match vs with|[.int _ r]=>(8-r:Int).toNat|_=>0,⟨0,rfl,by omega,Chg.refl _ _,hC2⟩,fun n1 w3 hI=>?_⟩
 obtain⟨r,hv,hr,hc3,hC3⟩:=hI;obtain rfl:n1=(r:Nat):=by simpa using hv
 refine ak (fun hlt=>?_) fun hge=>?_
 rotate_left
 ·have hge:r=8:=by have:=of_decide_eq_false hge;omega
  subst hge;rw[LM,<-hf,<-MU]at hC3;exact hR k2 w3 (hE2.step hc3 fun i hi=>by have hi:i=k2:=hi;omega) hC3 (by omega)
 have hlt:r<8:=by have:=of_decide_eq_true hlt;omega
 refine ap rfl ?_;rw[ai (x:=8*(r:Int)),ai (x:=8*(r:Int)+8)];have hS3:=hS w3 hc3;refine⟨by omega,by omega,by omega,by omega,?_⟩
 have hpart:Sl N w3 (aX (some a) (8*(r:Int)).toNat 64 1) ((ii l).drop (8*r)):=by
  rw[show(8*(r:Int)).toNat=8*r by omega]
  exact hS3.part (by rw[aG];omega) (z_ _)
 have hb64:aX (some a) (8*(r:Int)).toNat 64 1=some (a.add (8*r)):=by
  unfold aX;rw[if_neg (by omega),Option.map_some,K_,show(8*(r:Int)).toNat=8*r by omega]
 rw[hb64]at hpart⊢;refine ap rfl ?_;have hcell:∀j,j<8->w3.cell? ((a.add (8*r)).add j)=some (aa (l.getD (8*r+j) 0)):=fun j hj=>by
  obtain⟨a',h1,_,h3⟩:=hpart j (aa (l.getD (8*r+j) 0)) (by rw[List.getElem?_drop];exact bz (by omega))
  cases h1;exact h3
 refine⟨_,_,_,_,_,_,_,_,by have:=hcell 0 (by omega);rwa[eg]at this,hcell 1 (by omega),hcell 2 (by omega),hcell 3 (by omega),hcell 4 (by omega),hcell 5 (by omega),hcell 6 (by omega),hcell 7 (by omega),?_⟩
 intro k5 hk5;have hrow:∀j,j<8->[aa (l.getD (8*r+0) 0),aa (l.getD (8*r+1) 0),aa (l.getD (8*r+2) 0),aa (l.getD (8*r+3) 0),aa (l.getD (8*r+4) 0),aa (l.getD (8*r+5) 0),aa (l.getD (8*r+6) 0),aa (l.getD (8*r+7) 0)][j]?=some (aa (l.getD (8*r+j) 0)):=fun j hj=>by
  have:j=0\/j=1\/j=2\/j=3\/j=4\/j=5\/j=6\/j=7:=by omega
  rcases this with rfl|rfl|rfl|rfl|rfl|rfl|rfl|rfl<;>rfl
 refine⟨fun vs u=>∃k:Nat,vs=[aa (k:Nat)]/\k<=8/\Chg (·=k2) w2 u/\Cs u k2 (aB 64 (jP f r k)),fun vs _=>match vs with|[.int _ r]=>(8-r:Int).toNat|_=>0,fun w4 hL=>?_,fun n10 w5 hI=>?_⟩
 ·have hE:Ext w3 w4:=hL.ext fun b hb=>by have hb:b=k5:=(by simpa using hb);omega
  exact⟨0,rfl,by omega,hc3.trans hE.chg fun _ h _=>h,hC3.ext hE⟩
 obtain⟨k,hv,hk,hc5,hC5⟩:=hI;obtain rfl:n10=(k:Nat):=by simpa using hv
 refine ak (fun hlt2=>?_) fun hge2=>?_
 rotate_left
 ·have hge2:k=8:=by have:=of_decide_eq_false hge2;omega
  subst hge2;rw[Lf]at hC5;rw[ai (x:=(r:Int)+1)];exact⟨⟨r+1,rfl,hlt,hc5,hC5⟩,by show((8:Int)-((r:Int)+1)).toNat<((8:Int)-r).toNat;omega⟩
 have hlt2:k<8:=by have:=of_decide_eq_true hlt2;omega
 have hfe:f (8*k+r)=SI (fun j=>BM k j*l.getD (8*r+j) 0) 8:=by rw[hfi,show(8*k+r)/8=k by omega,show(8*k+r)%8=r by omega]
 have hbd:∀n,n<=8-> -(64280*c)<=SI (fun j=>BM k j*l.getD (8*r+j) 0) n/\SI (fun j=>BM k j*l.getD (8*r+j) 0) n<=64280*c:=fun n hn=>by
  have:=IV hc (8*k+r) (by omega) n hn
  rwa[show(8*k+r)/8=k by omega,show(8*k+r)%8=r by omega]at this
 refine⟨fun vs u=>∃(n:Nat),vs=[aa (SI (fun j=>BM k j*l.getD (8*r+j) 0) n),aa (n:Nat)]/\n<=8/\u=w5,fun vs _=>match vs with|[_,.int _ r]=>(8-r:Int).toNat|_=>0,⟨0,rfl,by omega,rfl⟩,fun n11 n12 w6 hI=>?_⟩
 obtain⟨n,hv,hn,rfl⟩:=hI;simp only[L_,M_,true_and,and_true]at hv;obtain⟨rfl,rfl⟩:=hv;refine ak (fun hlt3=>?_) fun hge3=>?_
 ·have hlt3:n<8:=by have:=of_decide_eq_true hlt3;omega
  refine⟨by omega,by omega,l.getD (8*r+n) 0,by rw[G_];exact hrow n hlt3,by omega,by omega,by omega,by omega,BM k n,?_,?_⟩
  ·rw[af,af,G_,G_,K_,I_,<-Gg hlt2 hlt3,Nat.mul_comm k 8]
   exact(hC1.chg hc5 (by show¬k1=k2;omega)).cell (bz (by rw[hbl];omega))
  ·have b1:=hbd (n+1) (by omega)
   have b0:=hbd n (by omega)
   have eS:SI (fun j=>BM k j*l.getD (8*r+j) 0) (n+1)=SI (fun j=>BM k j*l.getD (8*r+j) 0) n+BM k n*l.getD (8*r+n) 0:=rfl;rw[eS]at b1;generalize hS0:SI (fun j=>BM k j*l.getD (8*r+j) 0) n=S0 at*;generalize hm:BM k n*l.getD (8*r+n) 0=m at*;rw[ai (x:=m),ai (x:=S0+m),ai (x:=(n:Int)+1)];exact⟨⟨n+1,by rw[eS];rfl,hlt3,rfl⟩,by show((8:Int)-((n:Int)+1)).toNat<((8:Int)-n).toNat;omega⟩
 ·have hge3:n=8:=by have:=of_decide_eq_false hge3;omega
  subst hge3;rw[<-hfe];have hl5:(aB 64 (jP f r k)).length=64:=bC _ _;rw[ai (x:=8*(k:Int)),ai (x:=8*(k:Int)+r),show 8*((k:Nat):Int)+(r:Nat)=((8*k+r:Nat):Int) by omega,G_,af,I_,K_]
  have g1:=Cs.set1 hC5 (off:=8*k+r) (v:=aa (f (8*k+r))) (by omega)
  have g2:=Chg.setCells w6 ⟨k2,8*k+r,none⟩ [aa (f (8*k+r))] 0;rw[M3 hlt hlt2]at g1;have hk25:¬k2=k5:=by have:=hc3.size;omega
  rw[ai (x:=(k:Int)+1)];exact⟨by omega,by omega,⟨_,hC5.cell (i:=8*k+r) (O_ (by omega))⟩,hC5.frozen _,by simpa using hk25,⟨k+1,rfl,hlt2,hc5.trans g2 fun _ h _=>h,g1⟩,by show((8:Int)-((k:Int)+1)).toNat<((8:Int)-k).toNat;omega⟩
theorem Bl{l:List Int}{c:Int}(h:∀i, -c<=l.getD i 0/\l.getD i 0<=c)(i:Nat): -(64280*c)<=(fA l).getD i 0/\(fA l).getD i 0<=64280*c:=by
 have hc:0<=c:=by have:=h 0;omega
 rcases U_ i 64 with h'|h'
 ·rw[xx l h'];exact IV h i h' 8 (by omega)
 ·rw[P_,q_ (by rw[ye];exact h')];show -(64280*c)<=0/\0<=64280*c;omega
theorem MV{l:List Int}(hi:i<64){c:Int}(hc:∀i, -c<=l.getD i 0/\l.getD i 0<=c)(hc2:c<=2^20):an .shr .i64 (A_.wrap ((fA (fA l)).getD i 0+134217728)) 28=(da l).getD i 0:=by
 have b:=Bl (Bl hc) i;have hc0:0<=c:=by have:=hc 0;omega
 rw[ai (by omega) (by omega),O9 l hi,Ge l hi,Int.add_comm]
 show Int.fdiv _ (2^28)=_;rw[B_A _ (by decide)]
 rfl
theorem L8{l:List Int}{c:Int}{cap:Nat}(h:Sl N w p (ii l))(hl:l.length=64)(hc:∀i, -c<=l.getD i 0/\l.getD i 0<=c)(hc2:c<=2^20)
 (hR:∀b cp w',Fg [] w w' 1 b 64 cp (ii (da l))->R (.returned (.slice b 64 cp)) w'):F_ P 146 #[.slice p 64 cap,.agg (ii cw).toArray,.func (.func 148) #[] #[]] w R:=by
 refine D9 _ _ _ _ _ _ _ ?_;intro k1 w1 hn1;refine⟨by omega,by omega,by omega,by omega,?_⟩
 intro k2 w2 hn2;have e1:=hn1.1;have s1:=hn1.size;have e2:=hn2.1;have s2:=hn2.size;have z1:=hn1.ext.size;have z2:=hn2.ext.size;have hC1:Cs w2 k1 (ii cw):=by have:=hn1.cs.ext hn2.ext;simpa using this
 have hE2:=hn1.ext.trans hn2.ext;have hc0:0<=c:=by have:=hc 0;omega
 obtain⟨a,hpa⟩:∃a,p=some a:=by
  obtain⟨a,h1,_⟩:=h 0 _ (bz (by omega));exact⟨a,h1⟩
 subst hpa;refine⟨by omega,ii cw,rfl,Cs.cellsAt hC1,ii cw,rfl,Cs.cellsAt hC1,?_⟩
 refine EY (h.ext (hE2.trans (Ext.refl w2).drew)) hl hc (by omega) fun b1 w3 hE3 hB1 hb1=>⟨_,rfl,hE3.keeps,?_⟩
 have hl1:=ye l;refine EY (N:=b1+1) (hB1.sl (off:=0) (z_ _) (by omega)) hl1 (Bl hc) (by omega) fun b2 w4 hE4 hB2 hb2=>⟨_,rfl,?_⟩
 have hl2:=ye (fA l);have hE24:Ext w2 w4:=((Ext.refl w2).drew.trans hE3).trans hE4;have hC2:Cs w4 k2 (ii []++J_ 64 (aa 0)):=(by have:=hn2.cs;rw[iL]at this;simpa[ii,JE]using this:Cs w2 k2 (ii []++J_ 64 (aa 0))).ext hE24
 have hO:Ow w1.heap.size w2.heap.size w4 (some ⟨k2,0,none⟩) 0 64 1 (ii []):=⟨rfl,by omega,.inr ⟨k2,_,by omega,by omega,rfl,by simp[ii],hC2⟩⟩
 have hB2s:b2<w4.heap.size:=hB2.lt;have hz3:=hE3.size;have hz4:=hE4.size;have hz3':w2.heap.size<=w3.heap.size:=hz3;have hF:Fg [b2] w w4 1 (some ⟨k2,0,none⟩) 0 64 (ii ((da l).take 0)):=
  Fg.of_owB (hE2.trans hE24) (hO.owB hE24.size) (fun i hi=>t_ z1 hi.1) (fun b hb hS=>by have hb:b=b2:=(by simpa using hb);have:=hS.2;omega)
   (fun b hb=>by have hb:b=b2:=(by simpa using hb);omega)
 have hll:(da l).length=64:=pW l;refine⟨fun vs u=>∃(b:Option D_) (cp n:Nat),vs=[.slice b n cp,aa (n:Nat)]/\n<=64/\Fg [b2] w u 1 b n cp (ii ((da l).take n))/\Cs u b2 (ii (fA (fA l))),fun vs _=>match vs with|[_,.int _ r]=>(64-r:Int).toNat|_=>0,⟨_,_,0,rfl,by omega,hF,hB2⟩,fun p3 k3 k4 n1 w5 hI=>?_⟩
 obtain⟨b,cp,n,hv,hn,hF5,hB5⟩:=hI;simp only[L_,M_,C_.slice.injEq,true_and,and_true]at hv;obtain⟨⟨rfl,rfl,rfl⟩,rfl⟩:=hv;refine ak (fun hlt=>?_) fun hge=>?_
 ·have hlt:k3<64:=by have:=of_decide_eq_true hlt;omega
  refine ap rfl ⟨by omega,by omega,(fA (fA l)).getD k3 0,?_,?_⟩
  ·rw[af,G_,K_,I_]
   exact hB5.cell (bz (by rw[hl2];exact hlt))
  rw[MV hlt hc hc2];refine mI (by kernel_rfl) (td _ _ _ ⟨_,rfl,?_⟩)
  intro k5 hk5 w7 hL;have hF7:=hF5.push hL fun b hb=>.inr (by have hb:b=k5:=(by simpa using hb);omega)
  have hB7:=hB5.locl hL (by have:=hB5.lt;simp;omega)
  refine hF7.app' (by simp[am]) rfl rfl (by omega) (by omega) fun b' c' w8 hF8 hK hz=>?_
  have hB8:Cs w8 b2 (ii (fA (fA l))):=hB7.same (hK b2 (by simp) hB7.lt).2
  rw[ai (x:=(k3:Int)+1)];refine⟨⟨_,_,k3+1,rfl,hlt,?_,hB8⟩,by show((64:Int)-((k3:Int)+1)).toNat<((64:Int)-k3).toNat;omega⟩
  have e:ii ((da l).take (k3+1))=ii ((da l).take k3)++[aa ((da l).getD k3 0)]:=by
   rw[N_A,rz,P_,O_ (by omega)];rfl
  rw[e];exact hF8.mono (by simp)
 ·have hge:k3=64:=by have:=of_decide_eq_false hge;omega
  subst hge;rw[e_ (by omega)]at hF5
  exact hR _ _ _ hF5.weak
theorem G6{l:List Int}{cap:Nat}(h:Sl N w p (ii l))(hl:l.length=64)(hc:∀x,x∈l-> -256<=x/\x<=256)
 (hR:∀b cp w',Fg [] w w' 1 b 64 cp (ii (da l))->R (.returned (.tuple #[.slice b 64 cp,aa 0])) w'):F_ P 115 #[.slice p 64 cap] w R:=by
 refine zB _ _ _ _ _ ?_;refine An h hl (fun x hx=>by have:=hc x hx;omega) ⟨_,rfl,al rfl ?_⟩
 refine KN fun w2 hE=>⟨_,rfl,rfl,?_⟩;exact L8 (h.ext hE) hl (sU hc (by omega)) (by omega) fun b cp w3 hF=>⟨_,_,_,rfl,hR b cp w3 (hF.pre hE)⟩
end Go.Proofs.YtoomejkiagonpaaGreatDoor
namespace Go.Qn
variable {w u w' : B_} {R : Ending -> B_ -> Prop} {n i b k N m j M : Nat} {vs fs zero : List C_} {p q : Option D_} {e : TypeId} {v : C_} {xs bs : List Int} {l av : List Nat} {Z D : Nat -> Prop} {x : Int} {F : Option D_ -> Nat -> Nat -> B_ -> Prop}
def zS(c q:Int):Int:=if c<0 then -((q-2*c)/(2*q))else(2*c+q)/(2*q)
def fy(f q:List Int):List Int:=(N_ 64).map fun i=>zS (f.getD i 0) (q.getD i 0)
def mc(i:Nat)(x:Int):Int:=min (max x (if i=0 then -1024 else -1023)) 1023
def lN(l q:List Int):List Int:=(N_ 64).map fun i=>mc i ((fy (da l) q).getD i 0)
def nE(quality:Int):Int:=if quality<50 then 5000/quality else 200-2*quality
def vM(quality:Int)(chroma:Bool)(i:Nat):Int:=min (max ((((if chroma then 12 else 10)+(if chroma then 6 else 3)*((i/8+i%8:Nat):Int))*nE quality+50)/100) 1) 255
def cC(quality:Int)(chroma:Bool):List Int:=(N_ 64).map (vM quality chroma)
theorem eL(f:Nat->Int):((N_ 64).map f).length=64:=by simp
theorem yw(f:Nat->Int)(h:i<64):((N_ 64).map f).getD i 0=f i:=by
 rw[P_,Z_,n_ h];rfl
theorem xN{f:Nat->Int}(h:x∈(N_ 64).map f):∃i,i<64/\x=f i:=by
 obtain⟨i,hi,rfl⟩:=List.mem_map.1 h;exact⟨i,List.mem_range.1 hi,rfl⟩
theorem EB{q:Int}(h1:1<=q)(h2:q<=100):0<=nE q/\nE q<=5000:=by
 unfold nE
 split
 ·have:=Int.ediv_le_self (a:=5000) q (by omega)
  have:=i_ (a:=5000) (b:=q) (by omega) (by omega)
  omega
 ·omega
theorem pk{q:Int}{c:Bool}:∀x,x∈cC q c->1<=x/\x<=255:=fun x hx=>by
 obtain⟨i,hi,rfl⟩:=xN hx;unfold vM;omega
theorem GO{c q m:Int}(hm:0<=m)(h: -m<=c/\c<=m)(hq:1<=q): -(m+1)<=zS c q/\zS c q<=m+1:=by
 unfold zS;have hq2:0<2*q:=by omega
 split
 ·have h1:(q-2*c)/(2*q)<=m+1:=by
   have:(q-2*c)/(2*q)<m+2:=by
    rw[O_A hq2];have:(m+2)*1<=(m+2)*q:=C_A hq (by omega)
    have e:(m+2)*(2*q)=2*((m+2)*q):=by rw[<-b_,V_ (m+2) 2,b_]
    have e2:(m+2)*q=(m+1)*q+q:=by rw[show m+2=(m+1)+1 by omega,w_];omega
    have:(m+1)*1<=(m+1)*q:=C_A hq (by omega)
    omega
   omega
  have h2:0<=(q-2*c)/(2*q):=i_ (by omega) (by omega)
  omega
 ·have h1:(2*c+q)/(2*q)<=m+1:=by
   have:(2*c+q)/(2*q)<m+2:=by
    rw[O_A hq2];have e:(m+2)*(2*q)=2*((m+2)*q):=by rw[<-b_,V_ (m+2) 2,b_]
    have e2:(m+2)*q=(m+1)*q+q:=by rw[show m+2=(m+1)+1 by omega,w_];omega
    have:(m+1)*1<=(m+1)*q:=C_A hq (by omega)
    omega
   omega
  have h2:0<=(2*c+q)/(2*q):=i_ (by omega) (by omega)
  omega
theorem EK(i:Nat)(x:Int): -1024<=mc i x/\mc i x<=1023/\(i≠0-> -1023<=mc i x):=by
 unfold mc
 split<;>omega
theorem MJ(l q:List Int):(lN l q).length=64:=eL _
theorem OP{f:Nat->Int}{c:Int}(h:∀i,i<8-> -c<=f i/\f i<=c): -(8*c)<=SI f 8/\SI f 8<=8*c:=B4 (n:=8) h
theorem DH{l:List Int}{c:Int}(h:∀i, -c<=l.getD i 0/\l.getD i 0<=c)(hc2:c<=32768):∀x,x∈da l-> -1048576<=x/\x<=1048576:=fun x hx=>by
 obtain⟨i,hi,rfl⟩:=xN hx;have hc:0<=c:=by have:=h 0;omega
 have b: -(8*(8*(8035*8035*c)))<=xH l i/\xH l i<=8*(8*(8035*8035*c)):=OP fun y hy=>OP fun x hx=>lK (lK (gG _ (by omega) _ hx) (gG _ (by omega) _ hy)) (h _)
 omega
end Go.Qn
namespace Go.Proofs.YtoomejkiagonpaaGreatDoor
open Go Go.Vc Go.RowKit Go.Qn
variable {w u w' : B_} {R : Ending -> B_ -> Prop} {n i b k N m j M : Nat} {vs fs zero : List C_} {p q : Option D_} {e : TypeId} {v : C_} {xs bs : List Int} {l av : List Nat} {Z D : Nat -> Prop} {x : Int} {F : Option D_ -> Nat -> Nat -> B_ -> Prop}
def iu(f:Nat->Int)(n i:Nat):C_:=aa (if i<n then f i else 0)
theorem xJ(m:Nat)(f:Nat->Int):aB m (iu f m)=ii ((N_ m).map f):=by
 unfold aB ii;rw[o_];apply Y_;intro i hi;have hi:=List.mem_range.1 hi;show iu f m i=aa _;unfold iu;rw[if_pos hi]
theorem xD(m:Nat)(f:Nat->Int):aB m (iu f 0)=J_ m (aa 0):=by
 unfold aB;refine S_ (by simp) fun i h1 h2=>?_
 rw[T_,p_];unfold iu;rw[if_neg (by omega)]
theorem AL{f:Nat->Int}:(aB m (iu f n)).set n (aa (f n))=aB m (iu f (n+1)):=by
 refine dx ?_ fun j _ hj=>?_
 ·unfold iu
  rw[if_pos (by omega)]
 ·unfold iu
  by_cases h:j<n
  ·rw[if_pos h,if_pos (by omega)]
  ·rw[if_neg h,if_neg (by omega)]
theorem aK.zeros(h:aK w (.cells (bg [v] n) e (0,0)) b w'):Cs w' b (J_ n v):=by
 have:=h.cs;rwa[iL,JE]at this
theorem NM{w1 w2:B_}{o:Obj}{len:Nat}(hE:Ext w w1)(hn:aK w1 o k w2)(hc:Chg (·=k) w2 u)(hC:Cs u k vs)(hl:len=vs.length):Fg [] w u 1 (some ⟨k,0,none⟩) len len vs:=by
 have e:=hn.1;have s:=hn.size;have z:=hE.size;have zc:=hc.size;refine Fg.of_owB (S:=fun i=>i=k) ((hE.trans hn.ext).step hc fun i hi=>by have hi:i=k:=hi;omega) ⟨⟨by omega,Q_ _,.inr ⟨k,[],rfl,rfl,by simp;omega,by simpa using hC⟩⟩,fun i hi=>?_⟩ (fun i hi=>by have hi:i=k:=hi;omega) (by simp) (by simp)
 have hi:i=k:=hi;omega
theorem Ka{q:Int}{ch:Bool}(h1:1<=q)(h2:q<=100)
 (hR:∀b cp w',Fg [] w w' 1 b 64 cp (ii (cC q ch))->R (.returned (.tuple #[.slice b 64 cp,aa 0])) w'):F_ P 61 #[aa q,.bool ch] w R:=by
 refine Ci _ _ _ _ ?_;refine al (by simp;omega) ?_
 have hs:=EB h1 h2;refine⟨fun vs u=>vs=[aa (nE q)]/\u=w,?_,fun n1 w1 hI=>?_⟩
 ·unfold nE
  refine ak (fun h=>?_) fun h=>?_
  ·have h:q<50:=of_decide_eq_true h
   rw[if_pos h];exact⟨by omega,by rw[lM (by omega) (by omega) h1],rfl⟩
  ·have h:¬q<50:=of_decide_eq_false h
   rw[if_neg h,ai (x:=2*q),ai (by omega) (by omega)]
   exact⟨rfl,rfl⟩
 obtain⟨hv,rfl⟩:=hI;obtain rfl:n1=nE q:=by simpa using hv
 refine⟨fun vs u=>vs=[aa (if ch then 12 else 10),aa (if ch then 6 else 3)]/\u=w1,?_,fun n2 n3 w2 hI=>?_⟩
 ·cases ch<;>exact⟨rfl,rfl⟩
 obtain⟨hv,rfl⟩:=hI;simp only[L_,M_,true_and,and_true]at hv;obtain⟨hn2,hn3⟩:=hv;refine⟨by omega,by omega,by omega,by omega,?_⟩
 intro k1 w3 hn;have e1:=hn.1;have s1:=hn.size;have hC3:Cs w3 k1 (aB 64 (iu (vM q ch) 0)):=by rw[xD];exact aK.zeros hn
 refine⟨fun vs u=>∃n:Nat,vs=[aa (n:Nat)]/\n<=64/\Chg (·=k1) w3 u/\Cs u k1 (aB 64 (iu (vM q ch) n)),fun vs _=>match vs with|[.int _ r]=>(64-r:Int).toNat|_=>0,⟨0,rfl,by omega,Chg.refl _ _,hC3⟩,fun n4 w4 hI=>?_⟩
 obtain⟨n,hv,hn',hc4,hC4⟩:=hI;obtain rfl:n4=(n:Nat):=by simpa using hv
 refine ak (fun hlt=>?_) fun hge=>?_
 ·have hlt:n<64:=by have:=of_decide_eq_true hlt;omega
  have hl4:(aB 64 (iu (vM q ch) n)).length=64:=bC _ _;have g1:=Cs.set1 hC4 (off:=n) (v:=aa (vM q ch n)) (by omega)
  have g2:=Chg.setCells w4 ⟨k1,n,none⟩ [aa (vM q ch n)] 0;rw[AL]at g1;have hval:min (max (ad .quo .i64 (A_.wrap (A_.wrap (A_.wrap (n2+A_.wrap (n3*A_.wrap (ad .quo .i64 ((n:Nat):Int) 8+ad .rem .i64 ((n:Nat):Int) 8)))*nE q)+50)) 100) 1) 255=vM q ch n:=by
   rw[lM (a:=((n:Nat):Int)) (b:=8) (by omega) (by omega) (by omega),O7 (a:=((n:Nat):Int)) (by omega)]
   unfold vM;rw[show((n/8+n%8:Nat):Int)=((n:Nat):Int)/8+((n:Nat):Int)%8 by omega]
   generalize hm:((n:Nat):Int)/8+((n:Nat):Int)%8=m;have hm0:0<=m/\m<=14:=by omega
   rw[ai (x:=m)];generalize nE q=s at*;have hb:∀a b:Int,0<=a/\a<=12->0<=b/\b<=6->n2=a->n3=b->min (max (ad .quo .i64 (A_.wrap (A_.wrap (A_.wrap (n2+A_.wrap (n3*m))*s)+50)) 100) 1) 255=min (max (((a+b*m)*s+50)/100) 1) 255:=by
    intro a b ha hb e1 e2;subst e1 e2;have p1:0<=n3*m:=X_ hb.1 hm0.1;have p2:n3*m<=6*14:=D_A (c_ hb.2 hm0.1) (by omega)
    have q1:0<=(n2+n3*m)*s:=X_ (by omega) hs.1
    have q2:(n2+n3*m)*s<=96*5000:=D_A (c_ (show n2+n3*m<=96 by omega) hs.1) (by omega)
    rw[ai (x:=n3*m),ai (x:=n2+n3*m),ai (x:=(n2+n3*m)*s),ai (by omega) (by omega),lM (by omega) (by omega) (by omega)]
   refine hb _ _ ?_ ?_ hn2 hn3<;>cases ch<;>decide
  refine bo (by omega) (by omega) rfl ?_
  rw[hval,G_,af,I_,K_,ai (x:=(n:Int)+1)];exact⟨⟨_,hC4.cell (i:=n) (O_ (by omega))⟩,hC4.frozen _,⟨n+1,rfl,hlt,hc4.trans g2 fun _ h _=>h,g1⟩,by show((64:Int)-((n:Int)+1)).toNat<((64:Int)-n).toNat;omega⟩
 ·have hge:n=64:=by have:=of_decide_eq_false hge;omega
  subst hge;rw[xJ]at hC4;exact hR _ _ _ (NM (Ext.refl _) hn hc4 hC4 (by rw[aG];exact(eL _).symm))
theorem ON{c q:Int}(hc: -1048576<=c/\c<=1048576)(hq:1<=q/\q<=65535)(hR:R (.returned (aa (zS c q))) w):F_ P 150 #[aa c,aa q] w R:=by
 refine tU _ _ _ _ ?_;have hb:=GO (m:=1048576) (by omega) hc hq.1
 unfold zS at hR hb;rw[ol,ai (x:=2*q),ai (x:=2*c)];refine ak (fun h=>?_) fun h=>?_
 ·have h:c<0:=of_decide_eq_true h
  rw[if_pos h]at hR hb;rw[ai (x:=q-2*c),lM (by omega) (by omega) (by omega),ai (by omega) (by omega),d_]
  exact⟨by omega,hR⟩
 ·have h:¬c<0:=of_decide_eq_false h
  rw[if_neg h]at hR hb;rw[ai (x:=2*c+q),lM (by omega) (by omega) (by omega)]
  exact⟨by omega,hR⟩
theorem HY{N':Nat}{l t:List Int}{cap cq:Nat}(h:Sl N w p (ii l))(hl:l.length=64)(hc:∀x,x∈l-> -1048576<=x/\x<=1048576)
 (h':Sl N' w q (ii t))(hl':t.length=64)(hc':∀x,x∈t->1<=x/\x<=65535)
 (hR:∀b cp w',Fg [] w w' 1 b 64 cp (ii (fy l t))->R (.returned (.tuple #[.slice b 64 cp,aa 0])) w'):F_ P 116 #[.slice p 64 cap,.slice q 64 cq] w R:=by
 refine Aw _ _ _ _ _ _ _ _ ?_;refine FL _ _ _ _ _ _ _ _ _ _ ?_;refine al (by decide) ?_
 refine An h' hl' (fun x hx=>hc' x hx) ⟨_,rfl,al rfl ?_⟩;refine An h hl (fun x hx=>by have:=hc x hx;exact⟨this.1,this.2⟩) ⟨_,rfl,al rfl ?_⟩
 refine⟨by omega,by omega,by omega,by omega,?_⟩
 intro k1 w3 hn;have e1:=hn.1;have s1:=hn.size;generalize hf:(fun i=>zS (l.getD i 0) (t.getD i 0))=f;have hfi:∀i,f i=zS (l.getD i 0) (t.getD i 0):=fun i=>by rw[<-hf]
 have hC3:Cs w3 k1 (aB 64 (iu f 0)):=by rw[xD];exact aK.zeros hn
 refine⟨fun vs u=>∃n:Nat,vs=[aa (n:Nat)]/\n<=64/\Chg (·=k1) w3 u/\Cs u k1 (aB 64 (iu f n)),fun vs _=>match vs with|[.int _ r]=>(64-r:Int).toNat|_=>0,⟨0,rfl,by omega,Chg.refl _ _,hC3⟩,fun n4 w4 hI=>?_⟩
 obtain⟨n,hv,hn',hc4,hC4⟩:=hI;obtain rfl:n4=(n:Nat):=by simpa using hv
 have hE4:Ext w w4:=hn.ext.step hc4 fun i hi=>by have hi:i=k1:=hi;omega
 refine ak (fun hlt=>?_) fun hge=>?_
 ·have hlt:n<64:=by have:=of_decide_eq_true hlt;omega
  have hE4d:Ext w w4.drew:=hE4.trans (Ext.refl w4).drew;have hl4:(aB 64 (iu f n)).length=64:=bC _ _;refine(h.ext hE4d).get (by omega) (by rw[aG,hl]) (bz (by omega)) fun a ha=>⟨_,ha,?_⟩
  refine(h'.ext hE4d).get (by omega) (by rw[aG,hl']) (bz (by omega)) fun a2 ha2=>⟨_,ha2,?_⟩
  rw[G_];refine mI (by kernel_rfl) (ON (hc _ (eX (by omega))) (hc' _ (eX (by omega))) ⟨_,rfl,?_⟩)
  rw[<-hfi];have g1:=Cs.set1 hC4.drew (off:=n) (v:=aa (f n)) (by omega)
  have g2:=Chg.setCells w4.drew ⟨k1,n,none⟩ [aa (f n)] 0;rw[AL]at g1;refine bo (by omega) (by omega) rfl ?_
  rw[G_,af,I_,K_,ai (x:=(n:Int)+1)];exact⟨⟨_,hC4.drew.cell (i:=n) (O_ (by omega))⟩,hC4.drew.frozen _,⟨n+1,rfl,hlt,hc4.drew.trans g2 fun _ h _=>h,g1⟩,by show((64:Int)-((n:Int)+1)).toNat<((64:Int)-n).toNat;omega⟩
 ·have hge:n=64:=by have:=of_decide_eq_false hge;omega
  subst hge;rw[xJ,<-hf]at hC4;exact⟨_,_,_,_,rfl,hR _ _ _ (NM (Ext.refl _) hn hc4 hC4 (by rw[aG];exact(eL _).symm))⟩
def gU(f g:Nat->Int)(n:Nat):List Int:=(N_ 64).map fun i=>if i<n then f i else g i
theorem AS{f g:Nat->Int}(h:n<64):(ii (gU f g n)).set n (aa (f n))=ii (gU f g (n+1)):=by
 refine S_ (by simp[gU,ii]) fun i h1 h2=>?_
 have h3:i<64:=by simpa[gU,ii]using h2
 rw[F_A];simp only[ii,gU,T_,j_];by_cases e:n=i
 ·subst e;rw[if_pos rfl,if_pos (by omega)]
 ·rw[if_neg e]
  by_cases h:i<n
  ·rw[if_pos h,if_pos (by omega)]
  ·rw[if_neg h,if_neg (by omega)]
theorem Ez(f:Nat->Int){l:List Int}(h:l.length=64):gU f (fun i=>l.getD i 0) 0=l:=by
 refine S_ (by simp[gU,h]) fun i h1 h2=>?_
 simp only[gU,T_,j_];rw[if_neg (by omega),P_,O_ h2];rfl
theorem ED(f g:Nat->Int):gU f g 64=(N_ 64).map f:=by
 refine S_ (by simp[gU]) fun i h1 h2=>?_
 simp only[gU,T_,j_];rw[if_pos (by simpa using h2)]
theorem Jx{N':Nat}{l t:List Int}{cap cq:Nat}(h:Sl N w p (ii l))(hl:l.length=64)(hc:∀x,x∈l-> -256<=x/\x<=256)
 (h':Sl N' w q (ii t))(hl':t.length=64)(hc':∀x,x∈t->1<=x/\x<=65535)
 (hR:∀b cp w',Fg [] w w' 1 b 64 cp (ii (lN l t))->R (.returned (.slice b 64 cp)) w'):F_ P 63 #[.slice p 64 cap,.slice q 64 cq] w R:=by
 refine AW _ _ _ _ _ _ _ _ ?_;refine G6 h hl hc fun b1 c1 w1 hF1=>⟨_,_,_,_,rfl,?_⟩;have hE1:=hF1.ext;refine HY hF1.sl (pW l) (DH (sU (c:=256) hc (by omega)) (by omega)) (h'.ext hE1) hl' hc' fun b2 c2 w2 hF2=>⟨_,_,_,_,rfl,?_⟩
 generalize hf:(fun i=>mc i ((fy (da l) t).getD i 0))=f;have hfi:∀i,f i=mc i ((fy (da l) t).getD i 0):=fun i=>by rw[<-hf]
 have hlD:(fy (da l) t).length=64:=eL _;have hF2':=hF2.pre hE1;rw[<-Ez f hlD]at hF2';generalize hg:(fun i=>(fy (da l) t).getD i 0)=g at hF2';have hgi:∀i,g i=(fy (da l) t).getD i 0:=fun i=>by rw[<-hg]
 have hln:∀n,(ii (gU f g n)).length=64:=fun n=>by rw[aG];simp[gU]
 refine⟨fun vs u=>∃n:Nat,vs=[aa (n:Nat)]/\n<=64/\Fg [] w u 1 b2 64 c2 (ii (gU f g n)),fun vs _=>match vs with|[.int _ r]=>(64-r:Int).toNat|_=>0,⟨0,rfl,by omega,hF2'⟩,fun n4 w4 hI=>?_⟩
 obtain⟨n,hv,hn',hF4⟩:=hI;obtain rfl:n4=(n:Nat):=by simpa using hv
 refine ak (fun hlt=>?_) fun hge=>?_
 ·have hlt:n<64:=by have:=of_decide_eq_true hlt;omega
  refine⟨fun vs u=>vs=[aa (if n=0 then -1024 else -1023)]/\u=w4,?_,fun n5 w5 hI=>?_⟩
  ·refine ak (fun h=>?_) fun h=>?_
   ·have h:n=0:=by have:((n:Nat):Int)=0:=(by simpa using h);omega
    rw[if_pos h];exact⟨rfl,rfl⟩
   ·have h:¬n=0:=by have:¬((n:Nat):Int)=0:=(by simpa using h);omega
    rw[if_neg h];exact⟨rfl,rfl⟩
  obtain⟨hv,rfl⟩:=hI;obtain rfl:n5=if n=0 then -1024 else -1023:=by simpa using hv
  refine hF4.sl.get (v:=aa (g n)) (by omega) (hln n) (by rw[G_];simp[ii,gU,hlt]) fun a ha=>⟨_,ha,?_⟩
  have hfn:min (max (g n) (if n=0 then -1024 else -1023)) 1023=f n:=by rw[hfi,hgi];rfl
  rw[hfn,ai (x:=(n:Int)+1)];obtain⟨b,rfl,_,_,hcell,hfz,hset⟩:=hF4.set1 (i:=n) (by rw[hln];exact hlt) (by omega)
  refine bo (by omega) (by omega) rfl ?_
  rw[G_,af,I_,K_];have hs:=(hset (aa (f n))).1;rw[AS hlt]at hs;exact⟨hcell,hfz,⟨n+1,rfl,hlt,hs⟩,by show((64:Int)-((n:Int)+1)).toNat<((64:Int)-n).toNat;omega⟩
 ·have hge:n=64:=by have:=of_decide_eq_false hge;omega
  subst hge;rw[ED,<-hf]at hF4;exact hR _ _ _ hF4
def Ax(sa1:aj)(sl1 sc1:Nat)(w:B_)(R:bV):Prop:=
 F_ P 68 #[.slice sa1 sl1 sc1,aa (-32768),aa 32767] w fun e1 w1=>∃n1,(e1=.returned (aa n1))/\ae (n1 !=0) (R (aM #[.slice none 0 0,aa n1]) w1) (F_ P 69 #[] w1 fun e2 w2=>∃l1:List C_,(l1.length=64)/\(e2=.returned (.agg l1.toArray))/\∀k1 w3,(aK w2 (R_ IJ 149) k1 w3)->ae (aN l1&&l1.length.beq 64) ((dq w3 ({block:=k1,off:=0}) (64))/\∃(I1:aw) (m1:List C_->B_->Nat),(I1 [.slice none 0 0,aa 0] (ab w3 {block:=k1,off:=0} l1 0))/\∀p1 k2 k3 n2 w4,(I1 [.slice p1 k2 k3,aa n2] w4)->ae (decide (n2<8)) (∃I2:aw,∃m2:List C_->B_->Nat,(I2 [.slice p1 k2 k3,aa 0] w4)/\∀p2 k4 k5 n3 w5,(I2 [.slice p2 k4 k5,aa n3] w5)->ae (decide (n3<8)) (∃I3:aw,∃m3:List C_->B_->Nat,(I3 [aa 134217728,aa 0] w5)/\∀n4 n5 w6,(I3 [aa n4,aa n5] w6)->ae (decide (n5<8)) (∃I4:aw,∃m4:List C_->B_->Nat,(I4 [aa n4,aa 0] w6)/\∀n6 n7 w7,(I4 [aa n6,aa n7] w7)->ae (decide (n7<8)) ((0<=A_.wrap (A_.wrap (8*n3)+n7))/\(A_.wrap (A_.wrap (8*n3)+n7)<64)/\∃n8,(w7.drew.cell? ({block:=k1,off:=0:D_}.add ((A_.wrap (A_.wrap (8*n3)+n7)).toNat*1))=some (aa n8))/\(0<=A_.wrap (A_.wrap (8*n2)+n5))/\(A_.wrap (A_.wrap (8*n2)+n5)<64)/\∃n9,(w7.drew.cell? ({block:=k1,off:=0:D_}.add ((A_.wrap (A_.wrap (8*n2)+n5)).toNat*1))=some (aa n9))/\aq (sa1) (sl1) (A_.wrap (A_.wrap (8*n5)+n7)) (1) fun a1=>∃n10,(w7.drew.cell? a1=some (aa n10))/\(I4 [aa (A_.wrap (n6+A_.wrap (A_.wrap (n8*n9)*n10))),aa (A_.wrap (n7+1))] w7.drew)/\m4 [aa (A_.wrap (n6+A_.wrap (A_.wrap (n8*n9)*n10))),aa (A_.wrap (n7+1))] w7.drew<m4 [aa n6,aa n7] w7) ((I3 [aa n6,aa (A_.wrap (n5+1))] w7)/\m3 [aa n6,aa (A_.wrap (n5+1))] w7<m3 [aa n4,aa n5] w6)) (F_ P 70 #[aa n4] w6 fun e3 w8=>∃n11,(e3=.returned (aa n11))/\∀k6,w8.heap.size<=k6->∀w9,Locl [k6] w8 w9->ay (w9) ([(60,k6,[aa n11])]) (p2) (k4) (k5) (1) (1) (8) (3) ([aa 0]) ([aa n11]) fun p3 k7 k8 w10=>(I2 [.slice p3 k7 k8,aa (A_.wrap (n3+1))] w10)/\m2 [.slice p3 k7 k8,aa (A_.wrap (n3+1))] w10<m2 [.slice p2 k4 k5,aa n3] w5)) ((I1 [.slice p2 k4 k5,aa (A_.wrap (n2+1))] w5)/\m1 [.slice p2 k4 k5,aa (A_.wrap (n2+1))] w5<m1 [.slice p1 k2 k3,aa n2] w4)) (R (aM #[.slice p1 k2 k3,aa 0]) w4)) (False))
theorem wc(sa1:aj)(sl1 sc1:Nat)(w:B_)(R:bV)(h:Ax sa1 sl1 sc1 w R):F_ P 23 #[.slice sa1 sl1 sc1] w R:=
  aF (ac:=Ak) Tryz.func23 h
theorem Ou{l:List Int}(h:n<l.length):ii (l.take n)++[aa (l.getD n 0)]=ii (l.take (n+1)):=by
 rw[N_A,rz,P_,O_ h];rfl
theorem Fg.num{base:Option D_}{cap:Nat}{t:List Int}{v:Int}{k5:Nat}{u2:B_}{tag:Nat}
 (h:Fg [] w u 1 base n cap (ii (t.take n)))(hn:n<t.length)(hv:v=t.getD n 0)(hs:t.length<2^40)(hk:u.heap.size<=k5)(hL:Locl [k5] u u2)
 (hF:∀b c u3,Fg [] w u3 1 b (n+1) c (ii (t.take (n+1)))->Ext u u3\/True->F b (n+1) c u3):
  ay u2 [(tag,k5,[aa v])] base n cap 1 1 8 3 [aa 0] [aa v] F:=by
 subst hv;have h7:=h.push hL fun b hb=>.inr (by have hb:b=k5:=(by simpa using hb);omega)
 refine h7.app' (by simp[am]) rfl rfl (by omega) (by omega) fun b' c' w8 h8 _ _=>?_
 rw[Ou hn]at h8;exact hF _ _ _ h8.weak (.inr trivial)
theorem Iq{q:Int}{ch:Bool}(h1:1<=q)(h2:q<=100)
 (hR:∀b cp w',Fg [] w w' 1 b 64 cp (ii (cC q ch))->R (.returned (.tuple #[.slice b 64 cp,aa 0])) w'):F_ P 20 #[aa q,.bool ch] w R:=by
 refine ze _ _ _ _ ?_;refine al (by simp;omega) ?_
 have hs:=EB h1 h2;have hln:(cC q ch).length=64:=eL _;refine⟨fun vs u=>vs=[aa (nE q)]/\u=w,?_,fun n1 w1 hI=>?_⟩
 ·unfold nE
  refine ak (fun h=>?_) fun h=>?_
  ·have h:q<50:=of_decide_eq_true h
   rw[if_pos h];exact⟨by omega,by rw[lM (by omega) (by omega) h1],rfl⟩
  ·have h:¬q<50:=of_decide_eq_false h
   rw[if_neg h,ai (x:=2*q),ai (by omega) (by omega)]
   exact⟨rfl,rfl⟩
 obtain⟨hv,rfl⟩:=hI;obtain rfl:n1=nE q:=by simpa using hv
 refine⟨fun vs u=>∃(b:Option D_) (cp n:Nat),vs=[.slice b (8*n) cp,aa (n:Nat)]/\n<=8/\Fg [] w1 u 1 b (8*n) cp (ii ((cC q ch).take (8*n))),fun vs _=>match vs with|[_,.int _ r]=>(8-r:Int).toNat|_=>0,⟨none,0,0,rfl,by omega,Fg.nil (Ext.refl _) 1⟩,fun p1 k1 k2 n2 w2 hI=>?_⟩
 obtain⟨b,cp,y,hv,hy,hF2⟩:=hI;simp only[L_,M_,C_.slice.injEq,true_and,and_true]at hv;obtain⟨⟨rfl,rfl,rfl⟩,rfl⟩:=hv;refine ak (fun hlt=>?_) fun hge=>?_
 rotate_left
 ·have hge:y=8:=by have:=of_decide_eq_false hge;omega
  subst hge;rw[e_ (by omega)]at hF2
  exact hR _ _ _ hF2
 have hlt:y<8:=by have:=of_decide_eq_true hlt;omega
 refine⟨fun vs u=>∃(b:Option D_) (cp n:Nat),vs=[.slice b (8*y+n) cp,aa (n:Nat)]/\n<=8/\Fg [] w1 u 1 b (8*y+n) cp (ii ((cC q ch).take (8*y+n))),fun vs _=>match vs with|[_,.int _ r]=>(8-r:Int).toNat|_=>0,⟨_,_,0,rfl,by omega,hF2⟩,fun p2 k3 k4 n3 w3 hI=>?_⟩
 obtain⟨b,cp,x,hv,hx,hF3⟩:=hI;simp only[L_,M_,C_.slice.injEq,true_and,and_true]at hv;obtain⟨⟨rfl,rfl,rfl⟩,rfl⟩:=hv;refine ak (fun hlt2=>?_) fun hge=>?_
 rotate_left
 ·have hge:x=8:=by have:=of_decide_eq_false hge;omega
  subst hge;rw[ai (x:=(y:Int)+1)];exact⟨⟨_,_,y+1,rfl,hlt,hF3⟩,by show((8:Int)-((y:Int)+1)).toNat<((8:Int)-y).toNat;omega⟩
 have hlt2:x<8:=by have:=of_decide_eq_true hlt2;omega
 refine⟨fun vs u=>∃(b:Option D_) (cp:Nat),vs=[.slice b (8*y+x+1) cp]/\Fg [] w1 u 1 b (8*y+x+1) cp (ii ((cC q ch).take (8*y+x+1))),?_,fun p6 k14 k15 w11 hI=>?_⟩
 rotate_left
 ·obtain⟨b,cp,hv,hF⟩:=hI
  simp only[L_,C_.slice.injEq,and_true]at hv;obtain⟨rfl,rfl,rfl⟩:=hv;rw[ai (x:=(x:Int)+1)];exact⟨⟨_,_,x+1,rfl,hlt2,hF⟩,by show((8:Int)-((x:Int)+1)).toNat<((8:Int)-x).toNat;omega⟩
 have hm:A_.wrap (((x:Nat):Int)+((y:Nat):Int))=((y+x:Nat):Int):=by rw[ai (by omega) (by omega)];omega
 rw[hm];have hyx:y+x<=14:=by omega
 have hqi:(cC q ch).getD (8*y+x) 0=vM q ch (8*y+x):=yw _ (by omega)
 have hqv:vM q ch (8*y+x)=min (max ((((if ch then 12 else 10)+(if ch then 6 else 3)*((y+x:Nat):Int))*nE q+50)/100) 1) 255:=by
  unfold vM;rw[show(8*y+x)/8=y by omega,show(8*y+x)%8=x by omega]
 refine⟨fun vs u=>vs=[aa ((if ch then 12 else 10)+(if ch then 6 else 3)*((y+x:Nat):Int))]/\u=w3,?_,fun n4 w4 hI=>?_⟩
 ·cases ch
  ·refine al rfl ⟨?_,rfl⟩
   rw[ai (x:=3*((y+x:Nat):Int)),ai (by omega) (by omega)];rfl
  ·refine aY rfl ⟨?_,rfl⟩
   rw[ai (x:=6*((y+x:Nat):Int)),ai (by omega) (by omega)];rfl
 obtain⟨hv,rfl⟩:=hI;simp only[L_,M_,true_and,and_true]at hv;have hr:0<=n4/\n4<=96:=by
  rw[hv];cases ch<;>simp<;>omega
 rw[<-hv]at hqv;have q1:0<=n4*nE q:=X_ hr.1 hs.1;have q2:n4*nE q<=96*5000:=D_A (c_ hr.2 hs.1) (by omega)
 rw[ai (x:=n4*nE q),ai (by omega) (by omega),lM (by omega) (by omega) (by omega)]
 generalize(n4*nE q+50)/100=z at*;refine ak (fun hz=>?_) fun hz=>?_
 ·have hz:z<1:=of_decide_eq_true hz
  intro k5 hk5 w5 hL;exact Fg.num hF3 (by omega) (by rw[hqi,hqv];omega) (by omega) hk5 hL fun b c u hF _=>⟨_,_,rfl,hF⟩
 have hz:¬z<1:=of_decide_eq_false hz;refine ak (fun hz2=>?_) fun hz2=>?_
 ·have hz2:z>255:=of_decide_eq_true hz2
  intro k5 hk5 w5 hL;exact Fg.num hF3 (by omega) (by rw[hqi,hqv];omega) (by omega) hk5 hL fun b c u hF _=>⟨_,_,rfl,hF⟩
 ·have hz2:¬z>255:=of_decide_eq_false hz2
  intro k5 hk5 w5 hL;exact Fg.num hF3 (by omega) (by rw[hqi,hqv];omega) (by omega) hk5 hL fun b c u hF _=>⟨_,_,rfl,hF⟩
theorem GR{N':Nat}{l t:List Int}{cap cq:Nat}(h:Sl N w p (ii l))(hl:l.length=64)(hc:∀x,x∈l-> -1048576<=x/\x<=1048576)
 (h':Sl N' w q (ii t))(hl':t.length=64)(hc':∀x,x∈t->1<=x/\x<=65535)
 (hR:∀b cp w',Fg [] w w' 1 b 64 cp (ii (fy l t))->R (.returned (.tuple #[.slice b 64 cp,aa 0])) w'):F_ P 24 #[.slice p 64 cap,.slice q 64 cq] w R:=by
 refine xW _ _ _ _ _ _ _ _ ?_;refine al (by decide) ?_
 refine sf h' hl' (fun x hx=>hc' x hx) ⟨_,rfl,al rfl ?_⟩;refine sf h hl (fun x hx=>by have:=hc x hx;exact⟨this.1,this.2⟩) ⟨_,rfl,al rfl ?_⟩
 have hln:(fy l t).length=64:=eL _;refine⟨fun vs u=>∃(b:Option D_) (cp n:Nat),vs=[.slice b n cp,aa (n:Nat)]/\n<=64/\Fg [] w u 1 b n cp (ii ((fy l t).take n)),fun vs _=>match vs with|[_,.int _ r]=>(64-r:Int).toNat|_=>0,⟨none,0,0,rfl,by omega,Fg.nil (Ext.refl _) 1⟩,fun p1 k1 k2 n3 w3 hI=>?_⟩
 obtain⟨b,cp,n,hv,hn,hF⟩:=hI;simp only[L_,M_,C_.slice.injEq,true_and,and_true]at hv;obtain⟨⟨rfl,rfl,rfl⟩,rfl⟩:=hv;refine ak (fun hlt=>?_) fun hge=>?_
 rotate_left
 ·have hge:k1=64:=by have:=of_decide_eq_false hge;omega
  subst hge;rw[e_ (by omega)]at hF
  exact hR _ _ _ hF
 have hlt:k1<64:=by have:=of_decide_eq_true hlt;omega
 have hv:(fy l t).getD k1 0=zS (l.getD k1 0) (t.getD k1 0):=yw _ hlt;refine⟨fun vs u=>∃(b:Option D_) (cp:Nat),vs=[.slice b (k1+1) cp]/\Fg [] w u 1 b (k1+1) cp (ii ((fy l t).take (k1+1))),?_,fun p6 k14 k15 w11 hI=>?_⟩
 rotate_left
 ·obtain⟨b,cp,hv,hF⟩:=hI
  simp only[L_,C_.slice.injEq,and_true]at hv;obtain⟨rfl,rfl,rfl⟩:=hv;rw[ai (x:=(k1:Int)+1)];exact⟨⟨_,_,k1+1,rfl,hlt,hF⟩,by show((64:Int)-((k1:Int)+1)).toNat<((64:Int)-k1).toNat;omega⟩
 have hS:=h.ext hF.ext;have hS':=h'.ext hF.dr.ext;have hcl:=hc _ (eX (l:=l) (i:=k1) (by omega))
 have hct:=hc' _ (eX (l:=t) (i:=k1) (by omega))
 have hb:=GO (m:=1048576) (by omega) hcl hct.1
 refine hS.get (by omega) (by rw[aG,hl]) (bz (by omega)) fun a ha=>⟨_,ha,?_⟩
 rw[G_];generalize l.getD k1 0=c at*;unfold zS at hv hb;refine ak (fun h=>?_) fun h=>?_
 ·have h:c<0:=of_decide_eq_true h
  rw[if_pos h]at hv hb;refine hS'.get (by omega) (by rw[aG,hl']) (bz (by omega)) fun a ha=>⟨_,ha,?_⟩
  refine hS'.get (by omega) (by rw[aG,hl']) (bz (by omega)) fun a ha=>⟨_,ha,?_⟩
  rw[G_];generalize t.getD k1 0=q at*;rw[ai (x:=2*q),ai (x:= -2*c),ai (x:= -2*c+q),lM (by omega) (by omega) (by omega)]
  have e: -2*c+q=q-2*c:=by omega
  rw[e,ai (by omega) (by omega),d_]
  refine⟨by omega,?_⟩
  intro k5 hk5 w5 hL;exact Fg.num hF.dr (by omega) hv.symm (by omega) hk5 hL fun b c u hF _=>⟨_,_,rfl,hF⟩
 ·have h:¬c<0:=of_decide_eq_false h
  rw[if_neg h]at hv hb;refine hS'.get (by omega) (by rw[aG,hl']) (bz (by omega)) fun a ha=>⟨_,ha,?_⟩
  refine hS'.get (by omega) (by rw[aG,hl']) (bz (by omega)) fun a ha=>⟨_,ha,?_⟩
  rw[G_];generalize t.getD k1 0=q at*;rw[ai (x:=2*q),ai (x:=2*c),ai (x:=2*c+q),lM (by omega) (by omega) (by omega)]
  refine⟨by omega,?_⟩
  intro k5 hk5 w5 hL;exact Fg.num hF.dr (by omega) hv.symm (by omega) hk5 hL fun b c u hF _=>⟨_,_,rfl,hF⟩
theorem FW{l:List Int}{cap:Nat}(h:Sl N w p (ii l))(hl:l.length=64)(hc:∀x,x∈l-> -256<=x/\x<=256)
 (hR:∀b cp w',Fg [] w w' 1 b 64 cp (ii (da l))->R (.returned (.tuple #[.slice b 64 cp,aa 0])) w'):F_ P 23 #[.slice p 64 cap] w R:=by
 refine wc _ _ _ _ _ ?_;refine sf h hl (fun x hx=>by have:=hc x hx;omega) ⟨_,rfl,al rfl ?_⟩
 refine KS fun w2 hE2=>⟨ii cw,rfl,rfl,?_⟩;intro k1 w3 hn;have e1:=hn.1;have s1:=hn.size;have hbl:(ii cw).length=64:=by rw[aG];rfl
 refine aY (by rw[fE,hbl];rfl) ?_
 have hC3:Cs w3 k1 (J_ 64 (aa 0)):=hn.cs;refine⟨hC3.canSet (by simp),?_⟩
 have g1:=Cs.set hC3 (off:=0) (us:=ii cw) (by rw[hbl,A_A];omega)
 have g2:=Chg.setCells w3 ⟨k1,0,none⟩ (ii cw) 0;have g1:Cs (ab w3 ⟨k1,0,none⟩ (ii cw) 0) k1 (ii cw):=by
  have e:(J_ 64 (aa 0)).take 0++ii cw++(J_ 64 (aa 0)).drop (0+(ii cw).length)=ii cw:=by
   rw[hbl,a_ (by simp)];simp
  rw[e]at g1;exact g1
 have hE3:Ext w2 (ab w3 ⟨k1,0,none⟩ (ii cw) 0):=hn.ext.step g2 fun i hi=>by have hi:i=k1:=hi;omega
 generalize hw0:ab w3 ⟨k1,0,none⟩ (ii cw) 0=w0 at*;have hE0:=hE2.trans hE3;have hll:(da l).length=64:=pW l;have hkw:=g1.lt;have hbas:∀u (i j:Nat),Ext w0 u->i<8->j<8->u.cell? ⟨k1,8*i+j,none⟩=some (aa (BM i j)):=fun u i j hu hi hj=>by
  rw[<-Gg hi hj];exact(g1.ext hu).cell (bz (by show 8*i+j<64;omega))
 refine⟨fun vs u=>∃(b:Option D_) (cp n:Nat),vs=[.slice b (8*n) cp,aa (n:Nat)]/\n<=8/\Fg [] w0 u 1 b (8*n) cp (ii ((da l).take (8*n))),fun vs _=>match vs with|[_,.int _ r]=>(8-r:Int).toNat|_=>0,⟨none,0,0,rfl,by omega,Fg.nil (Ext.refl _) 1⟩,fun p1 k2 k3 n2 w4 hI=>?_⟩
 obtain⟨b,cp,v,hv,hvn,hF4⟩:=hI;simp only[L_,M_,C_.slice.injEq,true_and,and_true]at hv;obtain⟨⟨rfl,rfl,rfl⟩,rfl⟩:=hv;refine ak (fun hlt=>?_) fun hge=>?_
 rotate_left
 ·have hge:v=8:=by have:=of_decide_eq_false hge;omega
  subst hge;rw[e_ (by omega)]at hF4
  exact hR _ _ _ (hF4.pre hE0)
 have hlt:v<8:=by have:=of_decide_eq_true hlt;omega
 refine⟨fun vs u=>∃(b:Option D_) (cp n:Nat),vs=[.slice b (8*v+n) cp,aa (n:Nat)]/\n<=8/\Fg [] w0 u 1 b (8*v+n) cp (ii ((da l).take (8*v+n))),fun vs _=>match vs with|[_,.int _ r]=>(8-r:Int).toNat|_=>0,⟨_,_,0,rfl,by omega,hF4⟩,fun p2 k4 k5 n3 w5 hI=>?_⟩
 obtain⟨b,cp,u,hv,hun,hF5⟩:=hI;simp only[L_,M_,C_.slice.injEq,true_and,and_true]at hv;obtain⟨⟨rfl,rfl,rfl⟩,rfl⟩:=hv;refine ak (fun hlt2=>?_) fun hge=>?_
 rotate_left
 ·have hge:u=8:=by have:=of_decide_eq_false hge;omega
  subst hge;rw[ai (x:=(v:Int)+1)];exact⟨⟨_,_,v+1,rfl,hlt,hF5⟩,by show((8:Int)-((v:Int)+1)).toNat<((8:Int)-v).toNat;omega⟩
 have hlt2:u<8:=by have:=of_decide_eq_true hlt2;omega
 have hE5:=hF5.ext;generalize hG:(fun y=>SI (fun x=>BM u x*BM v y*l.getD (8*y+x) 0) 8)=G;have hterm:∀y x,y<8->x<8-> -(8035*8035*256)<=BM u x*BM v y*l.getD (8*y+x) 0/\BM u x*BM v y*l.getD (8*y+x) 0<=8035*8035*256:=fun y x hy hx=>
  lK (lK (gG _ hlt2 _ hx) (gG _ hlt _ hy)) (sU hc (by omega) _)
 have hGi:∀y,G y=SI (fun x=>BM u x*BM v y*l.getD (8*y+x) 0) 8:=fun y=>by rw[<-hG]
 have hin:∀y n,y<8->n<=8-> -(8*(8035*8035*256))<=SI (fun x=>BM u x*BM v y*l.getD (8*y+x) 0) n/\SI (fun x=>BM u x*BM v y*l.getD (8*y+x) 0) n<=8*(8035*8035*256):=fun y n hy hn=>by
  have:=B4 (f:=fun x=>BM u x*BM v y*l.getD (8*y+x) 0) (c:=8035*8035*256) (n:=n) fun x hx=>hterm y x hy (by omega)
  omega
 have hout:∀n,n<=8-> -(8*(8*(8035*8035*256)))<=SI G n/\SI G n<=8*(8*(8035*8035*256)):=fun n hn=>by
  have:=B4 (f:=G) (c:=8*(8035*8035*256)) (n:=n) fun y hy=>by rw[hGi];exact hin y 8 (by omega) (by omega)
  omega
 refine⟨fun vs z=>∃n:Nat,vs=[aa (134217728+SI G n),aa (n:Nat)]/\n<=8/\Ext w5 z/\Fg [] w0 z 1 p2 (8*v+u) k5 (ii ((da l).take (8*v+u))),fun vs _=>match vs with|[_,.int _ r]=>(8-r:Int).toNat|_=>0,⟨0,rfl,by omega,Ext.refl _,hF5⟩,fun n4 n5 w6 hI=>?_⟩
 obtain⟨y,hv,hyn,hE6,hF6⟩:=hI;simp only[L_,M_,true_and,and_true]at hv;obtain⟨rfl,rfl⟩:=hv;refine ak (fun hlt3=>?_) fun hge=>?_
 rotate_left
 ·have hge:y=8:=by have:=of_decide_eq_false hge;omega
  subst hge;have hb:=hout 8 (by omega)
  refine LY (by omega) (by omega) ⟨_,rfl,?_⟩
  intro k6 hk6 w9 hL;have hval:(da l).getD (8*v+u) 0=(134217728+SI G 8)/268435456:=by
   rw[Ge l (by omega)]
   have:xH l (8*v+u)=SI G 8:=by
    unfold xH;rw[show(8*v+u)/8=v by omega,show(8*v+u)%8=u by omega,<-hG]
   rw[this]
  refine Fg.num hF6 (by omega) hval.symm (by omega) hk6 hL fun b c z hF _=>?_
  rw[ai (x:=(u:Int)+1)];exact⟨⟨_,_,u+1,rfl,hlt2,hF⟩,by show((8:Int)-((u:Int)+1)).toNat<((8:Int)-u).toNat;omega⟩
 have hlt3:y<8:=by have:=of_decide_eq_true hlt3;omega
 have hb:=hout y (by omega)
 refine⟨fun vs z=>∃n:Nat,vs=[aa (134217728+SI G y+SI (fun x=>BM u x*BM v y*l.getD (8*y+x) 0) n),aa (n:Nat)]/\n<=8/\Ext w5 z/\Fg [] w0 z 1 p2 (8*v+u) k5 (ii ((da l).take (8*v+u))),fun vs _=>match vs with|[_,.int _ r]=>(8-r:Int).toNat|_=>0,⟨0,by rw[SI,Int.add_zero];rfl,by omega,hE6,hF6⟩,fun n6 n7 w7 hI=>?_⟩
 obtain⟨x,hv,hxn,hE7,hF7⟩:=hI;simp only[L_,M_,true_and,and_true]at hv;obtain⟨rfl,rfl⟩:=hv;refine ak (fun hlt4=>?_) fun hge=>?_
 rotate_left
 ·have hge:x=8:=by have:=of_decide_eq_false hge;omega
  subst hge;rw[ai (x:=(y:Int)+1)];refine⟨⟨y+1,?_,hlt3,hE7,hF7⟩,by show((8:Int)-((y:Int)+1)).toNat<((8:Int)-y).toNat;omega⟩
  rw[<-hGi,SI,P_A];rfl
 have hlt4:x<8:=by have:=of_decide_eq_true hlt4;omega
 have hEx:Ext w0 w7.drew:=hF7.dr.ext;have hSx:=h.ext (hE0.trans hEx);rw[ai (x:=8*(u:Int)),ai (x:=8*(u:Int)+x),ai (x:=8*(v:Int)),ai (x:=8*(v:Int)+y),ai (x:=8*(y:Int)),ai (x:=8*(y:Int)+x),
  show 8*((u:Nat):Int)+(x:Nat)=((8*u+x:Nat):Int) by omega,show 8*((v:Nat):Int)+(y:Nat)=((8*v+y:Nat):Int) by omega,show 8*((y:Nat):Int)+(x:Nat)=((8*y+x:Nat):Int) by omega]
 simp only[G_,af,I_,K_];refine⟨by omega,by omega,BM u x,hbas _ u x hEx hlt2 hlt4,by omega,by omega,BM v y,hbas _ v y hEx hlt hlt3,?_⟩
 refine hSx.get (by omega) (by rw[aG,hl]) (bz (by omega)) fun a ha=>⟨_,ha,?_⟩
 rw[G_];have t1:=hterm y x hlt3 hlt4;have t2:=lK (gG _ hlt2 _ hlt4) (gG _ hlt _ hlt3);have t3:=hin y x hlt3 (by omega)
 have eS:SI (fun x=>BM u x*BM v y*l.getD (8*y+x) 0) (x+1)=SI (fun x=>BM u x*BM v y*l.getD (8*y+x) 0) x+BM u x*BM v y*l.getD (8*y+x) 0:=rfl;generalize SI (fun x=>BM u x*BM v y*l.getD (8*y+x) 0) x=S0 at*;generalize SI G y=S1 at*;rw[ai (x:=BM u x*BM v y)];generalize BM u x*BM v y*l.getD (8*y+x) 0=m at*;rw[ai (x:=m),ai (x:=134217728+S1+S0+m),ai (x:=(x:Int)+1)];exact⟨⟨x+1,by rw[eS,<-P_A];rfl,hlt4,hE7.trans (Ext.refl w7).drew,hF7.dr⟩,by show((8:Int)-((x:Int)+1)).toNat<((8:Int)-x).toNat;omega⟩
abbrev KT(c:Co):C_:=.agg #[au c.1,au c.2.1,au c.2.2.1,au c.2.2.2]
abbrev gH:=Int×Int×Int
abbrev OO(t:gH):C_:=.agg #[aa t.1,aa t.2.1,aa t.2.2]
def rq(d:Co):Int:=(19595*d.1+38470*d.2.1+7471*d.2.2.1+32768)/65536
theorem sJ{d:Co}(hd:nP d):0<=rq d/\rq d<=65535:=by
 obtain⟨h1,h2,h3,h4⟩:=hd;unfold rq vT at*;omega
theorem KU{d:Co}(hd:nP d)(hR:∀w',Ext w w'->R (.returned (au (rq d))) w'):F_ P 106 #[KT d] w R:=by
 refine AZ _ _ _ _ _ _ ?_;intro k1 hk1 w1 hL1 k2 w2 hn;have hE1:Ext w w1:=hL1.ext (by simpa using hk1)
 have t1:=hL1.there k1 (by simp)
 have hk2:=hn.1;have hs1:=hE1.size;have hs:=sJ hd;have hset:=hn.cs.set (off:=0) (us:=[aa 19595,aa 38470,aa 7471]) (by simp)
 have hset:Cs (ab w2 ⟨k2,0,none⟩ [aa 19595,aa 38470,aa 7471] 0) k2 [aa 19595,aa 38470,aa 7471]:=by simpa using hset
 have hC:=Chg.setCells w2 ⟨k2,0,none⟩ [aa 19595,aa 38470,aa 7471] 0;obtain⟨h1,h2,h3,h4⟩:=hd;refine⟨⟨_,hn.cs.cell (i:=0) rfl⟩,hn.cs.frozen 0,⟨_,hn.cs.cell (i:=1) rfl⟩,hn.cs.frozen 1,⟨_,hn.cs.cell (i:=2) rfl⟩,hn.cs.frozen 2,by simp;omega,by omega,by omega,_,hset.cell (i:=0) rfl,by omega,by omega,_,hset.cell (i:=1) rfl,by omega,by omega,_,hset.cell (i:=2) rfl,?_⟩
 unfold rq at hs hR;unfold vT at h1 h2 h3;rw[ai (x:=d.1),ai (x:=d.2.1),ai (x:=d.2.2.1),ai (x:=19595*d.1),ai (x:=38470*d.2.1),ai (x:=7471*d.2.2.1),ai (x:=19595*d.1+38470*d.2.1),ai (x:=19595*d.1+38470*d.2.1+7471*d.2.2.1),ai (x:=19595*d.1+38470*d.2.1+7471*d.2.2.1+32768)];have e:an .shr .i64 (19595*d.1+38470*d.2.1+7471*d.2.2.1+32768) 16=(19595*d.1+38470*d.2.1+7471*d.2.2.1+32768)/65536:=by
  simp only[an];rw[B_A _ (by decide)];rfl
 rw[e,OD (by omega) (by omega)]
 exact hR _ ((hE1.trans hn.ext).step hC fun i hi=>by have hi:i=k2:=hi;omega)
theorem J5{d:Co}(hd:nP d)(hR:∀w',Ext w w'->R (.returned (au (rq d))) w'):F_ P 65 #[KT d] w R:=by
 refine Aq _ _ _ _ _ _ ?_;intro k1 hk1 w1 hL1;have hs:=sJ hd;obtain⟨h1,h2,h3,h4⟩:=hd;unfold rq at hs hR;unfold vT at h1 h2 h3;rw[ai (x:=d.1),ai (x:=d.2.1),ai (x:=d.2.2.1),ai (x:=19595*d.1),ai (x:=38470*d.2.1),ai (x:=7471*d.2.2.1),ai (x:=19595*d.1+38470*d.2.1),ai (x:=19595*d.1+38470*d.2.1+7471*d.2.2.1),ai (x:=19595*d.1+38470*d.2.1+7471*d.2.2.1+32768),lM (by omega) (by omega) (by omega),OD (by omega) (by omega)]
 exact hR _ (hL1.ext (by simpa using hk1))
def kj(x:Int):Int:=min (max x 0) 255
theorem AA(h0:0<=x)(h1:x<=255):kj x=x:=by unfold kj;omega
theorem sC(x:Int):0<=kj x/\kj x<=255:=by unfold kj;omega
theorem oM(hR:R (.returned (aa (kj x))) w):F_ P 144 #[aa x] w R:=yW _ _ _ hR
theorem eV{m:Int}(hm:0<=m)(hR:R (.returned (aa (min (max x 0) m))) w):F_ P 25 #[aa x,aa m] w R:=by
 refine yV _ _ _ _ ?_;refine ak (fun h=>?_) fun h=>ak (fun h2=>?_) fun h2=>?_
 ·have h:x<0:=of_decide_eq_true h
  rwa[show min (max x 0) m=0 by omega]at hR
 ·have h:¬x<0:=of_decide_eq_false h
  have h2:x>m:=of_decide_eq_true h2;rwa[show min (max x 0) m=m by omega]at hR
 ·have h:¬x<0:=of_decide_eq_false h
  have h2:¬x>m:=of_decide_eq_false h2;rwa[show min (max x 0) m=x by omega]at hR
def wU(r g b:Int):gH:=(kj ((19595*r+38470*g+7471*b+32768)/65536),kj ((-11058*r+ -21710*g+32768*b+8421376)/65536),kj ((32768*r+ -27439*g+ -5329*b+8421376)/65536))
theorem wT{v:Int}(h0: -(2^40)<=v)(h1:v<=2^40)(hR:R (.returned (aa (v/65536))) w):F_ P 117 #[aa v,aa 65536] w R:=by
 refine Bm _ _ _ _ ?_;unfold vU;have hq:ad .rem .i64 v 65536=v.tmod 65536:=rfl;have e1:v=65536*v.tdiv 65536+v.tmod 65536:=(M_A v 65536).symm;have hm1:v.tmod 65536<65536:=x_ v (by omega)
 have hm0: -65536<v.tmod 65536:=by have:=y_ v (b:=65536) (by omega);omega
 have hd:ad .quo .i64 v 65536=v.tdiv 65536:=by
  show A_.wrap (v.tdiv 65536)=_;exact ai (by omega) (by omega)
 rw[hq,hd];generalize v.tmod 65536=m at*;generalize v.tdiv 65536=q at*;refine⟨by omega,by omega,ak (fun hlt=>?_) fun hge=>?_⟩
 ·have hlt:m<0:=of_decide_eq_true hlt
  rw[ai (x:=q-1)];rw[show v/65536=q-1 by omega]at hR
  exact hR
 ·have hge:¬m<0:=of_decide_eq_false hge
  rw[show v/65536=q by omega]at hR
  exact hR
theorem LN{r g b:Int}(hr:0<=r/\r<=255)(hg:0<=g/\g<=255)(hb:0<=b/\b<=255)
 (hR:R (.returned (.tuple #[aa (wU r g b).1,aa (wU r g b).2.1,aa (wU r g b).2.2])) w):F_ P 66 #[aa r,aa g,aa b] w R:=by
 refine BP _ _ _ _ _ ?_;refine eV (by omega) ⟨_,rfl,?_⟩
 refine eV (by omega) ⟨_,rfl,?_⟩
 refine eV (by omega) ⟨_,rfl,?_⟩
 rw[show min (max r 0) 255=r by omega,show min (max g 0) 255=g by omega,show min (max b 0) 255=b by omega]
 rw[ai (x:=19595*r),ai (x:=38470*g),ai (x:=7471*b),ai (x:=19595*r+38470*g),ai (x:=19595*r+38470*g+7471*b),ai (x:=19595*r+38470*g+7471*b+32768)];refine wT (by omega) (by omega) ⟨_,rfl,?_⟩
 rw[ai (x:=32768*b),ai (x:=11058*r),ai (x:=21710*g),ai (x:=32768*b-11058*r),ai (x:=32768*b-11058*r-21710*g),ai (x:=32768*b-11058*r-21710*g+8421376)];refine wT (by omega) (by omega) ⟨_,rfl,?_⟩
 rw[ai (x:=32768*r),ai (x:=27439*g),ai (x:=5329*b),ai (x:=32768*r-27439*g),ai (x:=32768*r-27439*g-5329*b),ai (x:=32768*r-27439*g-5329*b+8421376)];refine wT (by omega) (by omega) ⟨_,rfl,?_⟩
 refine eV (by omega) ⟨_,rfl,?_⟩
 refine eV (by omega) ⟨_,rfl,?_⟩
 refine eV (by omega) ⟨_,rfl,?_⟩
 unfold wU kj at hR;rw[show 32768*b-11058*r-21710*g+8421376= -11058*r+ -21710*g+32768*b+8421376 by omega,show 32768*r-27439*g-5329*b+8421376=32768*r+ -27439*g+ -5329*b+8421376 by omega]
 exact hR
def cU(grey:Bool)(c:Co):gH:=if grey then(wH (rq c) 255,0,0)else wU (wH c.1 255) (wH c.2.1 255) (wH c.2.2.1 255)
theorem Gq{g:Bool}{c:Co}(hc:nP c):(0<=(cU g c).1/\(cU g c).1<=255)/\(0<=(cU g c).2.1/\(cU g c).2.1<=255)/\(0<=(cU g c).2.2/\(cU g c).2.2<=255):=by
 unfold cU;cases g
 ·exact⟨sC _,sC _,sC _⟩
 ·have hl:=sJ hc
  exact⟨jl hl.1 hl.2 (by omega),by simp,by simp⟩
theorem H9{c:Co}{sub:Int}(hc:nP c)(hR:∀w',Ext w w'->R (.returned (OO (cU (sub==0) c))) w'):F_ P 21 #[KT c,aa sub] w R:=by
 refine zM _ _ _ _ _ _ _ ?_;intro k1 hk1 k2 hk2;have hl:=sJ hc;have hc':=hc;obtain⟨h1,h2,h3,h4⟩:=hc;unfold vT at h1 h2 h3;refine ak (fun h=>?_) fun h=>?_
 ·intro w1 hL1
  have hE1:Ext w w1:=hL1.ext (by simp;omega)
  refine J5 hc' fun w2 hE2=>⟨_,rfl,hE2.keep _,?_⟩;refine oF hl.1 hl.2 ⟨_,_,rfl,(Ext.refl _).keep _,fun w4 hL4=>?_⟩;have:=hR w4 ((hE1.trans hE2).step hL4.chg (by simp;omega))
  rw[h]at this;exact this
 ·intro w1 hL1
  have hE1:Ext w w1:=hL1.ext (by simp;omega)
  refine oF h1.1 h1.2 ⟨_,_,rfl,(Ext.refl _).keep _,?_⟩;refine oF h2.1 h2.2 ⟨_,_,rfl,(Ext.refl _).keep _,?_⟩;refine oF h3.1 h3.2 ⟨_,_,rfl,(Ext.refl _).keep _,?_⟩;refine LN (jl h1.1 h1.2 (by omega)) (jl h2.1 h2.2 (by omega)) (jl h3.1 h3.2 (by omega)) ⟨_,_,_,rfl,(Ext.refl _).keep _,fun w4 hL4=>?_⟩
  have:=hR w4 (hE1.step hL4.chg (by simp;omega))
  rw[h]at this;exact this
def GA(x1 x2 x3:Int)(w:B_)(R:bV):Prop:=
 F_ P 144 #[aa x1] w fun e1 w1=>∃n1,(e1=.returned (aa n1))/\F_ P 144 #[aa x2] w1 fun e2 w2=>∃n2,(e2=.returned (aa n2))/\F_ P 144 #[aa x3] w2 fun e3 w3=>∃n3,(e3=.returned (aa n3))/\∀k1,w3.heap.size<=k1->∀w4,Locl [k1] w3 w4->∀k2 w5,(aK w4 (R_ #[aa 0,aa 0,aa 0] 60) k2 w5)->∃(I1:aw) (m1:List C_->B_->Nat),(I1 [aa 0] w5)/\∀n4 w6,(I1 [aa n4] w6)->ae (decide (n4<3)) ((0<=n4)/\(n4<3)/\∃n5 n6 n7 n8:Int,(List.take 4 (List.drop (n4.toNat*4) [H_ .i64 19595,H_ .i64 38470,H_ .i64 7471,H_ .i64 32768,H_ .i64 (-11058),H_ .i64 (-21710),H_ .i64 32768,H_ .i64 8421376,H_ .i64 32768,H_ .i64 (-27439),H_ .i64 (-5329),H_ .i64 8421376])=[H_ .i64 n5,H_ .i64 n6,H_ .i64 n7,H_ .i64 n8])/\∀k3 w7,(aK w6 (R_ #[aa 0,aa 0,aa 0,aa 0] 231) k3 w7)->aI w7 {block:=k3,off:=0} [aa n5,aa n6,aa n7,aa n8] fun u1=>(∃v2,w7.cell? {block:=k3,off:=1}=some v2)/\(w7.frozen? {block:=k3,off:=1}=false)/\(∃v3,w7.cell? {block:=k3,off:=2}=some v3)/\(w7.frozen? {block:=k3,off:=2}=false)/\(∃v4,w7.cell? {block:=k3,off:=3}=some v4)/\(w7.frozen? {block:=k3,off:=3}=false)/\(¬k3∈[k1])/\((0:Int)<=0)/\((0:Int)<4)/\∃n9,(u1.cell? {block:=k3,off:=0}=some (aa n9))/\((0:Int)<=1)/\((1:Int)<4)/\∃n10,(u1.cell? {block:=k3,off:=1}=some (aa n10))/\((0:Int)<=2)/\((2:Int)<4)/\∃n11,(u1.cell? {block:=k3,off:=2}=some (aa n11))/\((0:Int)<=3)/\((3:Int)<4)/\∃n12,(u1.cell? {block:=k3,off:=3}=some (aa n12))/\F_ P 144 #[aa (an .shr .i64 (A_.wrap (A_.wrap (A_.wrap (A_.wrap (n9*n1)+A_.wrap (n10*n2))+A_.wrap (n11*n3))+n12)) 16)] u1 fun e4 w8=>∃n13,(e4=.returned (aa n13))/\(ao ([k1]) u1 w8)/\(0<=n4)/\(n4<3)/\aI w8 ({block:=k2,off:=0:D_}.add (n4.toNat*1)) [aa n13] fun u2=>(¬({block:=k2,off:=0:D_}.add (n4.toNat*1)).block∈[k1])/\(I1 [aa (A_.wrap (n4+1))] u2)/\m1 [aa (A_.wrap (n4+1))] u2<m1 [aa n4] w6) (((0:Int)<=0)/\((0:Int)<3)/\∃n14,(w6.drew.cell? {block:=k2,off:=0}=some (aa n14))/\((0:Int)<=1)/\((1:Int)<3)/\∃n15,(w6.drew.cell? {block:=k2,off:=1}=some (aa n15))/\((0:Int)<=2)/\((2:Int)<3)/\∃n16,(w6.drew.cell? {block:=k2,off:=2}=some (aa n16))/\R (aM #[aa n14,aa n15,aa n16]) w6.drew)
theorem Cv(x1 x2 x3:Int)(w:B_)(R:bV)(h:GA x1 x2 x3 w R):F_ P 113 #[aa x1,aa x2,aa x3] w R:=
  aF (ac:=Gi) Tryz.func113 h
def wL:List (Int×Int×Int×Int):=[(19595,38470,7471,32768),(-11058, -21710,32768,8421376),(32768, -27439, -5329,8421376)]
def ck(n:Nat):Int×Int×Int×Int:=wL.getD n (0,0,0,0)
def Ch(r g b:Int)(n:Nat):Int:=kj (((ck n).1*r+(ck n).2.1*g+(ck n).2.2.1*b+(ck n).2.2.2)/65536)
def Be(r g b:Int)(n i:Nat):C_:=aa (if i<n then Ch r g b i else 0)
theorem Mu{r g b:Int}:(aB 3 (Be r g b n)).set n (aa (Ch r g b n))=aB 3 (Be r g b (n+1)):=by
 refine dx ?_ fun j _ hj=>?_
 ·unfold Be
  rw[if_pos (by omega)]
 ·unfold Be
  by_cases h:j<n
  ·rw[if_pos h,if_pos (by omega)]
  ·rw[if_neg h,if_neg (by omega)]
theorem Nh{r g b:Int}(hr:0<=r/\r<=255)(hg:0<=g/\g<=255)(hb:0<=b/\b<=255)
 (hR:∀w',Ext w w'->R (.returned (.tuple #[aa (wU r g b).1,aa (wU r g b).2.1,aa (wU r g b).2.2])) w'):F_ P 113 #[aa r,aa g,aa b] w R:=by
 refine Cv _ _ _ _ _ ?_;refine oM ⟨_,rfl,?_⟩;refine oM ⟨_,rfl,?_⟩;refine oM ⟨_,rfl,?_⟩;rw[AA hr.1 hr.2,AA hg.1 hg.2,AA hb.1 hb.2];intro k1 hk1 w4 hL4 k2 w5 hn5;have hE4:Ext w w4:=hL4.ext (by simpa using hk1)
 have t4:=hL4.there k1 (by simp)
 have e5:=hn5.1;have s5:=hn5.size;have z4:=hE4.size;have hC5:Cs w5 k2 (aB 3 (Be r g b 0)):=hn5.cs;have hE5:=hE4.trans hn5.ext;refine⟨fun vs u=>∃n:Nat,vs=[aa (n:Nat)]/\n<=3/\Chg (·=k2) w5 u/\Cs u k2 (aB 3 (Be r g b n)),fun vs _=>match vs with|[.int _ n]=>(3-n:Int).toNat|_=>0,⟨0,rfl,by omega,Chg.refl _ _,hC5⟩,fun n1 w6 hI=>?_⟩
 obtain⟨n,hv,hn,hc6,hC6⟩:=hI;obtain rfl:n1=(n:Nat):=by simpa using hv
 have hE6:Ext w w6:=hE5.step hc6 fun i hi=>by have hi:i=k2:=hi;omega
 have z6:=hc6.size;refine ak (fun hlt=>?_) fun hge=>?_
 ·have hlt:n<3:=by have:=of_decide_eq_true hlt;omega
  have hrow:List.take 4 (List.drop (n*4) [aa 19595,aa 38470,aa 7471,aa 32768,aa (-11058),aa (-21710),aa 32768,aa 8421376,aa 32768,aa (-27439),aa (-5329),aa 8421376])=[aa (ck n).1,aa (ck n).2.1,aa (ck n).2.2.1,aa (ck n).2.2.2]:=by
   have:n=0\/n=1\/n=2:=by omega
   rcases this with rfl|rfl|rfl<;>rfl
  rw[G_];refine⟨by omega,by omega,_,_,_,_,hrow,?_⟩
  intro k3 w7 hn7;have e7:=hn7.1;have s7:=hn7.size;have hC7:Cs w7 k3 [aa 0,aa 0,aa 0,aa 0]:=hn7.cs;have hset:=hC7.set (off:=0) (us:=[aa (ck n).1,aa (ck n).2.1,aa (ck n).2.2.1,aa (ck n).2.2.2]) (by simp)
  have hC:=Chg.setCells w7 ⟨k3,0,none⟩ [aa (ck n).1,aa (ck n).2.1,aa (ck n).2.2.1,aa (ck n).2.2.2] 0;have hset:Cs (ab w7 ⟨k3,0,none⟩ [aa (ck n).1,aa (ck n).2.1,aa (ck n).2.2.1,aa (ck n).2.2.2] 0) k3 [aa (ck n).1,aa (ck n).2.1,aa (ck n).2.2.1,aa (ck n).2.2.2]:=by simpa using hset
  refine⟨⟨_,hC7.cell (i:=0) rfl⟩,hC7.frozen 0,⟨_,hC7.cell (i:=1) rfl⟩,hC7.frozen 1,⟨_,hC7.cell (i:=2) rfl⟩,hC7.frozen 2,⟨_,hC7.cell (i:=3) rfl⟩,hC7.frozen 3,by simp;omega,
   by omega,by omega,_,hset.cell (i:=0) rfl,by omega,by omega,_,hset.cell (i:=1) rfl,by omega,by omega,_,hset.cell (i:=2) rfl,by omega,by omega,_,hset.cell (i:=3) rfl,?_⟩
  generalize hw8:ab w7 ⟨k3,0,none⟩ [aa (ck n).1,aa (ck n).2.1,aa (ck n).2.2.1,aa (ck n).2.2.2] 0=w8 at*;have hE8:Ext w6 w8:=hn7.ext.step hC fun i hi=>by have hi:i=k3:=hi;omega
  have hbd:(-27439<=(ck n).1/\(ck n).1<=38470)/\(-27439<=(ck n).2.1/\(ck n).2.1<=38470)/\(-27439<=(ck n).2.2.1/\(ck n).2.2.1<=38470)/\(0<=(ck n).2.2.2/\(ck n).2.2.2<=8421376):=by
   have:n=0\/n=1\/n=2:=by omega
   rcases this with rfl|rfl|rfl<;>decide
  have m1:=lK (a:=(ck n).1) (b:=r) (A:=38470) (B:=255) (by omega) (by omega)
  have m2:=lK (a:=(ck n).2.1) (b:=g) (A:=38470) (B:=255) (by omega) (by omega)
  have m3:=lK (a:=(ck n).2.2.1) (b:=b) (A:=38470) (B:=255) (by omega) (by omega)
  have hv:Ch r g b n=kj (((ck n).1*r+(ck n).2.1*g+(ck n).2.2.1*b+(ck n).2.2.2)/65536):=rfl;rw[ai (x:=(ck n).1*r),ai (x:=(ck n).2.1*g),ai (x:=(ck n).2.2.1*b),ai (x:=(ck n).1*r+(ck n).2.1*g),ai (x:=(ck n).1*r+(ck n).2.1*g+(ck n).2.2.1*b),ai (x:=(ck n).1*r+(ck n).2.1*g+(ck n).2.2.1*b+(ck n).2.2.2)];have e:an .shr .i64 ((ck n).1*r+(ck n).2.1*g+(ck n).2.2.1*b+(ck n).2.2.2) 16=((ck n).1*r+(ck n).2.1*g+(ck n).2.2.1*b+(ck n).2.2.2)/65536:=by
   simp only[an];rw[B_A _ (by decide)];rfl
  rw[e];refine oM ⟨_,rfl,(Ext.refl _).keep _,by omega,by omega,?_⟩
  rw[<-hv,af,I_,K_];have hC8:=hC6.ext hE8;have hl8:(aB 3 (Be r g b n)).length=3:=bC _ _;have g1:=Cs.set1 hC8 (off:=n) (v:=aa (Ch r g b n)) (by omega)
  have g2:=Chg.setCells w8 ⟨k2,n,none⟩ [aa (Ch r g b n)] 0;rw[Mu]at g1;rw[ai (x:=(n:Int)+1)];have hne:¬k2=k1:=by omega
  exact⟨⟨_,hC8.cell (i:=n) (O_ (by omega))⟩,hC8.frozen _,by simpa using hne,⟨n+1,rfl,hlt,(hc6.trans hE8.chg fun _ h _=>h).trans g2 fun _ h _=>h,g1⟩,by show((3:Int)-((n:Int)+1)).toNat<((3:Int)-n).toNat;omega⟩
 ·have hge:n=3:=by have:=of_decide_eq_false hge;omega
  subst hge;have hc:=hC6.drew;exact⟨by omega,by omega,_,hc.cell (i:=0) rfl,by omega,by omega,_,hc.cell (i:=1) rfl,by omega,by omega,_,hc.cell (i:=2) rfl,hR _ (hE6.trans (Ext.refl w6).drew)⟩
theorem rD{v:Int}(h0:0<=v)(h1:v<=65535)(hR:R (.returned (aa (wH v 255))) w):F_ P 112 #[au v] w R:=
 CP _ _ _ (Lr h0 h1 ⟨_,_,rfl,hR⟩)
theorem JI{c:Co}{grey:Bool}{fb:Nat}(hc:nP c)(hf:Cs w fb [.bool grey])(hR:∀w',Ext w w'->R (.returned (OO (cU grey c))) w'):F_ P 111 #[KT c,.pointer (some ⟨fb,0,none⟩)] w R:=by
 refine tM _ _ _ _ _ _ _ ?_;intro k1 hk1 k2 hk2 w1 hL1;have hE1:Ext w w1:=hL1.ext (by simp;omega)
 have hl:=sJ hc;have hc':=hc;obtain⟨h1,h2,h3,h4⟩:=hc;unfold vT at h1 h2 h3;refine⟨grey,(hf.ext hE1).cell (i:=0) rfl,ak (fun h=>?_) fun h=>?_⟩
 ·subst h
  refine KU hc' fun w2 hE2=>⟨_,rfl,hE2.keep _,?_⟩;refine rD hl.1 hl.2 ⟨_,rfl,(Ext.refl _).keep _,fun w4 hL4=>?_⟩;exact hR w4 ((hE1.trans hE2).step hL4.chg (by simp;omega))
 ·subst h
  have hEd:=hE1.trans (Ext.refl w1).drew;refine rD h1.1 h1.2 ⟨_,rfl,(Ext.refl _).keep _,fun _ _ h=>h,?_⟩;refine rD h2.1 h2.2 ⟨_,rfl,(Ext.refl _).keep _,fun _ _ h=>h,?_⟩;refine rD h3.1 h3.2 ⟨_,rfl,(Ext.refl _).keep _,?_⟩;refine Nh (jl h1.1 h1.2 (by omega)) (jl h2.1 h2.2 (by omega)) (jl h3.1 h3.2 (by omega)) fun w8 hE8=>⟨_,_,_,rfl,hE8.keep _,fun w4 hL4=>?_⟩
  exact hR w4 ((hEd.trans hE8).step hL4.chg (by simp;omega))
def tr(t:gH):List C_:=[aa t.1,aa t.2.1,aa t.2.2]
def fN(l:List gH):List C_:=ax tr l
theorem C4(l:List gH):(fN l).length=l.length*3:=bi (sz:=3) (fun _=>rfl) l
theorem JH(a b:List gH):fN (a++b)=fN a++fN b:=by simp[fN,ax]
theorem NV(t:gH):fN [t]=tr t:=by simp[fN,ax]
theorem B5:∀l:List gH,aN (fN l)=true
 |[]=>rfl
 |t::l=>by
  have:=B5 l;unfold aN at*;rw[show fN (t::l)=tr t++fN l by simp[fN,ax],List.all_append,this,Bool.and_true]
  rfl
theorem By(h:b<w.heap.size):Locl [b] w (ab w ⟨b,i,none⟩ vs 0):=
 have c:=Chg.setCells w ⟨b,i,none⟩ vs 0
 ⟨c.os,c.tape,c.output,c.size,fun k hk hn=>c.block k hk (by simpa using hn),fun k hk=>by rw[show k=b by simpa using hk];exact Nat.lt_of_lt_of_le h c.size⟩
theorem te{a:D_}(h:w.cell? a=some v):a.block<w.heap.size:=B_.block_lt_of_cell? w _ h
def aD(S:Nat->Prop)(w:B_)(base:Option D_)(vs:List C_):Prop:=∀j v,vs[j]?=some v->∃a,base=some a/\S a.block/\w.cell? (a.add j)=some v
theorem aD.chg{S T:Nat->Prop}(h:aD S w p vs)(hc:Chg T w u)(hd:∀b,S b->b<w.heap.size->¬T b):aD S u p vs:=fun j v hj=>by
 obtain⟨a,h1,h2,h3⟩:=h j v hj;have hlt:=te h3;rw[dg]at hlt;refine⟨a,h1,h2,?_⟩;rw[B_.cell?_of_block (w:=w) (hc.block _ (by rw[dg];exact hlt) (by rw[dg];exact hd _ h2 hlt))]
 exact h3
theorem aD.mono{S T:Nat->Prop}(h:aD S w p vs)(hd:∀b,S b->b<w.heap.size->T b):aD T w p vs:=fun j v hj=>by
 obtain⟨a,h1,h2,h3⟩:=h j v hj;have hlt:=te h3;rw[dg]at hlt;exact⟨a,h1,hd _ h2 hlt,h3⟩
theorem aD.sl{S:Nat->Prop}(h:aD S w p vs):Sl w.heap.size w p vs:=fun j v hj=>by
 obtain⟨a,h1,h2,h3⟩:=h j v hj;have hlt:=te h3;rw[dg]at hlt;exact⟨a,h1,hlt,h3⟩
theorem Sl.toS{S:Nat->Prop}(h:Sl N w p vs)(hS:∀b,b<N->S b):aD S w p vs:=fun j v hj=>by
 obtain⟨a,h1,h2,h3⟩:=h j v hj;exact⟨a,h1,hS _ h2,h3⟩
theorem Fg.toS{base:Option D_}{len cap sz:Nat}(h:Fg av w u sz base len cap vs):aD (fun i=>w.heap.size<=i/\i<u.heap.size) u base vs:=fun j v hj=>by
 obtain⟨S,h1,_,h2⟩:=h.own;obtain⟨⟨o1,o2,o3⟩,hb⟩:=h2;have hlt:j<vs.length:=by
  rcases U_ j vs.length with h'|h'
  ·exact h'
  ·rw[q_ h']at hj;cases hj
 rcases o3 with o3|⟨b,rest,o3,o4,o5,o6⟩
 ·have:len=0:=by omega
  subst this;omega
 refine⟨_,o4,⟨h1 _ o3,hb _ o3⟩,?_⟩;rw[af,I_];refine o6.cell ?_;rw[Q_A hlt];exact hj
theorem Ow.toS{sz:Nat}{base:Option D_}{len cap:Nat}(h:Ow N M w base len cap sz vs):aD (fun i=>N<=i/\i<M) w base vs:=fun j v hj=>by
 obtain⟨o1,o2,o3⟩:=h;have hlt:j<vs.length:=by
  rcases U_ j vs.length with h'|h'
  ·exact h'
  ·rw[q_ h']at hj;cases hj
 rcases o3 with o3|⟨b,rest,o3,o4,o5,o6,o7⟩
 ·have:len=0:=by omega
  subst this;omega
 refine⟨_,o5,⟨o3,o4⟩,?_⟩;rw[af,I_];refine o7.cell ?_;rw[Q_A hlt];exact hj
theorem i7{α:Type}{l:List α}(h:n<l.length):l.take (n+1)=l.take n++[l[n]]:=I_A h
theorem AR{gb cb fb:Nat}{W H:Int}{l:List Co}{grey:Bool}(h:fB w q gb cb W H l)(hf:Cs w fb [.bool grey])(hc:∀c,c∈l->nP c)
 (hR:∀k b c w',Ext w w'->w.heap.size<=k->Cs w' k [aa W,aa H,.slice b l.length c]->aD (fun i=>w.heap.size<=i/\i<w'.heap.size) w' b (fN (l.map (cU grey)))->R (.returned (.pointer (some ⟨k,0,none⟩))) w'):
  F_ P 58 #[.pointer q,.func (.func 111) #[] #[.pointer (some ⟨fb,0,none⟩)]] w R:=by
 refine lm _ _ _ _ ?_;obtain⟨rest,cg,h3,h5,h4⟩:=h.cells;have hlen:=h.dims;obtain rfl:=h.ptr;have hd3:=h3.drew;refine al rfl (ap rfl ⟨_,hd3.cell (i:=0) rfl,ap rfl ⟨_,hd3.cell (i:=1) rfl,ap rfl ⟨_,_,_,hd3.cell (i:=2) rfl,by omega,by omega,by omega,by omega,?_⟩⟩⟩)
 intro k3 w1 hn1 k4 w2 hn2;have e1:=hn1.1;have s1:=hn1.size;have e2:=hn2.1;have s2:=hn2.size;have z1:=hn1.ext.size;have z2:=hn2.ext.size;rw[G_]at hn1 hn2;have z0:w.heap.size<=w1.heap.size:=z1;have hE2:Ext w w2:=((Ext.refl w).drew.trans hn1.ext).trans hn2.ext;have hw3:w.drew.heap.size=w.heap.size:=rfl;have hC4:Cs w2 k4 [aa W,aa H,.slice (some ⟨k3,0,none⟩) 0 l.length]:=hn2.cs;have hG2:=h3.ext hE2;refine ap rfl ⟨_,_,_,hG2.cell (i:=2) rfl,?_⟩;have hO:=hn1.own (N:=k3) (M:=k3+1) (vs:=[]) (len:=0) (cap:=l.length) (sz:=3) (by simp) (by simp) (by rw[eO];simp) (by omega) (by rw[e1];exact Q_ _) (by rw[hn1.2,hn1.1];simp)
 have hF0:Fg [k4] w w2 3 (some ⟨k3,0,none⟩) 0 l.length (fN ((l.map (cU grey)).take 0)):=
  Fg.of_owB hE2 ((hO.ext hn2.ext).owB (by omega)) (fun i hi=>by omega) (fun b hb hS=>by have hb:b=k4:=(by simpa using hb);omega)
   (fun b hb=>by have hb:b=k4:=(by simpa using hb);omega)
 have hml:(l.map (cU grey)).length=l.length:=List.length_map _;refine⟨fun vs u=>∃(n:Nat) (b:Option D_) (c:Nat),vs=[aa (n:Nat)]/\n<=l.length/\Fg [k4] w u 3 b n c (fN ((l.map (cU grey)).take n))/\Cs u k4 [aa W,aa H,.slice b n c],fun vs _=>match vs with|[.int _ n]=>(l.length-n:Int).toNat|_=>0,⟨0,_,_,rfl,by omega,hF0,hC4⟩,fun n1 w3 hI=>?_⟩
 obtain⟨n,b,c,hv,hn,hF3,hC3⟩:=hI;obtain rfl:n1=(n:Nat):=by simpa using hv
 have hE3:=hF3.ext;refine ak (fun hlt=>?_) fun hge=>?_
 rotate_left
 ·have hge:n=l.length:=by have:=of_decide_eq_false hge;omega
  subst hge;rw[e_ (by omega)]at hF3
  exact hR k4 b c w3 hE3 (by omega) hC3 (Fg.toS hF3)
 have hlt:n<l.length:=by have:=of_decide_eq_true hlt;omega
 refine HR (h.ext hE3).sl rfl (by omega) (by omega) fun a c1 c2 c3 c4=>⟨_,_,_,_,c1,c2,c3,c4,?_⟩
 rw[G_]at*;intro k7 hk7 w4 hL4;have hk4:=hC3.lt;have hC4':=hC3.locl hL4 (by simp;omega)
 refine⟨_,_,_,hC4'.cell (i:=2) rfl,?_⟩;have hF4:=hF3.push hL4 fun b hb=>.inr (by have hb:b=k7:=(by simpa using hb);omega)
 have hE4:=hF4.ext;have hok:nP (l.getD n rf):=by
  rw[P_,O_ hlt];exact hc _ (L_A hlt)
 refine IG (by kernel_rfl) (JI hok (hf.ext hE4) fun w5 hE5=>⟨_,_,_,rfl,hE5.keep _,hE5.keeps,?_⟩)
 intro k10 hk10 w6 hL6;have hC5:=hC4'.ext hE5;have hF5:=hF4.step hE5;have hs5:=hE5.size;have hs4:=hL4.size;have ht4:=hL4.there k7 (by simp)
 have hF6:=hF5.push hL6 (by
  intro b hb;have hb:b=k10\/b=k7:=by simpa using hb
  rcases hb with rfl|rfl
  ·exact .inr (by omega)
  ·exact .inl (by simp))
 have hC6:=hC5.locl hL6 (by simp;omega)
 refine hF6.app' (fs:=tr (cU grey (l.getD n rf))) (by simp[am]) rfl rfl (by omega) (by omega) fun b' c' w7 hF7 hK7 hz7=>?_
 have hC7:Cs w7 k4 _:=hC6.same (hK7 k4 (by simp) hC6.lt).2
 have hk7':=hC7.lt;refine⟨⟨_,hC7.cell (i:=2) rfl⟩,hC7.frozen 2,by simp;omega,?_⟩
 have g1:=Cs.set1 hC7 (off:=2) (v:=.slice b' (n+1) c') (by simp)
 have g2:=hF7.push (By (b:=k4) (i:=2) (vs:=[.slice b' (n+1) c']) hk7') fun b hb=>.inl (by rw[show b=k4 by simpa using hb];simp)
 rw[ai (x:=(n:Int)+1)];refine⟨⟨n+1,b',c',rfl,hlt,?_,g1⟩,by show((l.length:Int)-((n:Int)+1)).toNat<((l.length:Int)-n).toNat;omega⟩
 have e:fN ((l.map (cU grey)).take (n+1))=fN ((l.map (cU grey)).take n)++tr (cU grey (l.getD n rf)):=by
  rw[i7 (by omega),JH,NV]
  simp[W_,hlt]
 rw[e];exact g2.mono (by simp)
theorem oq{c:Nat}{b:Option D_}{W H:Int}{l:List gH}(hC:Cs w k [aa W,aa H,.slice b n c])(h:Sl w.heap.size w b (fN l))(hl:n=l.length)(hsz:n<=65536)
 (hR:∀p c' w',Ext w w'->Ow w.heap.size w'.heap.size w' p n c' 3 (fN l)->R (.returned (.slice p n c')) w'):F_ P 60 #[.pointer (some ⟨k,0,none⟩)] w R:=by
 refine nJ _ _ _ ?_;refine al rfl (ap rfl ⟨_,_,_,hC.cell (i:=2) rfl,?_⟩);refine ph _ _ _ _ _ ?_;refine ak (fun hn=>?_) (fun _ k1 w1 hnew=>⟨fN l,by rw[C4];omega,B5 _,(h.ext hnew.ext).cells,?_⟩)
 ·have hx:l=[]:=by
   cases l with
   |nil=>rfl
   |cons x xs=>obtain⟨a,ha,_⟩:=h 0 (aa x.1) rfl;subst ha;cases hn
  subst hx;have hl0:n=0:=by simpa using hl
  subst hl0;exact⟨_,_,_,rfl,hR none 0 w (Ext.refl w) (Ow.nil _ _ _ _ _)⟩
 ·have hsz':=hnew.ext.size
  refine(Ow.nil w.heap.size w1.heap.size w1 (some ⟨k1,0,none⟩) 3).app (by simp[am]) hsz' (Q_ _) rfl (by rw[C4];omega) (by omega) (by omega) fun p' k w2 ho hc=>?_
  rw[I_]at ho⊢;exact⟨_,_,_,rfl,hR p' k w2 (hnew.ext.step hc fun i hi=>hi.1) (by simpa using ho)⟩
def bI(v m:Int):Int:=min (max v 0) (m-1)
theorem Ll{c:Nat}{W H y:Int}{l:List gH}(h:Sl w.heap.size w p (fN l))(hl:n=l.length)(hW:1<=W/\W<=4096)(hH:1<=H/\H<=4096)(hn:(l.length:Int)=W*H)
 (hR:∀w',Ext w w'->R (.returned (OO (l.getD (bI y H*W+bI x W).toNat (0,0,0)))) w'):F_ P 62 #[.agg #[aa W,aa H,.slice p n c],aa x,aa y] w R:=by
 refine ng _ _ _ _ _ _ _ _ _ ?_;intro k1 hk1 k2 hk2;rw[ai (x:=H-1),ai (x:=W-1)];have hx:0<=bI x W/\bI x W<=W-1:=by unfold bI;omega
 have hy:0<=bI y H/\bI y H<=H-1:=by unfold bI;omega
 have q0:0<=bI y H*W:=X_ hy.1 (by omega)
 have q1:bI y H*W<=(H-1)*W:=c_ hy.2 (by omega)
 have q2:(H-1)*W=W*H-W:=by rw[Int.sub_mul,Int.one_mul,V_]
 have q3:W*H<=4096*4096:=Int.mul_le_mul hW.2 hH.2 (by omega) (by omega)
 rw[show min (max y 0) (H-1)=bI y H from rfl,show min (max x 0) (W-1)=bI x W from rfl]
 rw[ai (x:=bI y H*W),ai (x:=bI y H*W+bI x W)];have hlt:(bI y H*W+bI x W).toNat<l.length:=by omega
 refine h.elem (f:=tr) (sz:=3) (fun _=>rfl) (by omega) (by omega) hl.symm (O_ hlt) fun a ha w1 hL1=>?_
 have hE1:Ext w w1:=hL1.ext (by simp;omega)
 have c0:=ha 0 _ rfl;rw[eg]at c0;refine⟨_,_,_,hE1.cell c0,hE1.cell (ha 1 _ rfl),hE1.cell (ha 2 _ rfl),fun w2 hL2=>?_⟩;have:=hR w2 (hE1.step hL2.chg (by simp;omega))
 rw[show l.getD (bI y H*W+bI x W).toNat (0,0,0)=l[(bI y H*W+bI x W).toNat] by simp[W_,hlt]]at this
 exact this
theorem JU{len cap:Nat}{W H y:Int}(h:nm w p len xs)(hg:fU W H xs=true)
 (hR:∀w',Ext w w'->R (.returned (KT (iX xs (bI y H*W+bI x W).toNat))) w'):F_ P 22 #[.agg #[aa W,aa H,.slice p len cap],aa x,aa y] w R:=by
 refine AP _ _ _ _ _ _ _ _ _ ?_;intro k1 hk1 k2 hk2 w1 hL1;have hE1:Ext w w1:=hL1.ext (by simp;omega)
 have hg':=hg;obtain⟨hgf,hxl⟩:=mA.1 hg;obtain⟨g1,g2,g3,g4,g5⟩:=eK.1 hgf;have hx:0<=bI x W/\bI x W<W:=by unfold bI;omega
 have hy:0<=bI y H/\bI y H<H:=by unfold bI;omega
 rw[ai (x:=H-1),ai (x:=W-1)];refine eV (by omega) ⟨_,rfl,(Ext.refl _).keep _,fun _ _ h=>h,?_⟩
 refine eV (by omega) ⟨_,rfl,(Ext.refl _).keep _,fun _ _ h=>h,?_⟩
 rw[show min (max y 0) (H-1)=bI y H from rfl,show min (max x 0) (W-1)=bI x W from rfl]
 refine FV (h.ext hE1) hg' hx.1 hy.1 hx.2 hy.2 fun w4 hE4=>⟨_,_,_,_,rfl,hE4.keep _,fun w5 hL5=>?_⟩;exact hR w5 ((hE1.trans hE4).step hL5.chg (by have:=hE1.size;have:=hE4.size;simp;omega))
end Go.Proofs.YtoomejkiagonpaaGreatDoor
