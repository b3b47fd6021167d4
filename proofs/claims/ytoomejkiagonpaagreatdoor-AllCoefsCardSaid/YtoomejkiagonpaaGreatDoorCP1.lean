/- A calculus of conditions over codes, part 1: worlds, states, light instructions and why they are right. -/
import Derived.Orders
import Derived.Below
import Derived.KernelRfl
import Derived.WalkKit
import Derived.Laws.StructEq
import Derived.OrdersIn
import Derived.ControlIn
import Derived.RangeFuncKeeps
import Derived.RangeFuncLeaves
import Derived.MapKept
set_option linter.unusedVariables false
set_option linter.unusedSimpArgs false
open Go renaming World->A_,Value->B_,Addr->C_,Program->D_,TypeId->E_,IntKind->F_,Operand->G_
open Go.Sem renaming run_bind->H_,run_pure->J_
open Go.Result renaming andThen_ok->I_
open Nat renaming beq->K_,eq_of_beq_eq_true->L_,ble->M_,le_of_ble_eq_true->S_
open Bool renaming and_eq_true->N_
open Int renaming le_trans->O_
open Option renaming isSome->P_,toList->Q_,map_some->b_,map_none->e_
open List renaming map_cons->R_,nil_append->T_,head?_drop->W_,drop_drop->X_,length_cons->Y_,getElem?_take->Z_,getElem?_drop->a_
open Option.some renaming injEq->U_
open Array renaming getElem?_toList->V_,foldl_toList->c_,toList_zipIdx->d_
namespace Go.Vc
open Go.RowKit
variable {w w' wa : A_} {n b m a d off : Nat} {vs : List B_} {p : Option C_} {t e : E_} {v : B_} {ds : List Nat}
abbrev Ext(w w':A_):Prop:=Below w.heap.size w w'
def ao(bs:List Nat)(w w':A_):Prop:=∀b,b∈bs->b<w.heap.size->b<w'.heap.size/\w'.heap[b]?=w.heap[b]?
theorem Ext.keep(h:Ext w w')(bs:List Nat):ao bs w w':=
 fun b _ hlt=>⟨Nat.lt_of_lt_of_le hlt h.size,h.block b hlt⟩
theorem Ext.refl(w:A_):Ext w w:=Below.refl _ w
theorem Ext.trans{a b c:A_}(h:Ext a b)(k:Ext b c):Ext a c:=Below.trans h (Below.mono k h.size)
theorem Ext.drew{a b:A_}(h:Ext a b):Ext a b.drew:=Below.drew h
theorem Ext.alloc{a b:A_}(h:Ext a b)(o:Obj):Ext a (b.alloc o):=Below.alloc h h.size o
theorem Ext.cell(h:Ext w w'){a:C_}(hc:w.cell? a=some v):w'.cell? a=some v:=by
 have hb:=A_.block_lt_of_cell? w a hc;rw[Below.cell h hb];exact hc
def aK(w:A_)(o:Obj)(b:Nat)(w':A_):Prop:=b=w.heap.size/\w'=w.alloc o
inductive Sc where|int (k:F_)|bool|str|ptr|slice|map|fn|any
def Sc.ex:Sc->(B_->Prop)->Prop
 |.int k,K=>∃n:Int,K (.int k n)
 |.bool,K=>∃b:Bool,K (.bool b)
 |.str,K=>∃s:ByteArray,K (.string s)
 |.ptr,K=>∃p:Option C_,K (.pointer p)
 |.slice,K=>∃(a:Option C_) (l c:Nat),K (.slice a l c)
 |.map,K=>∃r:Option Nat,K (.map r)
 |.fn,K=>∃(f:FuncId) (a c:Array B_),K (.func (.func f) a c)
 |.any,K=>∃v:B_,K v
def Sc.all:Sc->(B_->Prop)->Prop
 |.int k,K=>∀n:Int,K (.int k n)
 |.bool,K=>∀b:Bool,K (.bool b)
 |.str,K=>∀s:ByteArray,K (.string s)
 |.ptr,K=>∀p:Option C_,K (.pointer p)
 |.slice,K=>∀(a:Option C_) (l c:Nat),K (.slice a l c)
 |.map,K=>∀r:Option Nat,K (.map r)
 |.fn,K=>∀(f:FuncId) (a c:Array B_),K (.func (.func f) a c)
 |.any,K=>∀v:B_,K v
def GD:List Sc->(List B_->Prop)->Prop
 |[],K=>K []
 |s::l,K=>s.ex fun v=>GD l fun vs=>K (v::vs)
inductive Sh where|sc (s:Sc)|agg (l:List Sc)|row (n:Nat)
def Sh.ex:Sh->(B_->Prop)->Prop
 |.sc s,K=>s.ex K
 |.agg l,K=>GD l fun vs=>K (.agg vs.toArray)
 |.row n,K=>∃vs:List B_,vs.length=n/\K (.agg vs.toArray)
def OC:List Sh->(List B_->Prop)->Prop
 |[],K=>K []
 |s::l,K=>s.ex fun v=>OC l fun vs=>K (v::vs)
def IT:List Sh->(B_->Prop)->Prop
 |[s],K=>s.ex K
 |l,K=>OC l fun vs=>K (.tuple vs.toArray)
theorem Sc.ex_some{s:Sc}{K:B_->Prop}(h:s.ex K):∃v,K v:=by
 cases s<;>simp only[Sc.ex]at h
 ·obtain⟨n,h⟩:=h;exact⟨_,h⟩
 ·obtain⟨n,h⟩:=h;exact⟨_,h⟩
 ·obtain⟨n,h⟩:=h;exact⟨_,h⟩
 ·obtain⟨n,h⟩:=h;exact⟨_,h⟩
 ·obtain⟨a,l,c,h⟩:=h;exact⟨_,h⟩
 ·obtain⟨n,h⟩:=h;exact⟨_,h⟩
 ·obtain⟨a,l,c,h⟩:=h;exact⟨_,h⟩
 ·obtain⟨n,h⟩:=h;exact⟨_,h⟩
theorem mH:∀{l:List Sc} {K:List B_->Prop},GD l K->∃vs,vs.length=l.length/\K vs
 |[],_,h=>⟨[],rfl,h⟩
 |s::l,K,h=>by
  obtain⟨v,hv⟩:=Sc.ex_some h;obtain⟨vs,hl,hk⟩:=mH hv;exact⟨v::vs,by simp[hl],hk⟩
theorem Sh.ex_some{s:Sh}{K:B_->Prop}(h:s.ex K):∃v,K v:=by
 cases s with
 |sc s=>exact Sc.ex_some h
 |agg l=>obtain⟨vs,_,h⟩:=mH h;exact⟨_,h⟩
 |row n=>obtain⟨vs,_,h⟩:=h;exact⟨_,h⟩
theorem GE:∀{l:List Sh} {K:List B_->Prop},OC l K->∃vs,K vs
 |[],_,h=>⟨[],h⟩
 |s::l,K,h=>by
  obtain⟨v,hv⟩:=Sh.ex_some h;obtain⟨vs,hk⟩:=GE hv;exact⟨v::vs,hk⟩
theorem GC{l:List Sh}{K:B_->Prop}(h:IT l K):∃v,K v:=by
 unfold IT at h
 split at h
 ·exact Sh.ex_some h
 ·obtain⟨vs,h⟩:=GE h;exact⟨_,h⟩
inductive EV where
 |v (x:B_)
 |loc (s off:Nat)
 |lsl (s n:Nat)
structure St where
 ρ:Nat->Option EV
 l:List (Nat×Nat×List B_)
 dirty:Bool
 ro:List Nat
 kp:List (Nat×Obj)
def St.set(s:St)(d:Nat)(e:Option EV):St:=
 {ρ:=fun t=>bif K_ t d then e else s.ρ t,l:=s.l,dirty:=s.dirty,ro:=s.ro,kp:=s.kp}
def St.put(s:St)(d:Option Nat)(e:Option EV):St:=
 match d with
 |some d=>s.set d e
 |none=>s
def St.del(s:St)(ds:List Nat):St:={s with ρ:=fun t=>bif ds.any (K_ t)then none else s.ρ t}
def St.ev(s:St):G_->Option B_
 |.tmp t=>match s.ρ t with|some (.v x)=>some x|_=>none
 |.const v=>some v
 |.global g=>some (.pointer (some ⟨g,0,none⟩))
 |.func f=>some (.func (.func f) #[] #[])
def St.evs(s:St):List G_->Option (List B_)
 |[]=>some []
 |x::xs=>match s.ev x,s.evs xs with|some v,some vs=>some (v::vs)|_,_=>none
def fu:Nat->List (Nat×Nat×List B_)->Option (Nat×List B_)
 |_,[]=>none
 |k,(k',b,cs)::r=>bif K_ k k' then some (b,cs)else fu k r
def change(k:Nat)(f:List B_->List B_):List (Nat×Nat×List B_)->List (Nat×Nat×List B_)
 |[]=>[]
 |(k',b,cs)::r=>bif K_ k k' then(k',b,f cs)::r else(k',b,cs)::change k f r
def am(l:List (Nat×Nat×List B_)):List Nat:=l.map (·.2.1)
structure qa(l:List (Nat×Nat×List B_))(w:A_):Prop where
 at_:∀k b cs,(k,b,cs)∈l->b<w.heap.size/\∃e,w.heap[b]?=some (.cells cs.toArray e (0,0))
 keys:(l.map (·.1)).Nodup
 blks:(am l).Nodup
def qW:Obj->Bool
 |.deferred _=>true
 |.loop _=>true
 |_=>false
def ft(w w':A_):Prop:=∀(k:Nat) (o:Obj),w.heap[k]?=some o->qW o=true->w'.heap[k]?=some o
structure dJ(kp:List (Nat×Obj))(w:A_):Prop where
 at_:∀D o,(D,o)∈kp->w.heap[D]?=some o/\qW o=true
 nd:(kp.map (·.1)).Nodup
theorem ft.refl(w:A_):ft w w:=fun _ _ h _=>h
theorem ft.trans{a b c:A_}(h:ft a b)(k:ft b c):ft a c:=fun x o hx ho=>k x o (h x o hx ho) ho
theorem dJ.kpk{kp:List (Nat×Obj)}(h:dJ kp w)(k:ft w w'):dJ kp w':=⟨fun D o hm=>⟨k D o (h.at_ D o hm).1 (h.at_ D o hm).2,(h.at_ D o hm).2⟩,h.nd⟩
theorem Ext.kpk(h:Ext w w'):ft w w':=fun k o hk _=>by rw[h.block k (Array.getElem?_eq_some_iff.1 hk).1];exact hk
structure bQ(s:St)(a:Act)(w:A_):Prop where
 v:∀t x,s.ρ t=some (.v x)->a.tmps.getD t undef=x
 loc:∀t k off,s.ρ t=some (.loc k off)->∃b cs,(k,b,cs)∈s.l/\a.tmps.getD t undef=.pointer (some ⟨b,off,none⟩)
 lsl:∀t k n,s.ρ t=some (.lsl k n)->∃b cs,(k,b,cs)∈s.l/\a.tmps.getD t undef=.slice (some ⟨b,0,none⟩) n n
 lok:qa s.l w
 dok:dJ s.kp w
theorem bQ.ev{s:St}{a:Act}(h:bQ s a w){x:G_}(hx:s.ev x=some v):a.eval x=v:=by
 cases x with
 |tmp t=>
  simp only[St.ev]at hx
  split at hx
  ·rename_i y hy;cases hx;exact h.v _ _ hy
  ·cases hx
 |const c=>simpa[St.ev,Act.eval]using hx
 |global g=>simpa[St.ev,Act.eval]using hx
 |func f=>simpa[St.ev,Act.eval]using hx
theorem bQ.evs{s:St}{a:Act}(h:bQ s a w):∀{xs:List G_} {vs:List B_},s.evs xs=some vs->xs.map a.eval=vs
 |[],vs,hx=>by simpa[St.evs]using hx
 |x::xs,vs,hx=>by
  simp only[St.evs]at hx
  split at hx
  ·rename_i v vs' h1 h2
   cases hx;simp[h.ev h1,h.evs h2]
  ·cases hx
theorem qa.keep{l:List (Nat×Nat×List B_)}(h:qa l w)(hk:ao (am l) w w'):qa l w':=
 ⟨fun k b cs hm=>by
  obtain⟨hlt,e,he⟩:=h.at_ k b cs hm;obtain⟨hlt',heq⟩:=hk b (List.mem_map.2 ⟨(k,b,cs),hm,rfl⟩) hlt;exact⟨hlt',e,by rw[heq];exact he⟩,h.keys,h.blks⟩
theorem bQ.keep{s:St}{a:Act}(h:bQ s a w)(hk:ao (am s.l) w w')(hd:ft w w'):bQ s a w':=
 ⟨h.v,h.loc,h.lsl,h.lok.keep hk,h.dok.kpk hd⟩
theorem bQ.ext{s:St}{a:Act}(h:bQ s a w)(hk:Ext w w'):bQ s a w':=h.keep (hk.keep _) hk.kpk
theorem oa:K_ a b=decide (a=b):=by
 by_cases h:a=b
 ·subst h;simp
 ·simp only[h,decide_false]
  cases hb:K_ a b
  ·rfl
  ·exact absurd (L_ hb) h
theorem Act.getD_put{a:Act}(t:Nat)(hd:d<a.tmps.size):
  (a.put (some d) v).tmps.getD t undef=if t=d then v else a.tmps.getD t undef:=by
 simp only[Act.put];by_cases h:t=d
 ·subst h;simp[hd]
 ·simp[h,Array.getElem?_setIfInBounds_ne (Ne.symm h)]
def lI(s:St)(e:Option EV)(v:B_):Prop:=
 match e with
 |none=>True
 |some (.v x)=>v=x
 |some (.loc k off)=>∃b cs,(k,b,cs)∈s.l/\v=.pointer (some ⟨b,off,none⟩)
 |some (.lsl k n)=>∃b cs,(k,b,cs)∈s.l/\v=.slice (some ⟨b,0,none⟩) n n
theorem bQ.set{s:St}{a:Act}(h:bQ s a w){e:Option EV}(hd:d<a.tmps.size)(he:lI s e v):
  bQ (s.set d e) (a.put (some d) v) w:=by
 have key:∀t x,(s.set d e).ρ t=some x->(t=d/\e=some x)\/(t≠d/\s.ρ t=some x):=by
  intro t x hx;simp only[St.set,oa]at hx;by_cases ht:t=d
  ·simp only[ht,decide_true,cond_true]at hx;exact .inl ⟨ht,hx⟩
  ·simp only[ht,decide_false,cond_false]at hx;exact .inr ⟨ht,hx⟩
 refine⟨fun t x hx=>?_,fun t k off hx=>?_,fun t k n hx=>?_,h.lok,h.dok⟩<;>rw[Act.getD_put t hd]<;>rcases key _ _ hx with⟨h1,h2⟩|⟨h1,h2⟩
 ·subst h2;rw[if_pos h1];exact he
 ·rw[if_neg h1];exact h.v _ _ h2
 ·subst h2;rw[if_pos h1];exact he
 ·rw[if_neg h1];exact h.loc _ _ _ h2
 ·subst h2;rw[if_pos h1];exact he
 ·rw[if_neg h1];exact h.lsl _ _ _ h2
theorem bQ.put{s:St}{a:Act}(h:bQ s a w){d:Option Nat}{e:Option EV}(hd:∀t,d=some t->t<a.tmps.size)(he:lI s e v):
  bQ (s.put d e) (a.put d v) w:=by
 cases d with
 |none=>exact h
 |some d=>exact h.set (hd d rfl) he
theorem St.del_some{s:St}{t:Nat}{x:EV}(h:(s.del ds).ρ t=some x):s.ρ t=some x/\t∉ds:=by
 simp only[St.del]at h;cases hb:ds.any (K_ t)
 ·simp only[hb,cond_false]at h
  refine⟨h,fun hm=>?_⟩;have:=List.any_eq_false.1 hb t hm;simp at this
 ·simp[hb]at h
theorem pm:∀{l:List (Nat×Nat×List B_)} {k b cs},fu k l=some (b,cs)->(k,b,cs)∈l
 |[],_,_,_,h=>by simp[fu]at h
 |(k',b',cs')::r,k,b,cs,h=>by
  simp only[fu,oa]at h;by_cases hk:k=k'
  ·subst hk;simp at h;simp[h]
  ·simp[hk]at h;exact List.mem_cons_of_mem _ (pm h)
theorem cH:∀{l:List (Nat×Nat×List B_)} {k b cs},(l.map (·.1)).Nodup->(k,b,cs)∈l->fu k l=some (b,cs)
 |[],_,_,_,_,h=>by cases h
 |(k',b',cs')::r,k,b,cs,hn,h=>by
  simp only[fu,oa];simp only[R_,List.nodup_cons]at hn;rcases List.mem_cons.1 h with h1|h1
  ·cases h1;simp
  ·have:k≠k':=fun e=>hn.1 (List.mem_map.2 ⟨(k,b,cs),h1,e⟩)
   simp[this];exact cH hn.2 h1
structure Locl(bs:List Nat)(w w':A_):Prop where
 os:w'.os=w.os
 tape:w'.tape=w.tape
 output:w'.output=w.output
 size:w.heap.size<=w'.heap.size
 block:∀k,k<w.heap.size->k∉bs->w'.heap[k]?=w.heap[k]?
 there:∀b,b∈bs->b<w'.heap.size
theorem Locl.below{bs:List Nat}(h:Locl bs w w'){B:Nat}(hB:B<=w.heap.size)(hb:∀b∈bs,B<=b):Below B w w':=
 ⟨h.os,h.tape,h.output,h.size,fun k hk=>h.block k (by omega) (fun hm=>by have:=hb k hm;omega)⟩
def sync(s:St)(w:A_)(F:A_->Prop):Prop:=bif s.dirty then∀w',Locl (am s.l) w w'->F w' else F w
def St.clean(s:St):St:={s with dirty:=false}
structure aZ(s:St)(a:Act)(w wa:A_):Prop where
 ag:bQ s a wa
 dirty:s.dirty=true->Locl (am s.l) w wa
 clean:s.dirty=false->wa=w
theorem aZ.sync{s:St}{a:Act}(h:aZ s a w wa){F:A_->Prop}(hF:sync s w F):F wa:=by
 unfold Vc.sync at hF;cases hd:s.dirty
 ·simp only[hd,cond_false]at hF;rw[h.clean hd];exact hF
 ·simp only[hd,cond_true]at hF;exact hF wa (h.dirty hd)
def bW(s s':St):Prop:=(s'.ro=s.ro/\s'.kp=s.kp)/\∀k b cs,(k,b,cs)∈s.l->∃cs',(k,b,cs')∈s'.l/\(k∈s.ro->cs'=cs)
theorem bW.refl(s:St):bW s s:=⟨⟨rfl,rfl⟩,fun k b cs h=>⟨cs,h,fun _=>rfl⟩⟩
theorem bW.trans{s t u:St}(h:bW s t)(k:bW t u):bW s u:=
 ⟨⟨k.1.1.trans h.1.1,k.1.2.trans h.1.2⟩,fun x b cs hm=>by
  obtain⟨c1,h1,e1⟩:=h.2 x b cs hm;obtain⟨c2,h2,e2⟩:=k.2 x b c1 h1;exact⟨c2,h2,fun hr=>(e2 (h.1.1▸hr)).trans (e1 hr)⟩⟩
theorem bW.of_eq{s s':St}(h1:s'.l=s.l)(h2:s'.ro=s.ro)(h3:s'.kp=s.kp:=by rfl):bW s s':=⟨⟨h2,h3⟩,fun k b cs h=>⟨cs,h1▸h,fun _=>rfl⟩⟩
theorem bQ.clean{s:St}{a:Act}(h:bQ s a w):bQ s.clean a w:=⟨h.v,h.loc,h.lsl,h.lok,h.dok⟩
theorem bQ.good{s:St}{a:Act}(h:bQ s a w):aZ s.clean a w w:=⟨h.clean,fun h=>(by cases h),fun _=>rfl⟩
theorem aZ.put{s:St}{a:Act}(h:aZ s a w wa){d:Option Nat}{e:Option EV}(hd:∀t,d=some t->t<a.tmps.size)(he:lI s e v):
  aZ (s.put d e) (a.put d v) w wa:=by
 refine⟨h.ag.put hd he,fun hx=>?_,fun hx=>?_⟩
 ·cases d<;>exact h.dirty hx
 ·cases d<;>exact h.clean hx
def aU(w w':A_):Prop:=∀a v,w.cell? a=some v->w'.cell? a=some v
inductive Pn
 |seq (ne:Bool)
 |aeq (ne:Bool) (n:Nat)
 |fnil (ne:Bool)
 |aix (sc:Sc) (n:Nat)
 |six
 |mki (t:E_)
 |inil (ne:Bool)
 |tas (t:E_) (z:B_) (sh:Sh)
 |mm3 (mx:Bool)
 |cat
 |arr (n:Nat)
 |ssl (lo hi:Bool)
 |cap
 |aixs (scs:List Sc) (n m:Nat)
def mZ:B_->Bool
 |.nilIface=>true
 |.iface _ _=>true
 |_=>false
def lw:B_->Bool
 |.nilIface=>true
 |_=>false
def BF:B_->Bool
 |.nilFunc=>true
 |.func _ _ _=>true
 |_=>false
def pD:B_->Bool
 |.nilFunc=>true
 |_=>false
def pP:List B_->List B_->Option Bool
 |[],[]=>some true
 |.int k a::xs,.int k' b::ys=>match decide (k=k'),pP xs ys with
  |true,some r=>some (decide (a=b)&&r)
  |_,_=>none
 |_,_=>none
def dY(b:ByteArray)(i:Nat):Int:=match b[i]? with|some x=>(x.toNat:Int)|none=>0
def is(p:Pn)(vs:List B_)(F:B_->Prop):Prop:=
 match p,vs with
 |.seq ne,[.string a,.string b]=>match ne with|true=>F (.bool (!(decide (a=b))))|false=>F (.bool (decide (a=b)))
 |.aeq ne n,[.agg xs,.agg ys]=>match K_ xs.toList.length n,pP xs.toList ys.toList with
  |true,some r=>(match ne with|true=>F (.bool (!r))|false=>F (.bool r))
  |_,_=>False
 |.fnil ne,[v,.nilFunc]=>BF v=true/\(match ne with|true=>F (.bool (!pD v))|false=>F (.bool (pD v)))
 |.aix sc n,[.agg xs,.int _ i]=>0<=i/\i<n/\sc.ex fun v=>xs.toList[i.toNat]?=some v/\F v
 |.six,[.string b,.int _ i]=>0<=i/\i<b.size/\F (.int .u8 (dY b i.toNat))
 |.mki t,[v]=>F (.iface t v)
 |.inil ne,[v,.nilIface]=>mZ v=true/\(match ne with|true=>F (.bool (!lw v))|false=>F (.bool (lw v)))
 |.tas t z sh,[v]=>(sh.ex fun x=>v=.iface t x/\F (.tuple #[x,.bool true]))\/(mZ v=true/\(∀x,v≠.iface t x)/\F (.tuple #[z,.bool false]))
 |.mm3 mx,[.int k a,.int _ b,.int _ c]=>(match mx with|true=>F (.int k (max (max a b) c))|false=>F (.int k (min (min a b) c)))
 |.cat,[.string a,.string b]=>a.size+b.size<=2^62/\F (.string (a++b))
 |.arr n,[.slice p len _]=>n<=len/\F (.pointer p)
 |.ssl true true,[.string b,.int _ l,.int _ h]=>0<=l/\l<=h/\h<=b.size/\F (.string (b.extract l.toNat h.toNat))
 |.ssl true false,[.string b,.int _ l]=>0<=l/\l<=b.size/\F (.string (b.extract l.toNat b.size))
 |.ssl false true,[.string b,.int _ h]=>0<=h/\h<=b.size/\F (.string (b.extract 0 h.toNat))
 |.ssl false false,[.string b]=>F (.string (b.extract 0 b.size))
 |.cap,[.slice _ _ c]=>F (.int .i64 c)
 |.aixs scs n m,[.agg xs,.int _ i]=>0<=i/\i<n/\GD scs fun vs=>(xs.toList.drop (i.toNat*m)).take m=vs/\F (.agg vs.toArray)
 |_,_=>False
inductive Kd
 |int (k:F_)
 |str
 |agg (ks:List F_)
inductive fi
 |mv (x:G_)
 |pick (c a b:G_)
 |arith (op:BinOp) (x y:G_)
 |bits (op:BinOp) (x y:G_)
 |cmp (op:BinOp) (x y:G_)
 |div (op:BinOp) (c:Bool) (x y:G_)
 |shift (op:BinOp) (c:Bool) (x y:G_)
 |beq (ne:Bool) (x y:G_)
 |pnil (ne:Bool) (x:G_)
 |snil (ne:Bool) (x:G_)
 |not (x:G_)
 |neg (x:G_)
 |conv (k:F_) (x:G_)
 |nilck (x:G_)
 |faddr (x:G_) (off:Nat)
 |iaddr (x ix:G_) (sz:Nat)
 |aaddr (x ix:G_) (n sz:Nat)
 |ld (x:G_) (sh:Sh)
 |slc (x:G_) (lo hi:Option G_) (sz:Nat)
 |slca (x:G_) (lo hi:Option G_) (n sz:Nat)
 |slc3 (x:G_) (lo:Option G_) (hi mx:G_) (sz:Nat)
 |len (x:G_)
 |lens (x:G_)
 |mm (mx:Bool) (x y:G_)
 |extract (x:G_) (i:Nat)
 |mkfn (fn:Fn) (caps:List G_)
 |build (zero:List B_) (parts:List (Nat×Nat×G_))
 |pur (p:Pn) (xs:List G_)
 |st (x v:G_) (n:Nat)
 |boxV (elem:E_) (zero:List B_) (x:Option G_)
 |boxL (k:Nat) (elem:E_) (zero:List B_) (x:Option G_)
 |bslV (elem sz n:Nat) (zero:List B_) (parts:List (Nat×G_))
 |bslL (k:Nat) (elem sz n:Nat) (zero:List B_) (parts:List (Nat×G_))
 |mksl (elem bytes:Nat) (zero:List B_) (l c:G_)
 |app (elem sz bytes:Nat) (zero:List B_) (x y:G_)
 |appz (elem sz bytes:Nat) (zero:List B_) (x y:G_)
 |cpy (elem sz:Nat) (x y:G_)
 |call (f:G_) (args:List G_) (sh:List Sh)
 |mkmp
 |mget (kd:Kd) (ok:Bool) (zero:B_) (sh:List Sh) (x ix:G_)
 |mset (kd:Kd) (x ix v:G_)
 |mark (x:G_)
 |sbs (elem:E_) (x:G_)
 |bstr (x:G_)
 |clr (zero:List B_) (x:G_)
 |pan (x:G_)
def jk:BinOp->Int->Int->Int
 |.add,a,b=>a+b
 |.sub,a,b=>a-b
 |_,a,b=>a*b
def MF:BinOp->Int->Int->Bool
 |.eql,a,b=>a==b
 |.neq,a,b=>a !=b
 |.lss,a,b=>decide (a<b)
 |.leq,a,b=>decide (a<=b)
 |.gtr,a,b=>decide (a>b)
 |_,a,b=>decide (a>=b)
def aR(op:BinOp)(k:F_)(a b:Int):Int:=
 let x:=BitVec.ofInt k.bits a
 let y:=BitVec.ofInt k.bits b
 match op with
 |.and=>(x&&& y).toNat
 |.or=>(x|||y).toNat
 |.xor=>(x^^^y).toNat
 |_=>(x&&& ~~~y).toNat
def ad(op:BinOp)(k:F_)(a b:Int):Int:=match op with|.quo=>k.wrap (a.tdiv b)|_=>a.tmod b
def an(op:BinOp)(k:F_)(a b:Int):Int:=
 match op with|.shl=>k.wrap (a*2^(min b.toNat k.bits))|_=>a.fdiv (2^(min b.toNat k.bits))
def nn(p:Option C_)(F:C_->Prop):Prop:=match p with|some a=>F a|none=>False
def ae(b:Bool)(A B:Prop):Prop:=match b with|true=>A|false=>B
def Mz(c:Bool)(A B:Prop):Prop:=match c with|true=>B|false=>A/\B
def yB(w:A_)(a:C_):List B_->Nat->Prop->Prop
 |[],_,K=>K
 |v::vs,i,K=>w.cell? (a.add i)=some v/\yB w a vs (i+1) K
def iK(w:A_)(a:C_)(vs:List B_):Prop:=∀j v,vs[j]?=some v->w.cell? (a.add j)=some v
def aq(base:Option C_)(len:Nat)(i:Int)(sz:Nat)(F:C_->Prop):Prop:=
 0<=i/\i<len/\∃a,base=some a/\F (a.add (i.toNat*sz))
def aX(base:Option C_)(lo cap sz:Nat):Option C_:=if cap=lo then base else base.map (·.add (lo*sz))
def cO(base:Option C_)(cap:Nat)(lo hi:Int)(sz:Nat)(F:Option C_->Nat->Nat->Prop):Prop:=
 0<=lo/\lo<=hi/\hi<=cap/\F (aX base lo.toNat cap sz) (hi.toNat-lo.toNat) (cap-lo.toNat)
def PD(s:St)(x:G_)(F:C_->Prop):Prop:=match s.ev x with|some (.pointer p)=>nn p F|_=>False
def PF:Option B_->Option (F_×Int)
 |some (.int k n)=>some (k,n)
 |_=>none
def PE:Option B_->Option Bool
 |some (.bool b)=>some b
 |_=>none
def St.evE(s:St):G_->Option EV
 |.tmp t=>s.ρ t
 |x=>(s.ev x).map EV.v
def St.evOr(s:St)(d:B_):Option G_->Option B_
 |none=>some d
 |some o=>s.ev o
def mQ(zero:List B_):List (Nat×List B_)->List B_
 |[]=>zero
 |(off,vs)::r=>mQ (zero.take off++vs++zero.drop (off+vs.length)) r
def nC(n:Nat):List (Nat×List B_)->Bool
 |[]=>true
 |(off,vs)::r=>M_ (off+vs.length) n&&nC n r
def St.places(s:St):List (Nat×Nat×G_)->Option (List (Nat×List B_))
 |[]=>some []
 |(off,n,x)::r=>match s.ev x,s.places r with
  |some v,some ps=>match K_ v.cells.toList.length n with|true=>some ((off,v.cells.toList)::ps)|false=>none
  |_,_=>none
def aL(i:fi)(s:St)(w:A_)(K:Option EV->St->A_->Prop):Prop:=
 match i with
 |.mv x=>match s.evE x with|some e=>K (some e) s w|none=>False
 |.pick c a b=>match s.ev c,s.ev a,s.ev b with
  |some (.bool t),va,vb=>ae t (match va with|some v=>K (some (.v v)) s w|none=>False) (match vb with|some v=>K (some (.v v)) s w|none=>False)
  |_,_,_=>False
 |.arith op x y=>match s.ev x,s.ev y with
  |some (.int k a),some (.int k' b)=>match decide (k=k')with|true=>K (some (.v (.int k (k.wrap (jk op a b))))) s w|false=>False
  |_,_=>False
 |.bits op x y=>match s.ev x,s.ev y with
  |some (.int k a),some (.int k' b)=>match decide (k=k')with|true=>K (some (.v (.int k (k.wrap (aR op k a b))))) s w|false=>False
  |_,_=>False
 |.cmp op x y=>match s.ev x,s.ev y with
  |some (.int k a),some (.int k' b)=>match decide (k=k')with|true=>K (some (.v (.bool (MF op a b)))) s w|false=>False
  |_,_=>False
 |.div op c x y=>match s.ev x,s.ev y with
  |some (.int k a),some (.int k' b)=>match decide (k=k')with|true=>Mz c (b≠0) (K (some (.v (.int k (ad op k a b)))) s w)|false=>False
  |_,_=>False
 |.shift op c x y=>match s.ev x,s.ev y with
  |some (.int k a),some (.int _ b)=>Mz c (0<=b) (K (some (.v (.int k (an op k a b)))) s w)
  |_,_=>False
 |.beq ne x y=>match s.ev x,s.ev y with
  |some (.bool a),some (.bool b)=>match ne with|true=>K (some (.v (.bool (!(a==b))))) s w|false=>K (some (.v (.bool (a==b)))) s w
  |_,_=>False
 |.pnil ne x=>match s.ev x with
  |some (.pointer p)=>match ne with|true=>K (some (.v (.bool (!p.isNone)))) s w|false=>K (some (.v (.bool p.isNone))) s w
  |_=>False
 |.snil ne x=>match s.ev x with
  |some (.slice p _ _)=>match ne with|true=>K (some (.v (.bool (!p.isNone)))) s w|false=>K (some (.v (.bool p.isNone))) s w
  |_=>False
 |.not x=>match s.ev x with
  |some (.bool b)=>K (some (.v (.bool (!b)))) s w
  |_=>False
 |.neg x=>match s.ev x with
  |some (.int k n)=>K (some (.v (.int k (k.wrap (0-n))))) s w
  |_=>False
 |.conv k x=>match s.ev x with
  |some (.int _ n)=>K (some (.v (.int k (k.wrap n)))) s w
  |_=>False
 |.nilck x=>match s.evE x with
  |some (.v (.pointer p))=>nn p fun a=>K (some (.v (.pointer (some a)))) s w
  |some (.v (.func fn f c))=>match fn with|.func _=>K (some (.v (.func fn f c))) s w|.yield _=>K (some (.v (.func fn f c))) s w|_=>False
  |some (.loc k off)=>K (some (.loc k off)) s w
  |_=>False
 |.faddr x off=>match s.evE x with
  |some (.v (.pointer p))=>nn p fun a=>K (some (.v (.pointer (some (a.add off))))) s w
  |some (.loc k o)=>K (some (.loc k (o+off))) s w
  |_=>False
 |.iaddr x ix sz=>match s.ev x,s.ev ix with
  |some (.slice base len _),some (.int _ i)=>aq base len i sz fun a=>K (some (.v (.pointer (some a)))) s w
  |_,_=>False
 |.aaddr x ix n sz=>match s.ev x,s.ev ix with
  |some (.pointer p),some (.int _ i)=>nn p fun a=>0<=i/\i<n/\K (some (.v (.pointer (some (a.add (i.toNat*sz)))))) s w
  |_,_=>False
 |.ld x sh=>match s.evE x with
  |some (.v (.pointer p))=>nn p fun a=>sync s w fun w=>match sh with
   |.sc sc=>sc.ex fun v=>w.cell? a=some v/\K (some (.v v)) s.clean w
   |.agg l=>GD l fun vs=>yB w a vs 0 (K (some (.v (.agg vs.toArray))) s.clean w)
   |.row n=>∃vs:List B_,vs.length=n/\iK w a vs/\K (some (.v (.agg vs.toArray))) s.clean w
  |some (.loc k off)=>match fu k s.l with
   |some (_,cs)=>match sh with
    |.sc _=>match cs[off]? with|some v=>K (some (.v v)) s w|none=>False
    |.agg l=>match M_ (off+l.length) cs.length with|true=>K (some (.v (.agg ((cs.drop off).take l.length).toArray))) s w|false=>False
    |.row _=>False
   |none=>False
  |_=>False
 |.slc x lo hi sz=>match s.ev x with
  |some (.slice base len cap)=>
   match s.evOr (.int .i64 0) lo,s.evOr (.int .i64 len) hi with
   |some (.int _ l),some (.int _ h)=>cO base cap l h sz fun b n c=>K (some (.v (.slice b n c))) s w
   |_,_=>False
  |_=>False
 |.slca x lo hi n sz=>match s.ev x with
  |some (.pointer p)=>nn p fun a=>
   match s.evOr (.int .i64 0) lo,s.evOr (.int .i64 n) hi with
   |some (.int _ l),some (.int _ h)=>cO (some a) n l h sz fun b m c=>K (some (.v (.slice b m c))) s w
   |_,_=>False
  |_=>False
 |.slc3 x lo hi mx sz=>match s.ev x with
  |some (.slice base _ cap)=>
   match s.evOr (.int .i64 0) lo,s.ev hi,s.ev mx with
   |some (.int _ l),some (.int _ h),some (.int _ m)=>0<=m/\m<=(cap:Int)/\cO base m.toNat l h sz fun b n c=>K (some (.v (.slice b n c))) s w
   |_,_,_=>False
  |_=>False
 |.len x=>match s.ev x with
  |some (.slice _ n _)=>K (some (.v (.int .i64 n))) s w
  |_=>False
 |.lens x=>match s.ev x with
  |some (.string b)=>K (some (.v (.int .i64 b.size))) s w
  |_=>False
 |.mm mx x y=>match s.ev x,s.ev y with
  |some (.int k a),some (.int _ b)=>match mx with|true=>K (some (.v (.int k (max a b)))) s w|false=>K (some (.v (.int k (min a b)))) s w
  |_,_=>False
 |.extract x i=>match s.ev x with
  |some (.tuple vs)=>match vs.toList[i]? with|some v=>K (some (.v v)) s w|none=>False
  |_=>False
 |.mkfn fn caps=>match s.evs caps with
  |some vs=>K (some (.v (.func fn #[] vs.toArray))) s w
  |none=>False
 |.build zero parts=>match s.places parts with
  |some ps=>match nC zero.length ps with|true=>K (some (.v (.agg (mQ zero ps).toArray))) s w|false=>False
  |none=>False
 |.pur p xs=>match s.evs xs with
  |some vs=>is p vs fun v=>K (some (.v v)) s w
  |none=>False
 |_=>False
def HT:B_->Sc
 |.int k _=>.int k
 |.bool _=>.bool
 |.string _=>.str
 |.pointer _=>.ptr
 |.slice _ _ _=>.slice
 |.map _=>.map
 |.nilFunc=>.fn
 |_=>.any
def AG:B_->Sc
 |.nilFunc=>.any
 |v=>HT v
def yM(cs:Array B_):Sh:=match M_ cs.size 24 with|true=>.agg (cs.toList.map AG)|false=>.row cs.size
theorem rQ(cs:Array B_):yM cs=.agg (cs.toList.map AG)\/yM cs=.row cs.size:=by
 unfold yM;split
 ·exact .inl rfl
 ·exact .inr rfl
def Nr:B_->Sh
 |.agg cs=>yM cs
 |v=>.sc (HT v)
def NC:B_->List Sh
 |.tuple vs=>vs.toList.map Nr
 |v=>[Nr v]
def qk(P:D_)(t:E_):Option Bool:=
 match P.underlying t with
 |some (.struct _)|some (.array _ _)=>some true
 |some _=>some false
 |none=>none
def eA(P:D_)(t:E_):Option Nat:=(P.info? t).map (·.size)
def jL(P:D_)(t:E_):Option B_:=(P.info? t).bind (·.zero)
def dR(P:D_)(t:E_):Option (List B_):=(jL P t).map (·.cells.toList)
def Cg:G_->Bool
 |.const (.pointer none)=>true
 |_=>false
def Hg:G_->Bool
 |.const .nilIface=>true
 |_=>false
def BG:G_->Bool
 |.const (.slice none _ _)=>true
 |_=>false
def tI:G_->Option Int
 |.const (.int _ n)=>some n
 |_=>none
def gg(P:D_):List Field->Nat->Bool
 |[],_=>true
 |f::r,i=>K_ f.offset i&&f.name != "_" &&(match P.underlying f.type with|some (.int _)=>true|_=>false)&&gg P r (i+1)
def lz(P:D_)(op:BinOp)(t:E_)(x y:G_):Option fi:=
 match op with
 |.add=>match P.underlying t with|some (.int _)=>some (.arith .add x y)|some .string=>some (.pur .cat [x,y])|_=>none
 |.sub|.mul=>match P.underlying t with|some (.int _)=>some (.arith op x y)|_=>none
 |.and|.or|.xor|.andNot=>some (.bits op x y)
 |.quo|.rem=>some (.div op (match tI y with|some n=>decide (n≠0)|none=>false) x y)
 |.shl|.shr=>some (.shift op (match tI y with|some n=>decide (0<=n)|none=>false) x y)
 |.lss|.leq|.gtr|.geq=>match P.underlying t with|some (.int _)=>some (.cmp op x y)|_=>none
 |.eql|.neq=>match P.underlying t with
  |some (.int _)=>some (.cmp op x y)
  |some .bool=>some (.beq (decide (op=.neq)) x y)
  |some (.pointer _)=>match Cg y with
   |true=>some (.pnil (decide (op=.neq)) x)
   |false=>match Cg x with
    |true=>some (.pnil (decide (op=.neq)) y)
    |false=>none
  |some (.slice _)=>match BG y with
   |true=>some (.snil (decide (op=.neq)) x)
   |false=>match BG x with
    |true=>some (.snil (decide (op=.neq)) y)
    |false=>none
  |some .string=>some (.pur (.seq (decide (op=.neq))) [x,y])
  |some (.struct fs)=>match gg P fs.toList 0&&!P.stoodInHeld t&&!P.eqGuardType P.depth t with
   |true=>some (.pur (.aeq (decide (op=.neq)) fs.toList.length) [x,y])
   |false=>none
  |some (.func _ _ _)=>some (.pur (.fnil (decide (op=.neq))) [x,y])
  |some (.interface _)=>match Hg y with
   |true=>some (.pur (.inil (decide (op=.neq))) [x,y])
   |false=>none
  |_=>none
def ko(P:D_)(fs:Array Field):List (Nat×G_)->Option (List (Nat×Nat×G_))
 |[]=>some []
 |(i,x)::r=>match fs[i]?,ko P fs r with
  |some f,some ps=>(eA P f.type).map fun n=>(f.offset,n,x)::ps
  |_,_=>none
def pd(sz:Nat):List (Nat×G_)->List (Nat×Nat×G_)
 |[]=>[]
 |(i,x)::r=>(i*sz,sz,x)::pd sz r
def Pa:TypeDesc->Bool
 |.interface _=>true
 |_=>false
def aT(P:D_)(op:Op):Option fi:=
 match op with
 |.move x|.assign x=>some (.mv x)
 |.pick c a b=>some (.pick c a b)
 |.binOp op t x y _=>lz P op t x y
 |.unOp .not _ x=>some (.not x)
 |.unOp .neg _ x=>some (.neg x)
 |.convert src dst x=>match P.underlying src,P.underlying dst with
  |some (.int _),some (.int k)=>some (.conv k x)
  |_,_=>none
 |.nilCheck x=>some (.nilck x)
 |.fieldAddr s x f=>match P.underlying s with
  |some (.struct fs)=>match fs[f]? with
   |some fd=>match eA P fd.type with
    |some n=>match K_ n 0 with|true=>none|false=>some (.faddr x fd.offset)
    |none=>none
   |none=>none
  |_=>none
 |.indexAddr t x ix=>match P.underlying t with
  |some (.slice e)=>(eA P e).map (.iaddr x ix ·)
  |some (.array n e)=>match M_ n 1 with|true=>none|false=>(eA P e).map (.aaddr x ix n ·)
  |_=>none
 |.load t x=>match qk P t,eA P t,jL P t with
  |some false,_,some z=>some (.ld x (.sc (HT z)))
  |some true,some n,some (.agg cs)=>match K_ n cs.size with|true=>some (.ld x (yM cs))|false=>none
  |_,_,_=>none
 |.slice t x lo hi none=>match P.underlying t with
  |some (.slice e)=>(eA P e).map (.slc x lo hi ·)
  |some (.array n e)=>(eA P e).map (.slca x lo hi n ·)
  |some .string=>some (.pur (.ssl lo.isSome hi.isSome) (x::(lo.toList++hi.toList)))
  |_=>none
 |.extract x i=>some (.extract x i)
 |.build t parts=>match P.underlying t,dR P t with
  |some (.struct fs),some z=>match fs.toList.all fun f=>(eA P f.type).isSome with
   |true=>(ko P fs parts.toList).map (.build z ·)
   |false=>none
  |some (.array _ e),some z=>(eA P e).map fun sz=>.build z (pd sz parts.toList)
  |_,_=>none
 |.makeInterface t x=>match P.underlying t with
  |some (.interface _)=>none
  |some _=>some (.pur (.mki t) [x])
  |none=>none
 |.typeAssert x _ t ok=>match ok,P.underlying t,jL P t with
  |true,some d,some z=>match Pa d with|true=>none|false=>some (.pur (.tas t z (Nr z)) [x])
  |_,_,_=>none
 |.makeFunc fn first caps=>match first.toList with
  |[]=>some (.mkfn fn caps.toList)
  |_=>none
 |.call c=>match c.callee with
  |.builtin .len=>match c.args.toList,c.argTypes.toList with
   |[x],[t]=>match P.underlying t with
    |some (.slice _)=>some (.len x)
    |some .string=>some (.lens x)
    |_=>none
   |_,_=>none
  |.builtin .min=>match c.args.toList with
   |[x,y]=>some (.mm false x y)
   |[x,y,z]=>some (.pur (.mm3 false) [x,y,z])
   |_=>none
  |.builtin .max=>match c.args.toList with
   |[x,y]=>some (.mm true x y)
   |[x,y,z]=>some (.pur (.mm3 true) [x,y,z])
   |_=>none
  |.builtin .cap=>match c.args.toList,c.argTypes.toList with
   |[x],[t]=>match P.underlying t with
    |some (.slice _)=>some (.pur .cap [x])
    |_=>none
   |_,_=>none
  |_=>none
 |.slice t x lo (some hi) (some mx)=>match P.underlying t with
  |some (.slice e)=>(eA P e).map (.slc3 x lo hi mx ·)
  |_=>none
 |.index t x ix=>match P.underlying t with
  |some (.array n e)=>match qk P e,eA P e,jL P e with
   |some false,some 1,some z=>some (.pur (.aix (HT z) n) [x,ix])
   |some true,some m,some (.agg cs)=>match M_ m 24 with|true=>some (.pur (.aixs (cs.toList.map AG) n m) [x,ix])|false=>none
   |_,_,_=>none
  |some .string=>some (.pur .six [x,ix])
  |_=>none
 |.sliceToArrayPointer t x=>match P.underlying t with
  |some (.array n _)=>some (.pur (.arr n) [x])
  |_=>none
 |_=>none
theorem aU.refl(w:A_):aU w w:=fun _ _ h=>h
theorem aU.trans{a b c:A_}(h:aU a b)(k:aU b c):aU a c:=fun x v hx=>k x v (h x v hx)
theorem Ext.keeps(h:Ext w w'):aU w w':=fun _ _ hc=>h.cell hc
theorem aU.alloc(w:A_)(o:Obj):aU w (w.alloc o):=((Ext.refl w).alloc o).keeps
def oO:Op->Bool
 |.load _ _=>false
 |_=>true
abbrev Pr(P:D_)(o:Oper)(ρ:G_->B_)(wa:A_)(v:B_):Prop:=
 ∀wx,(oO o.op=true\/aU wa wx)->(execOp ρ o).run P wx=.ok (.value v) wx
theorem bQ.evE{s:St}{a:Act}(h:bQ s a w){x:G_}{e:EV}(hx:s.evE x=some e):lI s (some e) (a.eval x):=by
 cases x with
 |tmp t=>
  simp only[St.evE]at hx;cases e with
  |v y=>exact h.v _ _ hx
  |loc k off=>exact h.loc _ _ _ hx
  |lsl k n=>exact h.lsl _ _ _ hx
 |const c=>simp[St.evE,St.ev]at hx;subst hx;rfl
 |global g=>simp[St.evE,St.ev]at hx;subst hx;rfl
 |func f=>simp[St.evE,St.ev]at hx;subst hx;rfl
def mK(P:D_)(o:Oper)(a:Act)(s:St)(wa:A_)(K:Option EV->St->A_->Prop):Prop:=
 ∃v e s' w',Pr P o a.eval wa v/\aZ s' a w' wa/\lI s' e v/\bW s s'/\K e s' w'
theorem bU{P:D_}{o:Oper}{a:Act}{s:St}{K:Option EV->St->A_->Prop}(hg:aZ s a w wa)
 (hk:K (some (.v v)) s w)(hr:∀wx,(execOp a.eval o).run P wx=.ok (.value v) wx):mK P o a s wa K:=
 ⟨v,some (.v v),s,w,fun wx _=>hr wx,hg,rfl,bW.refl s,hk⟩
theorem aC{P:D_}{d:TypeDesc}(h:P.underlying t=some d)(w:A_):(underlying t).run P w=.ok d w:=by
 simp[underlying,h]
theorem bE{P:D_}(h:eA P t=some n)(w:A_):(sizeOf t).run P w=.ok n w:=by
 unfold eA at h;cases hi:P.info? t with
 |none=>rw[hi]at h;cases h
 |some i=>
  rw[hi]at h;cases h;simp[sizeOf,typeInfo,hi]
theorem pg{P:D_}{b:Bool}(h:qk P t=some b)(w:A_):(isAgg t).run P w=.ok b w:=by
 unfold qk at h
 split at h
 ·rename_i fs hu;cases h;simp[isAgg,aC hu]
 ·rename_i fs n hu;cases h;simp[isAgg,aC hu]
 ·rename_i d hn1 hn2 hu;cases h
  simp only[isAgg,H_,aC hu,I_];cases d<;>first|rfl|(exfalso;exact hn1 _ rfl)|(exfalso;exact hn2 _ _ rfl)
 ·cases h
theorem pL{w:A_}{a:C_}:∀{vs:List B_} {i:Nat} {K:Prop},yB w a vs i K->(∀j v,vs[j]?=some v->w.cell? (a.add (i+j))=some v)/\K
 |[],_,_,h=>⟨fun j v hv=>by simp at hv,h⟩
 |v::vs,i,K,h=>by
  obtain⟨h1,h2⟩:=pL h.2;refine⟨fun j u hu=>?_,h2⟩;cases j with
  |zero=>simp at hu;subst hu;simpa using h.1
  |succ j=>simp at hu;have:=h1 j u hu;rwa[show i+(j+1)=i+1+j by omega]
theorem gL{P:D_}(h:qk P t=some false){a:C_}(hc:w.cell? a=some v):
  (loadVar t a).run P w=.ok v w:=by
 simp[loadVar,pg h,hc]
theorem eC{P:D_}(h:qk P t=some true){a:C_}(hs:eA P t=some vs.length)
 (hc:∀j v,vs[j]?=some v->w.cell? (a.add j)=some v):(loadVar t a).run P w=.ok (.agg vs.toArray) w:=by
 simp only[loadVar,H_,pg h,I_,if_true,bE hs];rw[run_loadCells_list w a vs hc];simp
theorem dV{cs:List B_}(h:w.heap[b]?=some (.cells cs.toArray e (0,0)))
 (hv:cs[off]?=some v):w.cell? ⟨b,off,none⟩=some v:=by
 simp[A_.cell?,h,hv]
theorem EA{P:D_}{op:BinOp}{k:F_}{a b:Int}(w:A_)
 (hop:op=.add\/op=.sub\/op=.mul):(binOp op t (.int k a) (.int k b)).run P w=.ok (.int k (k.wrap (jk op a b))) w:=by
 rcases hop with rfl|rfl|rfl<;>simp[binOp,Op.intArith,jk]
theorem Kq{P:D_}{op:BinOp}{k:F_}{a b:Int}(w:A_)
 (hop:op=.and\/op=.or\/op=.xor\/op=.andNot):(binOp op t (.int k a) (.int k b)).run P w=.ok (.int k (k.wrap (aR op k a b))) w:=by
 rcases hop with rfl|rfl|rfl|rfl<;>simp[binOp,Op.intBits,aR]
theorem EJ{P:D_}{op:BinOp}{k:F_}{a b:Int}(w:A_)
 (hop:op=.eql\/op=.neq\/op=.lss\/op=.leq\/op=.gtr\/op=.geq):(binOp op t (.int k a) (.int k b)).run P w=.ok (.bool (MF op a b)) w:=by
 rcases hop with rfl|rfl|rfl|rfl|rfl|rfl<;>simp[binOp,Op.intCmp,MF]
theorem Lh{P:D_}{op:BinOp}{k:F_}{a b:Int}(w:A_)
 (hop:op=.quo\/op=.rem)(hb:b≠0):(binOp op t (.int k a) (.int k b)).run P w=.ok (.int k (ad op k a b)) w:=by
 rcases hop with rfl|rfl<;>simp[binOp,Op.intDiv,ad,hb]
theorem Im{P:D_}{op:BinOp}{k k':F_}{a b:Int}(w:A_)
 (hop:op=.shl\/op=.shr)(hb:0<=b):(binOp op t (.int k a) (.int k' b)).run P w=.ok (.int k (an op k a b)) w:=by
 have hb':¬b<0:=by omega
 rcases hop with rfl|rfl<;>simp[binOp,Op.shift,an,hb']
theorem JD{P:D_}{op:BinOp}{x y:G_}{u:B_}(w:A_)
 (h:(u≠.nilIface/\∀c,u≠.agg c)\/(v≠.nilIface/\∀c,v≠.agg c)):(eqGuard op t x y u v).run P w=.ok () w:=by
 unfold eqGuard;cases op<;>simp<;>(cases u<;>cases v<;>simp_all)
theorem LC{P:D_}(ht:P.underlying t=some .bool)(w:A_)(d:Nat)(a b:Bool):
  (Op.equalIn (d+1) t (.bool a) (.bool b)).run P w=.ok (a==b) w:=by simp[Op.equalIn,aC ht]
theorem G5{P:D_}(ht:P.underlying t=some (.pointer e))(w:A_)(d:Nat)(p:Option C_):
  (Op.equalIn (d+1) t (.pointer p) (.pointer none)).run P w=.ok p.isNone w/\(Op.equalIn (d+1) t (.pointer none) (.pointer p)).run P w=.ok p.isNone w:=by
 cases p<;>simp[Op.equalIn,aC ht]
theorem BL{P:D_}(ht:P.underlying t=some (.slice e))(w:A_)(d:Nat)(p:Option C_)(l c l' c':Nat):
  (Op.equalIn (d+1) t (.slice p l c) (.slice none l' c')).run P w=.ok p.isNone w/\(Op.equalIn (d+1) t (.slice none l' c') (.slice p l c)).run P w=.ok p.isNone w:=by
 cases p<;>simp[Op.equalIn,aC ht]
theorem fx(t:E_)(x y:B_):Op.equal t x y=Op.equalIn (9999+1) t x y:=rfl
theorem CV{P:D_}(ht:P.underlying t=some .bool)(w:A_)(a b:Bool):
  (binOp .eql t (.bool a) (.bool b)).run P w=.ok (.bool (a==b)) w/\(binOp .neq t (.bool a) (.bool b)).run P w=.ok (.bool (!(a==b))) w:=by
 constructor<;>simp only[binOp,fx,H_,LC ht,I_,J_]
theorem rj{P:D_}(ht:P.underlying t=some (.pointer e))(w:A_)(p:Option C_):
  ((binOp .eql t (.pointer p) (.pointer none)).run P w=.ok (.bool p.isNone) w/\(binOp .neq t (.pointer p) (.pointer none)).run P w=.ok (.bool (!p.isNone)) w)/\
  (binOp .eql t (.pointer none) (.pointer p)).run P w=.ok (.bool p.isNone) w/\(binOp .neq t (.pointer none) (.pointer p)).run P w=.ok (.bool (!p.isNone)) w:=by
 refine⟨⟨?_,?_⟩,?_,?_⟩<;>simp only[binOp,fx,H_,(G5 ht _ _ _).1,(G5 ht _ _ _).2,I_,J_]
theorem mO{P:D_}(ht:P.underlying t=some (.slice e))(w:A_)(p:Option C_)(l c l' c':Nat):
  ((binOp .eql t (.slice p l c) (.slice none l' c')).run P w=.ok (.bool p.isNone) w/\(binOp .neq t (.slice p l c) (.slice none l' c')).run P w=.ok (.bool (!p.isNone)) w)/\
  (binOp .eql t (.slice none l' c') (.slice p l c)).run P w=.ok (.bool p.isNone) w/\(binOp .neq t (.slice none l' c') (.slice p l c)).run P w=.ok (.bool (!p.isNone)) w:=by
 refine⟨⟨?_,?_⟩,?_,?_⟩<;>simp only[binOp,fx,H_,(BL ht _ _ _ _ _ _ _).1,(BL ht _ _ _ _ _ _ _).2,I_,J_]
theorem Nf{P:D_}{ms:Array (String×E_)}(ht:P.underlying t=some (.interface ms))(w:A_)(d:Nat)(hv:mZ v=true):
  (Op.equalIn (d+1) t v .nilIface).run P w=.ok (lw v) w:=by
 unfold mZ at hv
 split at hv
 ·simp[Op.equalIn,aC ht,lw]
 ·simp[Op.equalIn,aC ht,lw]
 ·cases hv
theorem Eu{P:D_}{ms:Array (String×E_)}(ht:P.underlying t=some (.interface ms))(w:A_)(hv:mZ v=true):
  (binOp .eql t v .nilIface).run P w=.ok (.bool (lw v)) w/\(binOp .neq t v .nilIface).run P w=.ok (.bool (!lw v)) w:=by
 have h:=fun d=>Nf ht w d hv;unfold mZ at hv
 split at hv
 ·constructor<;>simp only[binOp,fx,H_,h,I_,J_]
 ·constructor<;>simp only[binOp,fx,H_,h,I_,J_]
 ·cases hv
theorem If{P:D_}{op:BinOp}{x y:G_}(w:A_)(hy:Hg y=true):(eqGuard op t x y v .nilIface).run P w=.ok () w:=by
 unfold Hg at hy
 split at hy
 ·unfold eqGuard
  cases op<;>simp<;>(cases v<;>simp)
 ·cases hy
theorem Or{P:D_}{ps rs:Array E_}{b:Bool}(ht:P.underlying t=some (.func ps rs b))(w:A_)(d:Nat)(hv:BF v=true):
  (Op.equalIn (d+1) t v .nilFunc).run P w=.ok (pD v) w:=by
 unfold BF at hv
 split at hv
 ·simp[Op.equalIn,aC ht,pD]
 ·simp[Op.equalIn,aC ht,pD]
 ·cases hv
theorem HG{P:D_}{ps rs:Array E_}{b:Bool}(ht:P.underlying t=some (.func ps rs b))(w:A_)(hv:BF v=true):
  (binOp .eql t v .nilFunc).run P w=.ok (.bool (pD v)) w/\(binOp .neq t v .nilFunc).run P w=.ok (.bool (!pD v)) w:=by
 have h:=fun d=>Or ht w d hv;unfold BF at hv
 split at hv
 ·constructor<;>simp only[binOp,fx,H_,h,I_,J_]
 ·constructor<;>simp only[binOp,fx,H_,h,I_,J_]
 ·cases hv
theorem gR{F:C_->Prop}(h:nn p F):∃a,p=some a/\F a:=by
 cases p with
 |none=>exact h.elim
 |some a=>exact⟨a,rfl,h⟩
theorem EW{c:Bool}{A B:Prop}(h:Mz c A B)(hc:c=true->A):A/\B:=by
 cases c
 ·exact h
 ·exact⟨hc rfl,h⟩
theorem pV{b:Bool}{A B:Prop}(h:ae b A B):(b=true/\A)\/(b=false/\B):=by
 cases b
 ·exact .inr ⟨rfl,h⟩
 ·exact .inl ⟨rfl,h⟩
section
variable {P : D_} {o : Oper} {s : St} {a : Act} {w wa : A_} {K : Option EV -> St -> A_ -> Prop}
theorem ri{x:G_}(h:Cg x=true)(a:Act):a.eval x=.pointer none:=by
 unfold Cg at h
 split at h
 ·rfl
 ·cases h
theorem EG{x:G_}(h:BG x=true)(a:Act):∃l c,a.eval x=.slice none l c:=by
 unfold BG at h
 split at h
 ·exact⟨_,_,rfl⟩
 ·cases h
theorem Dt{s:St}{x:G_}(h:s.evs [x]=some vs):∃u,s.ev x=some u/\vs=[u]:=by
 simp only[St.evs]at h;cases h1:s.ev x with
 |none=>simp[h1]at h
 |some u=>simp[h1]at h;exact⟨u,rfl,h.symm⟩
theorem mJ{s:St}{x y:G_}(h:s.evs [x,y]=some vs):∃u v,s.ev x=some u/\s.ev y=some v/\vs=[u,v]:=by
 simp only[St.evs]at h;cases h1:s.ev x with
 |none=>simp[h1]at h
 |some u=>
  cases h2:s.ev y with
  |none=>simp[h1,h2]at h
  |some v=>simp[h1,h2]at h;exact⟨u,v,rfl,rfl,h.symm⟩
theorem wD{s:St}{x y z:G_}(h:s.evs [x,y,z]=some vs):∃u v t,s.ev x=some u/\s.ev y=some v/\s.ev z=some t/\vs=[u,v,t]:=by
 simp only[St.evs]at h;cases h1:s.ev x with
 |none=>simp[h1]at h
 |some u=>
  cases h2:s.ev y with
  |none=>simp[h1,h2]at h
  |some v=>
   cases h3:s.ev z with
   |none=>simp[h1,h2,h3]at h
   |some t=>simp[h1,h2,h3]at h;exact⟨u,v,t,rfl,rfl,rfl,h.symm⟩
theorem Lt(p q:ByteArray):(p.toList==q.toList)=decide (p=q):=by
 rw[Bool.eq_iff_iff];simp only[ByteArray.toList_eq,beq_iff_eq,decide_eq_true_eq];constructor
 ·intro h
  obtain⟨⟨x⟩⟩:=p;obtain⟨⟨y⟩⟩:=q;simp at h;rw[h]
 ·intro h;rw[h]
theorem EM(w:A_)(p q:ByteArray):
  (binOp .eql t (.string p) (.string q)).run P w=.ok (.bool (decide (p=q))) w/\(binOp .neq t (.string p) (.string q)).run P w=.ok (.bool (!decide (p=q))) w:=by
 constructor<;>simp only[binOp,Op.stringOp,Lt,J_]
theorem LW(w:A_)(p q:ByteArray)(h:p.size+q.size<=2^62):(binOp .add t (.string p) (.string q)).run P w=.ok (.string (p++q)) w:=by
 have h1:¬(((p.size+q.size:Nat):Int)>F_.i64.max):=by
  have:F_.i64.max=9223372036854775807:=by decide
  rw[this];omega
 simp only[binOp,Op.stringOp,if_neg h1,J_]
theorem nO{d:Nat}:∀{fs:List Field} {i:Nat} {xs ys:List B_} {r:Bool} {X Y:Array B_},gg P fs i=true->X.toList.drop i=xs->Y.toList.drop i=ys->xs.length=fs.length->
  pP xs ys=some r->∀w:A_,(Op.eqFields (d+1) X Y fs).run P w=.ok r w
 |[],i,xs,ys,r,X,Y,_,hx,hy,hl,hr,w=>by
  have:xs=[]:=List.length_eq_zero_iff.1 hl;rw[this]at hr;cases ys with
  |nil=>simp only[pP,U_]at hr;subst hr;simp[Op.eqFields]
  |cons y ys=>simp[pP]at hr
 |f::fs,i,xs,ys,r,X,Y,hi,hx,hy,hl,hr,w=>by
  simp only[gg,N_]at hi;obtain⟨⟨⟨ho,hn⟩,hu⟩,hrest⟩:=hi;have ho:=L_ ho;have hn:f.name≠ "_" :=by simpa using hn
  split at hu<;>try cases hu
  rename_i k0 hu;cases xs with
  |nil=>simp at hl
  |cons u xs=>
   cases ys with
   |nil=>cases u<;>simp[pP]at hr
   |cons v ys=>
    unfold pP at hr
    split at hr<;>try cases hr
    ·rename_i h1 h2;cases h1
    rename_i k a xs' k' b ys' h1 h2;cases h1;cases h2
    split at hr<;>cases hr
    rename_i r' hk hr';obtain rfl:k=k':=of_decide_eq_true hk;have hX:X[f.offset]?=some (.int k a):=by
     rw[ho,<-V_,<-W_,hx];rfl
    have hY:Y[f.offset]?=some (.int k b):=by
     rw[ho,<-V_,<-W_,hy];rfl
    have hag:qk P f.type=some false:=by simp[qk,hu]
    have ih:=nO (d:=d) (X:=X) (Y:=Y) hrest (by rw[<-X_,hx];rfl) (by rw[<-X_,hy];rfl) (by simpa using hl) hr' w
    simp only[Op.eqFields,hn,ne_eq,not_false_eq_true,if_true,H_,part,pg hag,I_,Bool.false_eq_true,if_false,hX,hY,J_,Op.equalIn,aC hu];by_cases hab:a=b
    ·subst hab;simp[ih]
    ·simp[hab]
theorem EE{fs:Array Field}{xs ys:Array B_}{r:Bool}(ht:P.underlying t=some (.struct fs))(hf:gg P fs.toList 0=true)(hp:P.stoodInHeld t=false)
 (hn:xs.toList.length=fs.toList.length)(hr:pP xs.toList ys.toList=some r)(w:A_):
  (binOp .eql t (.agg xs) (.agg ys)).run P w=.ok (.bool r) w/\(binOp .neq t (.agg xs) (.agg ys)).run P w=.ok (.bool (!r)) w:=by
 have hfs:P.fieldsOf t=fs:=by simp[D_.fieldsOf,ht]
 have h1:(Op.equal t (.agg xs) (.agg ys)).run P w=.ok r w:=by
  rw[fx,run_equalIn_struct w 9999 t xs ys (by rw[hfs];exact ht) hp,hfs]
  exact nO (d:=9998) hf (by simp) (by simp) hn hr w
 constructor<;>simp only[binOp,H_,h1,I_,J_]
theorem Hd{op:BinOp}{x y:G_}{yt:E_}(ho:o.op=.binOp op t x y yt){xs ys:Array B_}{r:B_}(hx:a.eval x=.agg xs)(hy:a.eval y=.agg ys)
 (hg:P.eqGuardType P.depth t=false)(hr:∀wx,(binOp op t (.agg xs) (.agg ys)).run P wx=.ok r wx):∀wx,(execOp a.eval o).run P wx=.ok (.value r) wx:=by
 intro wx;have hguard:(eqGuard op t x y (.agg xs) (.agg ys)).run P wx=.ok () wx:=by
  cases op<;>simp[eqGuard,hg]
 simp only[execOp,ho,H_,hx,hy,hguard,I_,hr,J_]
theorem Lz{i:fi}{op:BinOp}{x y:G_}{yt:E_}(ho:o.op=.binOp op t x y yt)(hc:lz P op t x y=some i)
 (hg:aZ s a w wa)(h:aL i s w K):mK P o a s wa K:=by
 have hx:∀v,s.ev x=some v->a.eval x=v:=fun v hv=>hg.ag.ev hv;have hy:∀v,s.ev y=some v->a.eval y=v:=fun v hv=>hg.ag.ev hv;have run:∀(u v r:B_),a.eval x=u->a.eval y=v->((u≠.nilIface/\∀c,u≠.agg c)\/(v≠.nilIface/\∀c,v≠.agg c))->
   (∀wx,(binOp op t u v).run P wx=.ok r wx)->∀wx,(execOp a.eval o).run P wx=.ok (.value r) wx:=by
  intro u v r hu hv hne hr wx;simp only[execOp,ho,H_,hu,hv,JD _ hne,I_,hr,J_]
 have intint:∀(k:F_) (m n:Int),(∀r,(∀wx,(binOp op t (.int k m) (.int k n)).run P wx=.ok r wx)->s.ev x=some (.int k m)->s.ev y=some (.int k n)->K (some (.v r)) s w->mK P o a s wa K):=
  fun k m n r hr h1 h2 hk=>bU hg hk (run _ _ r (hx _ h1) (hy _ h2) (.inl ⟨by simp,by simp⟩) hr)
 unfold lz at hc
 split at hc
 case h_1=>
  split at hc
  ·cases hc
   simp only[aL]at h
   split at h<;>try exact h.elim
   rename_i k m k' n h1 h2
   split at h<;>try exact h.elim
   rename_i hk;obtain rfl:k=k':=of_decide_eq_true hk;exact intint _ _ _ _ (fun wx=>EA wx (by simp)) h1 h2 h
  ·cases hc
   simp only[aL]at h
   split at h<;>try exact h.elim
   rename_i vs hvs;obtain⟨u,v,h1,h2,rfl⟩:=mJ hvs;unfold is at h
   split at h<;>try exact h.elim
   all_goals first|(rename_i e1 e2;cases e1;done)|skip
   rename_i p q e1 e2;cases e2;obtain⟨hsz,h⟩:=h;exact bU hg h (run _ _ _ (hx _ h1) (hy _ h2) (.inl ⟨by simp,by simp⟩) (fun wx=>LW wx p q hsz))
  ·cases hc
 case h_2|h_3=>
  split at hc<;>cases hc
  simp only[aL]at h
  split at h<;>try exact h.elim
  rename_i k m k' n h1 h2
  split at h<;>try exact h.elim
  rename_i hk;obtain rfl:k=k':=of_decide_eq_true hk;exact intint _ _ _ _ (fun wx=>EA wx (by simp)) h1 h2 h
 case h_4|h_5|h_6|h_7=>
  cases hc;simp only[aL]at h
  split at h<;>try exact h.elim
  rename_i k m k' n h1 h2
  split at h<;>try exact h.elim
  rename_i hk;obtain rfl:k=k':=of_decide_eq_true hk;exact intint _ _ _ _ (fun wx=>Kq wx (by simp)) h1 h2 h
 case h_8|h_9=>
  cases hc;simp only[aL]at h
  split at h<;>try exact h.elim
  rename_i k m k' n h1 h2
  split at h<;>try exact h.elim
  rename_i hk;obtain rfl:k=k':=of_decide_eq_true hk;obtain⟨hn,h⟩:=EW h (by
   intro hcc
   split at hcc
   ·rename_i n' hci
    have:s.ev y=some (.int k n):=h2;unfold tI at hci
    split at hci
    ·cases hci
     simp[St.ev]at h2;obtain⟨_,rfl⟩:=h2;simpa using hcc
    ·cases hci
   ·cases hcc)
  exact intint _ _ _ _ (fun wx=>Lh wx (by simp) hn) h1 h2 h
 case h_10|h_11=>
  cases hc;simp only[aL]at h
  split at h<;>try exact h.elim
  rename_i k m k' n h1 h2;obtain⟨hn,h⟩:=EW h (by
   intro hcc
   split at hcc
   ·rename_i n' hci
    unfold tI at hci
    split at hci
    ·cases hci
     simp[St.ev]at h2;obtain⟨_,rfl⟩:=h2;simpa using hcc
    ·cases hci
   ·cases hcc)
  exact bU hg h (run _ _ _ (hx _ h1) (hy _ h2) (.inl ⟨by simp,by simp⟩) (fun wx=>Im wx (by simp) hn))
 case h_12|h_13|h_14|h_15=>
  split at hc<;>cases hc
  simp only[aL]at h
  split at h<;>try exact h.elim
  rename_i k m k' n h1 h2
  split at h<;>try exact h.elim
  rename_i hk;obtain rfl:k=k':=of_decide_eq_true hk;exact intint _ _ _ _ (fun wx=>EJ wx (by simp)) h1 h2 h
 case h_16|h_17=>
  split at hc
  ·cases hc
   simp only[aL]at h
   split at h<;>try exact h.elim
   rename_i k m k' n h1 h2
   split at h<;>try exact h.elim
   rename_i hk;obtain rfl:k=k':=of_decide_eq_true hk;exact intint _ _ _ _ (fun wx=>EJ wx (by simp)) h1 h2 h
  ·rename_i ht
   cases hc;simp only[aL]at h
   split at h<;>try exact h.elim
   rename_i m n h1 h2;simp at h
   first
    |exact bU hg h (run _ _ _ (hx _ h1) (hy _ h2) (.inl ⟨by simp,by simp⟩) (fun wx=>(CV ht wx _ _).1))
    |exact bU hg h (run _ _ _ (hx _ h1) (hy _ h2) (.inl ⟨by simp,by simp⟩) (fun wx=>by simpa using(CV ht wx _ _).2))
  ·rename_i e ht
   split at hc
   ·rename_i hn
    cases hc;simp only[aL]at h
    split at h<;>try exact h.elim
    rename_i p h1;simp at h
    first
     |exact bU hg h (run _ _ _ (hx _ h1) (ri hn a) (.inl ⟨by simp,by simp⟩) (fun wx=>by simpa using(rj ht wx p).1.1))
     |exact bU hg h (run _ _ _ (hx _ h1) (ri hn a) (.inl ⟨by simp,by simp⟩) (fun wx=>by simpa using(rj ht wx p).1.2))
   ·split at hc
    ·rename_i hn
     cases hc;simp only[aL]at h
     split at h<;>try exact h.elim
     rename_i p h1;simp at h
     first
      |exact bU hg h (run _ _ _ (ri hn a) (hy _ h1) (.inl ⟨by simp,by simp⟩) (fun wx=>by simpa using(rj ht wx p).2.1))
      |exact bU hg h (run _ _ _ (ri hn a) (hy _ h1) (.inl ⟨by simp,by simp⟩) (fun wx=>by simpa using(rj ht wx p).2.2))
    ·cases hc
  ·rename_i e ht
   split at hc
   ·rename_i hn
    cases hc;simp only[aL]at h
    split at h<;>try exact h.elim
    rename_i p l c h1;simp at h;obtain⟨l',c',hn'⟩:=EG hn a
    first
     |exact bU hg h (run _ _ _ (hx _ h1) hn' (.inl ⟨by simp,by simp⟩) (fun wx=>by simpa using(mO ht wx p l c l' c').1.1))
     |exact bU hg h (run _ _ _ (hx _ h1) hn' (.inl ⟨by simp,by simp⟩) (fun wx=>by simpa using(mO ht wx p l c l' c').1.2))
   ·split at hc
    ·rename_i hn
     cases hc;simp only[aL]at h
     split at h<;>try exact h.elim
     rename_i p l c h1;simp at h;obtain⟨l',c',hn'⟩:=EG hn a
     first
      |exact bU hg h (run _ _ _ hn' (hy _ h1) (.inl ⟨by simp,by simp⟩) (fun wx=>by simpa using(mO ht wx p l c l' c').2.1))
      |exact bU hg h (run _ _ _ hn' (hy _ h1) (.inl ⟨by simp,by simp⟩) (fun wx=>by simpa using(mO ht wx p l c l' c').2.2))
    ·cases hc
  ·rename_i ht
   cases hc;simp only[aL]at h
   split at h<;>try exact h.elim
   rename_i vs hvs;obtain⟨u,v,h1,h2,rfl⟩:=mJ hvs;unfold is at h
   split at h<;>try exact h.elim
   ·rename_i ne p q e1 e2
    cases e1;cases e2;simp at h
    first
     |exact bU hg h (run _ _ _ (hx _ h1) (hy _ h2) (.inl ⟨by simp,by simp⟩) (fun wx=>by simpa using(EM wx p q).1))
     |exact bU hg h (run _ _ _ (hx _ h1) (hy _ h2) (.inl ⟨by simp,by simp⟩) (fun wx=>by simpa using(EM wx p q).2))
   all_goals (rename_i e1 e2;cases e1)
  ·rename_i fs ht
   split at hc<;>cases hc
   rename_i hstat;simp only[N_,Bool.not_eq_true']at hstat;simp only[aL]at h
   split at h<;>try exact h.elim
   rename_i vs hvs;obtain⟨u,v,h1,h2,rfl⟩:=mJ hvs;unfold is at h
   split at h<;>try exact h.elim
   ·rename_i e1 e2;cases e1
   ·rename_i ne n p q e1 e2
    cases e1;cases e2
    split at h<;>try exact h.elim
    rename_i r hn hr;have hn:=L_ hn;simp at h
    first
     |exact bU hg h (Hd ho (hx _ h1) (hy _ h2) hstat.2 (fun wx=>by simpa using(EE ht hstat.1.1 hstat.1.2 hn hr wx).1))
     |exact bU hg h (Hd ho (hx _ h1) (hy _ h2) hstat.2 (fun wx=>by simpa using(EE ht hstat.1.1 hstat.1.2 hn hr wx).2))
   all_goals (rename_i e1 e2;cases e1)
  ·rename_i ps rs b ht
   cases hc;simp only[aL]at h
   split at h<;>try exact h.elim
   rename_i vs hvs;obtain⟨u,v,h1,h2,rfl⟩:=mJ hvs;unfold is at h
   split at h<;>try exact h.elim
   ·rename_i e1 e2;cases e1
   ·rename_i e1 e2;cases e1
   ·rename_i ne p e1 e2
    cases e1;cases e2;obtain⟨hfn,h⟩:=h;simp at h
    first
     |exact bU hg h (run _ _ _ (hx _ h1) (hy _ h2) (.inr ⟨by simp,by simp⟩) (fun wx=>by simpa using(HG ht wx hfn).1))
     |exact bU hg h (run _ _ _ (hx _ h1) (hy _ h2) (.inr ⟨by simp,by simp⟩) (fun wx=>by simpa using(HG ht wx hfn).2))
   all_goals (rename_i e1 e2;cases e1)
  ·rename_i ms ht
   split at hc<;>cases hc
   rename_i hny;simp only[aL]at h
   split at h<;>try exact h.elim
   rename_i vs hvs;obtain⟨u,v,h1,h2,rfl⟩:=mJ hvs;unfold is at h
   split at h<;>try exact h.elim
   all_goals first|(rename_i e1 e2;cases e1;done)|skip
   rename_i ne p e1 e2;cases e1;cases e2;obtain⟨hfn,h⟩:=h;simp at h;have run2:∀op' r,o.op=.binOp op' t x y yt->(∀wx,(binOp op' t u .nilIface).run P wx=.ok r wx)->∀wx,(execOp a.eval o).run P wx=.ok (.value r) wx:=fun op' r ho hr wx=>by
    simp only[execOp,ho,H_,hx _ h1,hy _ h2,If _ hny,I_,hr,J_]
   first
    |exact bU hg h (run2 _ _ ho fun wx=>by simpa using(Eu ht wx hfn).1)
    |exact bU hg h (run2 _ _ ho fun wx=>by simpa using(Eu ht wx hfn).2)
  ·cases hc
theorem Ea{P:D_}{x:C_}{f:Field}(hn:eA P f.type=some n)(h0:K_ n 0=false)(wx:A_):
  (fieldPlace x f).run P wx=.ok (x.add f.offset) wx:=by
 have h0':n≠0:=fun e=>by subst e;simp at h0
 simp[fieldPlace,bE hn,h0']
theorem Je(x:C_)(hx:x.spot=none)(m n:Nat):(x.add m).add n=x.add (m+n):=by
 unfold C_.add;by_cases hm:m=0
 ·subst hm;simp
 ·by_cases hn:n=0
  ·subst hn;simp[hm]
  ·simp[hm,hn];omega
theorem af(b off n:Nat):(⟨b,off,none⟩:C_).add n=⟨b,off+n,none⟩:=by
 unfold C_.add
 split
 ·rename_i h;subst h;rfl
 ·rfl
theorem dK{P:D_}{z:B_}(h:jL P t=some z)(wx:A_):(zeroValue t).run P wx=.ok z wx:=by
 unfold jL at h;cases hi:P.info? t with
 |none=>rw[hi]at h;cases h
 |some i=>
  rw[hi]at h;have hz:i.zero=some z:=h;simp[zeroValue,typeInfo,hi,hz]
theorem jX:∀(vs:List B_) (off k:Nat) (cells:Array B_),off+k+vs.length<=cells.size->
  (vs.zipIdx k).foldl (fun cs (x:B_×Nat)=>cs.setIfInBounds (off+x.2) x.1) cells=(cells.toList.take (off+k)++vs++cells.toList.drop (off+k+vs.length)).toArray
 |[],off,k,cells,h=>by simp
 |v::vs,off,k,cells,h=>by
  simp only[List.zipIdx_cons,List.foldl_cons];simp only[Y_]at h;rw[jX vs off (k+1) _ (by simp;omega)]
  have hlt:off+k<cells.size:=by omega
  congr 1;apply List.ext_getElem?;intro j;simp only[Array.toList_setIfInBounds,List.getElem?_append,List.length_append,List.length_take,List.length_set,Y_,Z_,a_,List.getElem?_set,List.getElem?_cons,Array.length_toList];rcases Nat.lt_trichotomy j (off+k)with hj|hj|hj
  ·have h1:min (off+(k+1)) cells.size=off+k+1:=by omega
   have h2:min (off+k) cells.size=off+k:=by omega
   simp[h1,h2,show j<off+k+1+vs.length by omega,show j<off+k+(vs.length+1) by omega,show j<off+k+1 by omega,hj,show j<off+(k+1) by omega,show¬off+k=j by omega]
  ·subst hj
   have h1:min (off+(k+1)) cells.size=off+k+1:=by omega
   have h2:min (off+k) cells.size=off+k:=by omega
   simp[h1,h2,hlt,show off+k<off+k+1+vs.length by omega,show off+k<off+(k+1) by omega]
  ·have h1:min (off+(k+1)) cells.size=off+k+1:=by omega
   have h2:min (off+k) cells.size=off+k:=by omega
   by_cases hj2:j<off+k+1+vs.length
   ·simp[h1,h2,hj2,show j<off+k+(vs.length+1) by omega,show¬j<off+k+1 by omega,show¬j<off+k by omega,show j-(off+k)≠0 by omega]
    rw[show j-(off+k)=j-(off+k+1)+1 by omega];simp
   ·simp[h1,h2,hj2,show¬j<off+k+(vs.length+1) by omega,show¬off+k=off+(k+1)+vs.length+(j-(off+k+1+vs.length)) by omega]
    congr 1<;>omega
theorem Ag{s:St}{x:G_}{r:List (Nat×Nat×G_)}{qs:List (Nat×List B_)}(h:s.places ((off,n,x)::r)=some qs):
  ∃v rs,s.ev x=some v/\v.cells.toList.length=n/\s.places r=some rs/\qs=(off,v.cells.toList)::rs:=by
 simp only[St.places]at h
 split at h<;>try cases h
 rename_i v rs hv hr
 split at h<;>cases h
 rename_i hn;exact⟨v,rs,hv,L_ hn,hr,rfl⟩
theorem En{P:D_}{fs:Array Field}{ps':Array (Nat×Nat)}(hp:∀(i:Nat) (f:Field) (n:Nat),fs[i]?=some f->eA P f.type=some n->ps'[i]?=some (f.offset,n)){s:St}{a:Act}
  (hev:∀x v,s.ev x=some v->a.eval x=v):∀(parts:List (Nat×G_)) (ps:List (Nat×Nat×G_)) (qs:List (Nat×List B_)) (z:List B_),
  ko P fs parts=some ps->s.places ps=some qs->nC z.length qs=true->
  Instr.fill (ps'[·]?) z.toArray (parts.map fun(i,x)=>(i,a.eval x))=some (mQ z qs).toArray
 |[],ps,qs,z,h1,h2,_=>by
  simp[ko]at h1;subst h1;simp[St.places]at h2;subst h2;simp[Instr.fill,mQ]
 |(i,x)::r,ps,qs,z,h1,h2,h3=>by
  simp only[ko]at h1
  split at h1<;>try cases h1
  rename_i f ps1 hf hr;cases hs:eA P f.type with
  |none=>rw[hs]at h1;cases h1
  |some n=>
   rw[hs]at h1;simp only[b_,U_]at h1;subst h1;obtain⟨v,rs,hv,hn,hrs,rfl⟩:=Ag h2;simp only[nC,N_]at h3;have hle:=S_ h3.1;simp only[R_,Instr.fill,hp i f n hf hs,hev x v hv];have hsz:v.cells.size=n:=by simpa using hn
   rw[if_neg (by simp[hsz]at hle⊢;omega)]
   rw[<-c_];have:=jX v.cells.toList f.offset 0 z.toArray (by simpa using hle)
   simp only[d_];rw[this];simp only[mQ,Nat.add_zero];exact En hp hev r ps1 rs _ hr hrs (by
    have:(List.take f.offset z++v.cells.toList++List.drop (f.offset+v.cells.toList.length) z).length=z.length:=by
     simp at hle⊢;omega
    rw[this];exact h3.2)
theorem zT{P:D_}{wx:A_}:∀(l:List Field),(∀f∈l,∃n,eA P f.type=some n)->∃r:List (Nat×Nat),(l.mapM fun f=>(do pure (f.offset,<-sizeOf f.type):Sem (Nat×Nat))).run P wx=.ok r wx/\∀(i:Nat) (f:Field) (n:Nat),l[i]?=some f->eA P f.type=some n->r[i]?=some (f.offset,n)
 |[],_=>⟨[],rfl,fun i f n h=>by simp at h⟩
 |f::l,h=>by
  obtain⟨n,hn⟩:=h f (by simp)
  obtain⟨r,hr,hs⟩:=zT l (fun g hg=>h g (by simp[hg]))
  refine⟨(f.offset,n)::r,?_,?_⟩
  ·simp only[List.mapM_cons,H_,bE hn,I_,J_]
   rw[hr];rfl
  ·intro i g m hg hm
   cases i with
   |zero=>simp at hg;subst hg;rw[hn]at hm;cases hm;rfl
   |succ i=>simp at hg;simpa using hs i g m hg hm
theorem LE{P:D_}{fs:Array Field}{z:List B_}{parts:Array (Nat×G_)}{ps:List (Nat×Nat×G_)}{s:St}{a:Act}{qs:List (Nat×List B_)}
 (hu:P.underlying t=some (.struct fs))(hz:dR P t=some z)(hf:ko P fs parts.toList=some ps)(hev:∀x v,s.ev x=some v->a.eval x=v)
 (hq:s.places ps=some qs)(hok:nC z.length qs=true)(wx:A_)(hall:∀f∈fs.toList,∃n,eA P f.type=some n):
  (Instr.build t (parts.map fun(i,x)=>(i,a.eval x))).run P wx=.ok (.agg (mQ z qs).toArray) wx:=by
 cases hzz:jL P t with
 |none=>simp[dR,hzz]at hz
 |some zv=>
  have hzc:zv.cells.toList=z:=by simpa[dR,hzz]using hz
  obtain⟨r,hr,hs⟩:=zT (P:=P) (wx:=wx) fs.toList hall;simp only[Instr.build,H_,dK hzz,I_,aC hu];rw[Array.mapM_eq_mapM_toList];simp only[Sem.run_map,hr,I_];have hfill:=En (ps':=r.toArray) (P:=P) (fs:=fs) (fun i f n h1 h2=>by simpa using hs i f n (by simpa using h1) h2) hev parts.toList ps qs z hf hq hok
  have hzv:zv.cells=z.toArray:=by rw[<-hzc]
  have hparts:(parts.map fun(i,x)=>(i,a.eval x)).toList=parts.toList.map fun(i,x)=>(i,a.eval x):=by simp
  rw[hparts,hzv,hfill]
  rfl
theorem B6{s:St}{a:Act}{sz:Nat}(hev:∀x v,s.ev x=some v->a.eval x=v):∀(parts:List (Nat×G_)) (qs:List (Nat×List B_)) (z:List B_),
  s.places (pd sz parts)=some qs->nC z.length qs=true->
  Instr.fill (fun i=>some (i*sz,sz)) z.toArray (parts.map fun(i,x)=>(i,a.eval x))=some (mQ z qs).toArray
 |[],qs,z,h2,_=>by
  simp[St.places,pd]at h2;subst h2;simp[Instr.fill,mQ]
 |(i,x)::r,qs,z,h2,h3=>by
  rw[pd]at h2;obtain⟨v,rs,hv,hn,hrs,rfl⟩:=Ag h2;simp only[nC,N_]at h3;have hle:=S_ h3.1;simp only[R_,Instr.fill,hev x v hv];have hsz:v.cells.size=sz:=by simpa using hn
  rw[if_neg (by simp[hsz]at hle⊢;omega)]
  rw[<-c_];have:=jX v.cells.toList (i*sz) 0 z.toArray (by simpa using hle)
  simp only[d_];rw[this];simp only[mQ,Nat.add_zero];exact B6 hev r rs _ hrs (by
   have:(List.take (i*sz) z++v.cells.toList++List.drop (i*sz+v.cells.toList.length) z).length=z.length:=by
    simp at hle⊢;omega
   rw[this];exact h3.2)
theorem J9{P:D_}{sz:Nat}{z:List B_}{parts:Array (Nat×G_)}{s:St}{a:Act}{qs:List (Nat×List B_)}
 (hu:P.underlying t=some (.array m e))(hz:dR P t=some z)(hs:eA P e=some sz)(hev:∀x v,s.ev x=some v->a.eval x=v)
 (hq:s.places (pd sz parts.toList)=some qs)(hok:nC z.length qs=true)(wx:A_):
  (Instr.build t (parts.map fun(i,x)=>(i,a.eval x))).run P wx=.ok (.agg (mQ z qs).toArray) wx:=by
 cases hzz:jL P t with
 |none=>simp[dR,hzz]at hz
 |some zv=>
  have hzc:zv.cells.toList=z:=by simpa[dR,hzz]using hz
  simp only[Instr.build,H_,dK hzz,I_,aC hu,bE hs];have hfill:=B6 (a:=a) hev parts.toList qs z hq hok;have hzv:zv.cells=z.toArray:=by rw[<-hzc]
  have hparts:(parts.map fun(i,x)=>(i,a.eval x)).toList=parts.toList.map fun(i,x)=>(i,a.eval x):=by simp
  rw[hparts,hzv,hfill]
  rfl
theorem fX{x:G_}{wx:A_}(ho:o.op=.load t x)(h:oO o.op=true\/aU wa wx):aU wa wx:=by
 rcases h with h|h
 ·rw[ho]at h;cases h
 ·exact h
theorem kg{i:fi}(hc:aT P o.op=some i)(hg:aZ s a w wa)(h:aL i s w K):mK P o a s wa K:=by
 have hev:∀{x v},s.ev x=some v->a.eval x=v:=fun hv=>hg.ag.ev hv;have hevE:∀{x e},s.evE x=some e->lI s (some e) (a.eval x):=fun hv=>hg.ag.evE hv;have lv:∀{v},K (some (.v v)) s w->(∀wx,(execOp a.eval o).run P wx=.ok (.value v) wx)->mK P o a s wa K:=fun hk hr=>bU hg hk hr;unfold aT at hc
 split at hc
 case h_1 x ho|h_2 x ho=>
  cases hc;simp only[aL]at h
  split at h<;>try exact h.elim
  rename_i e he;exact⟨a.eval x,some e,s,w,fun wx _=>by simp[execOp,ho],hg,hevE he,bW.refl s,h⟩
 case h_3 c x y ho=>
  cases hc;simp only[aL]at h
  split at h<;>try exact h.elim
  rename_i t h1;rcases pV h with⟨ht,h⟩|⟨ht,h⟩
  ·split at h<;>try exact h.elim
   rename_i v hv;exact lv h fun wx=>by simp[execOp,ho,hev h1,ht,hev hv,asBool]
  ·split at h<;>try exact h.elim
   rename_i v hv;exact lv h fun wx=>by simp[execOp,ho,hev h1,ht,hev hv,asBool]
 case h_4 op t x y yt ho=>exact Lz ho hc hg h
 case h_5 t x ho=>
  cases hc;simp only[aL]at h
  split at h<;>try exact h.elim
  rename_i b h1;exact lv h fun wx=>by simp[execOp,ho,hev h1,Op.unary]
 case h_6 t x ho=>
  cases hc;simp only[aL]at h
  split at h<;>try exact h.elim
  rename_i k n h1;exact lv h fun wx=>by simp[execOp,ho,hev h1,Op.unary,Op.intArith]
 case h_7 src dst x ho=>
  split at hc<;>try cases hc
  rename_i ks kd hs hd;simp only[aL]at h
  split at h<;>try exact h.elim
  rename_i k n h1;refine lv h fun wx=>?_;simp[execOp,ho,hev h1,convert,aC hs,aC hd,Conv.intToInt]
 case h_8 x ho=>
  cases hc;simp only[aL]at h
  split at h<;>try exact h.elim
  ·rename_i p h1
   obtain⟨b,rfl,h⟩:=gR h;have:=hevE h1;exact lv h fun wx=>by simp[execOp,ho,show a.eval x=_ from this]
  ·rename_i fn f c h1
   have:=hevE h1
   split at h<;>try exact h.elim
   ·exact lv h fun wx=>by simp[execOp,ho,show a.eval x=_ from this]
   ·exact lv h fun wx=>by simp[execOp,ho,show a.eval x=_ from this]
  ·rename_i k off h1
   obtain⟨b,cs,hm,he⟩:=hevE h1;exact⟨.pointer (some ⟨b,off,none⟩),some (.loc k off),s,w,fun wx _=>by simp[execOp,ho,he],hg,⟨b,cs,hm,rfl⟩,bW.refl s,h⟩
 case h_9 t x f ho=>
  split at hc<;>try cases hc
  rename_i fs hu
  split at hc<;>try cases hc
  rename_i fd hf
  split at hc<;>try cases hc
  rename_i n hn
  split at hc<;>cases hc
  rename_i h0;simp only[aL]at h;have run:∀y wx,a.eval x=.pointer (some y)->(execOp a.eval o).run P wx=.ok (.value (.pointer (some (y.add fd.offset)))) wx:=by
   intro y wx he;simp[execOp,ho,Instr.fieldAt,aC hu,hf,he,Instr.sureAddr,Ea hn h0]
  split at h<;>try exact h.elim
  ·rename_i p h1
   obtain⟨b,rfl,h⟩:=gR h;exact lv h fun wx=>run _ wx (hevE h1)
  ·rename_i k off h1
   obtain⟨b,cs,hm,he⟩:=hevE h1;exact⟨_,some (.loc k (off+fd.offset)),s,w,fun wx _=>run _ wx he,hg,⟨b,cs,hm,by rw[af]⟩,bW.refl s,h⟩
 case h_10 t x ix ho=>
  split at hc<;>try cases hc
  ·rename_i e hu
   cases hz:eA P e with
   |none=>rw[hz]at hc;cases hc
   |some sz=>
    rw[hz]at hc;cases hc;simp only[aL]at h
    split at h<;>try exact h.elim
    rename_i base len cap ki i h1 h2;obtain⟨h0,hlt,y,rfl,h⟩:=h;exact lv h fun wx=>by simp[execOp,ho,Instr.indexAt,hev h1,hev h2,asIntOf,aC hu,bE hz,h0,hlt]
  ·rename_i n e hu
   split at hc<;>try cases hc
   rename_i hn1;cases hz:eA P e with
   |none=>rw[hz]at hc;cases hc
   |some sz=>
    rw[hz]at hc;cases hc;simp only[aL]at h
    split at h<;>try exact h.elim
    rename_i p ki i h1 h2;obtain⟨y,rfl,h0,hlt,h⟩:=gR h;exact lv h fun wx=>by simp[execOp,ho,Instr.indexAt,hev h1,hev h2,asIntOf,aC hu,bE hz,h0,hlt,Instr.sureAddr]
 case h_11 t x ho=>
  split at hc<;>try cases hc
  ·rename_i z hagg hz
   simp only[aL]at h
   split at h<;>try exact h.elim
   ·rename_i p h1
    obtain⟨y,rfl,h⟩:=gR h;have h:=hg.sync h;obtain⟨v,hcell,hk⟩:=Sc.ex_some h;refine⟨v,some (.v v),s.clean,wa,fun wx hwx0=>?_,hg.ag.good,rfl,bW.of_eq rfl rfl,hk⟩;have hwx:=fX ho hwx0;have:=hevE h1;simp only[execOp,ho,show a.eval x=_ from this,Instr.loadAt,Instr.sureAddr,H_,J_,I_,gL hagg (hwx _ _ hcell)]
   ·rename_i k off h1
    obtain⟨b,cs,hm,he⟩:=hevE h1
    split at h<;>try exact h.elim
    rename_i b' cs' hl;rw[cH hg.ag.lok.keys hm]at hl;cases hl
    split at h<;>try exact h.elim
    rename_i v hv;obtain⟨hlt,e,hb⟩:=hg.ag.lok.at_ _ _ _ hm;refine⟨v,some (.v v),s,w,fun wx hwx0=>?_,hg,rfl,bW.refl s,h⟩;have hwx:=fX ho hwx0;simp only[execOp,ho,he,Instr.loadAt,Instr.sureAddr,H_,J_,I_,gL hagg (hwx _ _ (dV hb hv))]
  ·rename_i n cs hagg hsz hz
   split at hc<;>try cases hc
   rename_i hn;have hn':n=cs.toList.length:=by simpa using L_ hn
   rcases rQ cs with hsh|hsh<;>rw[hsh]at h<;>simp only[aL]at h
   rotate_left
   ·split at h<;>try exact h.elim
    ·rename_i p h1
     obtain⟨y,rfl,h⟩:=gR h;have h:=hg.sync h;obtain⟨vs,hlen,hcell,hk⟩:=h;refine⟨.agg vs.toArray,some (.v (.agg vs.toArray)),s.clean,wa,fun wx hwx0=>?_,hg.ag.good,rfl,bW.of_eq rfl rfl,hk⟩;have hwx:=fX ho hwx0;have:=hevE h1;simp only[execOp,ho,show a.eval x=_ from this,Instr.loadAt,Instr.sureAddr,H_,J_,I_]
     rw[eC hagg (by rw[hsz,hn',hlen];simp) (fun j v hj=>hwx _ _ (hcell j v hj))]
     rfl
    ·split at h<;>exact h.elim
   split at h<;>try exact h.elim
   ·rename_i p h1
    obtain⟨y,rfl,h⟩:=gR h;have h:=hg.sync h;obtain⟨vs,hlen,h⟩:=mH h;obtain⟨hcell,hk⟩:=pL h;refine⟨.agg vs.toArray,some (.v (.agg vs.toArray)),s.clean,wa,fun wx hwx0=>?_,hg.ag.good,rfl,bW.of_eq rfl rfl,hk⟩;have hwx:=fX ho hwx0;have:=hevE h1;simp only[execOp,ho,show a.eval x=_ from this,Instr.loadAt,Instr.sureAddr,H_,J_,I_]
    rw[eC hagg (by rw[hsz,hn',hlen];simp) (fun j v hj=>hwx _ _ (by simpa using hcell j v hj))]
    rfl
   ·rename_i k off h1
    obtain⟨b,ls,hm,he⟩:=hevE h1
    split at h<;>try exact h.elim
    rename_i b' cs' hl;rw[cH hg.ag.lok.keys hm]at hl;cases hl
    split at h<;>try exact h.elim
    rename_i hle;have hle:=S_ hle;obtain⟨hlt,e,hb⟩:=hg.ag.lok.at_ _ _ _ hm;refine⟨_,some (.v (.agg ((ls.drop off).take (cs.toList.map AG).length).toArray)),s,w,fun wx hwx0=>?_,hg,rfl,bW.refl s,h⟩;have hwx:=fX ho hwx0;simp only[execOp,ho,he,Instr.loadAt,Instr.sureAddr,H_,J_,I_];rw[eC (vs:=(ls.drop off).take (cs.toList.map AG).length) hagg (by rw[hsz,hn'];simp at hle⊢;omega) (fun j v hj=>hwx _ _ (by
     rw[af];refine dV hb ?_;rw[Z_]at hj
     split at hj
     ·rw[a_]at hj;exact hj
     ·cases hj))]
    rfl
 case h_12 t x lo hi ho=>
  split at hc<;>try cases hc
  ·rename_i e hu
   cases hz:eA P e with
   |none=>rw[hz]at hc;cases hc
   |some sz=>
    rw[hz]at hc;cases hc;simp only[aL]at h
    split at h<;>try exact h.elim
    rename_i base len cap h1
    split at h<;>try exact h.elim
    rename_i kl l kh hh e1 e2;obtain⟨h0,h1',h2',h⟩:=h;refine lv h fun wx=>?_;have hlo:∀v,s.evOr (.int .i64 0) lo=some v->(lo.map a.eval=none/\v=.int .i64 0)\/lo.map a.eval=some v:=by
     intro v hv;cases lo with
     |none=>simp[St.evOr]at hv;exact .inl ⟨rfl,hv.symm⟩
     |some o=>simp[St.evOr]at hv;exact .inr (by simp[hev hv])
    have hhi:∀v,s.evOr (.int .i64 len) hi=some v->(hi.map a.eval=none/\v=.int .i64 len)\/hi.map a.eval=some v:=by
     intro v hv;cases hi with
     |none=>simp[St.evOr]at hv;exact .inl ⟨rfl,hv.symm⟩
     |some o=>simp[St.evOr]at hv;exact .inr (by simp[hev hv])
    have sb:∀(k:F_) (i:Int) (y:Nat) (code:BoundsCode) (wx:A_),0<=i->i<=y->(Instr.sliceBound (.int k i) y code).run P wx=.ok i.toNat wx:=by
     intro k i y code wx h0 h1;simp[Instr.sliceBound,asIntOf,h0,h1]
    simp only[execOp,ho,e_,hev h1,Instr.sliceAt,H_,aC hu,I_,Instr.slice,Instr.sliceBounds,J_];rcases hlo _ e1 with⟨e1',ev1⟩|e1'<;>rcases hhi _ e2 with⟨e2',ev2⟩|e2'
    ·cases ev1;cases ev2
     simp[e1',e2',bE hz,aX]
    ·cases ev1
     simp[e1',e2',bE hz,aX,sb _ _ _ _ _ h1' h2']
    ·cases ev2
     simp[e1',e2',bE hz,aX,sb _ _ _ _ _ h0 h1']
    ·simp[e1',e2',aX,sb _ _ _ _ _ (O_ h0 h1') h2']
     rw[sb _ _ _ _ _ h0 (by omega)]
     simp[bE hz]
  ·rename_i n e hu
   cases hz:eA P e with
   |none=>rw[hz]at hc;cases hc
   |some sz=>
    rw[hz]at hc;cases hc;simp only[aL]at h
    split at h<;>try exact h.elim
    rename_i p h1;obtain⟨y,rfl,h⟩:=gR h
    split at h<;>try exact h.elim
    rename_i kl l kh hh e1 e2;obtain⟨h0,h1',h2',h⟩:=h;refine lv h fun wx=>?_;have hlo:∀v,s.evOr (.int .i64 0) lo=some v->(lo.map a.eval=none/\v=.int .i64 0)\/lo.map a.eval=some v:=by
     intro v hv;cases lo with
     |none=>simp[St.evOr]at hv;exact .inl ⟨rfl,hv.symm⟩
     |some o=>simp[St.evOr]at hv;exact .inr (by simp[hev hv])
    have hhi:∀v,s.evOr (.int .i64 n) hi=some v->(hi.map a.eval=none/\v=.int .i64 n)\/hi.map a.eval=some v:=by
     intro v hv;cases hi with
     |none=>simp[St.evOr]at hv;exact .inl ⟨rfl,hv.symm⟩
     |some o=>simp[St.evOr]at hv;exact .inr (by simp[hev hv])
    have sb:∀(k:F_) (i:Int) (y:Nat) (code:BoundsCode) (wx:A_),0<=i->i<=y->(Instr.sliceBound (.int k i) y code).run P wx=.ok i.toNat wx:=by
     intro k i y code wx h0 h1;simp[Instr.sliceBound,asIntOf,h0,h1]
    simp only[execOp,ho,e_,hev h1,Instr.sliceAt,H_,aC hu,I_,Instr.sureAddr,Instr.sliceBounds,J_];rcases hlo _ e1 with⟨e1',ev1⟩|e1'<;>rcases hhi _ e2 with⟨e2',ev2⟩|e2'
    ·cases ev1;cases ev2
     simp[e1',e2',bE hz,aX]
     split<;>rfl
    ·cases ev1
     simp[e1',e2',bE hz,aX,sb _ _ _ _ _ h1' h2']
     split<;>rfl
    ·cases ev2
     simp[e1',e2',bE hz,aX,sb _ _ _ _ _ h0 h1']
     split<;>rfl
    ·simp[e1',e2',aX,sb _ _ _ _ _ (O_ h0 h1') h2']
     rw[sb _ _ _ _ _ h0 (by omega)]
     simp[bE hz]
     split<;>rfl
  ·rename_i hu
   have sb:∀(k:F_) (i:Int) (y:Nat) (code:BoundsCode) (wx:A_),0<=i->i<=y->(Instr.sliceBound (.int k i) y code).run P wx=.ok i.toNat wx:=by
    intro k i y code wx h0 h1;simp[Instr.sliceBound,asIntOf,h0,h1]
   cases lo with
   |none=>cases hi with
    |none=>
     simp only[aL,P_,Q_,T_]at h
     split at h<;>try exact h.elim
     rename_i vs hvs;obtain⟨u,h1,rfl⟩:=Dt hvs;unfold is at h
     split at h<;>try exact h.elim
     all_goals first|(rename_i e1 e2;cases e1;done)|skip
     rename_i b e1 e2;cases e2;refine lv h fun wx=>?_;simp[execOp,ho,hev h1,Instr.sliceAt,aC hu,Instr.slice,Instr.sliceBounds]
    |some hi=>
     simp only[aL,P_,Q_,T_]at h
     split at h<;>try exact h.elim
     rename_i vs hvs;obtain⟨u,v,h1,h2,rfl⟩:=mJ hvs;unfold is at h
     split at h<;>try exact h.elim
     all_goals first|(rename_i e1 e2;cases e1;done)|skip
     rename_i b kl l e1 e2;cases e2;obtain⟨g0,g1,h⟩:=h;refine lv h fun wx=>?_;simp[execOp,ho,hev h1,hev h2,Instr.sliceAt,aC hu,Instr.slice,Instr.sliceBounds,sb _ _ _ _ _ g0 g1]
   |some lo=>cases hi with
    |none=>
     simp only[aL,P_,Q_,List.append_nil]at h
     split at h<;>try exact h.elim
     rename_i vs hvs;obtain⟨u,v,h1,h2,rfl⟩:=mJ hvs;unfold is at h
     split at h<;>try exact h.elim
     all_goals first|(rename_i e1 e2;cases e1;done)|skip
     rename_i b kl l e1 e2;cases e2;obtain⟨g0,g1,h⟩:=h;refine lv h fun wx=>?_;simp[execOp,ho,hev h1,hev h2,Instr.sliceAt,aC hu,Instr.slice,Instr.sliceBounds,sb _ _ _ _ _ g0 g1]
    |some hi=>
     simp only[aL,P_,Q_,List.cons_append,T_]at h
     split at h<;>try exact h.elim
     rename_i vs hvs;obtain⟨u,v,t3,h1,h2,h3,rfl⟩:=wD hvs;unfold is at h
     split at h<;>try exact h.elim
     all_goals first|(rename_i e1 e2;cases e1;done)|skip
     rename_i b kl l kh hh e1 e2;cases e2;obtain⟨g0,g1,g2,h⟩:=h;refine lv h fun wx=>?_;have e3:=sb kh hh b.size .sliceAlen wx (by omega) g2
     have e4:=sb kl l hh.toNat .sliceB wx g0 (by omega)
     simp[execOp,ho,hev h1,hev h2,hev h3,Instr.sliceAt,aC hu,Instr.slice,Instr.sliceBounds,e3,e4]
 case h_13 x i ho=>
  cases hc;simp only[aL]at h
  split at h<;>try exact h.elim
  rename_i vs h1
  split at h<;>try exact h.elim
  rename_i v hv;exact lv h fun wx=>by
   have:vs[i]?=some v:=by simpa using hv
   simp[execOp,ho,hev h1,Instr.extract,this]
 case h_14 t parts ho=>
  split at hc<;>try cases hc
  rename_i fs z hu hz
  split at hc<;>try cases hc
  rename_i hall;cases hf:ko P fs parts.toList with
  |none=>rw[hf]at hc;cases hc
  |some ps=>
   rw[hf]at hc;cases hc;simp only[aL]at h
   split at h<;>try exact h.elim
   rename_i qs hq
   split at h<;>try exact h.elim
   rename_i hok;refine lv h fun wx=>?_;rw[show(execOp a.eval o).run P wx=_ from by simp only[execOp,ho];rfl]
   simp only[H_,J_];rw[LE hu hz hf (fun x v=>hev) hq hok wx (fun f hf=>by simpa[Option.isSome_iff_exists]using List.all_eq_true.1 hall f hf)]
   rfl
  rename_i m e z hu hz;cases hs:eA P e with
  |none=>rw[hs]at hc;cases hc
  |some sz=>
   rw[hs]at hc;cases hc;simp only[aL]at h
   split at h<;>try exact h.elim
   rename_i qs hq
   split at h<;>try exact h.elim
   rename_i hok;refine lv h fun wx=>?_;rw[show(execOp a.eval o).run P wx=_ from by simp only[execOp,ho];rfl]
   simp only[H_,J_];rw[J9 hu hz hs (fun x v=>hev) hq hok wx]
   rfl
 case h_15 t x ho=>
  split at hc<;>try cases hc
  rename_i d hne hu;simp only[aL,St.evs]at h
  split at h<;>try exact h.elim
  rename_i vs hvs
  split at hvs<;>try cases hvs
  rename_i v1 vs1 h1 h2;cases h2;simp only[is]at h;refine lv h fun wx=>?_;simp only[execOp,ho,Instr.makeInterface,hev h1,H_,aC hu,I_];cases d<;>first|rfl|exact(hne _ rfl).elim
 case h_16 x xt t ok ho=>
  split at hc<;>try cases hc
  rename_i d z hu hz
  split at hc<;>try cases hc
  rename_i hif;simp only[aL,St.evs]at h
  split at h<;>try exact h.elim
  rename_i vs hvs
  split at hvs<;>try cases hvs
  rename_i v1 vs1 h1 h2;cases h2;simp only[is]at h;have hne:∀ms,d≠.interface ms:=fun ms e=>by subst e;cases hif
  rcases h with h|⟨hi1,hi2,h⟩
  ·obtain⟨y,he,hk⟩:=Sh.ex_some h
   subst he;refine lv hk fun wx=>?_;simp only[execOp,ho,Instr.typeAssert,hev h1,H_,aC hu,I_];cases d<;>first|(simp;done)|exact absurd rfl (hne _)
  ·refine lv h fun wx=>?_
   simp only[execOp,ho,Instr.typeAssert,hev h1,H_,aC hu,I_];unfold mZ at hi1
   split at hi1
   ·cases d<;>first|(simp[dK hz];done)|exact absurd rfl (hne _)
   ·rename_i t' v'
    have hte:t'≠t:=fun e=>hi2 v' (by rw[e])
    cases d<;>first|(simp[dK hz,hte];done)|exact absurd rfl (hne _)
   ·cases hi1
 case h_17 fn first caps ho=>
  split at hc<;>try cases hc
  rename_i hf;simp only[aL]at h
  split at h<;>try exact h.elim
  rename_i vs hvs;have h1:=hg.ag.evs hvs;refine lv h fun wx=>?_;have hfirst:first=#[]:=by cases first;simpa using hf
  have:caps.map a.eval=vs.toArray:=by rw[<-h1];cases caps;simp
  simp[execOp,ho,Instr.makeFunc,hfirst,this]
 case h_18 c ho=>
  have hb:∀b,c.callee=.builtin b->∀wx,(execOp a.eval o).run P wx=(builtin b c.argTypes o.type (c.args.map fun|.const _=>true|_=>false) (c.args.map a.eval)).run P wx:=by
   intro b hb wx;simp[execOp,ho,resolve,hb,invoke]
   rfl
  have hargs:∀l,c.args.toList=l->c.args=l.toArray:=fun l hl=>by cases c with|mk x y z=>cases y;simp_all
  have htys:∀l,c.argTypes.toList=l->c.argTypes=l.toArray:=fun l hl=>by cases c with|mk x y z=>cases z;simp_all
  split at hc
  case h_1 hcal=>
   split at hc<;>try cases hc
   rename_i x t hx ht
   split at hc<;>cases hc
   ·rename_i e hu
    simp only[aL]at h
    split at h<;>try exact h.elim
    ·rename_i p n cp h1
     refine lv h fun wx=>?_;rw[hb _ hcal];simp[builtin,Builtin.len_,hargs _ hx,htys _ ht,hev h1,aC hu,goInt]
   ·rename_i hu
    simp only[aL]at h
    split at h<;>try exact h.elim
    ·rename_i b h1
     refine lv h fun wx=>?_;rw[hb _ hcal];simp[builtin,Builtin.len_,hargs _ hx,htys _ ht,hev h1,aC hu,goInt]
  case h_2 hcal=>
   split at hc<;>try cases hc
   ·rename_i x y hx
    simp only[aL]at h
    split at h<;>try exact h.elim
    rename_i k m k' n h1 h2;refine lv h fun wx=>?_;rw[hb _ hcal];have:(if n<m then n else m)=min m n:=by split<;>omega
    simp[builtin,Builtin.min_,Builtin.min2,hargs _ hx,hev h1,hev h2,this]
   ·rename_i x y z hx
    simp only[aL]at h
    split at h<;>try exact h.elim
    rename_i vs hvs;obtain⟨u,v,t3,h1,h2,h3,rfl⟩:=wD hvs;simp only[is]at h
    split at h<;>try exact h.elim
    all_goals first|(rename_i hp _;cases hp;done)|skip
    rename_i k a kb b kc c hp hv;cases hv;cases hp;refine lv h fun wx=>?_;rw[hb _ hcal];have e1:∀m n:Int,(if n<m then n else m)=min m n:=fun m n=>by split<;>omega
    simp[builtin,Builtin.min_,Builtin.min2,hargs _ hx,hev h1,hev h2,hev h3,e1]
  case h_3 hcal=>
   split at hc<;>try cases hc
   ·rename_i x y hx
    simp only[aL]at h
    split at h<;>try exact h.elim
    rename_i k m k' n h1 h2;refine lv h fun wx=>?_;rw[hb _ hcal];have:(if m<n then n else m)=max m n:=by split<;>omega
    simp[builtin,Builtin.max_,Builtin.max2,hargs _ hx,hev h1,hev h2,this]
   ·rename_i x y z hx
    simp only[aL]at h
    split at h<;>try exact h.elim
    rename_i vs hvs;obtain⟨u,v,t3,h1,h2,h3,rfl⟩:=wD hvs;simp only[is]at h
    split at h<;>try exact h.elim
    all_goals first|(rename_i hp _;cases hp;done)|skip
    rename_i k a kb b kc c hp hv;cases hv;cases hp;refine lv h fun wx=>?_;rw[hb _ hcal];have e1:∀m n:Int,(if m<n then n else m)=max m n:=fun m n=>by split<;>omega
    simp[builtin,Builtin.max_,Builtin.max2,hargs _ hx,hev h1,hev h2,hev h3,e1]
  case h_4 hcal=>
   split at hc<;>try cases hc
   rename_i x t hx ht
   split at hc<;>cases hc
   rename_i e hu;simp only[aL]at h
   split at h<;>try exact h.elim
   rename_i vs hvs;obtain⟨u,h1,rfl⟩:=Dt hvs;simp only[is]at h
   split at h<;>try exact h.elim
   all_goals first|(rename_i hp _;cases hp;done)|skip
   rename_i p n c hp hv;cases hv;refine lv h fun wx=>?_;rw[hb _ hcal];simp[builtin,Builtin.cap_,hargs _ hx,htys _ ht,hev h1,aC hu,goInt]
  case h_5=>cases hc
 case h_19 t x lo hi mx ho=>
  split at hc<;>try cases hc
  rename_i e hu;cases hz:eA P e with
  |none=>rw[hz]at hc;cases hc
  |some sz=>
   rw[hz]at hc;cases hc;simp only[aL]at h
   split at h<;>try exact h.elim
   rename_i base len cap h1
   split at h<;>try exact h.elim
   rename_i kl l kh hh km m e1 e2 e3;obtain⟨m0,m1,h0,h1',h2',h⟩:=h;refine lv h fun wx=>?_;have hlo:∀v,s.evOr (.int .i64 0) lo=some v->(lo.map a.eval=none/\v=.int .i64 0)\/lo.map a.eval=some v:=by
    intro v hv;cases lo with
    |none=>simp[St.evOr]at hv;exact .inl ⟨rfl,hv.symm⟩
    |some o=>simp[St.evOr]at hv;exact .inr (by simp[hev hv])
   have sb:∀(k:F_) (i:Int) (y:Nat) (code:BoundsCode) (wx:A_),0<=i->i<=y->(Instr.sliceBound (.int k i) y code).run P wx=.ok i.toNat wx:=by
    intro k i y code wx h0 h1;simp[Instr.sliceBound,asIntOf,h0,h1]
   simp only[execOp,ho,b_,hev h1,hev e2,hev e3,Instr.sliceAt,H_,aC hu,I_,Instr.slice,Instr.sliceBounds,J_];rcases hlo _ e1 with⟨e1',ev1⟩|e1'
   ·cases ev1
    simp[e1',bE hz,aX,sb _ _ _ _ _ m0 m1,sb _ _ _ _ _ (O_ h0 h1') h2']
   ·simp[e1',aX,sb _ _ _ _ _ m0 m1,sb _ _ _ _ _ (O_ h0 h1') h2']
    rw[sb _ _ _ _ _ h0 (by omega)]
    simp[bE hz]
 case h_20 t x ix ho=>
  split at hc<;>try cases hc
  ·rename_i n e hu
   split at hc<;>try cases hc
   rotate_left
   ·rename_i m cs hagg hsz hz
    split at hc<;>try cases hc
    simp only[aL,St.evs]at h
    split at h<;>try exact h.elim
    rename_i vs hvs
    split at hvs<;>try cases hvs
    rename_i v1 vs1 h1 h2
    split at h2<;>try cases h2
    rename_i v2 vs2 h3 h4;cases h4;simp only[is]at h
    split at h<;>try exact h.elim
    all_goals first|(rename_i hp _;cases hp;done)|skip
    rename_i scs n' m' xs ki i hp hv;cases hp;cases hv;obtain⟨h0,h1',h⟩:=h;obtain⟨us,_,hget,hk⟩:=mH h;refine lv hk fun wx=>?_;have hx:xs.extract (i.toNat*m) (i.toNat*m+m)=us.toArray:=by
     apply Array.ext';rw[<-hget];simp
    simp[execOp,ho,Instr.index,hev h1,hev h3,asIntOf,aC hu,h0,h1',part,pg hagg,bE hsz,hx]
   rename_i z hagg hsz hz;simp only[aL,St.evs]at h
   split at h<;>try exact h.elim
   rename_i vs hvs
   split at hvs<;>try cases hvs
   rename_i v1 vs1 h1 h2
   split at h2<;>try cases h2
   rename_i v2 vs2 h3 h4;cases h4;simp only[is]at h
   split at h<;>try exact h.elim
   all_goals first|(rename_i hp _;cases hp;done)|skip
   rename_i sc m xs ki i hp hv;cases hp;cases hv;obtain⟨h0,h1',h⟩:=h;obtain⟨v,hget,hk⟩:=Sc.ex_some h;refine lv hk fun wx=>?_;have hget':xs[i.toNat]?=some v:=by simpa using hget
   simp[execOp,ho,Instr.index,hev h1,hev h3,asIntOf,aC hu,h0,h1',part,pg hagg,bE hsz,hget']
  ·rename_i hu
   simp only[aL,St.evs]at h
   split at h<;>try exact h.elim
   rename_i vs hvs
   split at hvs<;>try cases hvs
   rename_i v1 vs1 h1 h2
   split at h2<;>try cases h2
   rename_i v2 vs2 h3 h4;cases h4;simp only[is]at h
   split at h<;>try exact h.elim
   all_goals first|(rename_i hp _;cases hp;done)|skip
   rename_i b ki i hp hv;cases hv;obtain⟨h0,h1',h⟩:=h;refine lv h fun wx=>?_;have hlt:i.toNat<b.size:=by omega
   have hget:b[i.toNat]?=some b[i.toNat]:=by simp[hlt]
   simp[execOp,ho,Instr.index,hev h1,hev h3,asIntOf,aC hu,h0,dY,hget]
 case h_21 t x ho=>
  split at hc<;>try cases hc
  rename_i n e hu;simp only[aL]at h
  split at h<;>try exact h.elim
  rename_i vs hvs;obtain⟨u,h1,rfl⟩:=Dt hvs;unfold is at h
  split at h<;>try exact h.elim
  all_goals first|(rename_i e1 e2;cases e1;done)|skip
  rename_i m p len cap e1 e2;cases e1;cases e2;obtain⟨hn,h⟩:=h;refine lv h fun wx=>?_;have hn':¬len<n:=by omega
  simp[execOp,ho,hev h1,Instr.arrayAt,aC hu,hn']
 case h_22=>cases hc
end
end Go.Vc
