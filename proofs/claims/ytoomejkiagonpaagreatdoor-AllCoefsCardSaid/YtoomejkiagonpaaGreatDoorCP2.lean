/- A calculus of conditions over codes, part 2: heavy instructions (memory, calls) and why they are right. -/
import Derived.Laws.BytesString
import Derived.Test.YtoomejkiagonpaaGreatDoorCP1
set_option linter.unusedVariables false
set_option linter.unusedSimpArgs false
open Go renaming World->A_,Value->B_,Addr->C_,Program->D_,TypeId->E_,IntKind->F_,Operand->G_
open Bool renaming and_eq_true->H_,not_eq_true'->V_,true_and->a_,or_eq_true->d_,false_eq_true->e_,not_false->h_,false_or->E_A
open Go.Sem renaming run_bind->I_,run_pure->L_
open Go.Result renaming andThen_ok->J_
open Nat renaming beq->K_,eq_of_beq_eq_true->N_,ble->U_,shiftLeft->X_,land->Y_,le_of_ble_eq_true->f_,lor->g_,zero_add->k_,lt_or_ge->l_
open Go.Region renaming ready->M_,wanted->O_,Mode->P_,binds->W_,noSelect->o_,noSelect_spec->F_A
open List renaming map_cons->Q_,mem_cons_of_mem->R_,mem_cons_self->S_,nodup_cons->b_,all_cons->q_,drop_drop->r_,mem_map_of_mem->u_,mem_singleton->v_,getElem?_eq_getElem->w_,getElem?_eq_none->x_,getElem?_toArray->y_,getElem?_cons_zero->z_,getElem?_cons_succ->A_A,range'_succ->G_A
open Array renaming ext'->T_,range->Z_,getElem?_modify->i_,getElem?_eq_none->m_,getD_eq_getD_getElem?->n_,getElem?_toList->t_,replicate->C_A
open Go.Value renaming int->c_,oneCell'->p_
open Option renaming map_some->j_,bind_some->D_A
open Option.some renaming injEq->s_
open Int renaming emod_eq_of_lt->B_A
namespace Go.Vc
open Go.RowKit
variable {w w' wa w0 : A_} {R : Ending -> A_ -> Prop} {n i b k N a j off : Nat} {vs fs : List B_} {t e : E_} {v : B_} {l B ds : List Nat} {F : Option C_ -> Nat -> Nat -> A_ -> Prop}
def vD(bs:List Nat)(w w':A_)(K:Prop):Prop:=
 match bs with
 |[]=>K
 |_=>ao bs w w'/\K
structure dP(D:Nat)(w w':A_):Prop where
 os:w'.os=w.os
 tape:w'.tape=w.tape
 output:w'.output=w.output
 size:w'.heap.size=w.heap.size
 block:∀k,k≠D->w'.heap[k]?=w.heap[k]?
def iV:List Nat->A_->(A_->Prop)->Prop
 |[],w,F=>F w
 |D::r,w,F=>∀w',dP D w w'->iV r w' F
def jr(l:List (Nat×Nat×List B_))(b:Nat)(K:Prop):Prop:=
 match l with
 |[]=>K
 |_=>b∉am l/\K
def ab:A_->C_->List B_->Nat->A_
 |w,_,[],_=>w
 |w,a,v::vs,i=>ab (w.setCell (a.add i) v) a vs (i+1)
def j9(w:A_)(a:C_):List B_->Nat->Prop->Prop
 |[],_,K=>K
 |v::vs,i,K=>(∃u,w.cell? (a.add i)=some u)/\w.frozen? (a.add i)=false/\j9 w a vs (i+1) K
def dq(w:A_)(a:C_)(n:Nat):Prop:=∀j,j<n->(∃u,w.cell? (a.add j)=some u)/\w.frozen? (a.add j)=false
def IZ(n:Nat)(w:A_)(a:C_)(vs:List B_)(K:Prop):Prop:=match U_ n 24 with|true=>j9 w a vs 0 K|false=>dq w a n/\K
def aV(w:A_)(base:Option C_)(vs:List B_):Prop:=∀j v,vs[j]?=some v->∃a,base=some a/\w.cell? (a.add j)=some v
def bg(zero:List B_)(c:Nat):Array B_:=(Z_ (c*zero.length)).map fun i=>zero.toArray[i%zero.toArray.size]!
def aN(vs:List B_):Bool:=vs.all p_
def vw(fl:Bool)(w w':A_)(K:Prop):Prop:=match fl with|true=>aU w w'/\K|false=>K
def HP(fl:Bool)(K:Prop):Prop:=match fl with|true=>False|false=>K
def ay(w:A_)(l:List (Nat×Nat×List B_))(base:Option C_)(len cap n sz bytes:Nat)(elem:E_)(zero fs:List B_)(F:Option C_->Nat->Nat->A_->Prop):Prop:=
 (len+n<=cap->(fs=[]/\F base (len+n) cap w)\/
  ∃a,base=some a/\dq w (a.add (len*sz)) fs.length/\jr l a.block (F base (len+n) cap (ab w (a.add (len*sz)) fs 0)))/\
 (cap<len+n->(len+n)*bytes<=2^47/\len+n<2^62/\∃old,old.length=len*sz/\aV w base old/\
  ∀cap' b w',len+n<=cap'->aK w.drew (.cells (old++fs++(bg zero (cap'-(len+n))).toList).toArray elem (0,0)) b w'->F (some ⟨b,0,none⟩) (len+n) cap' w')
def rX(P:D_)(f:FuncId):Bool:=
 match P.funcs[f]? with
 |some fn=>!(fn.name== "runtime.NumGoroutine")&&fn.body.isSome
 |none=>false
def rC(P:D_)(fv:B_)(vs:List B_)(w:A_)(R:Ending->A_->Prop):Prop:=
 match fv with
 |.func fn first caps=>match fn with
  |.func f=>match rX P f with
   |true=>Calls P f (first.toList++vs++caps.toList).toArray w R
   |false=>False
  |_=>False
 |_=>False
def dO(P:D_)(fv:B_)(vs:List B_)(w:A_)(R:Ending->A_->Prop):Prop:=
 match fv with
 |.func fn first caps=>match fn with
  |.func f=>match rX P f with
   |true=>Calls P f (first.toList++vs++caps.toList).toArray w R
   |false=>False
  |.yield l=>YieldAt Fence.wide 0 P l (first.toList++vs).toArray w R
  |_=>False
 |_=>False
def MQ(sh:List Sh)(pn:Bool)(X:List PanicEntry->A_->Prop)(K:B_->A_->Prop)(e:Ending)(w':A_):Prop:=
 match pn with
 |false=>IT sh fun v=>e=.returned v/\K v w'
 |true=>(IT sh fun v=>e=.returned v/\K v w')\/∃ch,e=.panicked ch/\X ch w'
def D1(zero:List B_)(s:St):Option G_->Option (List B_)
 |none=>some zero
 |some x=>(s.ev x).map (·.cells.toList)
def mC(s:St)(sz:Nat):List (Nat×G_)->Option (List (Nat×B_))
 |[]=>some []
 |(i,x)::r=>match s.ev x,mC s sz r with|some v,some vs=>some ((i,v)::vs)|_,_=>none
def xz(sz:Nat)(cells:List B_):List (Nat×B_)->List B_
 |[]=>cells
 |(i,v)::r=>xz sz (cells.take (i*sz)++v.cells.toList++cells.drop (i*sz+sz)) r
def yJ(sz n:Nat):List (Nat×B_)->Bool
 |[]=>true
 |(i,v)::r=>K_ v.cells.toList.length sz&&U_ (i*sz+sz) n&&yJ sz n r
def cY(n:Nat)(zero:List B_):List B_:=match n with|0=>[]|n+1=>zero++cY n zero
def gN:List F_->List B_->Bool
 |[],[]=>true
 |k::ks,.int k' _::vs=>decide (k=k')&&gN ks vs
 |_,_=>false
def cV(kd:Kd)(v:B_):Bool:=
 match kd,v with
 |.int k,.int k' _=>decide (k=k')
 |.str,.string _=>true
 |.agg ks,.agg xs=>gN ks xs.toList
 |_,_=>false
def fZ(u v:B_):Bool:=
 match u,v with
 |.int _ a,.int _ b=>decide (a=b)
 |.string a,.string b=>decide (a=b)
 |.agg xs,.agg ys=>match pP xs.toList ys.toList with|some r=>r|none=>false
 |_,_=>false
def CQ(key:B_):List (B_×B_)->Option B_
 |[]=>none
 |(k,v)::r=>match fZ key k with|true=>some v|false=>CQ key r
def rK(key val:B_):List (B_×B_)->List (B_×B_)
 |[]=>[(key,val)]
 |(k,v)::r=>match fZ key k with|true=>(key,val)::r|false=>(k,v)::rK key val r
def Hp(kvs:List (B_×B_))(key zero:B_):B_×Bool:=match CQ key kvs with|some v=>(v,true)|none=>(zero,false)
def kv(e:MapEntry):B_×B_:=(e.key,e.val)
def Mp(kd:Kd)(w:A_)(b:Nat)(kvs:List (B_×B_)):Prop:=
 (∃es clock,w.heap[b]?=some (.map es clock)/\es.toList.map kv=kvs)/\∀x∈kvs,cV kd x.1=true
def JY(kd:Kd)(w:A_)(m:B_)(G:List (B_×B_)->Prop):Prop:=
 match m with
 |.map none=>G []
 |.map (some b)=>∃kvs,Mp kd w b kvs/\G kvs
 |_=>False
def NK(kd:Kd)(w:A_)(m:B_)(G:Nat->List (B_×B_)->Prop):Prop:=
 match m with
 |.map (some b)=>∃kvs,Mp kd w b kvs/\G b kvs
 |_=>False
def kS(P:D_):List Field->Option (List F_)
 |[]=>some []
 |f::r=>match P.underlying f.type,kS P r with
  |some (.int k),some ks=>some (k::ks)
  |_,_=>none
def tV(P:D_)(kt:E_):Option Kd:=
 match P.underlying kt with
 |some (.int k)=>some (.int k)
 |some .string=>some .str
 |some (.struct fs)=>match gg P fs.toList 0&&!P.stoodInHeld kt with
  |true=>(kS P fs.toList).map .agg
  |false=>none
 |_=>none
def Oy(z:B_)(sh:List Sh)(F:B_->Prop):Prop:=match z with
 |.nilFunc=>F .nilFunc\/∃(f:FuncId) (a c:Array B_),F (.func (.func f) a c)
 |_=>IT sh F
theorem M7{z:B_}{sh:List Sh}{F:B_->Prop}(h:Oy z sh F):∃v,F v:=by
 unfold Oy at h
 split at h
 ·rcases h with h|⟨f,a,c,h⟩
  ·exact⟨_,h⟩
  ·exact⟨_,h⟩
 ·exact GC h
structure Mk(D:Nat)(w w':A_):Prop where
 put:dP D w w'
 cell:∀a,w'.cell? a=w.cell? a
def bG(b:ByteArray)(n:Nat):List B_:=(b.extract 0 n).data.toList.map fun x=>.int .u8 x.toNat
def iD(xs:List Int):ByteArray:=xs.foldl (fun r n=>r.push (UInt8.ofNat n.toNat)) ByteArray.empty
def cD(P:D_)(pn fl:Bool)(X:List PanicEntry->A_->Prop)(i:fi)(s:St)(w:A_)(K:Option EV->St->A_->Prop):Prop:=
 match i with
 |.st x v n=>HP fl<|match s.ev v with
  |some val=>ae (aN val.cells.toList&&K_ val.cells.toList.length n)
   (match s.evE x with
    |some (.v (.pointer p))=>nn p fun a=>sync s w fun w=>IZ n w a val.cells.toList (jr s.l a.block (K none s.clean (ab w a val.cells.toList 0)))
    |some (.loc k off)=>match fu k s.l with
     |some (_,cs)=>match U_ (off+val.cells.toList.length) cs.length&&!s.ro.any (K_ k)with
      |true=>K none {s with l:=change k (fun cs=>cs.take off++val.cells.toList++cs.drop (off+val.cells.toList.length)) s.l,dirty:=true} w
      |false=>False
     |none=>False
    |_=>False) False
  |none=>False
 |.boxV elem zero x=>match D1 zero s x with
  |some vs=>sync s w fun w=>∀b w',aK w (.cells vs.toArray elem (0,0)) b w'->K (some (.v (.pointer (some ⟨b,0,none⟩)))) s.clean w'
  |none=>False
 |.boxL k elem zero x=>match D1 zero s x,fu k s.l with
  |some vs,none=>∀b,w.heap.size<=b->K (some (.loc k 0)) {s with l:=(k,b,vs)::s.l,dirty:=true} w
  |_,_=>False
 |.bslV elem sz n zero parts=>match mC s sz parts with
  |some ps=>match yJ sz (n*sz) ps&&K_ zero.length sz with
   |true=>sync s w fun w=>∀b w',aK w (.cells (xz sz (cY n zero) ps).toArray elem (0,0)) b w'->K (some (.v (.slice (some ⟨b,0,none⟩) n n))) s.clean w'
   |false=>False
  |none=>False
 |.bslL k elem sz n zero parts=>match mC s sz parts,fu k s.l with
  |some ps,none=>match yJ sz (n*sz) ps&&K_ zero.length sz with
   |true=>∀b,w.heap.size<=b->K (some (.lsl k n)) {s with l:=(k,b,xz sz (cY n zero) ps)::s.l,dirty:=true} w
   |false=>False
  |_,_=>False
 |.mksl elem bytes zero l c=>match s.ev l,s.ev c with
  |some (.int _ l),some (.int _ c)=>sync s w fun w=>0<=l/\l<=c/\c*bytes<=2^48/\c<2^62/\
   ∀b w',aK w (.cells (bg zero c.toNat) elem (0,0)) b w'->K (some (.v (.slice (some ⟨b,0,none⟩) l.toNat c.toNat))) s.clean w'
  |_,_=>False
 |.app elem sz bytes zero x y=>match s.ev x with
  |some (.slice base len cap)=>match s.evE y with
   |some (.lsl k n)=>match fu k s.l with
    |some (_,fs)=>ae (aN fs&&K_ fs.length (n*sz))
     (sync s w fun w=>ay w s.l base len cap n sz bytes elem zero fs fun b n c w'=>vw fl w w' (K (some (.v (.slice b n c))) s.clean w'))
     False
    |none=>False
   |some (.v (.slice base2 n _))=>sync s w fun w=>∃fs,fs.length=n*sz/\aN fs=true/\aV w base2 fs/\
     ay w s.l base len cap n sz bytes elem zero fs fun b n c w'=>vw fl w w' (K (some (.v (.slice b n c))) s.clean w')
   |_=>False
  |_=>False
 |.appz elem sz bytes zero x y=>match s.ev x,s.ev y with
  |some (.slice base len cap),some (.int _ n)=>sync s w fun w=>0<=n/\n*bytes<=2^48/\n<2^62/\
    ay w s.l base len cap n.toNat sz bytes elem zero (cY n.toNat zero) fun b m c w'=>vw fl w w' (K (some (.v (.slice b m c))) s.clean w')
  |_,_=>False
 |.cpy elem sz x y=>HP fl<|match s.ev x,s.ev y with
  |some (.slice base dlen _),some (.slice base2 slen _)=>sync s w fun w=>∃fs,fs.length=min slen dlen*sz/\aN fs=true/\aV w base2 fs/\
   ((fs=[]/\K (some (.v (.int .i64 (min slen dlen:Nat)))) s.clean w)\/
    ∃a,base=some a/\dq w a fs.length/\jr s.l a.block (K (some (.v (.int .i64 (min slen dlen:Nat)))) s.clean (ab w a fs 0)))
  |some (.slice base dlen _),some (.string b)=>sync s w fun w=>
   ((bG b (min b.size dlen)=[]/\K (some (.v (.int .i64 (min b.size dlen:Nat)))) s.clean w)\/
    ∃a,base=some a/\dq w a (bG b (min b.size dlen)).length/\jr s.l a.block (K (some (.v (.int .i64 (min b.size dlen:Nat)))) s.clean (ab w a (bG b (min b.size dlen)) 0)))
  |_,_=>False
 |.call f args sh=>match s.ev f,s.evs args with
  |some fv,some vs=>sync s w fun w=>dO P fv vs w (MQ sh pn (fun ch w'=>vD (s.kp.map (·.1)) w w' (X ch w')) fun v w'=>vD (s.kp.map (·.1)++am s.l) w w' (vw fl w w' (K (some (.v v)) s.clean w')))
  |_,_=>False
 |.mkmp=>sync s w fun w=>∀b w',aK w (.map #[] 0) b w'->K (some (.v (.map (some b)))) s.clean w'
 |.mget kd ok z sh x ix=>match s.ev x,s.ev ix with
  |some m,some key=>match cV kd key with
   |true=>sync s w fun w=>JY kd w m fun kvs=>Oy z sh fun v=>∃c:Bool,Hp kvs key z=(v,c)/\K (some (.v (match ok with|true=>.tuple #[v,.bool c]|false=>v))) s.clean w
   |false=>False
  |_,_=>False
 |.mset kd x ix v=>HP fl<|match s.ev x,s.ev ix,s.ev v with
  |some m,some key,some val=>match cV kd key with
   |true=>sync s w fun w=>NK kd w m fun b kvs=>∀w',dP b w w'->Mp kd w' b (rK key val kvs)->K none s.clean w'
   |false=>False
  |_,_,_=>False
 |.clr zero x=>HP fl<|match s.ev x with
  |some (.slice base n _)=>sync s w fun w=>(n=0/\K (some (.v (.tuple #[]))) s.clean w)\/
   (n≠0/\∃a,base=some a/\dq w a (cY n zero).length/\jr s.l a.block (K (some (.v (.tuple #[]))) s.clean (ab w a (cY n zero) 0)))
  |_=>False
 |.mark x=>match s.ev x with
  |some (.slice (some a) n c)=>sync s w fun w=>∃C:Array B_,∃e:E_,w.heap[a.block]?=some (.cells C e (0,0))/\jr s.l a.block (∀w',Mk a.block w w'->K (some (.v (.slice (some a) n c))) s.clean w')
  |_=>False
 |.sbs elem x=>match s.ev x with
  |some (.string b)=>sync s w fun w=>∀c D w1 w',b.size<=c->aK w.drew (.cells (bG b b.size++cY (c-b.size) [.int .u8 0]).toArray elem (0,0)) D w1->Mk D w1 w'->K (some (.v (.slice (some ⟨D,0,none⟩) b.size c))) s.clean w'
  |_=>False
 |.bstr x=>match s.ev x with
  |some (.slice base n _)=>sync s w fun w=>∃xs:List Int,xs.length=n/\aV w base (xs.map (.int .u8))/\K (some (.v (.string (iD xs)))) s.clean w
  |_=>False
 |.pan x=>match s.ev x with
  |some v=>(∃t u,v=.iface t u)/\sync s w fun w=>X [{v:=v,recovered:=false}] w
  |none=>False
 |i=>aL i s w K
def fi.kp(fl:Bool):fi->Bool
 |.st .. |.cpy .. |.mset .. |.clr .. =>false
 |.call .. |.app .. |.appz .. =>fl
 |_=>true
def gY(P:D_)(loc:Bool)(dst:Option Tmp)(type:E_)(op:Op):Option fi:=
 match op with
 |.store t x v=>match eA P t with
  |some n=>some (.st x v n)
  |none=>none
 |.alloc e=>match dR P e,loc,dst with
  |some z,false,_=>some (.boxV e z none)
  |some z,true,some k=>some (.boxL k e z none)
  |_,_,_=>none
 |.box e v=>match loc,dst with
  |false,_=>some (.boxV e [] (some v))
  |true,some k=>some (.boxL k e [] (some v))
  |_,_=>none
 |.buildSlice t n parts=>match P.underlying t with
  |some (.slice e)=>match eA P e,dR P e,loc,dst with
   |some sz,some z,false,_=>match U_ (n*sz) 4096 with|true=>some (.bslV e sz n z parts.toList)|false=>none
   |some sz,some z,true,some k=>match U_ (n*sz) 4096 with|true=>some (.bslL k e sz n z parts.toList)|false=>none
   |_,_,_,_=>none
  |_=>none
 |.makeSlice t l c=>match P.underlying t with
  |some (.slice e)=>match P.info? e,dR P e with
   |some i,some z=>match K_ i.size z.length with
    |true=>some (.mksl e i.bytes z l c)
    |false=>none
   |_,_=>none
  |_=>none
 |.call c=>match c.callee with
  |.value f=>match P.info? type with
   |some i=>match i.zero with
    |some z=>some (.call f c.args.toList (NC z))
    |none=>none
   |none=>none
  |.builtin .append=>match c.args.toList,c.argTypes.toList with
   |[x,y],[t,u]=>match P.underlying t,P.underlying u with
    |some (.slice e),some (.slice _)=>match P.info? e,dR P e with
     |some i,some z=>match K_ i.size z.length with
      |true=>some (.app e i.size i.bytes z x y)
      |false=>none
     |_,_=>none
    |some (.slice e),some (.int _)=>match P.info? e,dR P e with
     |some i,some z=>match K_ i.size z.length&&aN z with
      |true=>some (.appz e i.size i.bytes z x y)
      |false=>none
     |_,_=>none
    |_,_=>none
   |_,_=>none
  |.builtin .copy=>match c.args.toList,c.argTypes.toList with
   |[x,y],[t,_]=>match P.underlying t with
    |some (.slice e)=>(eA P e).map (.cpy e · x y)
    |_=>none
   |_,_=>none
  |.builtin .clear=>match c.args.toList,c.argTypes.toList with
   |[x],[t]=>match P.underlying t with
    |some (.slice e)=>match dR P e with
     |some z=>match aN z with
      |true=>some (.clr z x)
      |false=>none
     |none=>none
    |_=>none
   |_,_=>none
  |_=>aT P op
 |.makeMap _ none=>some .mkmp
 |.lookup t x ix ok=>match P.underlying t with
  |some (.map kt et)=>match tV P kt,jL P et with
   |some kd,some z=>some (.mget kd ok z (NC z) x ix)
   |_,_=>none
  |_=>none
 |.mapUpdate t m k v=>match P.underlying t with
  |some (.map kt _)=>match tV P kt with
   |some kd=>some (.mset kd m k v)
   |none=>none
  |_=>none
 |.insert t m k v=>match P.underlying t with
  |some (.map kt _)=>match tV P kt with
   |some kd=>some (.mset kd m k v)
   |none=>none
  |_=>none
 |.convert src dst x=>match P.underlying src,P.underlying dst with
  |some (.slice e),some .string=>match P.underlying e with
   |some (.int .u8)=>some (.bstr x)
   |_=>none
  |some (.slice _),some (.slice e)=>match K_ src dst,P.underlying e with
   |true,some (.int .u8)=>some (.mark x)
   |_,_=>none
  |some .string,some (.slice e)=>match P.underlying e with
   |some (.int .u8)=>some (.sbs e x)
   |_=>none
  |_,_=>aT P op
 |.panic x=>some (.pan x)
 |op=>aT P op
theorem CT(w:A_)(a:C_)(v:B_)(k:Nat)(h:k≠a.block):(w.setCell a v).heap[k]?=w.heap[k]?:=Below.heap_setCell w a v k h
theorem dg(a:C_)(n:Nat):(a.add n).block=a.block:=by unfold C_.add;split<;>rfl
structure fJ(b:Nat)(w w':A_):Prop where
 os:w'.os=w.os
 tape:w'.tape=w.tape
 output:w'.output=w.output
 size:w'.heap.size=w.heap.size
 block:∀k,k≠b->w'.heap[k]?=w.heap[k]?
theorem fJ.refl(b:Nat)(w:A_):fJ b w w:=⟨rfl,rfl,rfl,rfl,fun _ _=>rfl⟩
theorem fJ.trans{x y z:A_}(h:fJ b x y)(k:fJ b y z):fJ b x z:=
 ⟨k.os.trans h.os,k.tape.trans h.tape,k.output.trans h.output,k.size.trans h.size,fun i hi=>(k.block i hi).trans (h.block i hi)⟩
theorem fJ.setCell(w:A_)(a:C_)(v:B_):fJ a.block w (w.setCell a v):=
 ⟨rfl,rfl,rfl,by simp,fun k hk=>CT w a v k hk⟩
theorem bS:∀(vs:List B_) (w:A_) (a:C_) (i:Nat),fJ a.block w (ab w a vs i)
 |[],w,a,i=>fJ.refl _ w
 |v::vs,w,a,i=>by
  have h1:=fJ.setCell w (a.add i) v;rw[dg]at h1;exact h1.trans (bS vs _ a (i+1))
theorem In{o:Obj}(h:qW o=true):o.isCells=false:=by cases o<;>simp_all [qW,Obj.isCells]
theorem ft.setCell(w:A_)(a:C_)(v:B_):ft w (w.setCell a v):=fun D o hD ho=>(KeepsOthers.setCell w a v).same D o hD (In ho)
theorem ft.setCells:∀(vs:List B_) (w:A_) (a:C_) (i:Nat),ft w (ab w a vs i)
 |[],w,a,i=>ft.refl w
 |v::vs,w,a,i=>(ft.setCell w (a.add i) v).trans (ft.setCells vs _ a (i+1))
theorem wA{a b:C_}{u:B_}(h:w.cell? b=some u):∃u',(w.setCell a v).cell? b=some u':=by
 by_cases hab:a=b
 ·subst hab;exact⟨v,A_.cell?_setCell_same w a v h⟩
 ·exact⟨u,by rw[A_.cell?_setCell_other (w:=w) (v:=v) (h:=hab)];exact h⟩
theorem sL{b:C_}{v:B_}:∀{vs:List B_} {w:A_} {a:C_} {i:Nat},j9 w a vs i True->j9 (w.setCell b v) a vs i True
 |[],_,_,_,h=>h
 |u::vs,w,a,i,h=>by
  obtain⟨⟨x,hx⟩,hf,hr⟩:=h;refine⟨wA hx,by rw[A_.frozen?_setCell];exact hf,sL hr⟩
theorem yd:∀{vs:List B_} {w:A_} {a:C_} {i:Nat} {K:Prop},j9 w a vs i K->j9 w a vs i True/\K
 |[],_,_,_,_,h=>⟨trivial,h⟩
 |v::vs,w,a,i,K,h=>by
  obtain⟨h1,h2⟩:=yd h.2.2;exact⟨⟨h.1,h.2.1,h1⟩,h2⟩
theorem jf{w:A_}{a:C_}:∀{vs:List B_} {i:Nat},(∀j,i<=j->j<i+vs.length->(∃u,w.cell? (a.add j)=some u)/\w.frozen? (a.add j)=false)->j9 w a vs i True
 |[],_,_=>trivial
 |v::vs,i,h=>by
  obtain⟨h1,h2⟩:=h i (Nat.le_refl _) (by simp)
  exact⟨h1,h2,jf fun j hj hlt=>h j (by omega) (by simp;omega)⟩
theorem fH{P:D_}:∀{vs:List B_} {w:A_} {a:C_} {i:Nat},vs.all p_=true->j9 w a vs i True->
  (storeCells a vs i).run P w=.ok () (ab w a vs i)
 |[],w,a,i,_,_=>by simp[storeCells,ab]
 |v::vs,w,a,i,ho,h=>by
  obtain⟨⟨u,hu⟩,hf,hr⟩:=h;simp only[q_,H_]at ho;simp only[storeCells,I_,run_store _ _ _ _ _ ho.1,hu,hf,e_,if_false,J_,ab];exact fH ho.2 (sL hr)
theorem FT{cs:List B_}{fr:Nat×Nat}(h:w.heap[b]?=some (.cells cs.toArray e fr)):
  (w.setCell ⟨b,off,none⟩ v).heap[b]?=some (.cells (cs.set off v).toArray e fr):=by
 simp only[A_.setCell,i_,if_true,h,j_];simp
theorem mE{b off:Nat}{e:E_}{fr:Nat×Nat}:∀{vs cs:List B_} {w:A_} {i:Nat},w.heap[b]?=some (.cells cs.toArray e fr)->off+i+vs.length<=cs.length->
  (ab w ⟨b,off,none⟩ vs i).heap[b]?=some (.cells (cs.take (off+i)++vs++cs.drop (off+i+vs.length)).toArray e fr)
 |[],cs,w,i,h,_=>by simpa[ab]using h
 |v::vs,cs,w,i,h,hl=>by
  simp only[ab,af];simp only[List.length_cons]at hl;rw[mE (FT h) (by simp;omega)]
  have e1:=jX [v] (off+i) 0 cs.toArray (by simp;omega)
  simp at e1;have e2:cs.set (off+i) v=cs.take (off+i)++v::cs.drop (off+i+1):=by simpa using e1
  have hlen:(cs.take (off+i)).length=off+i:=by simp;omega
  have e3:(cs.set (off+i) v).take (off+(i+1))++vs++(cs.set (off+i) v).drop (off+(i+1)+vs.length)=
    cs.take (off+i)++v::vs++cs.drop (off+i+(vs.length+1)):=by
   rw[e2,show off+(i+1)=(off+i)+1 by omega]
   generalize hA:List.take (off+i) cs=A at*;generalize hB:List.drop (off+i+1) cs=B at*;have hB2:cs.drop (off+i+(vs.length+1))=B.drop vs.length:=by rw[<-hB,r_];congr 1;omega
   rw[hB2,List.take_append,List.drop_append];simp only[hlen];rw[List.take_of_length_le (l:=A) (by omega),List.drop_eq_nil_of_le (as:=A) (by omega)]
   simp only[show off+i+1-(off+i)=1 by omega,show off+i+1+vs.length-(off+i)=vs.length+1 by omega,List.take_succ_cons,List.take_zero,List.drop_succ_cons]
   simp
  rw[e3]
  rfl
theorem D6:∀{ks:List F_} {xs ys:List B_},gN ks xs=true->gN ks ys=true->∃r,pP xs ys=some r/\(r=true↔xs=ys)
 |[],[],[],_,_=>⟨true,rfl,by simp⟩
 |[],_::_,_,h,_=>by simp[gN]at h
 |[],[],_::_,_,h=>by simp[gN]at h
 |k::ks,[],_,h,_=>by simp[gN]at h
 |k::ks,x::xs,[],_,h=>by simp[gN]at h
 |k::ks,x::xs,y::ys,hx,hy=>by
  cases x<;>simp[gN]at hx
  cases y<;>simp[gN]at hy
  obtain⟨rfl,hx⟩:=hx;obtain⟨rfl,hy⟩:=hy;obtain⟨r,hr,hi⟩:=D6 hx hy;rename_i a b;refine⟨decide (a=b)&&r,by simp[pP,hr],?_⟩
  simp[hi]
theorem Mc{kd:Kd}{u:B_}(hu:cV kd u=true)(hv:cV kd v=true):fZ u v=true↔u=v:=by
 cases kd<;>cases u<;>simp[cV]at hu<;>cases v<;>simp[cV]at hv
 ·subst hu;subst hv;simp[fZ]
 ·simp[fZ]
 ·rename_i xs ys
  obtain⟨r,hr,hi⟩:=D6 hu hv;simp only[fZ,hr,hi];constructor
  ·intro h;congr 1;exact Array.toList_inj.1 h
  ·intro h;cases h;rfl
theorem Af{P:D_}:∀{fs:List Field} {ks:List F_} {xs:List B_},kS P fs=some ks->gN ks xs=true->xs.length=fs.length
 |[],ks,xs,hk,hf=>by
  simp only[kS,s_]at hk;subst hk;cases xs with
  |nil=>rfl
  |cons=>simp[gN]at hf
 |f::fs,ks,xs,hk,hf=>by
  unfold kS at hk
  split at hk<;>cases hk
  rename_i k ks' hu hks;cases xs with
  |nil=>simp[gN]at hf
  |cons x xs=>
   cases x<;>simp[gN]at hf
   simp[Af hks hf.2]
section
variable {P : D_}
theorem Hb{em:Bool}{k:F_}(hu:P.underlying t=some (.int k))(w:A_):(Instr.checkKey em (n+1) t v).run P w=.ok () w:=by
 unfold Instr.checkKey;simp only[I_,aC hu,J_];cases v<;>rfl
theorem Nk{em:Bool}(hu:P.underlying t=some .string)(w:A_):(Instr.checkKey em (n+1) t v).run P w=.ok () w:=by
 unfold Instr.checkKey;simp only[I_,aC hu,J_];cases v<;>rfl
theorem qY{kt:E_}{kd:Kd}{key:B_}(hk:tV P kt=some kd)(ho:cV kd key=true)(em:Bool)(w:A_):(Instr.checkKey em 10000 kt key).run P w=.ok () w:=by
 unfold tV at hk
 split at hk<;>try cases hk
 ·rename_i k hu;exact Hb hu w
 ·rename_i hu;exact Nk hu w
 ·rename_i fs hu
  split at hk<;>try cases hk
  rename_i hok;simp only[H_,V_]at hok;obtain⟨ks,hks,rfl⟩:=Option.map_eq_some_iff.1 hk;cases key<;>simp[cV]at ho
  rename_i X;rw[show(10000:Nat)=9999+1 from rfl,Instr.checkKey]
  simp only[I_,aC hu,J_];rw[<-Array.forIn_toList];have key:∀(L:List Field) (i:Nat) (xs:List B_) (ks:List F_),gg P L i=true->X.toList.drop i=xs->kS P L=some ks->gN ks xs=true->
    (forIn L PUnit.unit fun(f:Field) (r:PUnit)=>(if f.name≠ "_" then do Instr.checkKey em 9999 f.type (<-part f.type X f.offset);pure (ForInStep.yield PUnit.unit)else do pure PUnit.unit;pure (ForInStep.yield PUnit.unit):Sem (ForInStep PUnit))).run P w=.ok () w:=by
   intro L
   induction L with
   |nil=>intros;simp
   |cons f L ih=>
    intro i xs ks hi hx hk hf;simp only[gg,H_]at hi;obtain⟨⟨⟨hof,hn⟩,hui⟩,hrest⟩:=hi;have hof:=N_ hof;have hn:f.name≠ "_" :=by simpa using hn
    unfold kS at hk
    split at hk<;>cases hk
    rename_i k ks' hu hks;cases xs with
    |nil=>simp[gN]at hf
    |cons x xs=>
     cases x<;>simp[gN]at hf
     rename_i k1 n1;have hX:X[f.offset]?=some (.int k1 n1):=by
      rw[hof,<-t_,<-List.head?_drop,hx];rfl
     have hag:qk P f.type=some false:=by simp[qk,hu]
     simp only[List.forIn_cons,I_,hn,ne_eq,not_false_eq_true,if_true,part,pg hag,J_,e_,if_false,hX,L_,Hb (n:=9998) hu];exact ih (i+1) xs ks' hrest (by rw[<-r_,hx];rfl) hks hf.2
  have:=key fs.toList 0 X.toList ks hok.1 (by simp) hks ho
  simp at this⊢;rw[this];rfl
def gr(key:B_):List MapEntry->Nat->Option (Nat×B_)
 |[],_=>none
 |e::es,i=>match fZ key e.key with|true=>some (i,e.val)|false=>gr key es (i+1)
theorem Hw{k:F_}{key:B_}(ho:cV (.int k) key=true):∀{es:List MapEntry} {i:Nat},(∀e∈es,cV (.int k) e.key=true)->Instr.findNow (.int k) key es i=some (gr key es i)
 |[],_,_=>rfl
 |e::es,i,h=>by
  have h1:=h e (by simp)
  have ih:=Hw ho (es:=es) (i:=i+1) fun e he=>h e (by simp[he])
  unfold Instr.findNow gr;cases key<;>simp[cV]at ho
  cases hk:e.key<;>rw[hk]at h1<;>simp[cV]at h1
  subst ho;subst h1;rename_i a b;by_cases hab:a=b
  ·simp[Instr.sameNow,fZ,hab]
  ·have:(a==b)=false:=by simpa using hab
   simp[Instr.sameNow,fZ,hab,ih,this]
theorem G3(a b:ByteArray):(a==b)=decide (a=b):=by
 rw[Bool.eq_iff_iff,decide_eq_true_iff];constructor
 ·intro h
  obtain⟨x⟩:=a;obtain⟨y⟩:=b;have h:(x==y)=true:=h;rw[beq_iff_eq.1 h]
 ·intro h;subst h
  obtain⟨x⟩:=a;show(x==x)=true;exact beq_iff_eq.2 rfl
theorem G7{key:B_}(ho:cV .str key=true):∀{es:List MapEntry} {i:Nat},(∀e∈es,cV .str e.key=true)->Instr.findNow .string key es i=some (gr key es i)
 |[],_,_=>rfl
 |e::es,i,h=>by
  have h1:=h e (by simp)
  have ih:=G7 ho (es:=es) (i:=i+1) fun e he=>h e (by simp[he])
  unfold Instr.findNow gr;cases key<;>simp[cV]at ho
  cases hk:e.key<;>rw[hk]at h1<;>simp[cV]at h1
  rename_i a b;by_cases hab:a=b
  ·subst hab
   have:(a==a)=true:=by rw[G3];simp
   simp only[Instr.sameNow,fZ,this,decide_true]
  ·have:(a==b)=false:=by rw[G3];simp[hab]
   simp only[Instr.sameNow,fZ,hab,this,ih,decide_false]
theorem GU{kt:E_}{fs:Array Field}{ks:List F_}{key:B_}(hu:P.underlying kt=some (.struct fs))(hi:gg P fs.toList 0=true)(hp:P.stoodInHeld kt=false)(hks:kS P fs.toList=some ks)
  (ho:cV (.agg ks) key=true)(w:A_):∀{es:List MapEntry} {i:Nat},(∀e∈es,cV (.agg ks) e.key=true)->(Instr.findAsking kt key es i).run P w=.ok (gr key es i) w
 |[],_,_=>rfl
 |e::es,i,h=>by
  have h1:=h e (by simp)
  have ih:=GU hu hi hp hks ho w (es:=es) (i:=i+1) fun e he=>h e (by simp[he])
  cases key<;>simp[cV]at ho
  rename_i xs;cases hk:e.key<;>rw[hk]at h1<;>simp[cV]at h1
  rename_i ys;obtain⟨r,hr,_⟩:=D6 ho h1;have hfs:P.fieldsOf kt=fs:=by simp[D_.fieldsOf,hu]
  have heq:(Op.equal kt (.agg xs) (.agg ys)).run P w=.ok r w:=by
   rw[fx,run_equalIn_struct w 9999 kt xs ys (by rw[hfs];exact hu) hp,hfs]
   exact nO (d:=9998) hi (by simp) (by simp) (Af hks ho) hr w
  unfold Instr.findAsking gr;simp only[hk,I_,heq,J_,fZ,hr];cases r
  ·simpa using ih
  ·simp
theorem ut{kt:E_}{kd:Kd}{key:B_}(hk:tV P kt=some kd)(ho:cV kd key=true)(w:A_){es:List MapEntry}(h:∀e∈es,cV kd e.key=true):
  (Instr.findKey kt key es).run P w=.ok (gr key es 0) w:=by
 unfold tV at hk
 split at hk<;>try cases hk
 ·rename_i k hu;simp only[Instr.findKey,I_,aC hu,J_,Hw ho h,L_]
 ·rename_i hu;simp only[Instr.findKey,I_,aC hu,J_,G7 ho h,L_]
 ·rename_i fs hu
  split at hk<;>try cases hk
  rename_i hok;simp only[H_,V_]at hok;obtain⟨ks,hks,rfl⟩:=Option.map_eq_some_iff.1 hk;simp only[Instr.findKey,I_,aC hu,J_];cases es with
  |nil=>rfl
  |cons e es=>
   have:Instr.findNow (.struct fs) key (e::es) 0=none:=by
    unfold Instr.findNow;have:Instr.sameNow (.struct fs) key e.key=none:=by cases key<;>cases e.key<;>rfl
    rw[this]
   rw[this];exact GU hu hok.1 hok.2 hks ho w h
theorem Ae{key:B_}:∀{es:List MapEntry} {i:Nat},(gr key es i).map (·.2)=CQ key (es.map kv)
 |[],_=>rfl
 |e::es,i=>by
  simp only[gr,Q_,kv,CQ];cases fZ key e.key
  ·exact Ae
  ·rfl
theorem BI{key val:B_}:∀{es:List MapEntry} {i:Nat},gr key es i=none->rK key val (es.map kv)=es.map kv++[(key,val)]
 |[],_,_=>rfl
 |e::es,i,h=>by
  simp only[gr]at h;simp only[Q_,kv,rK,List.cons_append];cases hk:fZ key e.key<;>rw[hk]at h
  ·exact congrArg _ (BI h)
  ·cases h
theorem C7{key val v:B_}:∀{es:List MapEntry} {i j:Nat},gr key es i=some (j,v)->∃m e,j=i+m/\es[m]?=some e/\fZ key e.key=true/\
  (es.modify m fun e=>{e with key:=key,val:=val}).map kv=rK key val (es.map kv)
 |[],_,_,h=>by cases h
 |e::es,i,j,h=>by
  simp only[gr]at h;simp only[Q_,kv,rK];cases hk:fZ key e.key<;>rw[hk]at h
  ·obtain⟨m,e',h1,h2,h3,h4⟩:=C7 (val:=val) h
   refine⟨m+1,e',by omega,h2,h3,?_⟩
   simp only[List.modify_succ_cons,Q_];exact congrArg _ h4
  ·cases h
   exact⟨0,e,by omega,rfl,hk,by simp[kv]⟩
theorem MR{kt et:E_}{kd:Kd}{z key m:B_}{G:List (B_×B_)->Prop}(ht:P.underlying t=some (.map kt et))(hk:tV P kt=some kd)(hz:jL P et=some z)(ho:cV kd key=true)(h:JY kd w m G)(ok:Bool):
  ∃kvs,G kvs/\∀v c,Hp kvs key z=(v,c)->(Instr.lookup t m key ok).run P w=.ok (if ok then .tuple #[v,.bool c]else v) w:=by
 unfold JY at h
 split at h<;>try exact h.elim
 ·refine⟨[],h,fun v c hg=>?_⟩
  simp only[Hp,CQ,Prod.mk.injEq]at hg;obtain⟨rfl,rfl⟩:=hg;simp only[Instr.lookup,I_,aC ht,J_,L_,qY hk ho];rw[ut hk ho w (es:=[]) (by simp)]
  simp only[gr,J_,I_,dK hz,L_]
 ·rename_i b
  obtain⟨kvs,⟨⟨es,clock,hb,rfl⟩,hks⟩,hG⟩:=h;refine⟨_,hG,fun v c hg=>?_⟩;have hes:∀e∈es.toList,cV kd e.key=true:=fun e he=>hks (kv e) (u_ he);simp only[Instr.lookup,I_,aC ht,J_,L_,MapKept.run_getObj_map hb,qY hk ho,ut hk ho w hes];have hm:=Ae (key:=key) (es:=es.toList) (i:=0);cases hf:gr key es.toList 0 with
  |none=>
   rw[hf]at hm;simp only[Hp,<-hm,Option.map_none,Prod.mk.injEq]at hg;obtain⟨rfl,rfl⟩:=hg;simp only[J_,I_,dK hz,L_]
  |some x=>
   rw[hf]at hm;simp only[Hp,<-hm,j_,Prod.mk.injEq]at hg;obtain⟨rfl,rfl⟩:=hg;simp only[J_,I_,L_]
theorem H5{kd:Kd}(h:cV kd v=true):Instr.sameBits 10000 v v=true:=by
 cases kd<;>cases v<;>simp[cV]at h
 ·simp[Instr.sameBits]
 ·simp only[Instr.sameBits];rw[G3];simp
 ·rename_i ks xs
  rw[show(10000:Nat)=9999+1 from rfl,Instr.sameBits]
  simp only[beq_self_eq_true,a_];have:∀(l:List B_) (ks:List F_),gN ks l=true->(l.zip l).all (fun(x,y)=>Instr.sameBits 9999 x y)=true:=by
   intro l
   induction l with
   |nil=>intros;rfl
   |cons x l ih=>
    intro ks hf;cases ks with
    |nil=>simp[gN]at hf
    |cons k ks=>
     cases x<;>simp[gN]at hf
     simp only[List.zip_cons_cons,q_,H_];exact⟨by simp[Instr.sameBits],ih ks hf.2⟩
  exact this _ _ h
theorem Nq{kt et:E_}{kd:Kd}{key val:B_}{kvs:List (B_×B_)}(ht:P.underlying t=some (.map kt et))(hk:tV P kt=some kd)(ho:cV kd key=true)(h:Mp kd w b kvs):
  ∃w',(Instr.mapUpdate t (.map (some b)) key val).run P w=.ok () w'/\dP b w w'/\Mp kd w' b (rK key val kvs)/\∃es c,w.heap[b]?=some (.map es c):=by
 obtain⟨⟨es,clock,hb,rfl⟩,hks⟩:=h;have hes:∀e∈es.toList,cV kd e.key=true:=fun e he=>hks (kv e) (u_ he);have hput:∀o:Obj,dP b w {w with heap:=w.heap.setIfInBounds b o}:=fun o=>⟨rfl,rfl,rfl,by simp,(MapKept.heap_set hb).2⟩
 have hks':∀{l:List (B_×B_)},(∀x∈l,cV kd x.1=true)->∀x∈rK key val l,cV kd x.1=true:=by
  intro l
  induction l with
  |nil=>intro _ x hx;simp only[rK,v_]at hx;subst hx;exact ho
  |cons y l ih=>
   intro hl x hx;obtain⟨k,v⟩:=y;simp only[rK]at hx;cases hq:fZ key k<;>rw[hq]at hx
   ·rcases List.mem_cons.1 hx with rfl|hx
    ·exact hl _ (by simp)
    ·exact ih (fun x hx=>hl x (by simp[hx])) x hx
   ·rcases List.mem_cons.1 hx with rfl|hx
    ·exact ho
    ·exact hl x (by simp[hx])
 cases hf:gr key es.toList 0 with
 |none=>
  refine⟨_,?_,hput (.map (es.push {key:=key,val:=val,born:=clock}) (clock+1)),⟨⟨_,_,(MapKept.heap_set hb).1,?_⟩,hks' hks⟩,_,_,hb⟩
  ·simp only[Instr.mapUpdate,I_,aC ht,J_,MapKept.run_getObj_map hb,qY hk ho,ut hk ho w hes,hf,MapKept.run_setObj_map _ hb]
  ·rw[BI hf];simp[kv]
 |some x=>
  obtain⟨j,v⟩:=x;obtain⟨m,e,rfl,he,heq,hmod⟩:=C7 (val:=val) hf;have hee:key=e.key:=(Mc ho (hes e (List.mem_of_getElem? he))).1 heq;have hget:es[0+m]?=some e:=by rw[k_,<-t_];exact he
  refine⟨_,?_,hput (.map (es.modify (0+m) fun e=>{e with key:=key,val:=val}) clock),⟨⟨_,_,(MapKept.heap_set hb).1,?_⟩,hks' hks⟩,_,_,hb⟩
  ·have hst:(Instr.keyThatStays (((es[0+m]?).map (·.key)).getD key) key).run P w=.ok key w:=by
    rw[hget];simp only[j_,Option.getD_some,<-hee,Instr.keyThatStays,H5 ho,if_true,L_]
   simp only[Instr.mapUpdate,I_,aC ht,J_,MapKept.run_getObj_map hb,qY hk ho,ut hk ho w hes,hf,hst,MapKept.run_setObj_map _ hb]
  ·rw[<-hmod,k_,Array.toList_modify]
end
variable {r : Option Nat}
abbrev fR(r:Option Nat):Fence:={Fence.wide with round:=r}
def sX(r:Option Nat)(P:D_)(o:Oper)(a:Act)(w:A_)(next:Act->A_->Prop)(Q:Exit->Act->A_->Prop):Prop:=
 o.uponIn (fR r) 0 P a next Q ((execOp a.eval o).run P w)
def fC(r:Option Nat)(P:D_)(ops:Array Oper)(Q:Exit->Act->A_->Prop)(i:Nat)(K:Act->A_->Prop)(a:Act)(w:A_):Prop:=
 match ops[i]? with
 |none=>K a w
 |some o=>if O_ o (yielded ops a.tmps)then sX r P o a w K Q else K (a.put o.dst undef) w
def sV(r:Option Nat)(P:D_)(ops:Array Oper)(Q:Exit->Act->A_->Prop):List Nat->Act->A_->Prop
 |[],a,w=>Q .normal a w
 |i::rest,a,w=>fC r P ops Q i (sV r P ops Q rest) a w
def HB(r:Option Nat)(P:D_)(md:P_)(ops:Array Oper)(Q:Exit->Act->A_->Prop):Nat->Array Bool->Act->A_->Prop
 |0,listed,a,w=>M_ md ops listed=[]/\Q .normal a w
 |fuel+1,listed,a,w=>
  (M_ md ops listed=[]->Q .normal a w)/\
  ∀i∈M_ md ops listed,fC r P ops Q i (HB r P md ops Q fuel (listed.setIfInBounds i true)) a w
theorem No{P:D_}{Q:Exit->Act->A_->Prop}{o:Oper}{a:Act}{K K':Act->A_->Prop}(h:∀a w,K a w->K' a w)(hh:sX r P o a w K Q):sX r P o a w K' Q:=by
 unfold sX at*;generalize(execOp a.eval o).run P w=x at*;cases x with
 |ok x w'=>
  cases x<;>simp only[Oper.uponIn]at hh⊢<;>
   first
    |exact h _ _ hh
    |exact⟨hh.1,CallsIn.mono hh.2 (fun e w'' he=>by cases e<;>first|exact h _ _ he|exact he)⟩
    |exact⟨hh.1,RowsIn.mono hh.2 (fun _ _ he=>h _ _ he)⟩
    |exact⟨hh.1,RoundIn.mono hh.2 (fun e w'' he=>by cases e<;>first|exact h _ _ he|exact he)⟩
 |halt x w'=>cases x<;>simp only[Oper.uponIn]at hh⊢<;>exact hh
theorem gu{P:D_}{ops:Array Oper}{Q:Exit->Act->A_->Prop}{a:Act}{K K':Act->A_->Prop}(h:∀a w,K a w->K' a w)(hh:fC r P ops Q i K a w):fC r P ops Q i K' a w:=by
 unfold fC at*
 split
 ·exact h _ _ (by simpa[*]using hh)
 ·rename_i o ho
  simp only[ho]at hh
  split
  ·rename_i hw;simp only[hw,if_true]at hh;exact No h hh
  ·rename_i hw;simp only[hw]at hh;exact h _ _ hh
def yN(ops:Array Oper):Prop:=∀(i:Nat) (o:Oper),ops[i]?=some o->∀c,o.op≠.defer c
theorem Gc{P:D_}{ops:Array Oper}{Q:Exit->Act->A_->Prop}(hd:yN ops){a:Act}{K:Act->A_->Prop}(h:fC r P ops Q i K a w):wpOpIn (fR r) 0 P ops Q i K a w:=by
 unfold fC at h;unfold wpOpIn
 split
 ·rename_i ho;simpa[ho]using h
 ·rename_i o ho
  simp only[ho]at h
  split
  ·rename_i hw
   simp only[hw,if_true]at h;refine⟨fun _ _=>trivial,?_⟩;rw[Oper.semAt_eq _ _ _ (hd i o ho)];exact h
  ·rename_i hw
   simp only[hw]at h;exact⟨fun _ _=>trivial,h⟩
theorem xy{P:D_}{ops:Array Oper}{Q:Exit->Act->A_->Prop}(hd:yN ops):∀(l:List Nat) (a:Act) (w:A_),sV r P ops Q l a w->wpOpsIn (fR r) 0 P ops Q l a w
 |[],_,_,h=>h
 |i::rest,a,w,h=>by
  rw[wpOpsIn_cons];exact Gc hd (gu (fun a w h=>xy hd rest a w h) h)
theorem yo{P:D_}{md:P_}{ops:Array Oper}{Q:Exit->Act->A_->Prop}(hd:yN ops):∀(fuel:Nat) (listed:Array Bool) (a:Act) (w:A_),HB r P md ops Q fuel listed a w->wpAnyIn (fR r) 0 P md ops Q fuel listed a w
 |0,_,_,_,h=>h
 |fuel+1,listed,a,w,h=>⟨h.1,fun i hi=>Gc hd (gu (fun a w h=>yo hd fuel _ a w h) (h.2 i hi))⟩
theorem Ai{P:D_}{ops:Array Oper}{Q:Exit->Act->A_->Prop}(i:Nat)(rest:List Nat)(a:Act)(w:A_):sV r P ops Q (i::rest) a w=fC r P ops Q i (sV r P ops Q rest) a w:=rfl
def gP(r:Option Nat)(P:D_)(kp:Bool)(o:Oper)(a:Act)(s:St)(wa:A_)(K:Option EV->St->A_->Prop)(Q:Exit->Act->A_->Prop):Prop:=
 sX r P o a wa (fun a' wa'=>(kp=true->aU wa wa')/\∃v e s' w',a'=a.put o.dst v/\aZ s' a w' wa'/\lI s' e v/\bW s s'/\K e s' w') Q
theorem mK.heavy{P:D_}{kp:Bool}{o:Oper}{a:Act}{s:St}{K:Option EV->St->A_->Prop}{Q:Exit->Act->A_->Prop}(h:mK P o a s wa K):gP r P kp o a s wa K Q:=by
 obtain⟨v,e,s',w',hr,hg,he,hl,hk⟩:=h;unfold gP sX;rw[hr wa (.inr (aU.refl wa))];exact⟨fun _=>aU.refl wa,v,e,s',w',rfl,hg,he,hl,hk⟩
theorem bQ.mono{s:St}{a:Act}(h:bQ s a w)(hl:qa s.l w')(hd:ft w w'):bQ s a w':=⟨h.v,h.loc,h.lsl,hl,h.dok.kpk hd⟩
theorem qa.alloc{l:List (Nat×Nat×List B_)}(h:qa l w)(o:Obj):qa l (w.alloc o):=h.keep (((Ext.refl w).alloc o).keep _)
theorem lq{s:St}{a:Act}(h:aZ s a w wa)(o:Obj):aZ s.clean a (wa.alloc o) (wa.alloc o):=
 (h.ag.mono (h.ag.lok.alloc o) ((Ext.refl wa).alloc o).kpk).good
theorem aZ.locl{s:St}{a:Act}(h:aZ s a w wa):Locl (am s.l) w wa:=by
 cases hd:s.dirty
 ·have:=h.clean hd;subst this
  refine⟨rfl,rfl,rfl,Nat.le_refl _,fun _ _ _=>rfl,fun b hb=>?_⟩;obtain⟨x,hx,rfl⟩:=List.mem_map.1 hb;exact(h.ag.lok.at_ x.1 x.2.1 x.2.2 hx).1
 ·exact h.dirty hd
theorem rk(w:A_)(o:Obj):(w.alloc o).heap[w.heap.size]?=some o:=by
 show(w.heap.push o)[w.heap.size]?=some o;simp
theorem uw{s:St}{a:Act}(h:aZ s a w wa){elem:E_}(hk:fu k s.l=none):
  aZ {s with l:=(k,wa.heap.size,vs)::s.l,dirty:=true} a w (wa.alloc (.cells vs.toArray elem (0,0))):=by
 have hlo:=h.locl;have hkeys:∀b cs,(k,b,cs)∉s.l:=fun b cs hm=>by rw[cH h.ag.lok.keys hm]at hk;cases hk
 refine⟨⟨h.ag.v,fun t k' off ht=>?_,fun t k' n ht=>?_,⟨fun k' b cs hm=>?_,?_,?_⟩,h.ag.dok.kpk ((Ext.refl wa).alloc _).kpk⟩,fun _=>⟨?_,?_,?_,?_,?_,?_⟩,fun hd=>by cases hd⟩
 ·obtain⟨b,cs,hm,he⟩:=h.ag.loc t k' off ht;exact⟨b,cs,R_ _ hm,he⟩
 ·obtain⟨b,cs,hm,he⟩:=h.ag.lsl t k' n ht;exact⟨b,cs,R_ _ hm,he⟩
 ·rcases List.mem_cons.1 hm with h1|h1
  ·cases h1;exact⟨by simp,elem,rk _ _⟩
  ·exact(h.ag.lok.alloc _).at_ k' b cs h1
 ·simp only[Q_,b_]
  refine⟨fun hm=>?_,h.ag.lok.keys⟩;obtain⟨⟨k',b,cs⟩,hx,he⟩:=List.mem_map.1 hm;simp only at he;subst he;exact hkeys _ _ hx
 ·simp only[am,Q_,b_]
  refine⟨fun hm=>?_,h.ag.lok.blks⟩;obtain⟨⟨k',b,cs⟩,hx,he⟩:=List.mem_map.1 hm;have:=(h.ag.lok.at_ _ _ _ hx).1;simp only at he;omega
 ·exact hlo.os
 ·exact hlo.tape
 ·exact hlo.output
 ·simp;have:=hlo.size;omega
 ·intro i hi hn
  have hs:=hlo.size;rw[show(wa.alloc (.cells vs.toArray elem (0,0))).heap[i]?=wa.heap[i]? from Below.heap_alloc _ _ _ (by omega)]
  refine hlo.block i hi (fun hm=>hn ?_);simp[am]at hm⊢;exact .inr hm
 ·intro b hb
  simp only[am,Q_,List.mem_cons]at hb;rcases hb with rfl|hb
  ·simp
  ·have:=hlo.there b hb;simp;omega
theorem ou:∀{l:List (Nat×Nat×List B_)} {k:Nat} {f:List B_->List B_},(l.map (·.1)).Nodup->∀{k' b cs},(k',b,cs)∈change k f l->
  (k'≠k/\(k',b,cs)∈l)\/(k'=k/\∃cs0,(k,b,cs0)∈l/\cs=f cs0)
 |[],_,_,_,_,_,_,h=>by cases h
 |(k0,b0,c0)::r,k,f,hn,k',b,cs,h=>by
  simp only[Q_,b_]at hn;simp only[change,oa]at h;by_cases hk:k=k0
  ·subst hk
   simp only[decide_true,cond_true]at h;rcases List.mem_cons.1 h with h1|h1
   ·cases h1;exact .inr ⟨rfl,c0,by simp,rfl⟩
   ·refine .inl ⟨fun e=>hn.1 (List.mem_map.2 ⟨(k',b,cs),h1,e⟩),R_ _ h1⟩
  ·simp only[hk,decide_false,cond_false]at h
   rcases List.mem_cons.1 h with h1|h1
   ·cases h1;exact .inl ⟨fun e=>hk e.symm,by simp⟩
   ·rcases ou hn.2 h1 with⟨h2,h3⟩|⟨h2,x,h3,h4⟩
    ·exact .inl ⟨h2,R_ _ h3⟩
    ·exact .inr ⟨h2,x,R_ _ h3,h4⟩
theorem mP:∀(l:List (Nat×Nat×List B_)) (k:Nat) (f:List B_->List B_),(change k f l).map (·.1)=l.map (·.1)/\am (change k f l)=am l
 |[],_,_=>⟨rfl,rfl⟩
 |(k0,b0,c0)::r,k,f=>by
  obtain⟨h1,h2⟩:=mP r k f;simp only[change,oa];cases hd:decide (k=k0)
  ·constructor<;>simp[h1,am]at h2⊢;exact h2
  ·constructor<;>simp[am]
theorem iy:∀{l:List (Nat×Nat×List B_)} {k:Nat} {f:List B_->List B_} {k' b cs},(k',b,cs)∈l->∃cs',(k',b,cs')∈change k f l
 |(k0,b0,c0)::r,k,f,k',b,cs,h=>by
  simp only[change,oa];cases hd:decide (k=k0)
  ·rcases List.mem_cons.1 h with h1|h1
   ·cases h1;exact⟨c0,S_ ..⟩
   ·obtain⟨x,hx⟩:=iy (k:=k) (f:=f) h1;exact⟨x,R_ _ hx⟩
  ·rcases List.mem_cons.1 h with h1|h1
   ·cases h1;exact⟨f c0,S_ ..⟩
   ·exact⟨cs,R_ _ h1⟩
theorem pC:∀{l:List (Nat×Nat×List B_)} {x y},(am l).Nodup->x∈l->y∈l->x.2.1=y.2.1->x=y
 |z::l,x,y,hn,hx,hy,he=>by
  simp only[am,Q_,b_]at hn;rcases List.mem_cons.1 hx with h1|h1<;>rcases List.mem_cons.1 hy with h2|h2
  ·rw[h1,h2]
  ·subst h1;exact absurd (List.mem_map.2 ⟨y,h2,he.symm⟩) hn.1
  ·subst h2;exact absurd (List.mem_map.2 ⟨x,h1,he⟩) hn.1
  ·exact pC hn.2 h1 h2 he
theorem eJ:∀{l:List (Nat×Nat×List B_)} {x y},(l.map (·.1)).Nodup->x∈l->y∈l->x.1=y.1->x=y
 |z::l,x,y,hn,hx,hy,he=>by
  simp only[Q_,b_]at hn;rcases List.mem_cons.1 hx with h1|h1<;>rcases List.mem_cons.1 hy with h2|h2
  ·rw[h1,h2]
  ·subst h1;exact absurd (List.mem_map.2 ⟨y,h2,he.symm⟩) hn.1
  ·subst h2;exact absurd (List.mem_map.2 ⟨x,h1,he⟩) hn.1
  ·exact eJ hn.2 h1 h2 he
theorem mS:∀{l:List (Nat×Nat×List B_)} {k:Nat} {f:List B_->List B_} {k' b cs},(k',b,cs)∈l->∃cs',(k',b,cs')∈change k f l/\(k'≠k->cs'=cs)
 |(k0,b0,c0)::r,k,f,k',b,cs,h=>by
  simp only[change,oa];cases hd:decide (k=k0)
  ·rcases List.mem_cons.1 h with h1|h1
   ·cases h1;exact⟨c0,S_ ..,fun _=>rfl⟩
   ·obtain⟨x,hx,hx2⟩:=mS (k:=k) (f:=f) h1;exact⟨x,R_ _ hx,hx2⟩
  ·have hd:=of_decide_eq_true hd
   rcases List.mem_cons.1 h with h1|h1
   ·cases h1;exact⟨f c0,S_ ..,fun hne=>absurd hd.symm hne⟩
   ·exact⟨cs,R_ _ h1,fun _=>rfl⟩
theorem G8{s:St}{a:Act}(h:aZ s a w wa){cs:List B_}(hm:(k,b,cs)∈s.l)(hlen:off+vs.length<=cs.length):
  aZ {s with l:=change k (fun cs=>cs.take off++vs++cs.drop (off+vs.length)) s.l,dirty:=true} a w (ab wa ⟨b,off,none⟩ vs 0):=by
 have hlo:=h.locl;have hsb:=bS vs wa ⟨b,off,none⟩ 0;obtain⟨hblt,e0,hb0⟩:=h.ag.lok.at_ _ _ _ hm;obtain⟨hk1,hk2⟩:=mP s.l k (fun cs=>cs.take off++vs++cs.drop (off+vs.length));refine⟨⟨h.ag.v,fun t k' o ht=>?_,fun t k' n ht=>?_,⟨fun k' b' cs' hm'=>?_,?_,?_⟩,h.ag.dok.kpk (ft.setCells vs wa ⟨b,off,none⟩ 0)⟩,fun _=>⟨?_,?_,?_,?_,?_,?_⟩,fun hd=>by cases hd⟩
 ·obtain⟨b',cs',hm',he⟩:=h.ag.loc t k' o ht
  obtain⟨c2,h2⟩:=iy (k:=k) (f:=fun cs=>cs.take off++vs++cs.drop (off+vs.length)) hm';exact⟨b',c2,h2,he⟩
 ·obtain⟨b',cs',hm',he⟩:=h.ag.lsl t k' n ht
  obtain⟨c2,h2⟩:=iy (k:=k) (f:=fun cs=>cs.take off++vs++cs.drop (off+vs.length)) hm';exact⟨b',c2,h2,he⟩
 ·rcases ou h.ag.lok.keys hm' with⟨hne,h1⟩|⟨rfl,c0,h1,rfl⟩
  ·obtain⟨hlt,e,hb⟩:=h.ag.lok.at_ _ _ _ h1
   have hbb:b'≠b:=by
    intro heq;subst heq;have hn:=h.ag.lok.blks;have:(k',b',cs')=(k,b',cs):=by
     exact pC hn h1 hm rfl
    cases this;exact hne rfl
   exact⟨by rw[hsb.size];exact hlt,e,by rw[hsb.block _ hbb];exact hb⟩
  ·have:(k',b',c0)=(k',b,cs):=eJ h.ag.lok.keys h1 hm rfl
   cases this;refine⟨by rw[hsb.size];exact hblt,e0,?_⟩
   have:=mE (vs:=vs) (off:=off) (i:=0) hb0 (by simpa using hlen)
   simpa using this
 ·rw[hk1];exact h.ag.lok.keys
 ·rw[hk2];exact h.ag.lok.blks
 ·exact hsb.os.trans hlo.os
 ·exact hsb.tape.trans hlo.tape
 ·exact hsb.output.trans hlo.output
 ·rw[hsb.size];exact hlo.size
 ·intro i hi hn
  simp only[hk2]at hn;rw[hsb.block i (fun he=>hn (he▸List.mem_map.2 ⟨_,hm,rfl⟩))];exact hlo.block i hi hn
 ·intro b' hb'
  simp only[hk2]at hb';rw[hsb.size];exact hlo.there b' hb'
theorem GB{sz:Nat}:∀{ps:List (Nat×B_)} {n:Nat} {cells:List B_},yJ sz n ps=true->cells.length=n->
  Instr.fill (fun i=>some (i*sz,sz)) cells.toArray ps=some (xz sz cells ps).toArray
 |[],_,_,_,_=>rfl
 |(i,v)::r,n,cells,h,hl=>by
  have h0:=h;simp only[yJ,H_]at h;obtain⟨⟨h1,h2⟩,h3⟩:=h;have h1:=N_ h1;have h2:=f_ h2;have hs:v.cells.size=sz:=by simpa using h1
  simp only[Instr.fill];rw[if_neg (by simp[hs];omega),<-Array.foldl_toList]
  simp only[Array.toList_zipIdx];rw[jX v.cells.toList (i*sz) 0 cells.toArray (by simp[hs];omega)]
  have e:v.cells.toList.length=sz:=h1;simp only[Nat.add_zero,e,xz];exact GB h3 (by simp[hs];omega)
theorem lE(zero:List B_):∀n,(cY n zero).length=n*zero.length
 |0=>by simp[cY]
 |n+1=>by simp[cY,lE zero n,Nat.add_mul];omega
theorem Jk(zero:List B_)(hz:0<zero.length):∀(n i:Nat),i<n*zero.length->(cY n zero)[i]?=zero[i%zero.length]?
 |0,i,h=>by simp at h
 |n+1,i,h=>by
  simp only[cY];by_cases hi:i<zero.length
  ·rw[List.getElem?_append_left hi,Nat.mod_eq_of_lt hi]
  ·rw[List.getElem?_append_right (by omega),Jk zero hz n (i-zero.length) (by rw[Nat.add_mul]at h;omega)]
   congr 1;exact(Nat.mod_eq_sub_mod (by omega)).symm
theorem iL(zero:List B_)(n:Nat):bg zero n=(cY n zero).toArray:=by
 apply T_;apply List.ext_getElem?;intro i;unfold bg;by_cases hi:i<n*zero.length
 ·have hz:0<zero.length:=by
   rcases Nat.eq_zero_or_pos zero.length with h|h
   ·rw[h]at hi;simp at hi
   ·exact h
  rw[Jk zero hz n i hi];simp[hi];have hm:i%zero.length<zero.length:=Nat.mod_lt _ hz;rw[w_ hm];simp
 ·rw[x_ (l:=(cY n zero).toArray.toList) (by have:=lE zero n;simp;omega),x_ (by simp;omega)]
theorem xE{s:St}{a:Act}(hev:∀x v,s.ev x=some v->a.eval x=v)(sz:Nat):∀{parts:List (Nat×G_)} {ps:List (Nat×B_)},mC s sz parts=some ps->
  parts.map (fun(i,x)=>(i,a.eval x))=ps
 |[],ps,h=>by simp[mC]at h;simp[h]
 |(i,x)::r,ps,h=>by
  simp only[mC]at h
  split at h<;>cases h
  rename_i v vs h1 h2;simp[hev x v h1,xE hev sz h2]
theorem jH{P:D_}{z:List B_}(h:dR P e=some z):∃zv,jL P e=some zv/\zv.cells.toList=z:=by
 unfold dR at h;cases hz:jL P e with
 |none=>rw[hz]at h;cases h
 |some zv=>rw[hz]at h;exact⟨zv,rfl,by simpa using h⟩
theorem EZ{s:St}{a:Act}(h:bQ s a w){x:G_}(hx:D1 [] s (some x)=some vs):(a.eval x).cells.toList=vs:=by
 simp only[D1]at hx;cases hv:s.ev x with
 |none=>rw[hv]at hx;cases hx
 |some v=>rw[hv]at hx;rw[h.ev hv];simpa using hx
theorem jG{l:List (Nat×Nat×List B_)}{K:Prop}(h:jr l b K):b∉am l/\K:=by
 unfold jr at h
 split at h
 ·exact⟨by simp[am],h⟩
 ·exact h
theorem CO{bs:List Nat}{K:Prop}(h:vD bs w w' K):ao bs w w'/\K:=by
 unfold vD at h
 split at h
 ·exact⟨(fun b hb=>by cases hb),h⟩
 ·exact h
theorem tL{kp:List (Nat×Obj)}{bs:List Nat}(h:ao (kp.map (·.1)++bs) w w')(hd:dJ kp w):dJ kp w':=⟨fun D o hm=>by
 obtain⟨h1,h2⟩:=hd.at_ D o hm;have:=(h D (List.mem_append_left _ (List.mem_map.2 ⟨(D,o),hm,rfl⟩)) (Array.getElem?_eq_some_iff.1 h1).1).2;exact⟨this.trans h1,h2⟩,hd.nd⟩
theorem ao.right{kp bs:List Nat}(h:ao (kp++bs) w w'):ao bs w w':=fun b hb=>h b (by simp[hb])
theorem oA{fl:Bool}{K:Prop}(h:vw fl w w' K):(fl=true->aU w w')/\K:=by
 cases fl
 ·exact⟨fun h=>(by cases h),h⟩
 ·exact⟨fun _=>h.1,h.2⟩
theorem rn{fl:Bool}{K:Prop}(h:HP fl K):K:=by
 cases fl
 ·exact h
 ·exact h.elim
theorem fJ.keep(h:fJ b w w'){bs:List Nat}(hb:b∉bs):ao bs w w':=
 fun k hk hlt=>⟨by rw[h.size];exact hlt,h.block k (fun e=>hb (e▸hk))⟩
section
variable {r : Option Nat} {P : D_} {o : Oper} {s : St} {a : Act} {w wa : A_} {K : Option EV -> St -> A_ -> Prop} {Q : Exit -> Act -> A_ -> Prop} {X : List PanicEntry -> A_ -> Prop} {pn fl kp : Bool}
theorem cI{e:Option EV}{s':St}{wa':A_}(hr:(execOp a.eval o).run P wa=.ok (.value v) wa')(hkp:kp=true->aU wa wa')(hg:aZ s' a w' wa')(he:lI s' e v)(hk:K e s' w')(hl:bW s s':=by exact bW.of_eq rfl rfl):
  gP r P kp o a s wa K Q:=by
 unfold gP sX;rw[hr];exact⟨hkp,v,e,s',w',rfl,hg,he,hl,hk⟩
theorem tR{e:Option EV}{s':St}{wa':A_}(hr:(execOp a.eval o).run P wa=.ok .skip wa')(hkp:kp=true->aU wa wa')(hg:aZ s' a w' wa')(he:lI s' e undef)(hk:K e s' w')(hl:bW s s':=by exact bW.of_eq rfl rfl):
  gP r P kp o a s wa K Q:=by
 unfold gP sX;rw[hr];exact⟨hkp,undef,e,s',w',rfl,hg,he,hl,hk⟩
theorem Ik{fv:B_}(h:dO P fv vs w R):(∃f first caps,fv=.func (.func f) first caps)\/∃l first caps,fv=.func (.yield l) first caps:=by
 cases fv with
 |func fn first caps=>cases fn with
  |func f=>exact .inl ⟨f,first,caps,rfl⟩
  |yield l=>exact .inr ⟨l,first,caps,rfl⟩
  |_=>exact h.elim
 |_=>exact h.elim
theorem H8{fv:B_}(h:rC P fv vs w R):∃f first caps,fv=.func (.func f) first caps:=by
 cases fv with
 |func fn first caps=>cases fn with
  |func f=>exact⟨f,first,caps,rfl⟩
  |_=>exact h.elim
 |_=>exact h.elim
theorem Kb{c:Call}{f:G_}{sh:List Sh}(ho:o.op=.call c)(hf:c.callee=.value f)(hg:aZ s a w wa)(hX:∀ch w,dJ s.kp w->X ch w->Q (.panic ch) a w)
 (h:cD P pn fl X (.call f c.args.toList sh) s w K):gP r P fl o a s wa K Q:=by
 simp only[cD]at h
 split at h<;>try exact h.elim
 rename_i fv vs h1 h2
 replace h:=hg.sync h
 have e1:=hg.ag.ev h1;have e2:=hg.ag.evs h2;have hargs:c.args.map a.eval=vs.toArray:=by rw[<-e2];cases c with|mk x y z=>cases y;simp
 let next:Act->A_->Prop:=fun a' wa'=>(fl=true->aU wa wa')/\∃v e s' w',a'=a.put o.dst v/\aZ s' a w' wa'/\lI s' e v/\bW s s'/\K e s' w'
 have fin:∀e w',MQ sh pn (fun ch w'=>vD (s.kp.map (·.1)) wa w' (X ch w')) (fun v w'=>vD (s.kp.map (·.1)++am s.l) wa w' (vw fl wa w' (K (some (.v v)) s.clean w'))) e w'->
   (match e,w' with|.returned v,w'=>next (a.put o.dst v) w'|.panicked ch,w'=>Q (.panic ch) a w'|.outgrown,_=>LetsOut Q):=by
  intro e w' hw;unfold MQ at hw;have ret:(IT sh fun v=>e=.returned v/\vD (s.kp.map (·.1)++am s.l) wa w' (vw fl wa w' (K (some (.v v)) s.clean w')))->∃v,e=.returned v/\next (a.put o.dst v) w':=by
   intro hx;obtain⟨v,he,hk⟩:=GC hx;obtain⟨hkeep,hk⟩:=CO hk;obtain⟨hfl,hk⟩:=oA hk;have hag:bQ s a w':=⟨hg.ag.v,hg.ag.loc,hg.ag.lsl,hg.ag.lok.keep hkeep.right,tL hkeep hg.ag.dok⟩;exact⟨v,he,hfl,v,some (.v v),s.clean,w',rfl,hag.good,rfl,bW.of_eq rfl rfl,hk⟩
  cases pn
  ·obtain⟨v,rfl,hn⟩:=ret hw
   exact hn
  ·rcases hw with hw|⟨ch,rfl,hx⟩
   ·obtain⟨v,rfl,hn⟩:=ret hw
    exact hn
   ·obtain⟨hkeep,hx⟩:=CO hx
    exact hX ch w' (tL (bs:=[]) (by simpa using hkeep) hg.ag.dok) hx
 rcases Ik h with⟨fid,first,caps,rfl⟩|⟨l,first,caps,rfl⟩
 ·simp only[dO]at h
  split at h<;>try exact h.elim
  rename_i hok;have hcall:(callFunc fid (first++vs.toArray++caps)).run P wa=.ok (.enter fid (first.toList++vs++caps.toList).toArray) wa:=by
   unfold rX at hok
   split at hok<;>try cases hok
   rename_i fn hfn;simp only[H_,V_]at hok;have hb:fn.body.isNone=false:=by cases hb:fn.body<;>simp_all
   have:first++vs.toArray++caps=(first.toList++vs++caps.toList).toArray:=by simp
   have hb':fn.body≠none:=by intro e;rw[e]at hb;cases hb
   have hn':fn.name≠ "runtime.NumGoroutine" :=by intro e;rw[e]at hok;simp at hok
   simp[callFunc,hfn,hn',hb',this]
  have hr:(execOp a.eval o).run P wa=.ok (.enter fid (first.toList++vs++caps.toList).toArray) wa:=by
   simp only[execOp,ho,resolve,hf,e1,Deferred.ofValue,hargs,I_,L_,J_,invoke];exact hcall
  unfold gP sX;rw[hr];refine⟨fun hd=>(by cases hd),(callsIn_wide.2 (h.mono fun e w' hw=>?_):)⟩
  have:=fin e w' hw;cases e<;>exact this
 ·simp only[dO]at h
  obtain⟨fn,tmps,assign,body,hy,hround⟩:=h;have hr:(execOp a.eval o).run P wa=.ok (.round l fn tmps assign body) wa:=by
   simp only[execOp,ho,resolve,hf,e1,Deferred.ofValue,hargs,I_,L_,J_,invoke];have:first++vs.toArray=(first.toList++vs).toArray:=by simp
   rw[this];exact hy
  unfold gP sX;rw[hr];refine⟨fun hd=>(by cases hd),(RoundIn.mono hround fun e w' hw=>?_:)⟩
  have:=fin e w' hw;cases e<;>exact this
theorem gQ{P:D_}{base:Option C_}{sz len cap:Nat}(hl:fs.length=n*sz)(h:aV w base fs):
  (Builtin.firstCells sz n (.slice base len cap)).run P w=.ok fs.toArray w:=by
 cases base with
 |none=>
  have:fs=[]:=by
   cases fs with
   |nil=>rfl
   |cons v vs=>obtain⟨a,ha,_⟩:=h 0 v rfl;cases ha
  subst this;simp[Builtin.firstCells]
 |some a=>
  simp only[Builtin.firstCells];rw[<-hl];refine run_loadCells_list w a fs fun j v hj=>?_;obtain⟨a',ha',hc⟩:=h j v hj;cases ha';exact hc
theorem ID{c:Call}{x y:G_}{u e2:E_}{info:TypeInfo}{z:List B_}{base:Option C_}{len cap:Nat}{yv:B_}
 (ho:o.op=.call c)(hf:c.callee=.builtin .append)(hx:c.args.toList=[x,y])(ht:c.argTypes.toList=[t,u])(hut:P.underlying t=some (.slice e))(huu:P.underlying u=some (.slice e2))
 (hi:P.info? e=some info)(hz:dR P e=some z)(hsz:info.size=z.length)(h1:a.eval x=.slice base len cap)(h2:a.eval y=yv)
 (hlen:∀wx,(Builtin.lenOf yv).run P wx=.ok n wx)(l:List (Nat×Nat×List B_))
 (hfs:fs.length=n*info.size)(hone:aN fs=true)(hread:∀wx,wx.heap=wa.heap->(Builtin.firstCells info.size n yv).run P wx=.ok fs.toArray wx)
 (h:ay wa l base len cap n info.size info.bytes e z fs F):
  ∃b' c' w',(execOp a.eval o).run P wa=.ok (.value (.slice b' (len+n) c')) w'/\F b' (len+n) c' w'/\ao (am l) wa w'/\ft wa w':=by
 have hargs:c.args=#[x,y]:=by cases c with|mk p q r=>cases q;simp_all
 have htys:c.argTypes=#[t,u]:=by cases c with|mk p q r=>cases r;simp_all
 have hs:eA P e=some info.size:=by simp[eA,hi]
 have hti:∀wx,(typeInfo e).run P wx=.ok info wx:=fun wx=>by simp[typeInfo,hi]
 obtain⟨zv,hzv,hzc⟩:=jH hz;have hb:(execOp a.eval o).run P wa=((Builtin.append_ #[t,u] o.type #[.slice base len cap,yv]).run P wa).andThen fun v w'=>.ok (.value v) w':=by
  simp only[execOp,ho,resolve,hf,I_,L_,J_,invoke,hargs,htys,builtin];simp[h1,h2]
 obtain⟨hin,hout⟩:=h;by_cases hroom:len+n<=cap
 ·have hrd:=hread wa rfl
  rcases hin hroom with⟨rfl,hk⟩|⟨a0,rfl,hcan,hni⟩
  ·refine⟨base,cap,wa,?_,hk,(Ext.refl _).keep _,ft.refl _⟩
   rw[hb];cases base with
   |none=>simp[Builtin.append_,aC hut,aC huu,bE hs,hlen,hroom,hrd]
   |some a0=>simp[Builtin.append_,aC hut,aC huu,bE hs,hlen,hroom,hrd,storeCells]
  ·obtain⟨hnb,hk⟩:=jG hni
   have hst:=fH (P:=P) (w:=wa) (a:=a0.add (len*info.size)) (i:=0) hone (jf fun j _ hj=>hcan j (by omega))
   refine⟨some a0,cap,_,?_,hk,?_,ft.setCells _ _ _ _⟩
   ·rw[hb]
    simp[Builtin.append_,aC hut,aC huu,bE hs,hlen,hroom,hrd,hst]
   ·have:=bS fs wa (a0.add (len*info.size)) 0
    rw[dg]at this;exact this.keep hnb
 ·obtain⟨hb1,hb2,old,hol,hoc,hk⟩:=hout (by omega)
  have hgf:=growslice_fits (need:=len+n) (old:=cap) (bytes:=info.bytes) (by omega) hb1
  have hcutge:len+n<=Question.cut (.appendCap (len+n) cap e) (wa.tape wa.drawn (.appendCap (len+n) cap e)):=by simp[Question.cut]
  generalize hcut:Question.cut (.appendCap (len+n) cap e) (wa.tape wa.drawn (.appendCap (len+n) cap e))=cap' at hcutge;have hrd:=hread wa.drew rfl;have hold:(Builtin.firstCells info.size len (.slice base len cap)).run P wa.drew=.ok old.toArray wa.drew:=gQ hol hoc;have hzero:Builtin.zeroCells zv.cells (cap'-(len+n))=bg z (cap'-(len+n)):=by
   unfold Builtin.zeroCells bg;rw[<-hzc];simp
  refine⟨some ⟨wa.heap.size,0,none⟩,cap',wa.drew.alloc (.cells (old++fs++(bg z (cap'-(len+n))).toList).toArray e (0,0)),?_,hk cap' _ _ hcutge ⟨rfl,rfl⟩,?_,((Ext.refl wa).drew.alloc _).kpk⟩
  ·rw[hb]
   have hmax:¬(((len+n:Nat):Int)>F_.i64.max/\(False\/info.bytes=0)):=by
    rintro⟨h1,_⟩
    have:F_.i64.max=9223372036854775807:=by decide
    omega
   have hch:(choose (.appendCap (len+n) cap e)).run P wa=.ok cap' wa.drew:=by
    rw[run_choose,hcut];simp[Question.forced]
   have hbig:¬(2^48<Builtin.nextslicecap (len+n) cap*info.bytes):=by omega
   have hforced:(Question.appendCap (len+n) cap e).forced=false:=rfl;have hn1:¬((9223372036854775807:Int)<(len:Int)+n/\info.bytes=0):=by rintro⟨h1,_⟩;omega
   have hbig':¬281474976710656<Builtin.nextslicecap (len+n) cap*info.bytes:=by omega
   simp only[Builtin.append_,y_,z_,A_A];simp[aC hut,aC huu,bE hs,hlen,hroom,hti,hch,hold,hrd,dK hzv,hzero,newRow,hn1,hbig',hforced,hcut];congr 2;apply T_;simp
  ·exact((Ext.refl wa).drew.alloc _).keep _
theorem uz{z:List B_}(h:aN z=true):∀n,aN (cY n z)=true
 |0=>rfl
 |n+1=>by
  have ih:=uz h n;simp only[cY,aN,List.all_append,H_]at ih h⊢;exact⟨h,ih⟩
theorem Nv{c:Call}{x y:G_}{u:E_}{ku k':F_}{info:TypeInfo}{z:List B_}{base:Option C_}{len cap:Nat}{n:Int}
 (ho:o.op=.call c)(hf:c.callee=.builtin .append)(hx:c.args.toList=[x,y])(ht:c.argTypes.toList=[t,u])(hut:P.underlying t=some (.slice e))(huu:P.underlying u=some (.int ku))
 (hi:P.info? e=some info)(hz:dR P e=some z)(hsz:info.size=z.length)(h1:a.eval x=.slice base len cap)(h2:a.eval y=.int k' n)
 (h0:0<=n)(hb48:n*info.bytes<=2^48)(h62:n<2^62)(l:List (Nat×Nat×List B_))(hone:aN z=true)
 (h:ay wa l base len cap n.toNat info.size info.bytes e z (cY n.toNat z) F):
  ∃b' c' w',(execOp a.eval o).run P wa=.ok (.value (.slice b' (len+n.toNat) c')) w'/\F b' (len+n.toNat) c' w'/\ao (am l) wa w'/\ft wa w':=by
 have hargs:c.args=#[x,y]:=by cases c with|mk p q r=>cases q;simp_all
 have htys:c.argTypes=#[t,u]:=by cases c with|mk p q r=>cases r;simp_all
 have hs:eA P e=some info.size:=by simp[eA,hi]
 have hti:∀wx,(typeInfo e).run P wx=.ok info wx:=fun wx=>by simp[typeInfo,hi]
 obtain⟨zv,hzv,hzc⟩:=jH hz;have hw:F_.i64.wrap n=n:=by
  have e1:n%2^64=n:=B_A h0 (by omega)
  simp[F_.wrap,F_.bits,F_.signed]at e1⊢;rw[e1];omega
 have hb:(execOp a.eval o).run P wa=((Builtin.append_ #[t,u] o.type #[.slice base len cap,.int k' n]).run P wa).andThen fun v w'=>.ok (.value v) w':=by
  simp only[execOp,ho,resolve,hf,I_,L_,J_,invoke,hargs,htys,builtin];simp[h1,h2]
 have hneg:¬n<0:=by omega
 have hbig0:¬(281474976710656:Int)<n*info.bytes:=by omega
 obtain⟨m,rfl⟩:=Int.eq_ofNat_of_zero_le h0;simp only[Int.toNat_natCast]at h⊢;have hzeros:∀k,Builtin.zeroCells zv.cells k=bg z k:=fun k=>by
  unfold Builtin.zeroCells bg;rw[<-hzc];simp
 have hmk:(bg z m).toList=cY m z:=by rw[iL]
 have hnilm:m*info.size=0->cY m z=[]:=fun he=>List.length_eq_zero_iff.1 (by rw[lE,<-hsz,he])
 obtain⟨hin,hout⟩:=h;by_cases hroom:len+m<=cap
 ·rcases hin hroom with⟨hnil,hk⟩|⟨a0,rfl,hcan,hni⟩
  ·refine⟨base,cap,wa,?_,hk,(Ext.refl _).keep _,ft.refl _⟩
   rw[hb];have hmk0:bg z m=#[]:=by apply T_;rw[hmk,hnil]
   by_cases hms:m*info.size=0
   ·cases base with
    |none=>simp[Builtin.append_,aC hut,aC huu,bE hs,asInt,asIntOf,hw,hneg,hti,hbig0,hroom,hms]
    |some a0=>simp[Builtin.append_,aC hut,aC huu,bE hs,asInt,asIntOf,hw,hneg,hti,hbig0,hroom,hms,storeCells]
   ·cases base with
    |none=>simp[Builtin.append_,aC hut,aC huu,bE hs,asInt,asIntOf,hw,hneg,hti,hbig0,hroom,hms,dK hzv,hzeros]
    |some a0=>simp[Builtin.append_,aC hut,aC huu,bE hs,asInt,asIntOf,hw,hneg,hti,hbig0,hroom,hms,dK hzv,hzeros,hmk0,storeCells]
  ·obtain⟨hnb,hk⟩:=jG hni
   have hst:=fH (P:=P) (w:=wa) (a:=a0.add (len*info.size)) (i:=0) (uz hone m) (jf fun j _ hj=>hcan j (by omega))
   refine⟨some a0,cap,_,?_,hk,?_,ft.setCells _ _ _ _⟩
   ·rw[hb]
    by_cases hms:m*info.size=0
    ·rw[hnilm hms]at hst⊢
     simp[Builtin.append_,aC hut,aC huu,bE hs,asInt,asIntOf,hw,hneg,hti,hbig0,hroom,hms,hst]
    ·simp[Builtin.append_,aC hut,aC huu,bE hs,asInt,asIntOf,hw,hneg,hti,hbig0,hroom,hms,dK hzv,hzeros,hmk,hst]
   ·have:=bS (cY m z) wa (a0.add (len*info.size)) 0
    rw[dg]at this;exact this.keep hnb
 ·obtain⟨hb1,hb2,old,hol,hoc,hk⟩:=hout (by omega)
  have hgf:=growslice_fits (need:=len+m) (old:=cap) (bytes:=info.bytes) (by omega) hb1
  have hcutge:len+m<=Question.cut (.appendCap (len+m) cap e) (wa.tape wa.drawn (.appendCap (len+m) cap e)):=by simp[Question.cut]
  generalize hcut:Question.cut (.appendCap (len+m) cap e) (wa.tape wa.drawn (.appendCap (len+m) cap e))=cap' at hcutge;have hold:(Builtin.firstCells info.size len (.slice base len cap)).run P wa.drew=.ok old.toArray wa.drew:=gQ hol hoc;refine⟨some ⟨wa.heap.size,0,none⟩,cap',wa.drew.alloc (.cells (old++cY m z++(bg z (cap'-(len+m))).toList).toArray e (0,0)),?_,hk cap' _ _ hcutge ⟨rfl,rfl⟩,?_,((Ext.refl wa).drew.alloc _).kpk⟩
  ·rw[hb]
   have hforced:(Question.appendCap (len+m) cap e).forced=false:=rfl;have hn1:¬((9223372036854775807:Int)<(len:Int)+m):=by omega
   have hbig':¬281474976710656<Builtin.nextslicecap (len+m) cap*info.bytes:=by omega
   have hch:(choose (.appendCap (len+m) cap e)).run P wa=.ok cap' wa.drew:=by
    rw[run_choose,hcut];simp[Question.forced]
   simp only[Builtin.append_,y_,z_,A_A];by_cases hms:m*info.size=0
   ·rw[hnilm hms]
    simp[aC hut,aC huu,bE hs,asInt,asIntOf,hw,hneg,hbig0,hroom,hti,hch,hold,dK hzv,hzeros,newRow,hn1,hbig',hforced,hcut,hms];congr 2;apply T_;simp
   ·simp[aC hut,aC huu,bE hs,asInt,asIntOf,hw,hneg,hbig0,hroom,hti,hch,hold,dK hzv,hzeros,newRow,hn1,hbig',hforced,hcut,hms]
    congr 2;apply T_;simp[hmk]
  ·exact((Ext.refl wa).drew.alloc _).keep _
theorem IK{sz:Nat}{parts:Array (Nat×G_)}{z:List B_}{ps:List (Nat×B_)}(ho:o.op=.buildSlice t n parts)(hu:P.underlying t=some (.slice e))
 (hs:eA P e=some sz)(hz:dR P e=some z)(hle:U_ (n*sz) 4096=true)(hev:∀x v,s.ev x=some v->a.eval x=v)(hp:mC s sz parts.toList=some ps)
 (hok:(yJ sz (n*sz) ps&&K_ z.length sz)=true):
  (execOp a.eval o).run P wa=.ok (.value (.slice (some ⟨wa.heap.size,0,none⟩) n n)) (wa.alloc (.cells (xz sz (cY n z) ps).toArray e (0,0))):=by
 simp only[H_]at hok;have hzl:=N_ hok.2;have hle:=f_ hle;obtain⟨zv,hzv,hzc⟩:=jH hz;have hps:(parts.map fun(i,x)=>(i,a.eval x)).toList=ps:=by rw[<-xE hev sz hp];simp
 have hrep:(cY n z).length=n*sz:=by rw[lE,hzl]
 have hfill:=GB hok.1 hrep;have hbig:¬n*sz>2^24:=by omega
 have hzs:zv.cells.size=sz:=by rw[<-hzl,<-hzc];simp
 simp only[execOp,ho,Instr.buildSlice,I_,aC hu,J_,bE hs,hps];by_cases h0:n*sz=0
 ·have hre:cY n z=[]:=by
   cases hr:cY n z with
   |nil=>rfl
   |cons v vs=>rw[hr]at hrep;simp at hrep;omega
  rw[hre]at hfill;have hr0:(Array.map (fun _=>(default:B_)) (Z_ 0))=[].toArray:=by simp
  simp[h0,newRow,hre];rw[hr0,hfill];simp
 ·have hmk:(Z_ (n*sz)).map (fun i=>zv.cells[i%zv.cells.size]!)=(cY n z).toArray:=by
   rw[<-iL];unfold bg;rw[hzl,<-hzc]
  simp[h0,hbig,dK hzv,hmk,hfill,newRow]
theorem MP{info:TypeInfo}{z:List B_}{l c:G_}{k k':F_}{ln cn:Int}(ho:o.op=.makeSlice t l c)(hu:P.underlying t=some (.slice e))
 (hi:P.info? e=some info)(hz:dR P e=some z)(hsz:info.size=z.length)(h1:a.eval l=.int k ln)(h2:a.eval c=.int k' cn)
 (h0:0<=ln)(hlc:ln<=cn)(hb:cn*info.bytes<=2^48)(hc:cn<2^62):
  (execOp a.eval o).run P wa=.ok (.value (.slice (some ⟨wa.heap.size,0,none⟩) ln.toNat cn.toNat)) (wa.alloc (.cells (bg z cn.toNat) e (0,0))):=by
 have hs:eA P e=some info.size:=by simp[eA,hi]
 have hti:∀wx,(typeInfo e).run P wx=.ok info wx:=fun wx=>by simp[typeInfo,hi]
 obtain⟨zv,hzv,hzc⟩:=jH hz;have wrap:∀x:Int,0<=x->x<2^62->F_.i64.wrap x=x:=by
  intro x hx0 hx1;have e1:x%2^64=x:=B_A hx0 (by omega)
  simp[F_.wrap,F_.bits,F_.signed]at e1⊢;rw[e1];omega
 have w1:=wrap ln h0 (by omega)
 have w2:=wrap cn (by omega) hc
 have hmul:info.bytes*cn<=2^48:=by rw[Int.mul_comm];exact hb
 have hmul':¬(281474976710656:Int)<info.bytes*cn:=by omega
 have hcn:¬cn<0:=by omega
 have hln:¬ln<0:=by omega
 have hlc':¬cn<ln:=by omega
 simp only[execOp,ho,Instr.makeSlice,I_,aC hu,J_,h1,h2,asInt,asIntOf,L_,hti,w1,w2];by_cases hn0:cn.toNat*info.size=0
 ·have:bg z cn.toNat=#[]:=by
   rw[iL];have:=lE z cn.toNat;rw[<-hsz,hn0]at this;rw[List.eq_nil_of_length_eq_zero this]
  have hr0:(Array.map (fun _=>(default:B_)) (Z_ 0))=#[]:=by simp
  simp[hcn,hln,hlc',hmul',bE hs,hn0,newRow,this];rw[hr0]
 ·have:(Z_ (cn.toNat*info.size)).map (fun i=>zv.cells[i%zv.cells.size]!)=bg z cn.toNat:=by
   unfold bg;rw[hsz,<-hzc]
   try simp
  simp[hcn,hln,hlc',hmul',bE hs,hn0,newRow,dK hzv,this]
theorem Gb(b:ByteArray)(n:Nat):aN (bG b n)=true:=by
 unfold aN bG;refine List.all_eq_true.2 fun v hv=>?_;obtain⟨x,_,rfl⟩:=List.mem_map.1 hv
 rfl
theorem Hy(b:ByteArray)(n sz:Nat):(Builtin.firstCells sz n (.string b)).run P wa=.ok (bG b n).toArray wa:=by
 have e:((b.extract 0 n).data.map fun x=>c_ .u8 x.toNat)=(bG b n).toArray:=by
  apply T_;unfold bG;rw[Array.toList_map]
 simp only[Builtin.firstCells,L_,e]
theorem Jg{c:Call}{x y:G_}{u:E_}{sz dlen slen dc:Nat}{base:Option C_}{v2:B_}{F:A_->Prop}
 (ho:o.op=.call c)(hf:c.callee=.builtin .copy)(hx:c.args.toList=[x,y])(ht:c.argTypes.toList=[t,u])(hut:P.underlying t=some (.slice e))(hs:eA P e=some sz)
 (h1:a.eval x=.slice base dlen dc)(h2:a.eval y=v2)(l:List (Nat×Nat×List B_))(hlo:(Builtin.lenOf v2).run P wa=.ok slen wa)(hone:aN fs=true)(hrd:(Builtin.firstCells sz (min slen dlen) v2).run P wa=.ok fs.toArray wa)
 (h:(fs=[]/\F wa)\/∃a,base=some a/\dq wa a fs.length/\jr l a.block (F (ab wa a fs 0))):
  ∃w',(execOp a.eval o).run P wa=.ok (.value (.int .i64 (min slen dlen:Nat))) w'/\F w'/\ao (am l) wa w'/\ft wa w':=by
 have hargs:c.args=#[x,y]:=by cases c with|mk p q r=>cases q;simp_all
 have htys:c.argTypes=#[t,u]:=by cases c with|mk p q r=>cases r;simp_all
 have hb:(execOp a.eval o).run P wa=((Builtin.copy_ #[t,u] o.type #[.slice base dlen dc,v2]).run P wa).andThen fun v w'=>.ok (.value v) w':=by
  simp only[execOp,ho,resolve,hf,I_,L_,J_,invoke,hargs,htys,builtin];simp[h1,h2]
 have hmin:Nat.min slen dlen=min slen dlen:=rfl;rcases h with⟨rfl,hk⟩|⟨a0,rfl,hcan,hni⟩
 ·refine⟨wa,?_,hk,(Ext.refl _).keep _,ft.refl _⟩
  rw[hb];cases base with
  |none=>simp[Builtin.copy_,aC hut,bE hs,hlo,hmin,hrd,goInt]
  |some a0=>simp[Builtin.copy_,aC hut,bE hs,hlo,hmin,hrd,goInt,storeCells]
 ·obtain⟨hnb,hk⟩:=jG hni
  have hst:=fH (P:=P) (w:=wa) (a:=a0) (i:=0) hone (jf fun j _ hj=>hcan j (by omega))
  refine⟨_,?_,hk,(bS fs wa a0 0).keep hnb,ft.setCells _ _ _ _⟩;rw[hb];simp[Builtin.copy_,aC hut,bE hs,hlo,hmin,hrd,goInt,hst]
theorem Oo{c:Call}{x:G_}{cap:Nat}{z:List B_}{base:Option C_}{F:A_->Prop}
 (ho:o.op=.call c)(hf:c.callee=.builtin .clear)(hx:c.args.toList=[x])(ht:c.argTypes.toList=[t])(hut:P.underlying t=some (.slice e))(hz:dR P e=some z)(hone:aN z=true)
 (h1:a.eval x=.slice base n cap)(l:List (Nat×Nat×List B_))
 (h:(n=0/\F wa)\/(n≠0/\∃a,base=some a/\dq wa a (cY n z).length/\jr l a.block (F (ab wa a (cY n z) 0)))):
  ∃w',(execOp a.eval o).run P wa=.ok (.value (.tuple #[])) w'/\F w'/\ao (am l) wa w'/\ft wa w':=by
 have hargs:c.args=#[x]:=by cases c with|mk p q r=>cases q;simp_all
 have htys:c.argTypes=#[t]:=by cases c with|mk p q r=>cases r;simp_all
 have hb:(execOp a.eval o).run P wa=((Builtin.clear_ #[t] o.type #[.slice base n cap]).run P wa).andThen fun v w'=>.ok (.value v) w':=by
  simp only[execOp,ho,resolve,hf,I_,L_,J_,invoke,hargs,htys,builtin];simp[h1]
 obtain⟨zv,hzv,hzc⟩:=jH hz;rcases h with⟨rfl,hk⟩|⟨hn,a0,rfl,hcan,hni⟩
 ·refine⟨wa,?_,hk,(Ext.refl _).keep _,ft.refl _⟩
  rw[hb];cases base with
  |none=>simp[Builtin.clear_,aC hut]
  |some a0=>simp[Builtin.clear_,aC hut]
 ·obtain⟨hnb,hk⟩:=jG hni
  have hst:=fH (P:=P) (w:=wa) (a:=a0) (i:=0) (uz hone n) (jf fun j _ hj=>hcan j (by omega))
  refine⟨_,?_,hk,(bS (cY n z) wa a0 0).keep hnb,ft.setCells _ _ _ _⟩;have hfill:(Builtin.zeroCells zv.cells n).toList=cY n z:=by
   have h1:Builtin.zeroCells zv.cells n=bg z n:=by
    unfold Builtin.zeroCells bg;have:zv.cells=z.toArray:=by rw[<-hzc]
    rw[this];simp
   rw[h1,iL]
  rw[hb];obtain⟨m,rfl⟩:∃m,n=m+1:=⟨n-1,by omega⟩
  simp[Builtin.clear_,aC hut,dK hzv,hfill,hst]
theorem Hz{e0:E_}{a0:C_}{c:Nat}{C:Array B_}(ht:P.underlying t=some (.slice e))(he:P.underlying e=some (.int .u8))(hb:w.heap[a0.block]?=some (.cells C e0 (0,0))):
  ∃w',(convert t t (.slice (some a0) n c)).run P w=.ok (.slice (some a0) n c) w'/\Mk a0.block w w':=by
 have hsh:w.shape? a0.block=some (e0,C.size):=by
  unfold A_.shape?;rw[hb]
 have hlt:a0.block<w.heap.size:=by
  rcases l_ a0.block w.heap.size with h'|h'
  ·exact h'
  ·rw[m_ h']at hb;cases hb
 refine⟨w.freeze ⟨a0.block,C.size,none⟩ 1,?_,⟨⟨rfl,rfl,rfl,?_,fun k hk=>?_⟩,fun x=>?_⟩⟩
 ·simp[convert,aC ht,aC he,markStringish,hsh]
 ·simp[A_.freeze]
 ·unfold A_.freeze
  rw[if_neg (by decide)]
  show(w.heap.modify a0.block _)[k]?=_;rw[i_,if_neg (fun e=>hk e.symm)]
 ·have hheap:∀k,(w.freeze ⟨a0.block,C.size,none⟩ 1).heap[k]?=if k=a0.block then some (.cells C e0 (C.size,C.size+1))else w.heap[k]?:=fun k=>by
   unfold A_.freeze;rw[if_neg (by decide)]
   show(w.heap.modify a0.block _)[k]?=_;rw[i_]
   split
   ·rename_i e
    subst e;rw[hb,if_pos rfl];rfl
   ·rename_i e
    rw[if_neg (fun e'=>e e'.symm)]
  unfold A_.cell?;rw[hheap];by_cases e:x.block=a0.block
  ·rw[if_pos e,e,hb]
  ·rw[if_neg e]
theorem NT{src dst:E_}{b:ByteArray}(hs:P.underlying src=some .string)(hd:P.underlying dst=some (.slice e))(he:P.underlying e=some (.int .u8)):
  ∃c w1 w',b.size<=c/\aK w.drew (.cells (bG b b.size++cY (c-b.size) [.int .u8 0]).toArray e (0,0)) w.heap.size w1/\Mk w.heap.size w1 w'/\
   (convert src dst (.string b)).run P w=.ok (.slice (some ⟨w.heap.size,0,none⟩) b.size c) w':=by
 have hcutge:b.size<=Question.cut (.appendCap b.size 0 e) (w.tape w.drawn (.appendCap b.size 0 e)):=by simp[Question.cut]
 generalize hcut:Question.cut (.appendCap b.size 0 e) (w.tape w.drawn (.appendCap b.size 0 e))=cap' at hcutge;have hforced:(Question.appendCap b.size 0 e).forced=false:=rfl;have hch:(choose (.appendCap b.size 0 e)).run P w=.ok cap' w.drew:=by
  rw[run_choose,hcut];simp[Question.forced]
 have harr:(b.data.map fun x=>(c_ .u8 x.toNat))++C_A (cap'-b.size) (.int .u8 0)=(bG b b.size++cY (cap'-b.size) [.int .u8 0]).toArray:=by
  apply T_;have h1:∀n,cY n [c_ .u8 0]=List.replicate n (.int .u8 0):=fun n=>by
   induction n with
   |zero=>rfl
   |succ n ih=>simp[cY,ih,List.replicate_succ]
  have h2:b.extract 0 b.size=b:=by simp
  simp only[bG,h1,h2];simp
 have hrow:(newRow e ((b.data.map fun x=>(c_ .u8 x.toNat))++C_A (cap'-b.size) (.int .u8 0))).run P w.drew=.ok ⟨w.heap.size,0,none⟩ (w.drew.alloc (.cells (bG b b.size++cY (cap'-b.size) [.int .u8 0]).toArray e (0,0))):=by
  rw[harr];simp[newRow]
 have hat:(w.drew.alloc (.cells (bG b b.size++cY (cap'-b.size) [.int .u8 0]).toArray e (0,0))).heap[w.heap.size]?=some (.cells (bG b b.size++cY (cap'-b.size) [.int .u8 0]).toArray e (0,0)):=by
  show(w.heap.push _)[w.heap.size]?=_;simp
 obtain⟨w',hrun,hmk⟩:=Hz (P:=P) (n:=b.size) (c:=cap') (a0:=⟨w.heap.size,0,none⟩) hd he hat;refine⟨cap',_,w',hcutge,⟨rfl,rfl⟩,hmk,?_⟩;have hms:(markStringish ⟨w.heap.size,0,none⟩).run P (w.drew.alloc (.cells (bG b b.size++cY (cap'-b.size) [.int .u8 0]).toArray e (0,0)))=.ok () w':=by
  have:=hrun;simp only[convert,I_,aC hd,aC he,J_]at this;generalize hm:(markStringish ⟨w.heap.size,0,none⟩).run P (w.drew.alloc (.cells (bG b b.size++cY (cap'-b.size) [.int .u8 0]).toArray e (0,0)))=r at this⊢;simp at this;rw[hm]at this;cases r with
  |ok u wx=>
   simp at this;subst this
   rfl
  |_=>simp[Result.andThen]at this
 simp only[convert,I_,aC hs,aC hd,aC he,J_,Conv.stringToBytes,hch];rw[hrow];simp only[J_,hms,L_]
def fi.light:fi->Bool
 |.st .. |.boxV .. |.boxL .. |.bslV .. |.bslL .. |.mksl .. |.app .. |.appz .. |.cpy .. |.call .. |.mkmp|.mget .. |.mset .. |.mark .. |.sbs .. |.bstr .. |.clr .. |.pan .. =>false
 |_=>true
theorem J8{i:fi}(hl:i.light=true):cD P pn fl X i s w K=aL i s w K:=by
 cases i<;>first|rfl|(simp[fi.light]at hl)
theorem Bf{op:BinOp}{x y:G_}{i:fi}(h:lz P op t x y=some i):i.light=true:=by
 unfold lz at h
 (repeat' split at h)<;>first|(cases h;rfl)|cases h
theorem yj{op:Op}{i:fi}(h:aT P op=some i):i.light=true:=by
 unfold aT at h
 split at h
 case h_4=>exact Bf h
 all_goals
  (repeat' split at h)<;>first
   |(cases h;rfl)
   |(cases h;done)
   |(obtain⟨_,_,rfl⟩:=Option.map_eq_some_iff.1 h;rfl)
theorem iz{op:Op}{i:fi}(hl:aT P op=some i)(h:cD P pn fl X i s w K):aL i s w K:=by
 rw[<-J8 (yj hl)];exact h
theorem Bo(s:St)(x:Nat×Nat×List B_)(d:Bool):bW s {s with l:=x::s.l,dirty:=d}:=
 ⟨⟨rfl,rfl⟩,fun k b cs hm=>⟨cs,R_ _ hm,fun _=>rfl⟩⟩
theorem H0{loc:Bool}{i:fi}(hc:gY P loc o.dst o.type o.op=some i)(hg:aZ s a w wa)(hX:∀ch w,dJ s.kp w->X ch w->Q (.panic ch) a w)
 (h:cD P pn fl X i s w K):gP r P (i.kp fl) o a s wa K Q:=by
 have hev:∀{x v},s.ev x=some v->a.eval x=v:=fun hv=>hg.ag.ev hv;have hevE:∀{x e},s.evE x=some e->lI s (some e) (a.eval x):=fun hv=>hg.ag.evE hv;unfold gY at hc
 split at hc
 case h_1 t x v ho=>
  split at hc<;>cases hc
  rename_i n hn;simp only[cD]at h;have h:=rn h
  split at h<;>try exact h.elim
  rename_i val hv;rcases pV h with⟨hok,h⟩|⟨_,h⟩
  case inr=>exact h.elim
  simp only[H_]at hok;have hlen:=N_ hok.2;have run:∀y,a.eval x=.pointer (some y)->j9 wa y val.cells.toList 0 True->(execOp a.eval o).run P wa=.ok .skip (ab wa y val.cells.toList 0):=by
   intro y hy hcan;have hsz:val.cells.size=n:=by simpa using hlen
   simp only[execOp,ho,hy,hev hv,Instr.storeAt,Instr.sureAddr,storeVar,I_,L_,J_,bE hn,hsz,ne_eq,not_true_eq_false,if_false];simp[fH hok.1 hcan]
  split at h<;>try exact h.elim
  ·rename_i p hp
   obtain⟨y,rfl,h⟩:=gR h;have h:=hg.sync h;obtain⟨hcan,h⟩:j9 wa y val.cells.toList 0 True/\jr s.l y.block (K none s.clean (ab wa y val.cells.toList 0)):=by
    unfold IZ at h
    split at h
    ·exact yd h
    ·exact⟨jf fun j hj hjl=>h.1 j (by omega),h.2⟩
   obtain⟨hnb,hk⟩:=jG h;exact tR (run y (hevE hp) hcan) (fun h=>by simp[fi.kp]at h) ((hg.ag.keep ((bS _ _ _ _).keep hnb) (ft.setCells _ _ _ _)).good) (e:=none) trivial hk
  ·rename_i k off hp
   obtain⟨b,cs,hm,he⟩:=hevE hp
   split at h<;>try exact h.elim
   rename_i b' cs' hl;rw[cH hg.ag.lok.keys hm]at hl;cases hl
   split at h<;>try exact h.elim
   rename_i hle;simp only[H_]at hle;have hro:k∉s.ro:=fun hm=>by
    have:=hle.2;simp only[V_]at this;have:=List.any_eq_false.1 this k hm;simp at this
   have hle:=f_ hle.1;obtain⟨hlt,e,hb⟩:=hg.ag.lok.at_ _ _ _ hm;have hlf:bW s {s with l:=change k (fun cs=>cs.take off++val.cells.toList++cs.drop (off+val.cells.toList.length)) s.l,dirty:=true}:=
    ⟨⟨rfl,rfl⟩,fun k' b' cs' hm'=>by
     obtain⟨c2,h2,h3⟩:=mS (k:=k) (f:=fun cs=>cs.take off++val.cells.toList++cs.drop (off+val.cells.toList.length)) hm';exact⟨c2,h2,fun hr=>h3 (fun e=>hro (e▸hr))⟩⟩
   refine tR (hl:=hlf) (run _ he (jf fun j hj hjl=>?_)) (fun h=>by simp[fi.kp]at h) (G8 hg hm hle) (e:=none) trivial h
   rw[af];refine⟨⟨cs[off+j]'(by omega),dV hb (w_ _)⟩,?_⟩
   simp[A_.frozen?,hb]
 case h_2 e ho=>
  have run:∀z,dR P e=some z->(execOp a.eval o).run P wa=.ok (.value (.pointer (some ⟨wa.heap.size,0,none⟩))) (wa.alloc (.cells z.toArray e (0,0))):=by
   intro z hz;obtain⟨zv,hzv,hzc⟩:=jH hz;have:zv.cells=z.toArray:=by rw[<-hzc]
   simp[execOp,ho,Instr.alloc,dK hzv,newVar,newRow,this]
  split at hc<;>cases hc
  ·rename_i z hz
   simp only[cD,D1]at h;have h:=hg.sync h;exact cI (run z hz) (fun _=>aU.alloc _ _) (lq hg _) (e:=some (.v _)) rfl (h _ _ ⟨rfl,rfl⟩)
  ·rename_i z k hz hd
   simp only[cD,D1]at h
   split at h<;>try exact h.elim
   rename_i vs hvs hl;simp only[s_]at hvs;subst hvs;exact cI (run _ hz) (fun _=>aU.alloc _ _) (uw hg hl) (e:=some (.loc k 0)) ⟨_,_,S_ ..,rfl⟩ (h _ hg.locl.size) (hl:=Bo s _ _)
 case h_3 e v ho=>
  have run:(execOp a.eval o).run P wa=.ok (.value (.pointer (some ⟨wa.heap.size,0,none⟩))) (wa.alloc (.cells (a.eval v).cells e (0,0))):=by
   simp[execOp,ho,Instr.box,newVar,newRow]
  split at hc<;>cases hc
  ·simp only[cD]at h
   split at h<;>try exact h.elim
   rename_i vs hvs;have:=EZ hg.ag hvs;have h:=hg.sync h;refine cI run (fun _=>aU.alloc _ _) (lq hg _) (e:=some (.v _)) rfl (h _ _ ⟨rfl,?_⟩);rw[<-this]
  ·rename_i k hd
   simp only[cD]at h
   split at h<;>try exact h.elim
   rename_i vs hvs hl;have:=EZ hg.ag hvs;have e1:(a.eval v).cells=vs.toArray:=by rw[<-this]
   rw[e1]at run;exact cI run (fun _=>aU.alloc _ _) (uw hg hl) (e:=some (.loc k 0)) ⟨_,_,S_ ..,rfl⟩ (h _ hg.locl.size) (hl:=Bo s _ _)
 case h_4 t n parts ho=>
  split at hc<;>try cases hc
  rename_i e hu
  split at hc<;>try cases hc
  ·rename_i sz z hs hz
   split at hc<;>cases hc
   rename_i hle;simp only[cD]at h
   split at h<;>try exact h.elim
   rename_i ps hps
   split at h<;>try exact h.elim
   rename_i hok;have h:=hg.sync h;exact cI (IK ho hu hs hz hle (fun x v=>hev) hps hok) (fun _=>aU.alloc _ _) (lq hg _) (e:=some (.v _)) rfl (h _ _ ⟨rfl,rfl⟩)
  ·rename_i sz z k hs hz hd
   split at hc<;>cases hc
   rename_i hle;simp only[cD]at h
   split at h<;>try exact h.elim
   rename_i ps hps hl
   split at h<;>try exact h.elim
   rename_i hok;exact cI (IK ho hu hs hz hle (fun x v=>hev) hps hok) (fun _=>aU.alloc _ _) (uw hg hl) (e:=some (.lsl k n)) ⟨_,_,S_ ..,rfl⟩ (h _ hg.locl.size) (hl:=Bo s _ _)
 case h_5 t l c ho=>
  split at hc<;>try cases hc
  rename_i e hu
  split at hc<;>try cases hc
  rename_i info z hi hz
  split at hc<;>cases hc
  rename_i hsz;simp only[cD]at h
  split at h<;>try exact h.elim
  rename_i k ln k' cn h1 h2;obtain⟨h0,hlc,hb,hcn,h⟩:=hg.sync h;exact cI (MP ho hu hi hz (N_ hsz) (hev h1) (hev h2) h0 hlc hb hcn) (fun _=>aU.alloc _ _) (lq hg _) (e:=some (.v _)) rfl (h _ _ ⟨rfl,rfl⟩)
 case h_6 c ho=>
  split at hc
  ·rename_i f hcal
   split at hc<;>try cases hc
   split at hc<;>cases hc
   exact Kb ho hcal hg hX h
  ·rename_i hcal
   split at hc<;>try cases hc
   rename_i x y t u hx ht
   split at hc<;>try cases hc
   ·rename_i e e2 hut huu
    split at hc<;>try cases hc
    rename_i info z hi hz
    split at hc<;>cases hc
    rename_i hsz;simp only[cD]at h
    split at h<;>try exact h.elim
    rename_i base len cap h1
    split at h<;>try exact h.elim
    ·rename_i k n h2
     obtain⟨b,cs,hm,he⟩:=hevE h2
     split at h<;>try exact h.elim
     rename_i b' fs hl;rw[cH hg.ag.lok.keys hm]at hl;cases hl;rcases pV h with⟨hok,h⟩|⟨_,h⟩
     case inr=>exact h.elim
     simp only[H_]at hok;have hlen:=N_ hok.2;have h:=hg.sync h;obtain⟨hlt,e0,hb⟩:=hg.ag.lok.at_ _ _ _ hm;obtain⟨b1,c1,w1,hr,hk,hkeep,hdk⟩:=ID (l:=s.l) ho hcal hx ht hut huu hi hz (N_ hsz) (hev h1) he (fun wx=>by simp[Builtin.lenOf]) hlen hok.1
      (fun wx hwx=>gQ hlen (fun j v hj=>⟨⟨b,0,none⟩,rfl,by rw[af];exact dV (w:=wx) (by rw[hwx];exact hb) (by simpa using hj)⟩)) h
     obtain⟨hfl,hk⟩:=oA hk;exact cI hr hfl ((hg.ag.keep hkeep hdk).good) (e:=some (.v _)) rfl hk
    ·rename_i base2 n c2 h2
     obtain⟨fs,hlen,hone,hrd,h⟩:=hg.sync h;obtain⟨b1,c1,w1,hr,hk,hkeep,hdk⟩:=ID (l:=s.l) ho hcal hx ht hut huu hi hz (N_ hsz) (hev h1) (hevE h2) (fun wx=>by simp[Builtin.lenOf]) hlen hone
      (fun wx hwx=>gQ hlen (fun j v hj=>by
       obtain⟨x,hx,hcell⟩:=hrd j v hj;refine⟨x,hx,?_⟩;simpa[A_.cell?,hwx]using hcell)) h
     obtain⟨hfl,hk⟩:=oA hk;exact cI hr hfl ((hg.ag.keep hkeep hdk).good) (e:=some (.v _)) rfl hk
   ·rename_i e ku hut huu
    split at hc<;>try cases hc
    rename_i info z hi hz
    split at hc<;>cases hc
    rename_i hsz;simp only[H_]at hsz;simp only[cD]at h
    split at h<;>try exact h.elim
    rename_i base len cap k' n h1 h2;obtain⟨h0,hb48,h62,h⟩:=hg.sync h;obtain⟨b1,c1,w1,hr,hk,hkeep,hdk⟩:=Nv (l:=s.l) ho hcal hx ht hut huu hi hz (N_ hsz.1) (hev h1) (hev h2) h0 hb48 h62 hsz.2 h;obtain⟨hfl,hk⟩:=oA hk;exact cI hr hfl ((hg.ag.keep hkeep hdk).good) (e:=some (.v _)) rfl hk
  ·rename_i hcal
   split at hc<;>try cases hc
   rename_i x y t u hx ht
   split at hc<;>try cases hc
   rename_i e hut;cases hs:eA P e with
   |none=>rw[hs]at hc;cases hc
   |some sz=>
    rw[hs]at hc;cases hc;simp only[cD]at h;have h:=rn h
    split at h<;>try exact h.elim
    ·rename_i base dlen dc base2 slen sc h1 h2
     obtain⟨fs,hlen,hone,hrd,h⟩:=hg.sync h;obtain⟨w1,hr,hk,hkeep,hdk⟩:=Jg (l:=s.l) ho hcal hx ht hut hs (hev h1) (hev h2) (slen:=slen) (by simp[Builtin.lenOf]) hone (gQ hlen hrd) h
     exact cI hr (fun h=>by simp[fi.kp]at h) ((hg.ag.keep hkeep hdk).good) (e:=some (.v _)) rfl hk
    ·rename_i base dlen dc b h1 h2
     have h:=hg.sync h;obtain⟨w1,hr,hk,hkeep,hdk⟩:=Jg (l:=s.l) ho hcal hx ht hut hs (hev h1) (hev h2) (slen:=b.size) (by simp[Builtin.lenOf]) (Gb b _) (Hy b _ _) h
     exact cI hr (fun h=>by simp[fi.kp]at h) ((hg.ag.keep hkeep hdk).good) (e:=some (.v _)) rfl hk
  ·rename_i hcal
   split at hc<;>try cases hc
   rename_i x t hx ht
   split at hc<;>try cases hc
   rename_i e hut
   split at hc<;>try cases hc
   rename_i z hz
   split at hc<;>cases hc
   rename_i hone;simp only[cD]at h;have h:=rn h
   split at h<;>try exact h.elim
   rename_i base n cap h1;have h:=hg.sync h;obtain⟨w1,hr,hk,hkeep,hdk⟩:=Oo (l:=s.l) ho hcal hx ht hut hz hone (hev h1) h;exact cI hr (fun h=>by simp[fi.kp]at h) ((hg.ag.keep hkeep hdk).good) (e:=some (.v _)) rfl hk
  ·exact(kg hc hg (iz hc h)).heavy
 case h_7 t ho=>
  cases hc;have run:(execOp a.eval o).run P wa=.ok (.value (.map (some wa.heap.size))) (wa.alloc (.map #[] 0)):=by
   simp[execOp,ho,Instr.makeMap]
  simp only[cD]at h;have h:=hg.sync h;exact cI run (fun _=>aU.alloc _ _) (lq hg _) (e:=some (.v _)) rfl (h _ _ ⟨rfl,rfl⟩)
 case h_8 t x ix ok ho=>
  split at hc<;>try cases hc
  rename_i kt et ht
  split at hc<;>cases hc
  rename_i kd z hk hz;simp only[cD]at h
  split at h<;>try exact h.elim
  rename_i m key h1 h2
  split at h<;>try exact h.elim
  rename_i hok;have h:=hg.sync h;obtain⟨kvs,hG,hrun⟩:=MR ht hk hz hok h ok;obtain⟨v,c,hgot,hK⟩:=M7 hG;have run:(execOp a.eval o).run P wa=.ok (.value (if ok then .tuple #[v,.bool c]else v)) wa:=by
   simp only[execOp,ho,I_,hev h1,hev h2,hrun v c hgot,J_,L_]
  refine cI run (fun _ _ _ h=>h) hg.ag.good (e:=some (.v _)) rfl ?_;cases ok<;>exact hK
 case h_9 t m k v ho|h_10 t m k v ho=>
  split at hc<;>try cases hc
  rename_i kt et ht
  split at hc<;>cases hc
  rename_i kd hk;simp only[cD]at h;have h:=rn h
  split at h<;>try exact h.elim
  rename_i mv key val h1 h2 h3
  split at h<;>try exact h.elim
  rename_i hok
  replace h:=hg.sync h
  unfold NK at h
  split at h<;>try exact h.elim
  rename_i b;obtain⟨kvs,hmp,hK⟩:=h;obtain⟨w',hrun,hput,hmp',es,c,hb⟩:=Nq (val:=val) ht hk hok hmp;have run:(execOp a.eval o).run P wa=.ok .skip w':=by
   simp only[execOp,ho,I_,hev h1,hev h2,hev h3,hrun,J_,L_]
  have hkp:ft wa w':=fun D o hD ho=>by
   have:D≠b:=fun e=>by subst e;rw[hb]at hD;cases hD;simp[qW]at ho
   rw[hput.block D this];exact hD
  have hkeep:ao (am s.l) wa w':=fun D hm hlt=>by
   obtain⟨y,hy,rfl⟩:=List.mem_map.1 hm;obtain⟨_,e0,hcs⟩:=hg.ag.lok.at_ y.1 y.2.1 y.2.2 hy;have:y.2.1≠b:=fun e=>by rw[e,hb]at hcs;cases hcs
   exact⟨by rw[hput.size];exact hlt,hput.block _ this⟩
  exact tR run (fun h=>by simp[fi.kp]at h) ((hg.ag.keep hkeep hkp).good) (e:=none) trivial (hK w' hput hmp')
 case h_11 src dst x ho=>
  split at hc
  ·rename_i e hs hd
   split at hc<;>cases hc
   rename_i he;simp only[cD]at h
   split at h<;>try exact h.elim
   rename_i base n c h1;obtain⟨xs,hl,hcs,hK⟩:=hg.sync h;have run:(execOp a.eval o).run P wa=.ok (.value (.string (iD xs))) wa:=by
    simp only[execOp,ho,I_,hev h1,run_convert_bytes_string wa src dst e base n c hs he hd];cases base with
    |none=>
     have:xs=[]:=by
      cases xs with
      |nil=>rfl
      |cons v vs=>obtain⟨a,ha,_⟩:=hcs 0 _ rfl;cases ha
     subst this;simp[Conv.bytesToString,iD]
    |some a0=>
     rw[run_bytesToString wa a0 n c xs (by
      rw[<-hl,<-List.length_map (f:=c_ .u8)];refine run_loadCells_list wa a0 _ fun j v hj=>?_;obtain⟨a',ha',hc⟩:=hcs j v hj;cases ha';exact hc)]
     simp[iD]
   exact cI run (fun _ _ _ h=>h) hg.ag.good (e:=some (.v _)) rfl hK
  ·rename_i e2 e hs hd
   split at hc<;>cases hc
   rename_i hsd he;have hsd:=N_ hsd;subst hsd;simp only[cD]at h
   split at h<;>try exact h.elim
   rename_i a0 n c h1;obtain⟨C,e0,hb,h⟩:=hg.sync h;obtain⟨hnb,hK⟩:=jG h;obtain⟨w',hrun,hmk⟩:=Hz (P:=P) (n:=n) (c:=c) hd he hb;have run:(execOp a.eval o).run P wa=.ok (.value (.slice (some a0) n c)) w':=by
    simp only[execOp,ho,I_,hev h1,hrun,J_,L_]
   have hkp:ft wa w':=fun D o hD ho=>by
    have:D≠a0.block:=fun e=>by subst e;rw[hb]at hD;cases hD;simp[qW]at ho
    rw[hmk.put.block D this];exact hD
   have hkeep:ao (am s.l) wa w':=fun D hm hlt=>by
    have:D≠a0.block:=fun e=>hnb (e▸hm);exact⟨by rw[hmk.put.size];exact hlt,hmk.put.block _ this⟩
   exact cI run (fun _ b v hv=>by rw[hmk.cell];exact hv) ((hg.ag.keep hkeep hkp).good) (e:=some (.v _)) rfl (hK w' hmk)
  ·rename_i e hs hd
   split at hc<;>cases hc
   rename_i he;simp only[cD]at h
   split at h<;>try exact h.elim
   rename_i bt h1;have hK:=hg.sync h;obtain⟨c,w1,w',hc1,hnew,hmk,hrun⟩:=NT (P:=P) (b:=bt) (w:=wa) hs hd he;have run:(execOp a.eval o).run P wa=.ok (.value (.slice (some ⟨wa.heap.size,0,none⟩) bt.size c)) w':=by
    simp only[execOp,ho,I_,hev h1,hrun,J_,L_]
   have hex:Ext wa w1:=by rw[hnew.2];exact(Ext.refl wa).drew.alloc _
   have hsz:wa.heap.size<w1.heap.size:=by
    rw[hnew.2];show wa.heap.size<(wa.heap.push _).size;simp
   have hkp:ft wa w':=fun D o hD ho=>by
    have hlt:D<wa.heap.size:=by
     rcases l_ D wa.heap.size with h'|h'
     ·exact h'
     ·rw[m_ h']at hD;cases hD
    rw[hmk.put.block D (by omega)];exact hex.kpk D o hD ho
   have hkeep:ao (am s.l) wa w':=fun D hm hlt=>by
    obtain⟨k1,k2⟩:=hex.keep (am s.l) D hm hlt;exact⟨by rw[hmk.put.size];exact k1,by rw[hmk.put.block D (by omega)];exact k2⟩
   refine cI run (fun _=>?_) ((hg.ag.keep hkeep hkp).good) (e:=some (.v _)) rfl (hK c _ w1 w' hc1 hnew hmk);intro b v hv;rw[hmk.cell,hnew.2];exact aU.alloc _ _ b v hv
  ·exact(kg hc hg (iz hc h)).heavy
 case h_12 x ho=>
  cases hc;simp only[cD]at h
  split at h<;>try exact h.elim
  rename_i v hv;obtain⟨⟨t,u,rfl⟩,hx⟩:=h;have hx:=hg.sync hx;have run:(execOp a.eval o).run P wa=.halt (.panic (.iface t u)) wa:=by
   simp only[execOp,ho,I_,hev hv]
   rfl
  unfold gP sX;rw[run];exact hX _ _ hg.ag.dok hx
 case h_13=>
  exact(kg hc hg (iz hc h)).heavy
end
inductive ey
 |done
 |op (i:Nat) (loc pn fl:Bool) (p:ey)
 |split (t:Nat) (p:ey)
 |gand (g:Nat) (want:Bool) (i n:Nat) (p:ey)
 |alt (p q:ey)
 |ldl (i:Nat) (p:ey)
def ey.run(i n:Nat)(p:ey):ey:=match n with|0=>p|n+1=>.op i false false false (ey.run (i+1) n p)
def DZ(P:D_)(X:List PanicEntry->A_->Prop)(loc pn fl:Bool)(o:Oper)(s:St)(w:A_)(K:Option EV->St->A_->Prop):Prop:=
 match gY P loc o.dst o.type o.op with
 |some i=>cD P pn fl X i s w K
 |none=>False
def MW(ops:Array Oper)(s:St)(j:Nat)(want:Bool):Option Bool:=
 match ops[j]? with
 |some o=>match o.dst with
  |some t=>match s.ρ t with
   |some (.v (.bool b))=>match b,want with
    |true,true=>some true
    |false,false=>some true
    |true,false=>some false
    |false,true=>some false
   |some (.v (.tuple _))=>some false
   |_=>none
  |none=>none
 |none=>none
def Gd(P:D_)(X:List PanicEntry->A_->Prop)(ops:Array Oper)(loc pn fl:Bool)(o:Oper)(s:St)(w:A_)(K:Option EV->St->A_->Prop):Prop:=
 match o.guard with
 |none=>DZ P X loc pn fl o s w K
 |some (j,want)=>match MW ops s j want with
  |some true=>DZ P X loc pn fl o s w K
  |some false=>K (some (.v undef)) s w
  |none=>False
def yO(P:D_)(ops:Array Oper):Nat->Nat->St->A_->(St->A_->Prop)->Prop
 |_,0,s,w,K=>K s w
 |i,n+1,s,w,K=>match ops[i]? with
  |some o=>match aT P o.op with
   |some ins=>aL ins s w fun e s' w'=>yO P ops (i+1) n (s'.put o.dst e) w' K
   |none=>False
  |none=>False
def jp(ops:Array Oper):Nat->Nat->List Nat
 |_,0=>[]
 |i,n+1=>match(ops[i]?).bind (·.dst)with
  |some d=>d::jp ops (i+1) n
  |none=>jp ops (i+1) n
def vv(want b v:Bool):Bool:=match want with|true=>b&&v|false=>b||v
def Kg(s:St)(o:Oper):Option Nat:=
 match o.op with
 |.load _ x=>match s.evE x with
  |some (.loc k _)=>some k
  |_=>none
 |_=>none
def fO(P:D_)(X:List PanicEntry->A_->Prop)(ops:Array Oper)(rl:List Nat):ey->St->A_->(St->A_->Prop)->Prop
 |.done,s,w,K=>K s w
 |.op i loc pn fl p,s,w,K=>match ops[i]? with
  |some o=>Gd P X ops loc pn fl o s w fun e s' w'=>fO P X ops rl p (s'.put o.dst e) w' K
  |none=>False
 |.split t p,s,w,K=>match s.ρ t with
  |some (.v (.bool b))=>ae b (fO P X ops rl p (s.set t (some (.v (.bool true)))) w K) (fO P X ops rl p (s.set t (some (.v (.bool false)))) w K)
  |some (.v (.tuple _))=>fO P X ops rl p s w K
  |_=>False
 |.gand g want i n p,s,w,K=>match ops[i+n]? with
  |some o=>match o.op with
   |.pick c x y=>match s.ρ g with
    |some (.v (.bool b))=>yO P ops i n s w fun s' w'=>match s'.ev (match want with|true=>x|false=>y)with
     |some (.bool v)=>fO P X ops rl p ((s'.del (jp ops i n)).put o.dst (some (.v (.bool (vv want b v))))) w' K
     |_=>False
    |_=>False
   |_=>False
  |none=>False
 |.alt p q,s,w,K=>fO P X ops rl p s w K/\fO P X ops rl q s w K
 |.ldl i p,s,w,K=>match ops[i]? with
  |some o=>match Kg s o with
   |some k=>match rl.any (K_ k)with
    |true=>Gd P X ops false false false o s w fun e s' w'=>fO P X ops rl p (s'.put o.dst e) w' K
    |false=>False
   |none=>False
  |none=>False
section
variable {r : Option Nat} {P : D_} {ops : Array Oper} {Q : Exit -> Act -> A_ -> Prop} {md : P_}
def xG(md:P_)(o:Oper):Nat:=o.after.toList.foldl (fun m e=>bif W_ md e then g_ m (X_ 1 e.on)else m) 0
def wQ(md:P_):List Oper->Nat->Nat->Nat
 |[],_,m=>m
 |o::r,j,m=>wQ md r (j+1) (match K_ (Y_ (xG md o) m) 0 with|true=>m|false=>g_ m (X_ 1 j))
def Ln(m j:Nat):Bool:=!K_ (Y_ m (X_ 1 j)) 0
def iH(md:P_)(ops:Array Oper)(listed:Array Bool):Prop:=
 ∀j o,listed.getD j false=true->ops[j]?=some o->∀e∈o.after,W_ md e=true->listed.getD e.on false=true
theorem mN(j k:Nat):(X_ 1 j).testBit k=decide (k=j):=by
 show(1 <<< j).testBit k=_;rw[Nat.testBit_shiftLeft];by_cases h:k=j
 ·subst h;simp
 ·by_cases h2:k>=j
  ·have:k-j≠0:=by omega
   have h1:Nat.testBit 1 (k-j)=false:=by
    obtain⟨d,hd⟩:∃d,k-j=d+1:=⟨k-j-1,by omega⟩
    rw[hd,Nat.testBit_succ];simp
   simp[h,h2,h1]
  ·simp[h,h2]
theorem Aa(a b k:Nat):(g_ a b).testBit k=(a.testBit k||b.testBit k):=Nat.testBit_or a b k
theorem Gw(a b k:Nat):(Y_ a b).testBit k=(a.testBit k&&b.testBit k):=Nat.testBit_and a b k
theorem G9(h:K_ (Y_ a b) 0=false):∃k,a.testBit k=true/\b.testBit k=true:=by
 have hne:Y_ a b≠0:=fun e=>by rw[e]at h;cases h
 obtain⟨k,hk⟩:=Nat.exists_testBit_of_ne_zero hne;rw[Gw,H_]at hk;exact⟨k,hk⟩
theorem FO{o:Oper}(h:(xG md o).testBit k=true):∃e,e∈o.after/\W_ md e=true/\e.on=k:=by
 have key:∀(l:List Edge) (m:Nat),(l.foldl (fun m e=>bif W_ md e then g_ m (X_ 1 e.on)else m) m).testBit k=true->m.testBit k=true\/∃e,e∈l/\W_ md e=true/\e.on=k:=by
  intro l
  induction l with
  |nil=>intro m h;exact .inl h
  |cons e l ih=>
   intro m h;rcases ih _ h with h1|⟨e',h1,h2⟩
   ·simp only at h1
    cases hb:W_ md e
    ·rw[hb]at h1;exact .inl h1
    ·rw[hb]at h1
     simp only[cond_true,Aa,mN,d_,decide_eq_true_eq]at h1;rcases h1 with h1|h1
     ·exact .inl h1
     ·exact .inr ⟨e,by simp,hb,h1.symm⟩
   ·exact .inr ⟨e',by simp[h1],h2⟩
 rcases key _ _ h with h1|⟨e,h1,h2⟩
 ·simp at h1
 ·exact⟨e,by simpa using h1,h2⟩
def NI(md:P_)(ops:Array Oper)(i j:Nat):Prop:=∀listed,iH md ops listed->((listed.getD j false=true->listed.getD i false=true)/\(j≠i->j∈M_ md ops listed->listed.getD i false=true))
theorem qT{i:Nat}:∀(l:List Oper) (j m:Nat),(∀k o,l[k]?=some o->ops[j+k]?=some o)->(∀k,m.testBit k=true->NI md ops i k)->∀k,(wQ md l j m).testBit k=true->NI md ops i k
 |[],_,_,_,hm,k,h=>hm k h
 |o::l,j,m,hl,hm,k,h=>by
  refine qT l (j+1) _ (fun k o hk=>by rw[show j+1+k=j+(k+1) by omega];exact hl (k+1) o (by simpa using hk)) (fun x hx=>?_) k h
  cases hb:K_ (Y_ (xG md o) m) 0
  ·rw[hb]at hx
   simp only[Aa,mN,d_,decide_eq_true_eq]at hx;rcases hx with hx|rfl
   ·exact hm x hx
   ·obtain⟨y,h1,h2⟩:=G9 hb
    obtain⟨e,he,hbd,rfl⟩:=FO h1;have ho:ops[x]?=some o:=hl 0 o rfl;refine fun listed hc=>⟨fun hj=>(hm _ h2 listed hc).1 (hc x o hj ho e he hbd),fun _ hr=>?_⟩;obtain⟨_,o',ho',hall⟩:=mem_ready.1 hr;rw[ho]at ho';cases ho';exact(hm _ h2 listed hc).1 (hall e he hbd)
  ·rw[hb]at hx;exact hm x hx
def kU(md:P_)(ops:Array Oper)(i j:Nat):Bool:=Ln (wQ md ops.toList 0 (X_ 1 i)) j
theorem Ic{listed:Array Bool}(hc:iH md ops listed)(hji:j≠i)(hj:j∈M_ md ops listed)(h:kU md ops i j=true):listed.getD i false=true:=by
 unfold kU Ln at h;simp only[V_]at h;obtain⟨k,h1,h2⟩:=G9 h;rw[mN,decide_eq_true_eq]at h2;subst h2;refine(qT ops.toList 0 _ (fun k o hk=>by rw[k_];simpa using hk) (fun x hx=>?_) k h1 listed hc).2 hji hj
 rw[mN,decide_eq_true_eq]at hx;subst hx;exact fun listed hc=>⟨id,fun hne=>absurd rfl hne⟩
theorem MT{listed:Array Bool}(h:j∈M_ md ops listed):j<listed.size:=by
 obtain⟨h0,_⟩:=mem_ready.1 h;rcases l_ j listed.size with h'|h'
 ·exact h'
 ·simp[m_ h']at h0
theorem iH.set{listed:Array Bool}(hc:iH md ops listed)(hi:i∈M_ md ops listed):iH md ops (listed.setIfInBounds i true):=by
 intro j o hj ho e he hb;refine getD_set_true ?_;by_cases hji:i=j
 ·subst hji
  obtain⟨_,o',ho',hall⟩:=mem_ready.1 hi;rw[ho]at ho';cases ho';exact hall e he hb
 ·rw[getD_set_ne false hji]at hj
  exact hc j o hj ho e he hb
def fS(B:List Nat)(w w':A_):Prop:=∀b,b∈B->∀off v,w.cell? ⟨b,off,none⟩=some v->w'.cell? ⟨b,off,none⟩=some v
theorem fS.refl(B:List Nat)(w:A_):fS B w w:=fun _ _ _ _ h=>h
theorem fS.trans{a b c:A_}(h:fS B a b)(k:fS B b c):fS B a c:=fun x hx o v hv=>k x hx o v (h x hx o v hv)
theorem aU.keepL(h:aU w w'):fS B w w':=fun _ _ _ _ hv=>h _ _ hv
def HJ(r:Option Nat)(P:D_)(md:P_)(ops:Array Oper)(Q:Exit->Act->A_->Prop)(ns B:List Nat):Nat->Array Bool->Act->A_->Prop
 |0,listed,a,w=>M_ md ops listed=[]/\Q .normal a w
 |fuel+1,listed,a,w=>
  (M_ md ops listed=[]->Q .normal a w)/\
  ∀i∈M_ md ops listed,fC r P ops Q i (fun a' w'=>(i∉ns->aU w w')/\fS B w w'/\HJ r P md ops Q ns B fuel (listed.setIfInBounds i true) a' w') a w
theorem ui{ns B:List Nat}:∀(fuel:Nat) (listed:Array Bool) (a:Act) (w:A_),HJ r P md ops Q ns B fuel listed a w->HB r P md ops Q fuel listed a w
 |0,_,_,_,h=>h
 |fuel+1,_,_,_,h=>⟨h.1,fun i hi=>gu (fun a' w' h'=>ui fuel _ a' w' h'.2.2) (h.2 i hi)⟩
def df(P:D_)(ops:Array Oper)(B:List Nat)(fl:Bool)(wa:A_)(o:Oper)(v:B_)(a:Act):Prop:=
 (O_ o (yielded ops a.tmps)=true/\∀wx,(oO o.op=true\/aU wa wx\/(fl=true/\fS B wa wx))->(execOp a.eval o).run P wx=.ok (.value v) wx)\/
 (O_ o (yielded ops a.tmps)=false/\v=undef)
theorem df.wpOp{fl:Bool}{o:Oper}{a:Act}(hi:ops[i]?=some o)(hy:df P ops B fl w o v a){K:Act->A_->Prop}(h:K (a.put o.dst v) w):fC r P ops Q i K a w:=by
 unfold fC;simp only[hi];rcases hy with⟨hw,hv⟩|⟨hw,rfl⟩
 ·simp only[hw,if_true,sX,hv w (.inr (.inl (aU.refl w))),Oper.uponIn];exact h
 ·simp only[hw,e_,if_false];exact h
theorem df.of_same{fl:Bool}{o:Oper}{a a':Act}(hy:df P ops B fl w o v a)(he:execOp a'.eval o=execOp a.eval o)
 (hw:O_ o (yielded ops a'.tmps)=O_ o (yielded ops a.tmps)):df P ops B fl w o v a':=by
 unfold df at*;rw[he,hw];exact hy
theorem df.keeps{fl:Bool}{o:Oper}{a:Act}(hy:df P ops B fl w o v a)(hk:oO o.op=true\/aU w w'\/(fl=true/\fS B w w')):df P ops B fl w' o v a:=
 hy.imp (fun⟨h1,h2⟩=>⟨h1,fun wx hwx=>h2 wx (by
  rcases hk with hk|hk|⟨hf,hk⟩
  ·exact .inl hk
  ·rcases hwx with hx|hx|⟨hf,hx⟩
   ·exact .inl hx
   ·exact .inr (.inl (hk.trans hx))
   ·exact .inr (.inr ⟨hf,hk.keepL.trans hx⟩)
  ·rcases hwx with hx|hx|⟨_,hx⟩
   ·exact .inl hx
   ·exact .inr (.inr ⟨hf,hk.trans hx.keepL⟩)
   ·exact .inr (.inr ⟨hf,hk.trans hx⟩))⟩) id
theorem KW{fl:Bool}{oi oj:Oper}(hj:ops[j]?=some oj)(hap:oi.apart ops oj=true)
 (hsi:∀cs b,oi.op≠.select cs b)(hsj:∀cs b,oj.op≠.select cs b)
 (hQ:∀c a w,Q (.panic c) (a.put oi.dst v) w->Q (.panic c) a w){K:Act->A_->Prop}{a:Act}
 (hy:df P ops B fl w0 oi v a)(h:fC r P ops Q j K (a.put oi.dst v) w):
  fC r P ops Q j (fun a' w'=>df P ops B fl w0 oi v a'/\K (a'.put oi.dst v) w') a w:=by
 obtain⟨h1,h2,h3⟩:=Oper.apart_spec hap;have keep:∀(a:Act),df P ops B fl w0 oi v a->∀u,df P ops B fl w0 oi v (a.put oj.dst u):=fun a hy u=>
  hy.of_same (execOp_put oi hsi a oj.dst u h3) (wanted_put oi a oj.dst u h3)
 have keepD:∀d,df P ops B fl w0 oi v {a with defers:=d::a.defers}:=fun d=>hy.of_same rfl rfl;unfold fC at*;simp only[hj]at*;rw[wanted_put oj a oi.dst v h1]at h
 split
 ·rename_i hw
  simp only[hw,if_true]at h;unfold sX at*;rw[execOp_put oj hsj a oi.dst v h1]at h;generalize(execOp a.eval oj).run P w=r at*;cases r with
  |ok n w'=>
   cases n<;>simp only[Oper.uponIn]at h⊢
   case value u=>exact⟨keep a hy u,by rw[<-Act.put_comm a v u h2];exact h⟩
   case skip=>exact⟨keep a hy _,by rw[<-Act.put_comm a v undef h2];exact h⟩
   case defer d=>
    refine⟨keep _ (keepD d) _,?_⟩;rw[<-Act.put_comm _ v undef h2,<-Act.put_defers];exact h
   case enter f args=>
    refine⟨h.1,CallsIn.mono h.2 fun e w'' he=>?_⟩;cases e with
    |returned u=>exact⟨keep a hy u,by rw[<-Act.put_comm a v u h2];exact he⟩
    |panicked c=>exact hQ _ _ _ he
    |outgrown=>exact he
   case row row args=>exact⟨h.1,RowsIn.mono h.2 fun u w'' he=>⟨keep a hy u,by rw[<-Act.put_comm a v u h2];exact he⟩⟩
   case round l f tmps assign body=>
    refine⟨h.1,RoundIn.mono h.2 fun e w'' he=>?_⟩;cases e with
    |returned u=>exact⟨keep a hy u,by rw[<-Act.put_comm a v u h2];exact he⟩
    |panicked c=>exact hQ _ _ _ he
    |outgrown=>exact he
  |halt x w'=>
   cases x<;>simp only[Oper.uponIn]at h⊢
   case panic u=>exact hQ _ _ _ h
 ·rename_i hw
  simp only[hw]at h;exact⟨keep a hy _,by rw[<-Act.put_comm a v undef h2];exact h⟩
theorem Ed{ns:List Nat}{fl:Bool}{oi:Oper}(hi:ops[i]?=some oi)(hsel:∀(j:Nat) (o:Oper) cs b,ops[j]?=some o->o.op≠.select cs b)
 (hQ:∀c a w,Q (.panic c) (a.put oi.dst v) w->Q (.panic c) a w):
  ∀(fuel:Nat) (listed:Array Bool) (a:Act) (w:A_),iH md ops listed->
   (∀j oj,ops[j]?=some oj->j≠i->listed.getD j true=false->kU md ops i j=false->oi.apart ops oj=true/\(oO oi.op=true\/j∉ns\/fl=true))->
   i∈M_ md ops listed->df P ops B fl w oi v a->
   HJ r P md ops Q ns B fuel (listed.setIfInBounds i true) (a.put oi.dst v) w->HJ r P md ops Q ns B (fuel+1) listed a w:=by
 intro fuel
 induction fuel with
 |zero=>
  intro listed a w hcl _ hr hy H;refine⟨fun h=>(by rw[h]at hr;cases hr),fun j hj=>?_⟩
  by_cases hji:j=i
  ·subst hji;exact hy.wpOp hi ⟨fun _=>aU.refl w,fS.refl B w,H⟩
  ·have:=ready_mono hj hji
   rw[H.1]at this;cases this
 |succ fuel ih=>
  intro listed a w hcl hfree hr hy H;refine⟨fun h=>(by rw[h]at hr;cases hr),fun j hj=>?_⟩
  by_cases hji:j=i
  ·subst hji;exact hy.wpOp hi ⟨fun _=>aU.refl w,fS.refl B w,H⟩
  ·have h1:=H.2 j (ready_mono hj hji)
   obtain⟨hjun,oj,hoj,hall⟩:=mem_ready.1 hj;have hi0:listed.getD i false=false:=by
    have h0:=(mem_ready.1 hr).1;have hlt:=MT hr;simp[hlt]at h0⊢;exact h0
   have hnr:kU md ops i j=false:=by
    cases hre:kU md ops i j
    ·rfl
    ·have:=Ic hcl hji hj hre
     rw[hi0]at this;cases this
   obtain⟨hap,hns⟩:=hfree j oj hoj hji hjun hnr;have h2:=KW hoj hap (fun cs b=>hsel i oi cs b hi) (fun cs b=>hsel j oj cs b hoj) hQ hy h1;have hfree':∀k ok,ops[k]?=some ok->k≠i->(listed.setIfInBounds j true).getD k true=false->kU md ops i k=false->
     oi.apart ops ok=true/\(oO oi.op=true\/k∉ns\/fl=true):=fun k ok hk hki hun hno=>by
    refine hfree k ok hk hki ?_ hno;by_cases hjk:j=k
    ·subst hjk;exact hjun
    ·rw[getD_set_ne true hjk]at hun;exact hun
   refine gu (fun a' w' h3=>?_) h2;have hk:oO oi.op=true\/aU w w'\/(fl=true/\fS B w w'):=hns.imp id fun h=>h.imp h3.2.1 fun h=>⟨h,h3.2.2.1⟩;refine⟨h3.2.1,h3.2.2.1,ih (listed.setIfInBounds j true) a' w' (hcl.set hj) hfree' (ready_mono hr (Ne.symm hji)) (h3.1.keeps hk) ?_⟩;rw[Array.setIfInBounds_comm _ _ hji];exact h3.2.2.2
end
structure Fr(ds:List Nat)(a a':Act):Prop where
 size:a'.tmps.size=a.tmps.size
 defers:a'.defers=a.defers
 tmps:∀t,t∉ds->a'.tmps.getD t undef=a.tmps.getD t undef
theorem Fr.refl(ds:List Nat)(a:Act):Fr ds a a:=⟨rfl,rfl,fun _ _=>rfl⟩
theorem Fr.trans{a b c:Act}(h:Fr ds a b)(k:Fr ds b c):Fr ds a c:=
 ⟨k.size.trans h.size,k.defers.trans h.defers,fun t ht=>(k.tmps t ht).trans (h.tmps t ht)⟩
theorem Fr.put{a:Act}{d:Option Tmp}(v:B_)(hd:∀t,d=some t->t∈ds/\t<a.tmps.size):Fr ds a (a.put d v):=by
 cases d with
 |none=>exact Fr.refl _ _
 |some d=>
  obtain⟨h1,h2⟩:=hd d rfl;refine⟨by simp[Act.put],rfl,fun t ht=>?_⟩
  rw[Act.getD_put t h2,if_neg (by rintro rfl;exact ht h1)]
theorem bW.put(s:St)(d:Option Nat)(e:Option EV):bW s (s.put d e):=by cases d<;>exact bW.of_eq rfl rfl
theorem bW.set(s:St)(d:Nat)(e:Option EV):bW s (s.set d e):=bW.of_eq rfl rfl
theorem bW.del(s:St)(d:List Nat):bW s (s.del d):=bW.of_eq rfl rfl
def uT(n:Nat)(ds:List Nat)(o:Oper):Bool:=match o.dst with|some t=>Nat.blt t n&&ds.any (K_ t)|none=>true
theorem lB{o:Oper}{a:Act}(h:uT n ds o=true)(hn:a.tmps.size=n):∀t,o.dst=some t->t∈ds/\t<a.tmps.size:=by
 intro t ht;simp only[uT,ht,H_]at h;obtain⟨h1,h2⟩:=h;refine⟨?_,by rw[hn];simpa[Nat.blt_eq]using h1⟩
 obtain⟨x,hx,he⟩:=List.any_eq_true.1 h2;rw[N_ he];exact hx
theorem E3{o:Oper}(h:uT n ds o=true):∀t,o.dst=some t->t∈ds:=by
 intro t ht;simp only[uT,ht,H_]at h;obtain⟨x,hx,he⟩:=List.any_eq_true.1 h.2;rw[N_ he];exact hx
section
variable {r : Option Nat} {P : D_} {ops : Array Oper} {Q : Exit -> Act -> A_ -> Prop} {X : List PanicEntry -> A_ -> Prop}
theorem EC{s:St}{a:Act}{want b:Bool}(hg:aZ s a w wa)(h:MW ops s j want=some b):(yielded ops a.tmps j==some want)=b:=by
 unfold MW at h
 split at h<;>try cases h
 rename_i o ho
 split at h<;>try cases h
 rename_i t ht
 split at h<;>try cases h
 ·rename_i c hr
  have:=hg.ag.v _ _ hr;have ht':a.tmps[t]?=some (.bool c):=by
   rw[n_]at this;cases hx:a.tmps[t]? with
   |none=>rw[hx]at this;simp[undef]at this
   |some y=>rw[hx]at this;simpa using this
  simp only[yielded,ho,ht,ht',D_A]
  split at h<;>cases h<;>rfl
 ·rename_i vs hr
  have:=hg.ag.v _ _ hr;rw[n_]at this;simp only[yielded,ho,ht,D_A];cases hx:a.tmps[t]? with
  |none=>rfl
  |some y=>rw[hx]at this;simp at this;subst this;rfl
theorem wF{loc pn fl:Bool}{o:Oper}{s:St}{a:Act}{K:Option EV->St->A_->Prop}(hg:aZ s a w wa)(h:Gd P X ops loc pn fl o s w K):
  (O_ o (yielded ops a.tmps)=true/\DZ P X loc pn fl o s w K)\/(O_ o (yielded ops a.tmps)=false/\K (some (.v undef)) s w):=by
 unfold Gd at h;unfold O_
 split at h
 ·rename_i hgd;rw[hgd];exact .inl ⟨rfl,h⟩
 ·rename_i j want hgd
  rw[hgd]
  split at h<;>try exact h.elim
  ·rename_i hb;exact .inl ⟨EC hg hb,h⟩
  ·rename_i hb;exact .inr ⟨EC hg hb,h⟩
theorem Aj{loc:Bool}{o:Oper}{i:fi}(h:aT P o.op=some i):gY P loc o.dst o.type o.op=some i:=by
 unfold gY
 split
 case h_6 c hc=>
  rw[hc]at h
  split
  ·rename_i f hf;simp[aT,hf]at h
  ·rename_i hf;simp[aT,hf]at h
  ·rename_i hf;simp[aT,hf]at h
  ·rename_i hf;simp[aT,hf]at h
  ·rw[hc];exact h
 case h_7 hc=>rw[hc]at h;simp[aT]at h
 case h_8 hc=>rw[hc]at h;simp[aT]at h
 case h_9 hc=>rw[hc]at h;simp[aT]at h
 case h_10 hc=>rw[hc]at h;simp[aT]at h
 case h_11 src dst x hc=>
  split
  ·rename_i h1 h2;rw[hc]at h;simp[aT,h1,h2]at h
  ·rename_i h1 h2;rw[hc]at h;simp[aT,h1,h2]at h
  ·rename_i h1 h2;rw[hc]at h;simp[aT,h1,h2]at h
  ·exact h
 case h_12 hc=>rw[hc]at h;simp[aT]at h
 case h_13=>exact h
 all_goals
  rename_i hc;rw[hc]at h;simp[aT]at h
def F8(P:D_)(loc fl:Bool)(o:Oper):Bool:=match gY P loc o.dst o.type o.op with|some i=>i.kp fl|none=>true
theorem JT{o:Oper}{loc pn fl:Bool}{s:St}{a:Act}{K:Option EV->St->A_->Prop}(hi:ops[i]?=some o)(hg:aZ s a w wa)
 (hX:∀ch w,dJ s.kp w->X ch w->Q (.panic ch) a w)(h:Gd P X ops loc pn fl o s w K):
  fC r P ops Q i (fun a' wa'=>(F8 P loc fl o=true->aU wa wa')/\∃v e s' w',a'=a.put o.dst v/\aZ s' a w' wa'/\lI s' e v/\bW s s'/\K e s' w') a wa:=by
 unfold fC;simp only[hi];rcases wF hg h with⟨hw,h⟩|⟨hw,h⟩
 ·simp only[hw,if_true]
  unfold DZ at h
  split at h<;>try exact h.elim
  rename_i ins hc;have:=H0 (r:=r) hc hg hX h;unfold F8;simp only[hc];exact this
 ·simp only[hw,e_,if_false]
  exact⟨fun _=>aU.refl wa,undef,some (.v undef),s,w,rfl,hg,rfl,bW.refl s,h⟩
theorem JX{o:Oper}{loc pn fl:Bool}{s:St}{a:Act}{K:Option EV->St->A_->Prop}(hg:aZ s a w wa)(hl:(aT P o.op).isSome=true)
 (h:Gd P X ops loc pn fl o s w K):∃v e s' w',df P ops B false wa o v a/\aZ s' a w' wa/\lI s' e v/\bW s s'/\K e s' w':=by
 obtain⟨ins,hins⟩:=Option.isSome_iff_exists.1 hl;rcases wF hg h with⟨hw,h⟩|⟨hw,h⟩
 ·unfold DZ at h
  rw[Aj hins]at h;obtain⟨v,e,s',w',hr,hg',he,hlf,hk⟩:=kg hins hg (iz hins h);exact⟨v,e,s',w',.inl ⟨hw,fun wx hwx=>hr wx (hwx.imp id fun h=>h.elim id fun h=>by cases h.1)⟩,hg',he,hlf,hk⟩
 ·exact⟨undef,some (.v undef),s,w,.inr ⟨hw,rfl⟩,hg,rfl,bW.refl s,h⟩
theorem Pg{o:Oper}{s:St}{a:Act}{K:Option EV->St->A_->Prop}{ins:fi}{x:G_}(ho:o.op=.load t x)(hc:aT P o.op=some ins)(hg:aZ s a w wa)
 (hl:s.evE x=some (.loc k off))(hB:∀b cs,(k,b,cs)∈s.l->b∈B)(h:aL ins s w K):
  ∃v,(∀wx,fS B wa wx->(execOp a.eval o).run P wx=.ok (.value v) wx)/\K (some (.v v)) s w:=by
 rw[ho]at hc;simp only[aT]at hc;obtain⟨b,ls,hm,he⟩:=hg.ag.evE hl;obtain⟨hlt,e,hb⟩:=hg.ag.lok.at_ _ _ _ hm
 split at hc<;>try cases hc
 ·rename_i z hagg hz
  simp only[aL,hl,cH hg.ag.lok.keys hm]at h
  split at h<;>try exact h.elim
  rename_i v hv;refine⟨v,fun wx hwx=>?_,h⟩;have hwx:=hwx b (hB _ _ hm);simp only[execOp,ho,he,Instr.loadAt,Instr.sureAddr,I_,L_,J_,gL hagg (hwx _ _ (dV hb hv))]
 ·rename_i n cs hagg hsz hz
  split at hc<;>try cases hc
  rename_i hn;have hn':n=cs.toList.length:=by simpa using N_ hn
  rcases rQ cs with hsh|hsh<;>rw[hsh]at h
  rotate_left
  ·simp only[aL,hl,cH hg.ag.lok.keys hm]at h
  simp only[aL,hl,cH hg.ag.lok.keys hm]at h
  split at h<;>try exact h.elim
  rename_i hle;have hle:=f_ hle;refine⟨_,fun wx hwx=>?_,h⟩;have hwx:=hwx b (hB _ _ hm);simp only[execOp,ho,he,Instr.loadAt,Instr.sureAddr,I_,L_,J_];rw[eC (vs:=(ls.drop off).take (cs.toList.map AG).length) hagg (by rw[hsz,hn'];simp at hle⊢;omega) (fun j v hj=>by
   rw[af];refine hwx _ _ (dV hb ?_);rw[List.getElem?_take]at hj
   split at hj
   ·rw[List.getElem?_drop]at hj;exact hj
   ·cases hj)]
  rfl
theorem It{o:Oper}{s:St}{a:Act}{K:Option EV->St->A_->Prop}(hg:aZ s a w wa)(hl:Kg s o=some k)(hc:(aT P o.op).isSome=true)(hB:∀b cs,(k,b,cs)∈s.l->b∈B)
 (h:Gd P X ops false false false o s w K):∃v e s' w',df P ops B true wa o v a/\aZ s' a w' wa/\lI s' e v/\bW s s'/\K e s' w':=by
 obtain⟨ins,hins⟩:=Option.isSome_iff_exists.1 hc;unfold Kg at hl
 split at hl<;>try cases hl
 rename_i t x ho
 split at hl<;>cases hl
 rename_i off hev;rcases wF hg h with⟨hw,h⟩|⟨hw,h⟩
 ·unfold DZ at h
  rw[Aj hins]at h;obtain⟨v,hr,hk⟩:=Pg ho hins hg hev hB (iz hins h);refine⟨v,some (.v v),s,w,.inl ⟨hw,fun wx hwx=>hr wx ?_⟩,hg,rfl,bW.refl s,hk⟩;rcases hwx with h1|h1|h1
  ·exact(fX ho (.inl h1)).keepL
  ·exact h1.keepL
  ·exact h1.2
 ·exact⟨undef,some (.v undef),s,w,.inr ⟨hw,rfl⟩,hg,rfl,bW.refl s,h⟩
def CJ(md:P_)(ops:Array Oper)(ns:List Nat)(fl:Bool)(listed:Array Bool)(i:Nat):Bool:=
 match ops[i]? with
 |none=>false
 |some oi=>(List.range ops.size).all fun j=>K_ j i||listed.getD j true||kU md ops i j||(match ops[j]? with|some oj=>oi.apart ops oj|none=>true)&&(oO oi.op||!ns.any (K_ j)||fl)
theorem Ce{md:P_}{ns:List Nat}{fl:Bool}{listed:Array Bool}{oi:Oper}(hi:ops[i]?=some oi)(h:CJ md ops ns fl listed i=true):
  ∀j oj,ops[j]?=some oj->j≠i->listed.getD j true=false->kU md ops i j=false->oi.apart ops oj=true/\(oO oi.op=true\/j∉ns\/fl=true):=by
 intro j oj hj hji hun hre;simp only[CJ,hi,List.all_eq_true,List.mem_range]at h;have h1:=h j (Array.getElem?_eq_some_iff.1 hj).1;have hb:K_ j i=false:=by
  cases hb:K_ j i
  ·rfl
  ·exact absurd (N_ hb) hji
 simp only[hb,hun,hre,hj,E_A,H_,d_,V_]at h1;refine⟨h1.1,?_⟩;rcases h1.2 with(h2|h2)|h2
 ·exact .inl h2
 ·refine .inr (.inl fun hm=>?_)
  have:=List.any_eq_false.1 h2 j hm;simp at this
 ·exact .inr (.inr h2)
def AB(l:List Nat)(i:Nat):Bool:=l.any (K_ i)
theorem gz(h:AB l i=true):i∈l:=by
 obtain⟨x,hx,he⟩:=List.any_eq_true.1 h;rw[N_ he];exact hx
def J7(l:List Nat)(i:Nat):Bool:=match l with|[x]=>K_ x i|_=>false
theorem Js(h:J7 l i=true):l=[i]:=by
 unfold J7 at h
 split at h
 ·rw[N_ h]
 ·cases h
def rF:ey->List Nat
 |.op i _ _ _ _=>[i]
 |.alt p q=>rF p++rF q
 |_=>[]
def ge(dr:Bool)(listed:Array Bool)(i:Nat):Array Bool:=match dr with|true=>listed.setIfInBounds i true|false=>listed
def jZ(dr:Bool)(P:D_)(ops:Array Oper)(ns:List Nat)(N:Nat)(ds:List Nat)(fuel:Nat)(listed:Array Bool)(i:Nat):Bool:=
 match ops[i]? with
 |some o=>uT N ds o&&(aT P o.op).isSome&&(match dr with
  |true=>AB (M_ .any ops listed) i&&CJ .any ops ns false listed i
  |false=>K_ (i+fuel) ops.size)
 |none=>false
def yP(dr:Bool)(P:D_)(ops:Array Oper)(ns:List Nat)(N:Nat)(ds:List Nat)(g:Nat)(want:Bool):Nat->Nat->Nat->Array Bool->(Nat->Array Bool->Bool)->Bool
 |_,0,fuel,listed,k=>k fuel listed
 |i,n+1,fuel,listed,k=>
  jZ dr P ops ns N ds fuel listed i&&
  (match ops[i]? with
   |some o=>(match o.guard with|some (j,wt)=>(match(ops[j]?).bind (·.dst)with|some t=>K_ t g|none=>false)&&(wt==want)|none=>false)&&
    (match o.dst with|some d=>!K_ d g|none=>true)
   |none=>false)&&
  (match fuel with|0=>false|f+1=>yP dr P ops ns N ds g want (i+1) n f (ge dr listed i) k)
def CS(x:G_)(b:Bool):Bool:=match x with|.const (.bool c)=>c==b|_=>false
def K6(ops:Array Oper)(g:Nat)(want:Bool)(i:Nat):Bool:=
 match ops[i]? with
 |some o=>(match o.guard with|none=>true|some _=>false)&&(match o.op with
  |.pick (.tmp c) x y=>K_ c g&&(match want with|true=>CS y false|false=>CS x true)
  |_=>false)
 |none=>false
def cE(dr:Bool)(P:D_)(ops:Array Oper)(ns:List Nat)(N:Nat)(ds:List Nat):Bool->ey->Nat->Array Bool->Bool
 |sub,.done,fuel,listed=>!sub&&(match dr with
  |true=>(match M_ .any ops listed with|[]=>true|_=>false)
  |false=>K_ fuel 0)
 |sub,.op i loc pn fl p,fuel,listed=>match fuel,ops[i]? with
  |fuel+1,some o=>uT N ds o&&(match dr with
    |true=>AB (M_ .any ops listed) i&&(AB ns i||F8 P loc fl o)&&
     (sub||J7 (M_ .any ops listed) i||((aT P o.op).isSome&&CJ .any ops ns false listed i))
    |false=>!sub&&K_ (i+(fuel+1)) ops.size)&&
    cE dr P ops ns N ds false p fuel (ge dr listed i)
  |_,_=>false
 |sub,.split t p,fuel,listed=>!sub&&cE dr P ops ns N ds false p fuel listed
 |sub,.gand g want i n p,fuel,listed=>!sub&&K6 ops g want (i+n)&&
   yP dr P ops ns N ds g want i n fuel listed fun fuel listed=>jZ dr P ops ns N ds fuel listed (i+n)&&(match fuel with|0=>false|f+1=>cE dr P ops ns N ds false p f (ge dr listed (i+n)))
 |sub,.alt p q,fuel,listed=>dr&&(sub||((M_ .any ops listed).all (AB (rF (.alt p q)))&&!(M_ .any ops listed).isEmpty))&&cE dr P ops ns N ds true p fuel listed&&cE dr P ops ns N ds true q fuel listed
 |sub,.ldl i p,fuel,listed=>match fuel,ops[i]? with
  |fuel+1,some o=>!sub&&dr&&uT N ds o&&(aT P o.op).isSome&&AB (M_ .any ops listed) i&&CJ .any ops ns true listed i&&cE dr P ops ns N ds false p fuel (ge dr listed i)
  |_,_=>false
def G(r:Option Nat)(dr:Bool)(P:D_)(ops:Array Oper)(Q:Exit->Act->A_->Prop)(ns B:List Nat)(fuel:Nat)(listed:Array Bool)(a:Act)(w:A_):Prop:=
 match dr with
 |true=>HJ r P .any ops Q ns B fuel listed a w
 |false=>sV r P ops Q (List.range' (ops.size-fuel) fuel) a w
def Cl(dr:Bool)(ops:Array Oper)(listed:Array Bool):Prop:=match dr with|true=>iH .any ops listed|false=>True
theorem CH{dr:Bool}{ns:List Nat}{fuel:Nat}{listed:Array Bool}{o:Oper}{a:Act}(hs:o_ ops=true)
 (hQ:∀c a d v w,(∀t,d=some t->t∈ds)->Q (.panic c) (Act.put a d v) w->Q (.panic c) a w)(hi:ops[i]?=some o)(hok:jZ dr P ops ns N ds (fuel+1) listed i=true)(hc:Cl dr ops listed)(hy:df P ops B false w o v a)
 (h:G r dr P ops Q ns B fuel (ge dr listed i) (a.put o.dst v) w):G r dr P ops Q ns B (fuel+1) listed a w/\Cl dr ops (ge dr listed i):=by
 simp only[jZ,hi,H_]at hok;cases dr with
 |true=>
  simp only[H_]at hok;have hr:i∈M_ .any ops listed:=gz hok.2.1;exact⟨Ed hi (F_A hs) (fun c a w=>hQ c _ _ _ w (E3 hok.1.1)) fuel listed a w hc (Ce hi hok.2.2) hr hy h,iH.set hc hr⟩
 |false=>
  have e:=N_ hok.2;refine⟨?_,trivial⟩;simp only[G];rw[G_A,Ai,show ops.size-(fuel+1)=i by omega,show i+1=ops.size-fuel by omega]
  exact hy.wpOp hi h
theorem Hc{dr:Bool}{ns:List Nat}{fuel:Nat}{listed:Array Bool}(hok:jZ dr P ops ns N ds fuel listed i=true)(hc:Cl dr ops listed):Cl dr ops (ge dr listed i):=by
 unfold jZ at hok
 split at hok<;>try cases hok
 cases dr with
 |true=>
  simp only[H_]at hok;exact iH.set hc (gz hok.2.1)
 |false=>trivial
structure jt(D:List Nat)(a b:Act):Prop where
 size:a.tmps.size=b.tmps.size
 tmps:∀t,t∉D->a.tmps.getD t undef=b.tmps.getD t undef
theorem jt.put{D:List Nat}{a b:Act}(h:jt D a b){d:Option Tmp}{u:B_}(hd:∀t,d=some t->t<a.tmps.size):jt (D++d.toList) (a.put d u) (b.put d v):=by
 cases d with
 |none=>simpa[Act.put]using h
 |some d=>
  have h1:=hd d rfl;have h2:d<b.tmps.size:=h.size▸h1;refine⟨by simp[Act.put,h.size],fun t ht=>?_⟩
  simp at ht;rw[Act.getD_put t h1,Act.getD_put t h2,if_neg ht.2,if_neg ht.2];exact h.tmps t ht.1
theorem aZ.out{s:St}{D:List Nat}{a b:Act}(h:aZ s b w wa)(ho:jt D a b):aZ (s.del D) a w wa:=by
 refine⟨⟨fun t x hx=>?_,fun t k off hx=>?_,fun t k n hx=>?_,h.ag.lok,h.ag.dok⟩,h.dirty,h.clean⟩
 ·obtain⟨h1,h2⟩:=St.del_some hx
  rw[ho.tmps t h2];exact h.ag.v _ _ h1
 ·obtain⟨h1,h2⟩:=St.del_some hx
  rw[ho.tmps t h2];exact h.ag.loc _ _ _ h1
 ·obtain⟨h1,h2⟩:=St.del_some hx
  rw[ho.tmps t h2];exact h.ag.lsl _ _ _ h1
theorem rV{dr:Bool}{ns B:List Nat}{N:Nat}{ds:List Nat}{g:Nat}{want b:Bool}(hs:o_ ops=true)(hQ:∀c a d v w,(∀t,d=some t->t∈ds)->Q (.panic c) (Act.put a d v) w->Q (.panic c) a w){wa:A_}
  {k:Nat->Array Bool->Bool}{KB:St->A_->Prop}{a0:Act}{s0:St}{D0:List Nat}
  (cont:∀fuel listed D a at' s w,k fuel listed=true->Cl dr ops listed->aZ s at' w wa->jt D a at'->(b=want->a=at')->a.tmps[g]?=some (.bool b)->Fr ds a0 a->bW s0 s->KB s w->(∀t,t∈D->t∈D0)->
   G r dr P ops Q ns B fuel listed a wa):
  ∀(n i fuel:Nat) (listed:Array Bool) (D:List Nat) (a at':Act) (s:St) (w:A_),yP dr P ops ns N ds g want i n fuel listed k=true->Cl dr ops listed->aZ s at' w wa->jt D a at'->
   (b=want->a=at')->a.tmps[g]?=some (.bool b)->a.tmps.size=N->Fr ds a0 a->bW s0 s->(∀t,t∈D->t∈D0)->(∀t,t∈jp ops i n->t∈D0)->yO P ops i n s w KB->G r dr P ops Q ns B fuel listed a wa
 |0,i,fuel,listed,D,a,at',s,w,hok,hc,hg,ho,hab,hgv,hN,hfr,hlf,hD,_,h=>cont _ _ _ _ _ _ _ hok hc hg ho hab hgv hfr hlf h hD
 |n+1,i,fuel,listed,D,a,at',s,w,hok,hc,hg,ho,hab,hgv,hN,hfr,hlf,hD,hD2,h=>by
  simp only[yP,H_]at hok;obtain⟨⟨htk,hgd⟩,hrest⟩:=hok;simp only[yO]at h
  split at h<;>try exact h.elim
  rename_i o hi
  split at h<;>try exact h.elim
  rename_i ins hins;simp only[hi]at hgd;obtain⟨v,e,s1,w1,hr,hg1,he,hlf1,hk⟩:=kg hins hg h;cases fuel with
  |zero=>cases hrest
  |succ fuel=>
   simp only at hrest;have htk0:=htk;simp only[jZ,hi,H_]at htk;have hdst:=lB htk.1.1 hN;have hdst':∀t,o.dst=some t->t<at'.tmps.size:=fun t ht=>ho.size▸(hdst t ht).2;have hwant:O_ o (yielded ops a.tmps)=(b==want):=by
    simp only[H_]at hgd;unfold O_;cases hgu:o.guard with
    |none=>rw[hgu]at hgd;simp at hgd
    |some jw=>
     obtain⟨j,wt⟩:=jw;rw[hgu]at hgd;simp only[H_]at hgd;have hwt:wt=want:=by simpa using hgd.1.2
     have hj:=hgd.1.1;cases hb:(ops[j]?).bind (·.dst)with
     |none=>rw[hb]at hj;cases hj
     |some t=>
      rw[hb]at hj;have ht:=N_ hj;subst ht;simp[yielded,hb,hgv,hwt]
   have hne:∀t,o.dst=some t->t≠g:=by
    intro t ht e;simp only[H_,ht]at hgd;rw[e]at hgd;simp at hgd
   have hgput:∀u,(a.put o.dst u).tmps[g]?=some (.bool b):=by
    intro u;cases hd:o.dst with
    |none=>exact hgv
    |some d=>simp only[Act.put];rw[Array.getElem?_setIfInBounds_ne (hne d hd)];exact hgv
   have hDt:∀t,o.dst=some t->t∈jp ops i (n+1):=by
    intro t ht;simp[jp,hi,ht]
   have hDr:∀t,t∈jp ops (i+1) n->t∈jp ops i (n+1):=by
    intro t ht;simp only[jp,hi];cases hd:o.dst<;>simp[hd,ht]
   have hDo:∀t,t∈D++o.dst.toList->t∈D0:=by
    intro t ht;rcases List.mem_append.1 ht with h1|h1
    ·exact hD t h1
    ·exact hD2 t (hDt t (by simpa using h1))
   have hgood':aZ (s1.put o.dst e) (at'.put o.dst v) w1 wa:=hg1.put (fun t ht=>hdst' t ht) he;by_cases hbw:b=want
   ·have haa:=hab hbw
    subst haa;have hy:df P ops B false wa o v a:=.inl ⟨by rw[hwant];simp[hbw],fun wx hwx=>hr wx (hwx.imp id fun h=>h.elim id fun h=>by cases h.1)⟩
    refine(CH hs hQ hi htk0 hc hy ?_).1;exact rV hs hQ cont n (i+1) fuel (ge dr listed i) (D++o.dst.toList) (a.put o.dst v) (a.put o.dst v) (s1.put o.dst e) w1 hrest (Hc htk0 hc) hgood' ⟨rfl,fun _ _=>rfl⟩ (fun _=>rfl) (hgput v)
     (by have:=(Fr.put (ds:=ds) v hdst).size;rw[this];exact hN) (hfr.trans (Fr.put v hdst)) (hlf.trans (hlf1.trans (bW.put _ _ _))) hDo (fun t ht=>hD2 t (hDr t ht)) hk
   ·have hy:df P ops B false wa o undef a:=.inr ⟨by rw[hwant];cases b<;>cases want<;>simp_all,rfl⟩
    refine(CH hs hQ hi htk0 hc hy ?_).1;exact rV hs hQ cont n (i+1) fuel (ge dr listed i) (D++o.dst.toList) (a.put o.dst undef) (at'.put o.dst v) (s1.put o.dst e) w1 hrest (Hc htk0 hc) hgood' (ho.put (fun t ht=>(hdst t ht).2)) (fun hb=>absurd hb hbw) (hgput undef)
     (by have:=(Fr.put (ds:=ds) undef hdst).size;rw[this];exact hN) (hfr.trans (Fr.put undef hdst)) (hlf.trans (hlf1.trans (bW.put _ _ _))) hDo (fun t ht=>hD2 t (hDr t ht)) hk
end
section
variable {r : Option Nat} {P : D_} {ops : Array Oper} {Q : Exit -> Act -> A_ -> Prop} {X : List PanicEntry -> A_ -> Prop}
theorem jt.mono{D E:List Nat}{a b:Act}(h:jt D a b)(hs:∀t,t∈D->t∈E):jt E a b:=⟨h.size,fun t ht=>h.tmps t (fun hm=>ht (hs t hm))⟩
theorem zY{x:G_}{b:Bool}(h:CS x b=true)(a:Act):a.eval x=.bool b:=by
 unfold CS at h
 split at h
 ·rename_i c
  have:c=b:=by simpa using h
  subst this;rfl
 ·cases h
theorem Nc{a:Act}{t:Nat}{b:Bool}(h:a.tmps.getD t undef=.bool b):a.tmps[t]?=some (.bool b):=by
 rw[n_]at h;cases hx:a.tmps[t]? with
 |none=>rw[hx]at h;simp[undef]at h
 |some y=>rw[hx]at h;simpa using h
theorem aZ.set_same{s:St}{a:Act}{t:Nat}{x:B_}(h:aZ s a w wa)(hx:a.tmps.getD t undef=x):aZ (s.set t (some (.v x))) a w wa:=by
 have key:∀u y,(s.set t (some (.v x))).ρ u=some y->(u=t/\y=.v x)\/s.ρ u=some y:=by
  intro u y hu;simp only[St.set,oa]at hu;by_cases hut:u=t
  ·simp only[hut,decide_true,cond_true]at hu;cases hu;exact .inl ⟨hut,rfl⟩
  ·simp only[hut,decide_false,cond_false]at hu;exact .inr hu
 refine⟨⟨fun u y hu=>?_,fun u k off hu=>?_,fun u k n hu=>?_,h.ag.lok,h.ag.dok⟩,h.dirty,h.clean⟩
 ·rcases key _ _ hu with⟨h1,h2⟩|h1
  ·cases h2;rw[h1];exact hx
  ·exact h.ag.v _ _ h1
 ·rcases key _ _ hu with⟨h1,h2⟩|h1
  ·cases h2
  ·exact h.ag.loc _ _ _ h1
 ·rcases key _ _ hu with⟨h1,h2⟩|h1
  ·cases h2
  ·exact h.ag.lsl _ _ _ h1
theorem B3{cs:List B_}{fr:Nat×Nat}(h:w.heap[b]?=some (.cells cs.toArray e fr)):w.cell? ⟨b,off,none⟩=cs[off]?:=by
 simp[A_.cell?,h]
theorem Mn{s0 s s':St}{a a':Act}{wa':A_}(hB':∀b,b∈B->∃k cs,k∈s0.ro/\(k,b,cs)∈s0.l)(h0:bW s0 s)(hg:aZ s a w wa)(h1:bW s s')(hg':aZ s' a' w' wa'):fS B wa wa':=by
 intro b hb off v hv;obtain⟨k,cs0,hk,hm0⟩:=hB' b hb;obtain⟨cs1,hm1,_⟩:=h0.2 k b cs0 hm0;obtain⟨cs2,hm2,he⟩:=h1.2 k b cs1 hm1;have he:=he (by rw[h0.1.1];exact hk)
 subst he;obtain⟨_,e1,hb1⟩:=hg.ag.lok.at_ _ _ _ hm1;obtain⟨_,e2,hb2⟩:=hg'.ag.lok.at_ _ _ _ hm2;rw[B3 hb1]at hv;rw[B3 hb2];exact hv
theorem dI{dr:Bool}{ns B rl:List Nat}{N:Nat}{ds:List Nat}(hs:o_ ops=true)(hQ:∀c a d v w,(∀t,d=some t->t∈ds)->Q (.panic c) (Act.put a d v) w->Q (.panic c) a w)
  {a0:Act}{s0:St}{K:St->A_->Prop}(hX:∀ch w a,Fr ds a0 a->dJ s0.kp w->X ch w->Q (.panic ch) a w)(hfin:∀s a w wa,Fr ds a0 a->aZ s a w wa->bW s0 s->K s w->Q .normal a wa)
  (hB:∀k,k∈rl->∃b cs,(k,b,cs)∈s0.l/\b∈B)(hB':∀b,b∈B->∃k cs,k∈s0.ro/\(k,b,cs)∈s0.l):
  ∀(p:ey) (fuel:Nat) (listed:Array Bool) (a:Act) (s:St) (w wa:A_),Cl dr ops listed->aZ s a w wa->Fr ds a0 a->bW s0 s->a.tmps.size=N->fO P X ops rl p s w K->
   (cE dr P ops ns N ds false p fuel listed=true->G r dr P ops Q ns B fuel listed a wa)/\
   (cE dr P ops ns N ds true p fuel listed=true->dr=true->∀i∈rF p,i∈M_ .any ops listed->0<fuel/\
    fC r P ops Q i (fun a' w'=>(i∉ns->aU wa w')/\fS B wa w'/\HJ r P .any ops Q ns B (fuel-1) (listed.setIfInBounds i true) a' w') a wa)
 |.done,fuel,listed,a,s,w,wa,hc,hg,hfr,hlf,hN,h=>by
  refine⟨fun hok=>?_,fun hok=>by simp[cE]at hok⟩
  have hq:=hfin s a w wa hfr hg hlf h;simp only[cE,h_,a_]at hok;cases dr with
  |true=>
   simp only at hok;have hr:M_ .any ops listed=[]:=by
    split at hok
    ·assumption
    ·cases hok
   cases fuel with
   |zero=>exact⟨hr,hq⟩
   |succ f=>exact⟨fun _=>hq,by rw[hr];simp⟩
  |false=>
   have:=N_ hok;subst this;simpa[G,sV]using hq
 |.op i loc pn fl p,fuel,listed,a,s,w,wa,hc,hg,hfr,hlf,hN,h=>by
  simp only[fO]at h
  split at h<;>try exact h.elim
  rename_i o hi;have run:∀sub f,fuel=f+1->cE dr P ops ns N ds sub (.op i loc pn fl p) fuel listed=true->Cl dr ops (ge dr listed i)->
    (dr=true->(F8 P loc fl o=true\/i∈ns))->
    fC r P ops Q i (fun a' w'=>(dr=true->i∉ns->aU wa w')/\fS B wa w'/\G r dr P ops Q ns B f (ge dr listed i) a' w') a wa:=by
   intro sub f hf hok hc' hkp;subst hf;simp only[cE,hi,H_]at hok;have hdst:=lB hok.1.1 hN;refine gu (fun a' w' h2=>?_) (JT (Q:=Q) hi hg (fun ch w hd hx=>hX ch w a hfr (hlf.1.2▸hd) hx) h);obtain⟨hk,v,e,s',w'',rfl,hg',he,hl',hK⟩:=h2;refine⟨fun hd hns=>?_,?_⟩
   ·rcases hkp hd with h3|h3
    ·exact hk h3
    ·exact absurd h3 hns
   ·have hput:=Fr.put (ds:=ds) (a:=a) v hdst
    refine⟨Mn hB' hlf hg hl' hg',?_⟩;exact(dI hs hQ hX hfin hB hB' p f (ge dr listed i) _ _ _ _ hc' (hg'.put (fun t ht=>(hdst t ht).2) he) (hfr.trans hput) (hlf.trans (hl'.trans (bW.put _ _ _))) (by rw[hput.size];exact hN) hK).1 hok.2
  constructor
  ·intro hok
   cases fuel with
   |zero=>simp[cE]at hok
   |succ f=>
    have hok0:=hok;simp only[cE,hi,H_]at hok;have hdst:=lB hok.1.1 hN;cases dr with
    |false=>
     simp only[H_]at hok;have e:=N_ hok.1.2.2;have:=run false f rfl hok0 trivial (fun hd=>by cases hd)
     simp only[G]at this⊢;rw[G_A,Ai,show ops.size-(f+1)=i by omega,show i+1=ops.size-f by omega]
     exact gu (fun a' w' h2=>h2.2.2) this
    |true=>
     simp only[H_,d_]at hok;have hr:i∈M_ .any ops listed:=gz hok.1.2.1.1;have hc':Cl true ops (ge true listed i):=iH.set hc hr;rcases hok.1.2.2 with(h1|h1)|h1
     ·cases h1
     ·have h1:=Js h1
      have:=run false f rfl hok0 hc' (fun _=>hok.1.2.1.2.elim (fun h2=>.inr (gz h2)) .inl);refine⟨fun h0=>(by rw[h1]at h0;cases h0),fun j hj=>?_⟩
      rw[h1]at hj;obtain rfl:j=i:=by simpa using hj
      exact gu (fun a' w' h2=>⟨fun hns=>h2.1 rfl hns,h2.2⟩) this
     ·obtain⟨v,e,s',w',hy,hg',he,hl',hK⟩:=JX hg h1.1 h
      have htk:jZ true P ops ns N ds (f+1) listed i=true:=by
       simp only[jZ,hi,H_];exact⟨⟨hok.1.1,h1.1⟩,hok.1.2.1.1,h1.2⟩
      refine(CH hs hQ hi htk hc hy ?_).1;have hput:=Fr.put (ds:=ds) (a:=a) v hdst;exact(dI hs hQ hX hfin hB hB' p f (ge true listed i) _ _ _ _ hc' (hg'.put (fun t ht=>(hdst t ht).2) he) (hfr.trans hput) (hlf.trans (hl'.trans (bW.put _ _ _))) (by rw[hput.size];exact hN) hK).1 hok.2
  ·intro hok hd j hj hr
   subst hd;simp only[rF,v_]at hj;subst hj;cases fuel with
   |zero=>simp[cE]at hok
   |succ f=>
    have hok0:=hok;simp only[cE,hi,H_,d_]at hok;have hc':Cl true ops (ge true listed j):=iH.set hc hr;refine⟨by omega,?_⟩
    have:=run true f rfl hok0 hc' (fun _=>hok.1.2.1.2.elim (fun h2=>.inr (gz h2)) .inl);exact gu (fun a' w' h2=>⟨fun hns=>h2.1 rfl hns,h2.2⟩) this
 |.split t p,fuel,listed,a,s,w,wa,hc,hg,hfr,hlf,hN,h=>by
  refine⟨fun hok=>?_,fun hok=>by simp[cE]at hok⟩
  simp only[cE,h_,a_]at hok;simp only[fO]at h
  split at h<;>try exact h.elim
  case h_2=>exact(dI hs hQ hX hfin hB hB' p fuel listed a _ w wa hc hg hfr hlf hN h).1 hok
  rename_i b hb;have hv:=hg.ag.v _ _ hb;rcases pV h with⟨rfl,h⟩|⟨rfl,h⟩
  ·exact(dI hs hQ hX hfin hB hB' p fuel listed a _ w wa hc (hg.set_same hv) hfr (hlf.trans (bW.set _ _ _)) hN h).1 hok
  ·exact(dI hs hQ hX hfin hB hB' p fuel listed a _ w wa hc (hg.set_same hv) hfr (hlf.trans (bW.set _ _ _)) hN h).1 hok
 |.gand g want i n p,fuel,listed,a,s,w,wa,hc,hg,hfr,hlf,hN,h=>by
  refine⟨fun hok=>?_,fun hok=>by simp[cE]at hok⟩
  simp only[fO]at h
  split at h<;>try exact h.elim
  rename_i o hi
  split at h<;>try exact h.elim
  rename_i c x y hop
  split at h<;>try exact h.elim
  rename_i b hb;simp only[cE,h_,a_,H_]at hok;obtain⟨hpk,htk⟩:=hok;simp only[K6,hi,hop,H_]at hpk;obtain⟨hpg,hpk⟩:=hpk;have hgn:o.guard=none:=by
   cases hgu:o.guard with
   |none=>rfl
   |some _=>rw[hgu]at hpg;cases hpg
  have hgv:=Nc (hg.ag.v _ _ hb);refine rV (dr:=dr) (N:=N) (g:=g) (want:=want) (b:=b) (D0:=jp ops i n) hs hQ (a0:=a0) (s0:=s0) (KB:=_) ?_ n i fuel listed [] a a s w htk hc hg ⟨rfl,fun _ _=>rfl⟩ (fun _=>rfl) hgv hN hfr hlf (fun t ht=>by cases ht) (fun t ht=>ht) h
  intro fuel listed D a' at' s' w' hk hc' hg' ho' hab hgv' hfr' hlf' hKB hD;simp only[H_]at hk;obtain⟨htk2,hrest⟩:=hk
  split at hKB<;>try exact hKB.elim
  rename_i v hv;cases fuel with
  |zero=>cases hrest
  |succ f=>
   simp only at hrest;have hN':a'.tmps.size=N:=by rw[hfr'.size,<-hfr.size];exact hN
   have htk3:=htk2;simp only[jZ,hi,H_]at htk3;have hdst:=lB htk3.1.1 hN';have hval:a'.eval c=.bool b/\(if b then a'.eval x else a'.eval y)=.bool (vv want b v):=by
    cases c with
    |tmp ct=>
     simp only[H_]at hpk;have hct:=N_ hpk.1;subst hct;refine⟨by simp[Act.eval,hgv'],?_⟩
     cases want with
     |true=>
      cases b with
      |true=>rw[hab rfl];simpa[vv]using hg'.ag.ev hv
      |false=>simpa[vv]using zY hpk.2 a'
     |false=>
      cases b with
      |true=>simpa[vv]using zY hpk.2 a'
      |false=>rw[hab rfl];simpa[vv]using hg'.ag.ev hv
    |const _=>simp at hpk
    |global _=>simp at hpk
    |func _=>simp at hpk
   have hy:df P ops B false wa o (.bool (vv want b v)) a':=by
    refine .inl ⟨by simp[O_,hgn],fun wx _=>?_⟩
    simp only[execOp,hop,hval.1,asBool,I_,L_,J_];rw[<-hval.2]
   refine(CH hs hQ hi htk2 hc' hy ?_).1;have hgo:aZ (s'.del (jp ops i n)) a' w' wa:=hg'.out (ho'.mono hD);have hput:=Fr.put (ds:=ds) (a:=a') (.bool (vv want b v)) hdst;exact(dI hs hQ hX hfin hB hB' p f (ge dr listed (i+n)) _ _ _ _ (Hc htk2 hc') (hgo.put (fun t ht=>(hdst t ht).2) (e:=some (.v (.bool (vv want b v)))) rfl) (hfr'.trans hput) (hlf'.trans ((bW.del _ _).trans (bW.put _ _ _))) (by rw[hput.size];exact hN') hKB).1 hrest
 |.alt p q,fuel,listed,a,s,w,wa,hc,hg,hfr,hlf,hN,h=>by
  have sub:cE dr P ops ns N ds true p fuel listed=true->cE dr P ops ns N ds true q fuel listed=true->dr=true->∀i∈rF (.alt p q),i∈M_ .any ops listed->0<fuel/\
    fC r P ops Q i (fun a' w'=>(i∉ns->aU wa w')/\fS B wa w'/\HJ r P .any ops Q ns B (fuel-1) (listed.setIfInBounds i true) a' w') a wa:=by
   intro h1 h2 hd i hi hr;simp only[rF,List.mem_append]at hi;rcases hi with hi|hi
   ·exact(dI hs hQ hX hfin hB hB' p fuel listed a s w wa hc hg hfr hlf hN h.1).2 h1 hd i hi hr
   ·exact(dI hs hQ hX hfin hB hB' q fuel listed a s w wa hc hg hfr hlf hN h.2).2 h2 hd i hi hr
  constructor
  ·intro hok
   simp only[cE,H_,E_A]at hok;obtain⟨⟨⟨hd,hall,hne0⟩,h1⟩,h2⟩:=hok;subst hd;have hne:M_ .any ops listed≠[]:=by
    intro h0;rw[h0]at hne0;cases hne0
   have hm:∀i∈M_ .any ops listed,i∈rF (.alt p q):=fun i hi=>gz (List.all_eq_true.1 hall i hi);cases hr:M_ .any ops listed with
   |nil=>exact absurd hr hne
   |cons j js=>
    obtain⟨hf,_⟩:=sub h1 h2 rfl j (hm j (by rw[hr];simp)) (by rw[hr];simp)
    cases fuel with
    |zero=>omega
    |succ f=>
     refine⟨fun h0=>absurd h0 hne,fun i hi=>?_⟩;have:=(sub h1 h2 rfl i (hm i hi) hi).2;simpa using this
  ·intro hok hd i hi hr
   simp only[cE,H_]at hok;exact sub hok.1.2 hok.2 hd i hi hr
 |.ldl i p,fuel,listed,a,s,w,wa,hc,hg,hfr,hlf,hN,h=>by
  refine⟨fun hok=>?_,fun hok=>(by
   simp only[cE]at hok
   split at hok
   ·simp at hok
   ·cases hok)⟩
  simp only[fO]at h
  split at h<;>try exact h.elim
  rename_i o hi
  split at h<;>try exact h.elim
  rename_i k hk
  split at h<;>try exact h.elim
  rename_i hrl;cases fuel with
  |zero=>simp[cE]at hok
  |succ f=>
   simp only[cE,hi,h_,a_,H_]at hok;obtain⟨⟨⟨⟨⟨hdr,hd⟩,hcomp⟩,hrd⟩,hfree⟩,hrest⟩:=hok;subst hdr;have hdst:=lB hd hN;have hBk:∀b cs,(k,b,cs)∈s.l->b∈B:=by
    intro b cs hm;obtain⟨b0,cs0,hm0,hb0⟩:=hB k (gz hrl);obtain⟨cs1,hm1,_⟩:=hlf.2 k b0 cs0 hm0;have e1:=cH hg.ag.lok.keys hm1;have e2:=cH hg.ag.lok.keys hm;rw[e1]at e2;cases e2;exact hb0
   obtain⟨v,e,s',w',hy,hg',he,hl',hK⟩:=It (B:=B) hg hk hcomp hBk h;have hr:=gz hrd;have hput:=Fr.put (ds:=ds) (a:=a) v hdst;refine Ed hi (F_A hs) (fun c a w=>hQ c _ _ _ w (E3 hd)) f listed a wa hc (Ce hi hfree) hr hy ?_;have hc':Cl true ops (ge true listed i):=iH.set hc hr;exact(dI hs hQ hX hfin hB hB' p f (ge true listed i) _ _ _ _ hc' (hg'.put (fun t ht=>(hdst t ht).2) he) (hfr.trans hput) (hlf.trans (hl'.trans (bW.put _ _ _))) (by rw[hput.size];exact hN) hK).1 hrest
end
end Go.Vc
