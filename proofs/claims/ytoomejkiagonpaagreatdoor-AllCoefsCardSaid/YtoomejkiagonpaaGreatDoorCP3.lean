/- A calculus of conditions over codes, part 4: codes, loops, functions. -/
import Derived.RecoverIn
import Derived.Test.YtoomejkiagonpaaGreatDoorProg
import Derived.Test.YtoomejkiagonpaaGreatDoorCP2
set_option linter.unusedVariables false
set_option linter.unusedSimpArgs false
set_option maxRecDepth 100000
open Go renaming World->A_,Value->B_,Ending->C_,Program->D_
open Go.Fence renaming wide->E_
open Bool renaming and_eq_true->F_,not_eq_true'->H_
open Nat renaming beq->G_,eq_of_beq_eq_true->I_,blt->U_,ble->Y_,le_of_ble_eq_true->Z_,blt_eq->d_
open Go.Result renaming andThen_ok->J_
open Array renaming replicate->K_,getElem?_toList->X_,getElem?_replicate->h_,getD_eq_getD_getElem?->j_,getElem?_append_left->k_,mapM_eq_mapM_toList->l_,length_toList->n_
open List renaming nil_append->L_,mem_cons_of_mem->Q_,append_assoc->R_,mem_append->S_,mem_cons->W_,mem_cons_self->a_,map_cons->b_,mem_filter->c_,range_eq_range'->e_,nodup_cons->g_,mapM_cons->i_,range'_succ->m_
open Go.Value renaming func->M_
open Go.Sem renaming run_pure->N_,run_bind->T_
open Option renaming map_eq_some_iff->O_
open Go.Region renaming wanted->P_,noSelect->f_
open Option.some renaming injEq->V_
namespace Go.Vc
open Go.RowKit
variable {w w' wa : A_} {R : C_ -> A_ -> Prop} {k : Nat} {vs : List B_} {v : B_} {ds : List Nat}
inductive LV
 |slot (t:Nat) (sc:Sc)
 |loc (k:Nat) (scs:List Sc)
 |nloc (k:Nat) (scs:List Sc)
def Sc.fits:Sc->B_->Bool
 |.int k,.int k' _=>decide (k=k')
 |.bool,.bool _=>true
 |.str,.string _=>true
 |.ptr,.pointer _=>true
 |.slice,.slice _ _ _=>true
 |.map,.map _=>true
 |.fn,.func (.func _) _ _=>true
 |.any,_=>true
 |_,_=>false
def uq:List Sc->List B_->Bool
 |[],[]=>true
 |s::l,v::vs=>s.fits v&&uq l vs
 |_,_=>false
def wO:List Sc->(List B_->Prop)->Prop
 |[],F=>F []
 |s::l,F=>s.all fun v=>wO l fun vs=>F (v::vs)
theorem Sc.all_inst{s:Sc}{F:B_->Prop}(hf:s.fits v=true)(h:s.all F):F v:=by
 cases s<;>cases v<;>simp[Sc.fits]at hf<;>simp only[Sc.all]at h<;>first|exact h _|exact h _ _ _|(subst hf;exact h _)|(rename_i f _ _;cases f<;>simp at hf;exact h _ _ _)
theorem xS:∀{l:List Sc} {vs:List B_} {F:List B_->Prop},uq l vs=true->wO l F->F vs
 |[],[],_,_,h=>h
 |s::l,v::vs,F,hf,h=>by
  simp only[uq,F_]at hf;exact xS (F:=fun vs=>F (v::vs)) hf.2 (Sc.all_inst hf.1 h)
def Sh.all:Sh->(B_->Prop)->Prop
 |.sc s,K=>s.all K
 |.agg l,K=>wO l fun vs=>K (.agg vs.toArray)
 |.row n,K=>∀vs:List B_,vs.length=n->K (.agg vs.toArray)
def xw:List Sh->(List B_->Prop)->Prop
 |[],F=>F []
 |s::l,F=>s.all fun v=>xw l fun vs=>F (v::vs)
def MI(b:Nat):B_:=.pointer (some ⟨b,0,none⟩)
def dl(s:St):List LV->Option (List B_)
 |[]=>some []
 |.slot t sc::r=>match s.ρ t,dl s r with
  |some (.v v),some vs=>match sc.fits v with|true=>some (v::vs)|false=>none
  |_,_=>none
 |.loc k scs::r=>match fu k s.l,dl s r with
  |some (_,cs),some vs=>match uq scs cs with|true=>some (cs++vs)|false=>none
  |_,_=>none
 |.nloc k scs::r=>match s.ρ k with
  |some (.loc k' 0)=>match G_ k k' with
   |true=>match fu k s.l,dl s r with
    |some (b,cs),some vs=>match uq scs cs with|true=>some (MI b::(cs++vs))|false=>none
    |_,_=>none
   |false=>none
  |_=>none
def jv(F:List B_->St->Prop):List LV->List B_->St->Prop
 |[],acc,s=>F acc s
 |.slot t sc::r,acc,s=>sc.all fun v=>jv F r (acc++[v]) (s.set t (some (.v v)))
 |.loc k scs::r,acc,s=>wO scs fun cs=>jv F r (acc++cs) {s with l:=change k (fun _=>cs) s.l}
 |.nloc k scs::r,acc,s=>match fu k s.l with
  |none=>∀b:Nat,wO scs fun cs=>jv F r (acc++MI b::cs) ({s with l:=(k,b,cs)::s.l}.set k (some (.loc k 0)))
  |some _=>False
def cr:List LV->List Nat
 |[]=>[]
 |.slot _ _::r=>cr r
 |.loc k _::r=>k::cr r
 |.nloc k _::r=>k::cr r
def eH(l:List (Nat×Nat×List B_)):List Nat:=l.map (·.1)
inductive AC
 |skip|ret|exit
 |reg (p:ey)
 |regR (rl:List Nat) (p:ey)
 |seq (a b:AC)
 |cut (lv:List LV) (a b:AC)
 |cond (a b:AC)
 |block (a:AC)
 |bcut (lv:List LV) (a:AC)
 |loop (lv:List LV) (a:AC)
 |rfunc (pn:Bool) (lv:List LV) (shs:List Sh) (a b:AC)
 |dfr (a:AC)
def eU(ops:Array Oper):List Nat:=ops.toList.filterMap (·.dst)
def dv:Code->List Nat
 |.region _ ops _=>eU ops
 |.seq a b=>dv a++dv b
 |.cond _ a b=>dv a++dv b
 |.block _ a=>dv a
 |.loop a=>dv a
 |.scope a=>dv a
 |_=>[]
def bB:Code->Bool
 |.seq a b=>bB a||bB b
 |.cond _ a b=>bB a||bB b
 |.block _ a=>bB a
 |.loop a=>bB a
 |.scope a=>bB a
 |.rangeFunc _ _ _ _=>true
 |_=>false
def iI(bd:List Nat):Code->List Exit
 |.seq a b=>iI bd a++iI bd b
 |.cond _ a b=>iI bd a++iI bd b
 |.block i a=>iI (i::bd) a
 |.loop a=>iI bd a
 |.scope a=>iI bd a
 |.exit i=>bif bd.any (G_ i)then[]else[.exit i]
 |.ret=>[.ret]
 |_=>[]
def He:List Exit->(Exit->Prop)->Prop
 |[],_=>False
 |[e],F=>F e
 |e::r,F=>F e\/He r F
def tq:List Exit->List Exit
 |[]=>[]
 |.ret::r=>.ret::(tq r).filter fun e=>match e with|.ret=>false|_=>true
 |.exit i::r=>.exit i::(tq r).filter fun e=>match e with|.exit j=>!G_ i j|_=>true
 |_::r=>tq r
def rG(F:List B_->St->Prop):List LV->List B_->St->Prop
 |[],acc,s=>F acc s
 |.loc k scs::r,acc,s=>GD scs fun cs=>rG F r (acc++cs) {s with l:=change k (fun _=>cs) s.l}
 |_,_,_=>False
def fL:List LV->Bool
 |[]=>true
 |.loc _ _::r=>fL r
 |_=>false
def iW:List Nat->List B_->St->St
 |p::ps,v::vs,s=>iW ps vs (s.set p (some (.v v)))
 |_,_,s=>s
structure Rf(w w1:A_)(L:Nat):Prop where
 ext:Ext w w1
 eq:L=w.heap.size+1
 size:w1.heap.size=w.heap.size+2
def St.withKp(s:St)(kp:List (Nat×Obj)):St:={s with kp:=kp}
def bK:Obj:=.deferred (some [])
def EL:List PanicEntry->A_->Prop:=fun _ _=>False
def St.withRo(s:St)(ro:List Nat):St:={s with ro:=ro}
def rh(next:St->A_->Prop)(Q:Exit->St->A_->Prop):Exit->St->A_->Prop
 |.normal,s,w=>next s w
 |e,s,w=>Q e s w
def CR(id:Nat)(Q:Exit->St->A_->Prop):Exit->St->A_->Prop
 |.exit id',s,w=>match G_ id' id with|true=>Q .normal s w|false=>Q (.exit id') s w
 |e,s,w=>Q e s w
def qU(dr:Bool)(s:St)(w:A_):A_:=match dr,s.dirty with|true,false=>w.drew|_,_=>w
def fW(s:St)(lv:List LV):List Nat:=s.ro++(eH s.l).filter fun k=>!(cr lv).any (G_ k)
def pM(s:St)(lv:List LV)(F:List B_->Prop):Prop:=match dl s lv with|some vs=>F vs|none=>False
def Lk(lv:List LV)(L:Nat)(J:List B_->A_->Prop)(Z:Exit->List B_->A_->Prop)(R:C_->A_->Prop):Exit->St->A_->Prop
 |.normal,s,w=>sync s w fun w=>pM s lv fun vs=>∀w',dP L w w'->J vs w'->R (.returned (.bool true)) w'
 |.ret,s,w=>sync s w fun w=>pM s lv fun vs=>∀w',dP L w w'->Z .ret vs w'->R (.returned (.bool false)) w'
 |.exit i,s,w=>sync s w fun w=>pM s lv fun vs=>∀w',dP L w w'->Z (.exit i) vs w'->R (.returned (.bool false)) w'
 |_,_,_=>False
def Gu(pn:Bool)(lv:List LV)(L:Nat)(kp:List (Nat×Obj))(J:List B_->A_->Prop)(Z:Exit->List B_->A_->Prop)(es:List Exit)(s:St)(w1:A_)(X:List PanicEntry->A_->Prop)(Q:Exit->St->A_->Prop)(e:C_)(w':A_):Prop:=
 match pn with
 |false=>∃v,e=.returned v/\((rG (fun vs s'=>J vs w'/\∀w'',dP L w' w''->Q .normal (s'.withKp kp) w'') lv [] s.clean)\/
   He es fun x=>rG (fun vs s'=>Z x vs w'/\∀w'',dP L w' w''->Q x (s'.withKp kp) w'') lv [] s.clean)
 |true=>(∃v,e=.returned v/\((rG (fun vs s'=>J vs w'/\∀w'',dP L w' w''->Q .normal (s'.withKp kp) w'') lv [] s.clean)\/
   He es fun x=>rG (fun vs s'=>Z x vs w'/\∀w'',dP L w' w''->Q x (s'.withKp kp) w'') lv [] s.clean))\/
  ∃ch,e=.panicked ch/\ao (kp.map (·.1)) w1 w'/\iV (kp.map (·.1)) w' (X ch)
def vc(P:D_)(X:List PanicEntry->A_->Prop):AC->Code->St->A_->(Exit->St->A_->Prop)->Prop
 |.skip,.skip,s,w,Q=>Q .normal s w
 |.ret,.ret,s,w,Q=>Q .ret s w
 |.exit,.exit id,s,w,Q=>Q (.exit id) s w
 |.reg p,.region _ ops dr,s,w,Q=>fO P (fun ch w=>iV (s.kp.map (·.1)) w (X ch)) ops [] p s (qU dr s w) fun s' w'=>Q .normal s' w'
 |.regR rl p,.region _ ops dr,s,w,Q=>match rl.all fun k=>(fu k s.l).isSome with
  |true=>fO P (fun ch w=>iV (s.kp.map (·.1)) w (X ch)) ops rl p (s.withRo (rl++s.ro)) (qU dr s w) fun s' w'=>Q .normal (s'.withRo s.ro) w'
  |false=>False
 |.seq a b,.seq x y,s,w,Q=>vc P X a x s w (rh (fun s' w'=>vc P X b y s' w' Q) Q)
 |.cut lv a b,.seq x y,s,w,Q=>∃R:List B_->A_->Prop,
   vc P X a x (s.withRo (fW s lv)) w (rh (fun s' w'=>sync s' w' fun w'=>pM s' lv fun vs=>R vs w') fun e s' w'=>Q e (s'.withRo s.ro) w')/\
   jv (fun vs s'=>∀w',R vs w'->vc P X b y s' w' Q) lv [] (s.del (dv x)).clean
 |.cond a b,.cond c x y,s,w,Q=>match s.ev c with
  |some (.bool t)=>ae t (vc P X a x s w Q) (vc P X b y s w Q)
  |_=>False
 |.block a,.block id x,s,w,Q=>vc P X a x s w (CR id Q)
 |.bcut lv a,.block id x,s,w,Q=>∃R:List B_->A_->Prop,
   vc P X a x (s.withRo (fW s lv)) w (CR id (rh (fun s' w'=>sync s' w' fun w'=>pM s' lv fun vs=>R vs w') fun e s' w'=>Q e (s'.withRo s.ro) w'))/\
   jv (fun vs s'=>∀w',R vs w'->Q .normal s' w') lv [] (s.del (dv x)).clean
 |.loop lv a,.loop x,s,w,Q=>∃(I:List B_->A_->Prop) (μ:List B_->A_->Nat),
   (sync s w fun w'=>pM s lv fun vs=>I vs w')/\
   jv (fun vs s'=>∀w',I vs w'->vc P X a x (s'.withRo (fW s lv)) w'
    (rh (fun s'' w''=>sync s'' w'' fun w''=>pM s'' lv fun vs'=>I vs' w''/\μ vs' w''<μ vs w') fun e s'' w''=>Q e (s''.withRo s.ro) w'')) lv [] (s.del (dv x)).clean
 |.rfunc pn lv shs a b,.rangeFunc g ps x y,s,w,Q=>match s.ev g with
  |some gv=>sync s w fun w=>pM s lv fun vs0=>∀(L:Nat) (w1:A_),Rf w w1 L->∀(J:List B_->A_->Prop) (Z:Exit->List B_->A_->Prop),
    (∀vs W W',J vs W->ao (L::w.heap.size::(s.kp.map (·.1)++am s.l)) W W'->J vs W')->
    (∀e vs W W',Z e vs W->ao (L::w.heap.size::(s.kp.map (·.1)++am s.l)) W W'->Z e vs W')->
    J vs0 w1->
    jv (fun vs s'=>xw shs fun args=>∀(W:A_) (R:C_->A_->Prop),J vs W->
     (∀oL oB:Obj,vc P EL a x ((iW ps.toList args s').withKp ((L,oL)::(w.heap.size,bK)::s.kp)) W
      (rh (fun s2 w2=>sync s2 w2 fun w2=>∀w3,dP L w2 w3->vc P EL b y (s2.clean.withKp ((L,oB)::(w.heap.size,bK)::s.kp)) w3 (Lk lv L J Z R)) (fun _ _ _=>False)))->
     YieldAt E_ 0 P L args.toArray W R) lv [] (s.clean.withRo (fW s lv))->
    rC P gv [.func (.yield L) #[] #[]] w1 (Gu pn lv L ((w.heap.size,bK)::s.kp) J Z (tq (iI [] y)) s w1 X Q)
  |none=>False
 |_,_,_,_,_=>False
def sv(P:D_)(ops:Array Oper):ey->List Nat
 |.done=>[]
 |.op i loc _ fl p=>match ops[i]? with
  |some o=>match F8 P loc fl o with|true=>sv P ops p|false=>i::sv P ops p
  |none=>sv P ops p
 |.split _ p=>sv P ops p
 |.ldl _ p=>sv P ops p
 |.gand _ _ _ _ p=>sv P ops p
 |.alt p q=>sv P ops p++sv P ops q
def uO(ops:Array Oper):Bool:=ops.toList.all fun o=>match o.op with|.defer _=>false|_=>true
def iE(P:D_)(N:Nat):AC->Code->Bool
 |.skip,.skip=>true
 |.ret,.ret=>true
 |.exit,.exit _=>true
 |.reg p,.region _ ops dr=>(uO ops&&f_ ops)&&cE dr P ops (sv P ops p) N (eU ops) false p ops.size (match dr with|true=>K_ ops.size false|false=>#[])
 |.regR _ p,.region _ ops dr=>(uO ops&&f_ ops)&&cE dr P ops (sv P ops p) N (eU ops) false p ops.size (match dr with|true=>K_ ops.size false|false=>#[])
 |.seq a b,.seq x y=>iE P N a x&&iE P N b y
 |.cut _ a b,.seq x y=>iE P N a x&&iE P N b y&&!bB x
 |.cond a b,.cond _ x y=>iE P N a x&&iE P N b y
 |.block a,.block _ x=>iE P N a x
 |.bcut _ a,.block _ x=>iE P N a x&&!bB x
 |.loop _ a,.loop x=>iE P N a x&&!bB x
 |.rfunc _ lv shs a b,.rangeFunc _ ps x y=>iE P N a x&&iE P N b y&&(fL lv&&G_ ps.size shs.length&&!bB x&&!bB y&&ps.toList.all fun p=>U_ p N)
 |_,_=>false
structure kZ(M:List Nat)(s:St)(a:Act)(lc:List (Nat×Nat×List B_)):Prop where
 v:∀t x,s.ρ t=some (.v x)->a.tmps.getD t undef=x
 loc:∀t k off,s.ρ t=some (.loc k off)->∃b cs,(k,b,cs)∈s.l/\a.tmps.getD t undef=.pointer (some ⟨b,off,none⟩)
 lsl:∀t k n,s.ρ t=some (.lsl k n)->∃b cs,(k,b,cs)∈s.l/\a.tmps.getD t undef=.slice (some ⟨b,0,none⟩) n n
 l:∀k b cs,(k,b,cs)∈s.l->∃cs',(k,b,cs')∈lc/\(k∉M->cs'=cs)
 keys:(eH s.l).Nodup
 blks:(am s.l).Nodup
theorem kZ.good{s:St}{a:Act}{lc:List (Nat×Nat×List B_)}(h:kZ [] s a lc)(hl:qa lc wa)(hd:s.dirty=false)(hk:dJ s.kp wa):aZ s a wa wa:=by
 refine⟨⟨h.v,h.loc,h.lsl,⟨fun k b cs hm=>?_,h.keys,h.blks⟩,hk⟩,fun hx=>(by rw[hd]at hx;cases hx),fun _=>rfl⟩
 obtain⟨cs',h1,h2⟩:=h.l k b cs hm;have:=h2 (by simp)
 subst this;exact hl.at_ _ _ _ h1
theorem Li{l:List (Nat×Nat×List B_)}(h:fu k l=none)(hn:(eH l).Nodup):∀b cs,(k,b,cs)∉l:=fun b cs hm=>by
 rw[cH hn hm]at h;cases h
theorem oZ{sc:St}{a:Act}{wa:A_}(hsc:bQ sc a wa){F:List B_->St->Prop}:∀(lv:List LV) (acc vs:List B_) (s:St),jv F lv acc s->dl sc lv=some vs->kZ (cr lv) s a sc.l->
  ∃s',F (acc++vs) s'/\kZ [] s' a sc.l/\s'.dirty=s.dirty/\(s'.ro=s.ro/\s'.kp=s.kp)/\∀k b cs,(k,b,cs)∈s.l->∃cs',(k,b,cs')∈s'.l/\(k∉cr lv->cs'=cs)
 |[],acc,vs,s,h,hg,hp=>by
  simp only[dl,V_]at hg;subst hg;exact⟨s,by rw[List.append_nil];exact h,hp,rfl,⟨rfl,rfl⟩,fun k b cs hm=>⟨cs,hm,fun _=>rfl⟩⟩
 |.slot t ty::r,acc,vs,s,h,hg,hp=>by
  simp only[dl]at hg
  split at hg<;>try cases hg
  rename_i v vs' hv hr
  split at hg<;>cases hg
  rename_i hf;have h1:=Sc.all_inst hf h;have hp':kZ (cr r) (s.set t (some (.v v))) a sc.l:=by
   have key:∀u y,(s.set t (some (.v v))).ρ u=some y->(u=t/\y=.v v)\/s.ρ u=some y:=by
    intro u y hu;simp only[St.set,oa]at hu;by_cases hut:u=t
    ·simp only[hut,decide_true,cond_true]at hu;cases hu;exact .inl ⟨hut,rfl⟩
    ·simp only[hut,decide_false,cond_false]at hu;exact .inr hu
   refine⟨fun u y hu=>?_,fun u k off hu=>?_,fun u k n hu=>?_,hp.l,hp.keys,hp.blks⟩
   ·rcases key _ _ hu with⟨e1,e2⟩|e1
    ·cases e2;rw[e1];exact hsc.v _ _ hv
    ·exact hp.v _ _ e1
   ·rcases key _ _ hu with⟨e1,e2⟩|e1
    ·cases e2
    ·exact hp.loc _ _ _ e1
   ·rcases key _ _ hu with⟨e1,e2⟩|e1
    ·cases e2
    ·exact hp.lsl _ _ _ e1
  obtain⟨s',h2,h3,h4,h5,h6⟩:=oZ hsc r (acc++[v]) vs' _ h1 hr hp';exact⟨s',by simpa using h2,h3,h4,h5,h6⟩
 |.loc k scs::r,acc,vs,s,h,hg,hp=>by
  simp only[dl]at hg
  split at hg<;>try cases hg
  rename_i b0 cs vs' hv hr
  split at hg<;>cases hg
  rename_i hf;have h1:=xS hf h;have hm0:=pm hv;obtain⟨hk1,hk2⟩:=mP s.l k (fun _=>cs);have hp':kZ (cr r) {s with l:=change k (fun _=>cs) s.l} a sc.l:=by
   refine⟨hp.v,fun t k' off ht=>?_,fun t k' n ht=>?_,fun k' b cs' hm=>?_,?_,?_⟩
   ·obtain⟨b,c1,hm,he⟩:=hp.loc t k' off ht
    obtain⟨c2,h2⟩:=iy (k:=k) (f:=fun _=>cs) hm;exact⟨b,c2,h2,he⟩
   ·obtain⟨b,c1,hm,he⟩:=hp.lsl t k' n ht
    obtain⟨c2,h2⟩:=iy (k:=k) (f:=fun _=>cs) hm;exact⟨b,c2,h2,he⟩
   ·rcases ou hp.keys hm with⟨hne,h2⟩|⟨rfl,c0,h2,rfl⟩
    ·obtain⟨c2,h3,h4⟩:=hp.l k' b cs' h2
     exact⟨c2,h3,fun hn=>h4 (by simp[cr,hne];exact hn)⟩
    ·obtain⟨c2,h3,h4⟩:=hp.l k' b c0 h2
     have:=eJ hsc.lok.keys h3 hm0 rfl;cases this;exact⟨_,h3,fun _=>rfl⟩
   ·show(eH (change k (fun _=>cs) s.l)).Nodup
    unfold eH;rw[hk1];exact hp.keys
   ·show(am (change k (fun _=>cs) s.l)).Nodup
    rw[hk2];exact hp.blks
  obtain⟨s',h2,h3,h4,h5,h6⟩:=oZ hsc r (acc++cs) vs' _ h1 hr hp';refine⟨s',by simpa using h2,h3,h4,h5,fun k' b c hm=>?_⟩
  obtain⟨c1,h7,h8⟩:=mS (k:=k) (f:=fun _=>cs) hm;obtain⟨c2,h9,h10⟩:=h6 k' b c1 h7;refine⟨c2,h9,fun hn=>?_⟩;simp only[cr,W_,not_or]at hn;exact(h10 hn.2).trans (h8 hn.1)
 |.nloc k scs::r,acc,vs,s,h,hg,hp=>by
  simp only[dl]at hg
  split at hg<;>try cases hg
  rename_i k' hkk
  split at hg<;>try cases hg
  rename_i hbeq;obtain rfl:k=k':=I_ hbeq
  split at hg<;>try cases hg
  rename_i b0 cs vs' hv hr
  split at hg<;>cases hg
  rename_i hf;simp only[jv]at h
  split at h<;>try exact h.elim
  rename_i hnone;have h1:=xS hf (h b0);have hm0:=pm hv;have habs:=Li hnone hp.keys;have hp':kZ (cr r) ({s with l:=(k,b0,cs)::s.l}.set k (some (.loc k 0))) a sc.l:=by
   have key:∀u y,({s with l:=(k,b0,cs)::s.l}.set k (some (.loc k 0))).ρ u=some y->(u=k/\y=.loc k 0)\/s.ρ u=some y:=by
    intro u y hu;simp only[St.set,oa]at hu;by_cases hut:u=k
    ·simp only[hut,decide_true,cond_true]at hu;cases hu;exact .inl ⟨hut,rfl⟩
    ·simp only[hut,decide_false,cond_false]at hu;exact .inr hu
   refine⟨fun t x ht=>?_,fun t k' off ht=>?_,fun t k' n ht=>?_,fun k' b cs' hm=>?_,?_,?_⟩
   ·rcases key _ _ ht with⟨e1,e2⟩|e1
    ·cases e2
    ·exact hp.v _ _ e1
   ·rcases key _ _ ht with⟨e1,e2⟩|e1
    ·cases e2
     obtain⟨b,c1,hm,he⟩:=hsc.loc _ _ _ hkk;have:=eJ hsc.lok.keys hm hm0 rfl;cases this;exact⟨b0,cs,a_ ..,by rw[e1];exact he⟩
    ·obtain⟨b,c1,hm,he⟩:=hp.loc t k' off e1;exact⟨b,c1,Q_ _ hm,he⟩
   ·rcases key _ _ ht with⟨e1,e2⟩|e1
    ·cases e2
    ·obtain⟨b,c1,hm,he⟩:=hp.lsl t k' n e1;exact⟨b,c1,Q_ _ hm,he⟩
   ·rcases W_.1 hm with h2|h2
    ·cases h2;exact⟨_,hm0,fun _=>rfl⟩
    ·obtain⟨c2,h3,h4⟩:=hp.l k' b cs' h2
     refine⟨c2,h3,fun hn=>h4 ?_⟩;simp only[cr,W_,not_or];exact⟨fun e=>habs _ _ (e▸h2),hn⟩
   ·show(eH ((k,b0,cs)::s.l)).Nodup
    simp only[eH,b_,g_];refine⟨fun hm=>?_,hp.keys⟩;obtain⟨⟨k',b',c'⟩,hx,he⟩:=List.mem_map.1 hm;simp only at he;subst he;exact habs _ _ hx
   ·show(am ((k,b0,cs)::s.l)).Nodup
    simp only[am,b_,g_];refine⟨fun hm=>?_,hp.blks⟩;obtain⟨⟨k',b',c'⟩,hx,he⟩:=List.mem_map.1 hm;simp only at he;subst he;obtain⟨c2,h3,_⟩:=hp.l _ _ _ hx;have:=pC hsc.lok.blks h3 hm0 rfl;cases this;exact habs _ _ hx
  obtain⟨s',h2,h3,h4,h5,h6⟩:=oZ hsc r (acc++MI b0::cs) vs' _ h1 hr hp';refine⟨s',by simpa using h2,h3,h4,h5,fun k' b c hm=>?_⟩
  obtain⟨c2,h9,h10⟩:=h6 k' b c (Q_ _ hm);refine⟨c2,h9,fun hn=>h10 ?_⟩;simp only[cr,W_,not_or]at hn;exact hn.2
theorem CA{ops:Array Oper}(h:uO ops=true):yN ops:=by
 intro i o ho c hc;simp only[uO,List.all_eq_true]at h;have:=h o (by rw[<-X_]at ho;exact List.mem_of_getElem? ho)
 rw[hc]at this;cases this
theorem Is{r:Option Nat}{P:D_}{Q:Exit->Act->A_->Prop}{a:Act}{c:Code}(J:Nat->Act->A_->Prop)(n₀:Nat)(h₀:J n₀ a w)
 (round:∀n a w,J n a w->c.wpIn (fR r) 0 P (Exit.then (fun a' w'=>∃m,m<n/\J m a' w') Q) a w):(Code.loop c).wpIn (fR r) 0 P Q a w:=by
 intro b k cs hro hb hr;have key:∀n a w,J n a w->∃e a' w',Q e a' w'/\ArrivesIn (Machine.fenced P (fR r)) P (lone (b.atR a (.code c::.inLoop c::k)) cs w) b k cs e a' w':=by
  intro n
  induction n using Nat.strongRecOn with
  |_ n ih=>
   intro a w hI;obtain⟨e,a₁,w₁,hq,harr⟩:=round n a w hI b (.inLoop c::k) cs hro hb hr;cases e with
   |normal=>
    obtain⟨m,hlt,hI₁⟩:=hq;obtain⟨e₂,a₂,w₂,hq₂,harr₂⟩:=ih m hlt a₁ w₁ hI₁;exact⟨e₂,a₂,w₂,hq₂,.of_steps (StepsIn.trans harr (.one (fenced_calm hb hr rfl) stepR_inLoop)) harr₂⟩
   |exit id=>exact⟨_,a₁,w₁,hq,.pass (x:=.inLoop c) rfl (fun _ _=>.inl (by simp)) harr⟩
   |goto l=>exact⟨_,a₁,w₁,hq,.pass (x:=.inLoop c) rfl (fun _ _=>.inl (by simp)) harr⟩
   |ret=>exact⟨_,a₁,w₁,hq,.pass (x:=.inLoop c) rfl (fun _ _=>.inl (by simp)) harr⟩
   |panic ch=>exact⟨_,a₁,w₁,hq,.pass (x:=.inLoop c) rfl (fun _ _=>.inl (by simp)) harr⟩
   |outgrown=>exact⟨_,a₁,w₁,hq,.pass (x:=.inLoop c) rfl (fun _ _=>.inl (by simp)) harr⟩
 obtain⟨e,a',w',hq,harr⟩:=key n₀ a w h₀;exact⟨e,a',w',hq,.of_steps (.one (fenced_calm hb hr rfl) stepR_loop) harr⟩
structure jn(ds:List Nat)(a a':Act):Prop where
 size:a'.tmps.size=a.tmps.size
 tmps:∀t,t∉ds->a'.tmps.getD t undef=a.tmps.getD t undef
theorem Fr.c{a a':Act}(h:Fr ds a a'):jn ds a a':=⟨h.size,h.tmps⟩
theorem jn.refl(ds:List Nat)(a:Act):jn ds a a:=⟨rfl,fun _ _=>rfl⟩
theorem jn.trans{a b c:Act}(h:jn ds a b)(k:jn ds b c):jn ds a c:=
 ⟨k.size.trans h.size,fun t ht=>(k.tmps t ht).trans (h.tmps t ht)⟩
theorem jn.mono{es:List Nat}{a b:Act}(h:jn ds a b)(hs:∀t,t∈ds->t∈es):jn es a b:=
 ⟨h.size,fun t ht=>h.tmps t (fun hm=>ht (hs t hm))⟩
theorem jn.unput{a a':Act}{d:Option Tmp}(h:jn ds a (a'.put d v))(hd:∀t,d=some t->t∈ds):jn ds a a':=by
 cases d with
 |none=>exact h
 |some d=>
  refine⟨by simpa[Act.put]using h.size,fun t ht=>?_⟩
  have hne:d≠t:=fun e=>ht (e▸hd d rfl);rw[<-h.tmps t ht];simp[Act.put,Array.getElem?_setIfInBounds_ne hne]
def eE(s s':St):Prop:=s'.ro=s.ro/\∀k b cs,(k,b,cs)∈s.l->∃cs',(k,b,cs')∈s'.l/\(k∈s.ro->cs'=cs)
theorem bW.c{s s':St}(h:bW s s'):eE s s':=⟨h.1.1,h.2⟩
theorem eE.refl(s:St):eE s s:=⟨rfl,fun k b cs h=>⟨cs,h,fun _=>rfl⟩⟩
theorem eE.trans{s t u:St}(h:eE s t)(k:eE t u):eE s u:=
 ⟨k.1.trans h.1,fun x b cs hm=>by
  obtain⟨c1,h1,e1⟩:=h.2 x b cs hm;obtain⟨c2,h2,e2⟩:=k.2 x b c1 h1;exact⟨c2,h2,fun hr=>(e2 (h.1▸hr)).trans (e1 hr)⟩⟩
theorem eE.of_eq{s s':St}(h1:s'.l=s.l)(h2:s'.ro=s.ro):eE s s':=⟨h2,fun k b cs h=>⟨cs,h1▸h,fun _=>rfl⟩⟩
def lg(x:Nat×Obj):Deferred:={target:=.collected x.1,args:=#[]}
def om(kpx:List (Nat×Obj))(a0 a:Act):Prop:=(∀x,x∈kpx->x.2=bK)/\a.defers=kpx.map lg++a0.defers
theorem om.refl(a:Act):om [] a a:=⟨(fun _ h=>by cases h),rfl⟩
theorem om.trans{k1 k2:List (Nat×Obj)}{a b c:Act}(h:om k1 a b)(k:om k2 b c):om (k2++k1) a c:=
 ⟨fun x hx=>(S_.1 hx).elim (k.1 x) (h.1 x),by rw[k.2,h.2,List.map_append,R_]⟩
def fD(ds:List Nat)(nr:Bool)(a0:Act)(s0:St)(X:List PanicEntry->A_->Prop)(Q:Exit->St->A_->Prop)(e:Exit)(a:Act)(wa:A_):Prop:=
 (∃ch kpx,e=.panic ch/\jn ds a0 a/\(nr=true->kpx=[])/\om kpx a0 a/\dJ (kpx++s0.kp) wa/\iV ((kpx++s0.kp).map (·.1)) wa (X ch))\/
 ((∀ch,e≠.panic ch)/\e≠.outgrown/\jn ds a0 a/\∃s' w' kpx,(nr=true->kpx=[])/\om kpx a0 a/\s'.kp=kpx++s0.kp/\aZ s' a w' wa/\eE s0 s'/\Q e s' w')
theorem aZ.withRo{s:St}{a:Act}(h:aZ s a w wa)(ro:List Nat):aZ (s.withRo ro) a w wa:=⟨⟨h.ag.v,h.ag.loc,h.ag.lsl,h.ag.lok,h.ag.dok⟩,h.dirty,h.clean⟩
theorem sG{s s1:St}{lv:List LV}(h:eE (s.withRo (fW s lv)) s1):eE s (s1.withRo s.ro):=
 ⟨rfl,fun k b cs hm=>by
  obtain⟨c,h1,h2⟩:=h.2 k b cs hm;exact⟨c,h1,fun hr=>h2 (by simp only[St.withRo,fW,S_];exact .inl hr)⟩⟩
theorem vC{s s1:St}{lv:List LV}{a a1:Act}(hg:aZ s a w wa)(hf:jn ds a a1)(hl:eE (s.withRo (fW s lv)) s1):
  kZ (cr lv) (s.del ds).clean a1 s1.l:=by
 refine⟨fun t x hx=>?_,fun t k off hx=>?_,fun t k n hx=>?_,fun k b cs hm=>?_,hg.ag.lok.keys,hg.ag.lok.blks⟩
 ·obtain⟨h1,h2⟩:=St.del_some (s:=s) hx
  rw[hf.tmps t h2];exact hg.ag.v _ _ h1
 ·obtain⟨h1,h2⟩:=St.del_some (s:=s) hx
  rw[hf.tmps t h2];exact hg.ag.loc _ _ _ h1
 ·obtain⟨h1,h2⟩:=St.del_some (s:=s) hx
  rw[hf.tmps t h2];exact hg.ag.lsl _ _ _ h1
 ·obtain⟨c,h1,h2⟩:=hl.2 k b cs hm
  refine⟨c,h1,fun hn=>h2 ?_⟩;simp only[St.withRo,fW,S_,c_];refine .inr ⟨List.mem_map.2 ⟨(k,b,cs),hm,rfl⟩,?_⟩;cases hb:(cr lv).any (G_ k)
  ·rfl
  ·obtain⟨x,hx,he⟩:=List.any_eq_true.1 hb
   exact absurd (I_ he▸hx) hn
theorem ig{s:St}{lv:List LV}{F:List B_->Prop}(h:pM s lv F):∃vs,dl s lv=some vs/\F vs:=by
 unfold pM at h
 split at h
 ·exact⟨_,‹_›,h⟩
 ·exact h.elim
theorem BC{s s1 s':St}{lv:List LV}{a1:Act}(hl:eE (s.withRo (fW s lv)) s1)(hk:qa s1.l wa)(hp:kZ [] s' a1 s1.l)(hro:s'.ro=(s.del ds).clean.ro)
 (h6:∀k b cs,(k,b,cs)∈(s.del ds).clean.l->∃cs',(k,b,cs')∈s'.l/\(k∉cr lv->cs'=cs)):eE s s':=
 ⟨hro,fun k b cs hm=>by
  obtain⟨c1,h1,_⟩:=h6 k b cs hm;refine⟨c1,h1,fun hr=>?_⟩;obtain⟨c2,h2,h3⟩:=hp.l k b c1 h1;have:=h3 (by simp)
  subst this;obtain⟨c3,h4,h5⟩:=hl.2 k b cs hm;have e1:=h5 (by simp only[St.withRo,fW,S_];exact .inl hr)
  subst e1;have:=eJ hk.keys h2 h4 rfl;cases this;rfl⟩
theorem jM{F:A_->Prop}:∀{l:List Nat} {w:A_},iV l w F->F w
 |[],_,h=>h
 |D::r,w,h=>jM (h w ⟨rfl,rfl,rfl,rfl,fun _ _=>rfl⟩)
theorem dP.putObj(L:Nat)(w:A_)(o:Obj):dP L w (w.putObj L o):=⟨rfl,rfl,rfl,by simp,fun k hk=>A_.putObj_heap_other hk⟩
theorem dP.locks{L:Nat}{l:List (Nat×Nat×List B_)}(hp:dP L w w')(h:qa l w){o:Obj}(hL:w.heap[L]?=some o)(ho:qW o=true):qa l w':=
 h.keep fun b hb hlt=>⟨by rw[hp.size];exact hlt,hp.block b fun e=>by
  subst e;obtain⟨⟨k,b,cs⟩,hm,rfl⟩:=List.mem_map.1 hb;obtain⟨_,e,he⟩:=h.at_ k b cs hm;rw[hL]at he;cases he;cases ho⟩
def GJ:List LV->List B_->St->St->Prop
 |[],vs,s,s'=>vs=[]/\s'=s
 |.loc k scs::r,vs,s,s'=>∃cs vs',vs=cs++vs'/\cs.length=scs.length/\GJ r vs' {s with l:=change k (fun _=>cs) s.l} s'
 |_,_,_,_=>False
theorem xl:∀{l:List Sc} {vs:List B_},uq l vs=true->vs.length=l.length
 |[],[],_=>rfl
 |s::l,v::vs,h=>by
  simp only[uq,F_]at h;simp[xl h.2]
theorem uv:∀{l:List Sc} {F:List B_->Prop},(∀vs,vs.length=l.length->F vs)->wO l F
 |[],F,h=>h [] rfl
 |s::l,F,h=>by
  have key:∀v,wO l fun vs=>F (v::vs):=fun v=>uv fun vs hv=>h (v::vs) (by simp[hv])
  cases s<;>simp only[wO,Sc.all]<;>intros<;>exact key _
theorem B7:∀{l:List Sh} {F:List B_->Prop},(∀vs,vs.length=l.length->F vs)->xw l F
 |[],F,h=>h [] rfl
 |s::l,F,h=>by
  have key:∀v,xw l fun vs=>F (v::vs):=fun v=>B7 fun vs hv=>h (v::vs) (by simp[hv])
  cases s with
  |sc s=>cases s<;>simp only[xw,Sh.all,Sc.all]<;>intros<;>exact key _
  |agg l=>simp only[xw,Sh.all];exact uv fun vs _=>key _
  |row n=>simp only[xw,Sh.all];exact fun vs _=>key _
theorem zR:∀{lv:List LV} {F:List B_->St->Prop} {acc:List B_} {s:St},fL lv=true->(∀vs s',GJ lv vs s s'->F (acc++vs) s')->jv F lv acc s
 |[],F,acc,s,_,h=>by simpa[jv]using h [] s ⟨rfl,rfl⟩
 |.loc k scs::r,F,acc,s,hl,h=>by
  simp only[jv];refine uv fun cs hcs=>zR hl fun vs s' hm=>?_;have:=h (cs++vs) s' ⟨cs,vs,rfl,hcs,hm⟩;rwa[<-R_]at this
 |.slot _ _::r,_,_,_,hl,_=>by simp[fL]at hl
 |.nloc _ _::r,_,_,_,hl,_=>by simp[fL]at hl
theorem xc:∀{lv:List LV} {F:List B_->St->Prop} {acc:List B_} {s:St},rG F lv acc s->∃vs s',GJ lv vs s s'/\F (acc++vs) s'
 |[],F,acc,s,h=>⟨[],s,⟨rfl,rfl⟩,by simpa[rG]using h⟩
 |.loc k scs::r,F,acc,s,h=>by
  simp only[rG]at h;obtain⟨cs,hcs,h⟩:=mH h;obtain⟨vs,s',hm,hf⟩:=xc h;exact⟨cs++vs,s',⟨cs,vs,rfl,hcs,hm⟩,by rwa[R_]at hf⟩
 |.slot _ _::r,_,_,_,h=>h.elim
 |.nloc _ _::r,_,_,_,h=>h.elim
theorem wK{a:Act}{sc:St}(hk:(eH sc.l).Nodup):∀{lv:List LV} {vs:List B_} {s s':St},GJ lv vs s s'->dl sc lv=some vs->kZ (cr lv) s a sc.l->
  kZ [] s' a sc.l/\s'.dirty=s.dirty/\s'.ro=s.ro/\s'.kp=s.kp/\s'.ρ=s.ρ/\∀k b cs,(k,b,cs)∈s.l->∃cs',(k,b,cs')∈s'.l/\(k∉cr lv->cs'=cs)
 |[],vs,s,s',hm,hg,hp=>by
  obtain⟨_,rfl⟩:=hm;exact⟨hp,rfl,rfl,rfl,rfl,fun k b cs h=>⟨cs,h,fun _=>rfl⟩⟩
 |.loc k scs::r,vs,s,s',hm,hg,hp=>by
  obtain⟨cs0,vs0,rfl,hlen,hm⟩:=hm;simp only[dl]at hg
  split at hg<;>try cases hg
  rename_i b0 cs vs' hv hr
  split at hg<;>try cases hg
  rename_i hf;simp only[V_]at hg;have hlc:=xl hf;obtain⟨rfl,rfl⟩:=List.append_inj hg (hlc.trans hlen.symm);have hm0:=pm hv;obtain⟨hk1,hk2⟩:=mP s.l k (fun _=>cs);have hp':kZ (cr r) {s with l:=change k (fun _=>cs) s.l} a sc.l:=by
   refine⟨hp.v,fun t k' off ht=>?_,fun t k' n ht=>?_,fun k' b cs' hm=>?_,?_,?_⟩
   ·obtain⟨b,c1,hm,he⟩:=hp.loc t k' off ht
    obtain⟨c2,h2⟩:=iy (k:=k) (f:=fun _=>cs) hm;exact⟨b,c2,h2,he⟩
   ·obtain⟨b,c1,hm,he⟩:=hp.lsl t k' n ht
    obtain⟨c2,h2⟩:=iy (k:=k) (f:=fun _=>cs) hm;exact⟨b,c2,h2,he⟩
   ·rcases ou hp.keys hm with⟨hne,h2⟩|⟨rfl,c0,h2,rfl⟩
    ·obtain⟨c2,h3,h4⟩:=hp.l k' b cs' h2
     exact⟨c2,h3,fun hn=>h4 (by simp[cr,hne];exact hn)⟩
    ·obtain⟨c2,h3,h4⟩:=hp.l k' b c0 h2
     have:=eJ hk h3 hm0 rfl;cases this;exact⟨_,h3,fun _=>rfl⟩
   ·show(eH (change k (fun _=>cs) s.l)).Nodup
    unfold eH;rw[hk1];exact hp.keys
   ·show(am (change k (fun _=>cs) s.l)).Nodup
    rw[hk2];exact hp.blks
  obtain⟨h3,h4,h5,h6,h7,h8⟩:=wK hk hm hr hp';refine⟨h3,h4,h5,h6,h7,fun k' b c hm=>?_⟩;obtain⟨c1,g7,g8⟩:=mS (k:=k) (f:=fun _=>cs) hm;obtain⟨c2,h9,h10⟩:=h8 k' b c1 g7;refine⟨c2,h9,fun hn=>?_⟩;simp only[cr,W_,not_or]at hn;exact(h10 hn.2).trans (g8 hn.1)
 |.slot _ _::r,_,_,_,hm,_,_=>hm.elim
 |.nloc _ _::r,_,_,_,hm,_,_=>hm.elim
def lr(l l2:List (Nat×Nat×List B_)):List (Nat×Nat×List B_):=l.map fun x=>(x.1,x.2.1,match fu x.1 l2 with|some (_,cs)=>cs|none=>x.2.2)
theorem Ix(l l2:List (Nat×Nat×List B_)):eH (lr l l2)=eH l/\am (lr l l2)=am l:=by
 constructor<;>simp[lr,eH,am,List.map_map,Function.comp_def]
theorem zW:∀{l l2:List (Nat×Nat×List B_)} {k b b' cs cs'},fu k l=some (b,cs)->fu k l2=some (b',cs')->fu k (lr l l2)=some (b,cs')
 |[],_,_,_,_,_,_,h,_=>by simp[fu]at h
 |(k0,b0,c0)::r,l2,k,b,b',cs,cs',h,h2=>by
  simp only[fu,lr,b_,oa]at h⊢;by_cases e:k=k0
  ·subst e
   simp only[decide_true,cond_true,V_,Prod.mk.injEq]at h⊢;rw[h2];exact⟨h.1,rfl⟩
  ·simp only[e,decide_false,cond_false]at h⊢
   exact zW (l:=r) h h2
theorem yk{s s3:St}(hl:∀k b cs,(k,b,cs)∈s.l->∃cs',(k,b,cs')∈s3.l)(hk:(eH s3.l).Nodup):∀{lv:List LV} {vs0 vs:List B_},fL lv=true->dl s lv=some vs0->dl s3 lv=some vs->
  dl {s with l:=lr s.l s3.l} lv=some vs
 |[],_,_,_,_,h=>by simpa[dl]using h
 |.loc k scs::r,vs0,vs,ho,h0,h=>by
  simp only[dl]at h0 h⊢
  split at h0<;>try cases h0
  rename_i b0 cs0 vs0' hv0 hr0
  split at h<;>try cases h
  rename_i b1 cs1 vs1' hv1 hr1
  split at h<;>cases h
  rename_i hf;rw[zW hv0 hv1,yk hl hk (show fL r=true from ho) hr0 hr1]
  simp[hf]
 |.slot _ _::r,_,_,ho,_,_=>by simp[fL]at ho
 |.nloc _ _::r,_,_,ho,_,_=>by simp[fL]at ho
def RJ(s:St)(lv:List LV)(L D:Nat)(rec:Loop)(vs:List B_)(W:A_):Prop:=
 W.heap[L]?=some (.loop rec)/\dJ ((D,bK)::s.kp) W/\∃l1:List (Nat×Nat×List B_),am l1=am s.l/\qa l1 W/\
  (∀k b cs,(k,b,cs)∈s.l->∃cs',(k,b,cs')∈l1/\(k∉cr lv\/k∈s.ro->cs'=cs))/\dl {s with l:=l1} lv=some vs
theorem RJ.keep{s:St}{lv:List LV}{L D:Nat}{rec:Loop}{W W':A_}(h:RJ s lv L D rec vs W)(hk:ao (L::D::(s.kp.map (·.1)++am s.l)) W W'):RJ s lv L D rec vs W':=by
 obtain⟨h1,h2,l1,h3,h4,h5,h6⟩:=h;refine⟨(hk L (by simp) (Array.getElem?_eq_some_iff.1 h1).1).2.trans h1,?_,l1,h3,h4.keep ?_,h5,h6⟩
 ·exact tL (bs:=am s.l) (fun b hb hlt=>hk b (by simp at hb⊢;rcases hb with hb|hb|hb<;>simp[hb]) hlt) h2
 ·rw[h3];exact fun b hb hlt=>hk b (by simp[hb]) hlt
def GF:Exit->Option Code
 |.ret=>some .ret
 |.exit i=>some (.exit i)
 |_=>none
theorem Ji:∀(ps:List Nat) (vs:List B_) (s:St),(iW ps vs s).l=s.l/\(iW ps vs s).ro=s.ro/\(iW ps vs s).kp=s.kp/\(iW ps vs s).dirty=s.dirty
 |[],vs,s=>by cases vs<;>exact⟨rfl,rfl,rfl,rfl⟩
 |p::ps,[],s=>⟨rfl,rfl,rfl,rfl⟩
 |p::ps,v::vs,s=>Ji ps vs (s.set p (some (.v v)))
theorem zQ{w:A_}:∀(ps:List Nat) (vs:List B_) (s:St) (a:Act),bQ s a w->(∀p,p∈ps->p<a.tmps.size)->bQ (iW ps vs s) {a with tmps:=(ps.zip vs).foldl (fun t x=>t.setIfInBounds x.1 x.2) a.tmps} w
 |[],vs,s,a,h,_=>by cases vs<;>exact h
 |p::ps,[],s,a,h,_=>h
 |p::ps,v::vs,s,a,h,hp=>by
  have h1:=h.set (d:=p) (e:=some (.v v)) (v:=v) (hp p (by simp)) rfl
  have:=zQ ps vs (s.set p (some (.v v))) (a.put (some p) v) h1 (fun q hq=>by simp[Act.put];exact hp q (by simp[hq]))
  exact this
theorem BX:∀(l:List (Nat×B_)) (t:Array B_),(l.foldl (fun t x=>t.setIfInBounds x.1 x.2) t).size=t.size
 |[],_=>rfl
 |x::l,t=>by rw[List.foldl_cons,BX l];simp
theorem Eh{F:Exit->Prop}:∀{es:List Exit},He es F->∃e,e∈es/\F e
 |[],h=>h.elim
 |[e],h=>⟨e,by simp,h⟩
 |e::f::r,h=>h.elim (fun h=>⟨e,by simp,h⟩) fun h=>by
  obtain⟨x,hx,hF⟩:=Eh (es:=f::r) h;exact⟨x,by simp at hx⊢;exact .inr hx,hF⟩
section
variable {P : D_} {N : Nat}
theorem rS{X:List PanicEntry->A_->Prop}{es fs:List Nat}{n1 n2 nr:Bool}{k1:List (Nat×Obj)}{a0 a1:Act}{s0 s1:St}{Q:Exit->St->A_->Prop}(hfr:jn ds a0 a1)(hl:eE s0 s1)(hm:om k1 a0 a1)(hk:s1.kp=k1++s0.kp)(hn1:n1=true->k1=[])
 (hn:nr=true->n1=true/\n2=true)(h1:∀t,t∈ds->t∈fs)(h2:∀t,t∈es->t∈fs)
 {e:Exit}{a:Act}(h:fD es n2 a1 s1 X Q e a w):fD fs nr a0 s0 X Q e a w:=by
 rcases h with⟨ch,k2,rfl,hfp,hn2,hm2,hk2,hx⟩|⟨hne,hno,hf,s',w',k2,hn2,hm2,hk2,hg,hl',hq⟩
 ·rw[hk,<-R_]at hk2 hx
  exact .inl ⟨ch,k2++k1,rfl,(hfr.mono h1).trans (hfp.mono h2),fun h=>by rw[hn2 (hn h).2,hn1 (hn h).1];rfl,hm.trans hm2,hk2,hx⟩
 ·rw[hk,<-R_]at hk2
  exact .inr ⟨hne,hno,(hfr.mono h1).trans (hf.mono h2),s',w',k2++k1,fun h=>by rw[hn2 (hn h).2,hn1 (hn h).1];rfl,hm.trans hm2,hk2,hg,hl.trans hl',hq⟩
theorem BJ{X:List PanicEntry->A_->Prop}{fs:List Nat}{nr mr:Bool}{a0:Act}{s0:St}{Q:Exit->St->A_->Prop}(h1:∀t,t∈ds->t∈fs)(hn:mr=true->nr=true)
 {e:Exit}{a:Act}(h:fD ds nr a0 s0 X Q e a w):fD fs mr a0 s0 X Q e a w:=
 rS (jn.refl ds a0) (eE.refl s0) (om.refl a0) rfl (n1:=true) (fun _=>rfl) (fun h=>⟨rfl,hn h⟩) h1 h1 h
theorem j8{e:Exit}{next:St->A_->Prop}{Q:Exit->St->A_->Prop}{s:St}(h:rh next Q e s w):(e=.normal/\next s w)\/(e≠.normal/\Q e s w):=by
 cases e<;>first|exact .inl ⟨rfl,h⟩|exact .inr ⟨by simp,h⟩
theorem nA{e:Exit}{next:Act->A_->Prop}{Q:Exit->Act->A_->Prop}{a:Act}(hne:e≠.normal)(h:Q e a w):Exit.then next Q e a w:=by
 cases e<;>first|exact absurd rfl hne|exact h
theorem dJ.tail{x:Nat×Obj}{kp:List (Nat×Obj)}(h:dJ (x::kp) w):dJ kp w:=⟨fun D o hm=>h.at_ D o (Q_ _ hm),(g_.1 h.nd).2⟩
theorem dJ.cons{D:Nat}{o:Obj}{kp:List (Nat×Obj)}(h:dJ kp w)(hD:w.heap[D]?=some o)(ho:qW o=true)(hn:D∉kp.map (·.1)):dJ ((D,o)::kp) w:=
 ⟨fun E p hm=>(W_.1 hm).elim (fun e=>by cases e;exact⟨hD,ho⟩) (h.at_ E p),g_.2 ⟨hn,h.nd⟩⟩
theorem dJ.put{L:Nat}{kp:List (Nat×Obj)}(h:dJ kp w)(hp:dP L w w')(hn:L∉kp.map (·.1)):dJ kp w':=
 ⟨fun D o hm=>⟨(hp.block D (fun e=>hn (List.mem_map.2 ⟨(D,o),hm,e⟩))).trans (h.at_ D o hm).1,(h.at_ D o hm).2⟩,h.nd⟩
theorem dJ.lt{kp:List (Nat×Obj)}(h:dJ kp w){D:Nat}(hD:D∈kp.map (·.1)):D<w.heap.size:=by
 obtain⟨⟨D',o⟩,hm,rfl⟩:=List.mem_map.1 hD;exact(Array.getElem?_eq_some_iff.1 (h.at_ D' o hm).1).1
theorem Ng{s s3:St}{a3:Act}{lv:List LV}{L D:Nat}{r0 r1:Loop}{vs0:List B_}{w3 wa3:A_}(hg3:aZ s3 a3 w3 wa3)(hs:qa s.l wa3\/(eH s.l).Nodup/\(am s.l).Nodup)(hL:wa3.heap[L]?=some (.loop r0))(hk:dJ ((D,bK)::s.kp) wa3)(hn:L∉D::s.kp.map (·.1))(hlo:fL lv=true)
 (h0:dl s lv=some vs0)(hrel:∀k b cs,(k,b,cs)∈s.l->∃cs',(k,b,cs')∈s3.l/\(k∉cr lv\/k∈s.ro->cs'=cs))(hvs:dl s3 lv=some vs):RJ s lv L D r1 vs (wa3.putObj L (.loop r1)):=by
 have hp:=dP.putObj L wa3 (.loop r1);have hkb:(eH s.l).Nodup/\(am s.l).Nodup:=hs.elim (fun h=>⟨h.keys,h.blks⟩) id;obtain⟨e1,e2⟩:=Ix s.l s3.l;have lookb:∀k b cs,(k,b,cs)∈s.l->∃c3,fu k s3.l=some (b,c3)/\(k,b,c3)∈s3.l/\(k∉cr lv\/k∈s.ro->c3=cs):=fun k b cs hm=>by
  obtain⟨c3,h3,h4⟩:=hrel k b cs hm;exact⟨c3,cH hg3.ag.lok.keys h3,h3,h4⟩
 have hok:qa (lr s.l s3.l) wa3:=by
  refine⟨fun k b cs hm=>?_,?_,?_⟩
  ·obtain⟨⟨k',b',cs'⟩,hm',he⟩:=List.mem_map.1 hm
   obtain⟨c3,h1,h2,_⟩:=lookb k' b' cs' hm';simp only[h1,Prod.mk.injEq]at he;obtain⟨rfl,rfl,rfl⟩:=he;exact hg3.ag.lok.at_ _ _ _ h2
  ·show(eH (lr s.l s3.l)).Nodup
   rw[e1];exact hkb.1
  ·rw[e2];exact hkb.2
 refine⟨A_.putObj_heap_same (Array.getElem?_eq_some_iff.1 hL).1,hk.put hp (by simpa using hn),lr s.l s3.l,e2,hp.locks hok hL rfl,fun k b cs hm=>?_,yk (fun k b cs hm=>by obtain⟨c,h,_⟩:=hrel k b cs hm;exact⟨c,h⟩) hg3.ag.lok.keys hlo h0 hvs⟩
 obtain⟨c3,h1,h2,h3⟩:=lookb k b cs hm;refine⟨c3,?_,h3⟩;exact List.mem_map.2 ⟨(k,b,cs),hm,by simp[h1]⟩
theorem H2{X:List PanicEntry->A_->Prop}{Q:Exit->St->A_->Prop}{s:St}{a:Act}{g:Operand}{ps:Array Tmp}{cx cy:Code}{lv:List LV}{scs:List Sh}{x y:AC}{pn:Bool}{vs0:List B_}{gv:B_}
 (hg:aZ s a w wa)(hN:a.tmps.size=N)(hgv:s.ev g=some gv)(hlo:fL lv=true)(hps:ps.size=scs.length)(hnx:bB cx=false)(hny:bB cy=false)(hpN:(ps.toList.all fun p=>U_ p N)=true)(hvs0:dl s lv=some vs0)
 (ihx:∀(r:Option Nat) (X:List PanicEntry->A_->Prop) (s:St) (w wa:A_) (a:Act) (Q:Exit->St->A_->Prop),vc P X x cx s w Q->aZ s a w wa->a.tmps.size=N->cx.wpIn (fR r) 0 P (fD (dv cx) (!bB cx) a s X Q) a wa)
 (ihy:∀(r:Option Nat) (X:List PanicEntry->A_->Prop) (s:St) (w wa:A_) (a:Act) (Q:Exit->St->A_->Prop),vc P X y cy s w Q->aZ s a w wa->a.tmps.size=N->cy.wpIn (fR r) 0 P (fD (dv cy) (!bB cy) a s X Q) a wa)
 (h:∀(L:Nat) (w1:A_),Rf wa w1 L->∀(J:List B_->A_->Prop) (Z:Exit->List B_->A_->Prop),
 (∀vs W W',J vs W->ao (L::wa.heap.size::(s.kp.map (·.1)++am s.l)) W W'->J vs W')->
 (∀e vs W W',Z e vs W->ao (L::wa.heap.size::(s.kp.map (·.1)++am s.l)) W W'->Z e vs W')->
 J vs0 w1->
 jv (fun vs s'=>xw scs fun args=>∀(W:A_) (R:C_->A_->Prop),J vs W->
 (∀oL oB:Obj,vc P EL x cx ((iW ps.toList args s').withKp ((L,oL)::(wa.heap.size,bK)::s.kp)) W
 (rh (fun s2 w2=>sync s2 w2 fun w2=>∀w3,dP L w2 w3->vc P EL y cy (s2.clean.withKp ((L,oB)::(wa.heap.size,bK)::s.kp)) w3 (Lk lv L J Z R)) (fun _ _ _=>False)))->
 YieldAt E_ 0 P L args.toArray W R) lv [] (s.clean.withRo (fW s lv))->
 rC P gv [.func (.yield L) #[] #[]] w1 (Gu pn lv L ((wa.heap.size,bK)::s.kp) J Z (tq (iI [] cy)) s w1 X Q)):
  (Code.rangeFunc g ps cx cy).wpIn (fR none) 0 P (fD [] false a s X Q) a wa:=by
 refine wpIn_rangeFunc ?_;intro fn hfn;obtain⟨D,hD⟩:∃D,D=wa.heap.size:=⟨_,rfl⟩;obtain⟨rec,hrec⟩:∃rec:LoopState->Option Code->Loop,rec=fun st pe=>{state:=st,pending:=pe,fn,tmps:=a.tmps,params:=ps,assign:=cx,body:=cy,defers:=wa.heap.size}:=⟨_,rfl⟩;obtain⟨W1,hW1⟩:∃W1,(wa.alloc bK).alloc (.loop (rec .ready none))=W1:=⟨_,rfl⟩;have hE1:Ext wa W1:=by rw[<-hW1];exact((Ext.refl wa).alloc _).alloc _
 have hL1:W1.heap[D+1]?=some (.loop (rec .ready none)):=by
  rw[<-hW1,hD];have:=A_.alloc_heap_new (wa.alloc bK) (.loop (rec .ready none));rwa[A_.size_alloc]at this
 have hK1:W1.heap[D]?=some bK:=by
  rw[<-hW1,hD];exact(Below.heap_alloc _ _ _ (by simp)).trans (A_.alloc_heap_new wa _)
 have hdok:=hg.ag.dok;have hDn:D∉s.kp.map (·.1):=fun hm=>by have:=hdok.lt hm;omega
 have hLn:D+1∉D::s.kp.map (·.1):=fun hm=>by
  rcases W_.1 hm with hm|hm
  ·omega
  ·have:=hdok.lt hm;omega
 have hkb:(eH s.l).Nodup/\(am s.l).Nodup:=⟨hg.ag.lok.keys,hg.ag.lok.blks⟩;have hpre:∀{l1:List (Nat×Nat×List B_)},(∀k b cs,(k,b,cs)∈s.l->∃cs',(k,b,cs')∈l1/\(k∉cr lv\/k∈s.ro->cs'=cs))->∀ro,kZ (cr lv) (s.clean.withRo ro) a l1:=fun hrel ro=>
  ⟨hg.ag.v,hg.ag.loc,hg.ag.lsl,fun k b cs hm=>by obtain⟨c,h1,h2⟩:=hrel k b cs hm;exact⟨c,h1,fun h=>h2 (.inl h)⟩,hkb.1,hkb.2⟩
 have hsame:∀{l1:List (Nat×Nat×List B_)} {s':St},(eH l1).Nodup->(∀k b cs,(k,b,cs)∈s.l->∃cs',(k,b,cs')∈l1/\(k∉cr lv\/k∈s.ro->cs'=cs))->kZ [] s' a l1->∀k b cs c1,(k,b,cs)∈s.l->(k,b,c1)∈s'.l->(k∉cr lv\/k∈s.ro)->c1=cs:=fun hnd hrel hp k b cs c1 hm h1 hc=>by
  obtain⟨c,h2,h3⟩:=hrel k b cs hm;obtain⟨c',h4,h5⟩:=hp.l k b c1 h1;have:=eJ hnd h2 h4 rfl;cases this;exact(h5 (by simp)).symm.trans (h3 hc)
 have hRf:Rf wa W1 (D+1):=⟨hE1,by rw[hD],by rw[<-hW1];simp⟩
 rw[<-hD]at h;have hcall:=h (D+1) W1 hRf (RJ s lv (D+1) D (rec .ready none)) (fun e vs W=>∃c,GF e=some c/\RJ s lv (D+1) D (rec .done (some c)) vs W)
  (fun vs W W' hJ hk=>hJ.keep hk) (fun e vs W W' ⟨c,hc,hJ⟩ hk=>⟨c,hc,hJ.keep hk⟩)
  ⟨hL1,(hdok.kpk hE1.kpk).cons hK1 rfl hDn,s.l,rfl,(hg.ag.ext hE1).lok,fun k b cs hm=>⟨cs,hm,fun _=>rfl⟩,hvs0⟩
  (zR hlo fun vs s' hm=>B7 fun args hargs W R hJ hb=>by
   rw[L_]at hJ;obtain⟨hL,hkp,l1,hbl,hlk,hrel,hget⟩:=hJ;obtain⟨hp2,hd,hro,hkp',hρ,hrel2⟩:=wK (sc:={s with l:=l1}) hlk.keys hm hget (hpre hrel _);have hd0:s'.dirty=false:=hd;have hAg:bQ s' a W:=(hp2.good hlk hd0 (by rw[hkp'];exact hkp.tail)).ag
   have hlt:∀p,p∈ps.toList->p<a.tmps.size:=fun p hp=>by
    have:=List.all_eq_true.1 hpN p hp;rw[hN];simpa[d_]using this
   have hAg2:=zQ ps.toList args s' a hAg hlt;obtain⟨sl1,sl2,sl3,sl4⟩:=Ji ps.toList args s';have hfold:((ps.zip args.toArray).foldl (fun(t:Array B_) (x:Tmp×B_)=>t.setIfInBounds x.1 x.2) a.tmps)=(ps.toList.zip args).foldl (fun t x=>t.setIfInBounds x.1 x.2) a.tmps:=by
    rw[<-Array.foldl_toList];simp
   have hkL:dJ ((D+1,.loop (rec .ready none))::(D,bK)::s.kp) W:=hkp.cons hL rfl (by simpa using hLn)
   let aA:Act:={tmps:=(ps.zip args.toArray).foldl (fun(t:Array B_) (x:Tmp×B_)=>t.setIfInBounds x.1 x.2) a.tmps,defers:=[]}
   have hNA:aA.tmps.size=N:=by simp only[aA];rw[hfold,BX];exact hN
   have hgA:aZ ((iW ps.toList args s').withKp ((D+1,.loop (rec .ready none))::(D,bK)::s.kp)) aA W W:=by
    refine⟨⟨?_,?_,?_,hAg2.lok,hkL⟩,fun hx=>?_,fun _=>rfl⟩
    ·have:=hAg2.v;simp only[aA];rw[hfold];exact this
    ·have:=hAg2.loc;simp only[aA];rw[hfold];exact this
    ·have:=hAg2.lsl;simp only[aA];rw[hfold];exact this
    ·have:(iW ps.toList args s').dirty=true:=hx
     rw[sl4,hd0]at this;cases this
   have hy:=run_yield (P:=P) (args:=args.toArray) hL (by rw[hrec];simp[hps,hargs])
   rw[hrec]at hy;refine⟨fn,_,cx,cy,hy,roundIn_of_wpIn (F:=E_) trivial ?_⟩
   let oB:Obj:=.loop {rec .ready none with state:=.busy}
   refine wpIn_mono (ihx (some (D+1)) EL _ W W aA _ (hb (.loop (rec .ready none)) oB) hgA hNA) ?_;intro e a2 wa2 hpost;rcases hpost with⟨ch,kpx,rfl,_,_,_,_,hx⟩|⟨hne,hno,hf2,s2,w2,kpx,hn2,hmk2,hkp2,hg2,hl2,hq⟩
   ·exact(jM hx:EL _ _).elim
   obtain rfl:=hn2 (by simp[hnx])
   rcases j8 hq with⟨rfl,hq⟩|⟨_,hq⟩
   ·have hq:=hg2.sync hq
    have hdok2:=hg2.ag.dok;rw[hkp2]at hdok2;have hL2:=(hdok2.at_ (D+1) _ (a_ ..)).1;have hput:=dP.putObj (D+1) wa2 oB;have hkp3:dJ ((D+1,oB)::(D,bK)::s.kp) (wa2.putObj (D+1) oB):=
     ((hdok2.tail).put hput (by simpa using hLn)).cons (A_.putObj_heap_same (Array.getElem?_eq_some_iff.1 hL2).1) rfl (by simpa using hLn)
    have hg2':aZ (s2.clean.withKp ((D+1,oB)::(D,bK)::s.kp)) a2 (wa2.putObj (D+1) oB) (wa2.putObj (D+1) oB):=
     ⟨⟨hg2.ag.v,hg2.ag.loc,hg2.ag.lsl,hput.locks hg2.ag.lok hL2 rfl,hkp3⟩,fun hx=>(by cases hx),fun _=>rfl⟩
    refine⟨_,run_beginRound hL2 (by rw[hrec]),?_⟩
    refine wpIn_mono (ihy (some (D+1)) EL _ _ _ a2 _ (hq _ hput) hg2' (by rw[hf2.size];exact hNA)) ?_
    intro e3 a3 wa3 hpost3;rcases hpost3 with⟨ch,kpx,rfl,_,_,_,_,hx⟩|⟨hne3,hno3,hf3,s3,w3,kpx,hn3,hmk3,hkp3',hg3,hl3,hq3⟩
    ·exact(jM hx:EL _ _).elim
    obtain rfl:=hn3 (by simp[hny])
    have hdok3:=hg3.ag.dok;rw[hkp3']at hdok3;have hL3:=(hdok3.at_ (D+1) _ (a_ ..)).1;have hrel3:∀k b cs,(k,b,cs)∈s.l->∃cs',(k,b,cs')∈s3.l/\(k∉cr lv\/k∈s.ro->cs'=cs):=fun k b cs hmm=>by
     obtain⟨c1,g1,g2⟩:=hrel2 k b cs hmm;have g1':(k,b,c1)∈((iW ps.toList args s').withKp ((D+1,.loop (rec .ready none))::(D,bK)::s.kp)).l:=by
      show(k,b,c1)∈(iW ps.toList args s').l;rw[sl1];exact g1
     obtain⟨c2,g3,g4⟩:=hl2.2 k b c1 g1';obtain⟨c3,g5,g6⟩:=hl3.2 k b c2 g3;refine⟨c3,g5,fun hk=>?_⟩;have hro1:((iW ps.toList args s').withKp ((D+1,.loop (rec .ready none))::(D,bK)::s.kp)).ro=fW s lv:=by
      show(iW ps.toList args s').ro=_;rw[sl2,hro];rfl
     have hkr:k∈fW s lv:=by
      simp only[fW,S_,c_];rcases hk with hk|hk
      case inr=>exact .inl hk
      refine .inr ⟨List.mem_map.2 ⟨(k,b,cs),hmm,rfl⟩,?_⟩;cases hbb:(cr lv).any (G_ k)
      ·rfl
      ·obtain⟨z,hz,he⟩:=List.any_eq_true.1 hbb
       exact absurd (I_ he▸hz) hk
     have h1:=g4 (by rw[hro1];exact hkr)
     have h2:=g6 (by show k∈s2.ro;rw[hl2.1,hro1];exact hkr)
     rw[h2,h1,hsame hlk.keys hrel hp2 k b cs c1 hmm g1 hk]
    have again:∀(r1:Loop) (vs':List B_),dl s3 lv=some vs'->RJ s lv (D+1) D r1 vs' (wa3.putObj (D+1) (.loop r1)):=fun r1 vs' hv=>
     Ng hg3 (.inr hkb) hL3 hdok3.tail hLn hlo hvs0 hrel3 hv
    cases e3 with
    |normal=>
     obtain⟨vs',hvs',hq3⟩:=ig (hg3.sync hq3);refine⟨_,_,run_endRound none hL3,?_⟩;have:=hq3 _ (dP.putObj (D+1) wa3 _) (again (rec .ready none) vs' hvs');rw[hrec]at this⊢;exact this
    |ret=>
     obtain⟨vs',hvs',hq3⟩:=ig (hg3.sync hq3);refine⟨_,_,run_endRound (some .ret) hL3,?_⟩;have:=hq3 _ (dP.putObj (D+1) wa3 _) ⟨.ret,rfl,again (rec .done (some .ret)) vs' hvs'⟩;rw[hrec]at this⊢;exact this
    |exit i=>
     obtain⟨vs',hvs',hq3⟩:=ig (hg3.sync hq3);refine⟨_,_,run_endRound (some (.exit i)) hL3,?_⟩;have:=hq3 _ (dP.putObj (D+1) wa3 _) ⟨.exit i,rfl,again (rec .done (some (.exit i))) vs' hvs'⟩;rw[hrec]at this⊢;exact this
    |goto l=>exact hq3.elim
    |panic ch=>exact absurd rfl (hne3 ch)
    |outgrown=>exact absurd rfl hno3
   ·exact hq.elim)
 obtain⟨f,first,caps,rfl⟩:=H8 hcall
 simp only[rC]at hcall
 split at hcall<;>try exact hcall.elim
 rename_i hok;have hev:=hg.ag.ev hgv;have hinv:(callFunc f (first++#[M_ (.yield (D+1)) #[] #[]]++caps)).run P W1=.ok (.enter f (first.toList++[M_ (.yield (D+1)) #[] #[]]++caps.toList).toArray) W1:=by
  unfold rX at hok
  split at hok<;>try cases hok
  rename_i fn hfn;simp only[F_,H_]at hok;have hb:fn.body.isNone=false:=by cases hb:fn.body<;>simp_all
  have:first++#[M_ (.yield (D+1)) #[] #[]]++caps=(first.toList++[M_ (.yield (D+1)) #[] #[]]++caps.toList).toArray:=by simp
  have hb':fn.body≠none:=by intro e;rw[e]at hb;cases hb
  have hn':fn.name≠ "runtime.NumGoroutine" :=by intro e;rw[e]at hok;simp at hok
  simp[callFunc,hfn,hn',hb',this]
 refine⟨D+1,[lg (D,bK)],W1,{target:=.fn (.func f) caps,args:=first++#[M_ (.yield (D+1)) #[] #[]]},W1,f,(first.toList++[M_ (.yield (D+1)) #[] #[]]++caps.toList).toArray,W1,?_,?_,?_,?_,fun hd=>(by cases hd),?_⟩
 ·rw[<-hW1,hrec,hD];exact run_enterLoop_outer _ _ _ _ _
 ·simp only[resolve,hev,rangeCall,Deferred.ofValue]
  simp[go_sem,Act.eval]
 ·intro f' hf';trivial
 ·simp only[invoke];exact hinv
 ·refine(callsIn_wide.2 (hcall.mono fun e w' hw=>?_):)
  have after:∀{vs:List B_} {s':St} {r0 r1:Loop},GJ lv vs s.clean s'->RJ s lv (D+1) D r0 vs w'->
    aZ (s'.withKp ((D,bK)::s.kp)) {a with defers:=[lg (D,bK)]++a.defers} (w'.putObj (D+1) (.loop r1)) (w'.putObj (D+1) (.loop r1))/\eE s (s'.withKp ((D,bK)::s.kp)):=by
   intro vs s' r0 r1 hm hJ;obtain⟨hL,hkp,l1,hbl,hlk,hrel,hget⟩:=hJ;obtain⟨hp2,hd,hro,hkp',hρ,hrel2⟩:=wK (sc:={s with l:=l1}) hlk.keys hm hget (hpre hrel s.ro);have hput:=dP.putObj (D+1) w' (.loop r1);have hg1:=hp2.good (hput.locks hlk hL rfl) hd (by rw[hkp'];exact hkp.tail.put hput (fun hm=>hLn (Q_ _ hm)))
   refine⟨⟨⟨hg1.ag.v,hg1.ag.loc,hg1.ag.lsl,hg1.ag.lok,hkp.put hput (by simpa using hLn)⟩,fun hx=>?_,fun _=>rfl⟩,⟨hro,fun k b cs hmm=>?_⟩⟩
   ·have:s'.dirty=true:=hx
    rw[hd]at this;cases this
   ·obtain⟨c1,g1,g2⟩:=hrel2 k b cs hmm
    exact⟨c1,g1,fun hr=>hsame hlk.keys hrel hp2 k b cs c1 hmm g1 (.inr hr)⟩
  have hmk:om [(D,bK)] a {a with defers:=[lg (D,bK)]++a.defers}:=⟨fun z hz=>by simp at hz;subst hz;rfl,rfl⟩
  have ret:(∃v,e=.returned v/\((rG (fun vs s'=>RJ s lv (D+1) D (rec .ready none) vs w'/\∀w'',dP (D+1) w' w''->Q .normal (s'.withKp ((D,bK)::s.kp)) w'') lv [] s.clean)\/
    He (tq (iI [] cy)) fun x=>rG (fun vs s'=>(∃c,GF x=some c/\RJ s lv (D+1) D (rec .done (some c)) vs w')/\∀w'',dP (D+1) w' w''->Q x (s'.withKp ((D,bK)::s.kp)) w'') lv [] s.clean))->
    rangePost (fR none) 0 P (D+1) (fD [] false a s X Q) {a with defers:=[lg (D,bK)]++a.defers} e w':=by
   rintro⟨v,rfl,hlr⟩
   rcases hlr with hl|hr
   ·obtain⟨vs,s',hm,hJ,hq⟩:=xc hl
    rw[L_]at hJ;have hend:=run_endLoop (P:=P) hJ.1 (by rw[hrec];simp)
    obtain⟨hgd,hlf⟩:=after (r1:={rec .ready none with state:=.exhausted}) hm hJ;have hend':(Instr.endLoop (D+1)).run P w'=.ok none (w'.putObj (D+1) (.loop {rec .ready none with state:=.exhausted})):=by rw[hrec]at hend⊢;exact hend
    refine⟨none,_,hend',?_⟩;exact .inr ⟨by simp,by simp,⟨rfl,fun _ _=>rfl⟩,_,_,[(D,bK)],(fun h=>by cases h),hmk,rfl,hgd,hlf,hq _ (dP.putObj _ _ _)⟩
   ·obtain⟨x,hx,hl⟩:=Eh hr
    obtain⟨vs,s',hm,⟨c,hc,hJ⟩,hq⟩:=xc hl;rw[L_]at hJ;have hend:=run_endLoop (P:=P) hJ.1 (by rw[hrec];simp)
    obtain⟨hgd,hlf⟩:=after (r1:={rec .done (some c)with state:=.exhausted}) hm hJ;have hend':(Instr.endLoop (D+1)).run P w'=.ok (some c) (w'.putObj (D+1) (.loop {rec .done (some c)with state:=.exhausted})):=by rw[hrec]at hend⊢;exact hend
    refine⟨some c,_,hend',?_⟩;have hfin:x≠.outgrown->(∀ch,x≠.panic ch)->fD [] false a s X Q x {a with defers:=[lg (D,bK)]++a.defers} _:=fun h1 h2=>
     .inr ⟨h2,h1,⟨rfl,fun _ _=>rfl⟩,_,_,[(D,bK)],(fun h=>by cases h),hmk,rfl,hgd,hlf,hq _ (dP.putObj _ _ _)⟩
    cases x<;>simp only[GF]at hc<;>try cases hc
    ·exact wpIn_exit (hfin (by simp) (by simp))
    ·exact wpIn_ret (hfin (by simp) (by simp))
  unfold Gu at hw;cases pn
  ·have:=ret hw
   cases e<;>exact this
  ·rcases hw with hw|⟨ch,rfl,hk,hx⟩
   ·have:=ret hw
    cases e<;>exact this
   ·exact .inl ⟨ch,[(D,bK)],rfl,⟨rfl,fun _ _=>rfl⟩,fun h=>(by cases h),hmk,tL (bs:=[]) (by simpa using hk) ((hdok.kpk hE1.kpk).cons hK1 rfl hDn),hx⟩
theorem oS(hm:P.follows .mixedOrders=true):∀(ac:AC) (r:Option Nat) (X:List PanicEntry->A_->Prop) (c:Code) (s:St) (w wa:A_) (a:Act) (Q:Exit->St->A_->Prop),(r=none\/bB c=false)->iE P N ac c=true->vc P X ac c s w Q->aZ s a w wa->a.tmps.size=N->
  c.wpIn (fR r) 0 P (fD (dv c) (!bB c) a s X Q) a wa:=by
 intro ac
 induction ac with
 |skip=>
  intro r X c s w wa a Q hrf hok h hg hN;cases c<;>simp only[vc]at h<;>try exact h.elim
  exact wpIn_skip (.inr ⟨by simp,by simp,jn.refl _ _,s,w,[],fun _=>rfl,om.refl _,rfl,hg,eE.refl s,h⟩)
 |ret=>
  intro r X c s w wa a Q hrf hok h hg hN;cases c<;>simp only[vc]at h<;>try exact h.elim
  exact wpIn_ret (.inr ⟨by simp,by simp,jn.refl _ _,s,w,[],fun _=>rfl,om.refl _,rfl,hg,eE.refl s,h⟩)
 |exit=>
  intro r X c s w wa a Q hrf hok h hg hN;cases c<;>simp only[vc]at h<;>try exact h.elim
  exact wpIn_exit (.inr ⟨by simp,by simp,jn.refl _ _,s,w,[],fun _=>rfl,om.refl _,rfl,hg,eE.refl s,h⟩)
 |reg p=>
  intro r X c s w wa a Q hrf hok h hg hN;cases c<;>simp only[vc]at h<;>try exact h.elim
  rename_i id ops dr;simp only[iE,F_]at hok;have hnd:=CA hok.1.1;have hQ:∀c a' d v w',(∀t,d=some t->t∈eU ops)->fD (eU ops) true a s X Q (.panic c) (Act.put a' d v) w'->fD (eU ops) true a s X Q (.panic c) a' w':=by
   intro c a' d v w' hd0 hx;rcases hx with⟨ch,kpx,he,hfp,hn,hmk,hk,hx⟩|⟨hne,_⟩
   ·cases he
    refine .inl ⟨c,kpx,rfl,hfp.unput hd0,hn,⟨hmk.1,?_⟩,hk,hx⟩;have:=hmk.2;cases d<;>exact this
   ·exact absurd rfl (hne c)
  have hX:∀ch w' a',Fr (eU ops) a a'->dJ s.kp w'->iV (s.kp.map (·.1)) w' (X ch)->fD (eU ops) true a s X Q (.panic ch) a' w':=fun ch w' a' hf hk hx=>.inl ⟨ch,[],rfl,hf.c,fun _=>rfl,⟨(fun _ h=>by cases h),hf.defers⟩,hk,hx⟩
  have hfin:∀s' a' w' wa',Fr (eU ops) a a'->aZ s' a' w' wa'->bW s s'->Q .normal s' w'->fD (eU ops) true a s X Q .normal a' wa':=
   fun s' a' w' wa' hf hg' hl hq=>.inr ⟨by simp,by simp,hf.c,s',w',[],fun _=>rfl,⟨(fun _ h=>by cases h),hf.defers⟩,hl.1.2,hg',hl.c,hq⟩
  cases dr with
  |false=>
   have:=(dI (P:=P) (X:=fun ch w=>iV (s.kp.map (·.1)) w (X ch)) (dr:=false) (ds:=eU ops) (r:=r) hok.1.2 hQ hX hfin (B:=[]) (rl:=[]) (fun _ h=>by cases h) (fun _ h=>by cases h) p ops.size #[] a s w wa trivial hg (Fr.refl _ _) (bW.refl s) hN h).1 hok.2
   refine wpIn_region (xy hnd _ _ _ ?_);simp only[G,Nat.sub_self]at this;rwa[<-e_]at this
  |true=>
   have hg':aZ s a (qU true s w) wa.drew:=by
    cases hd:s.dirty
    ·have:=hg.clean hd
     subst this;exact⟨hg.ag.ext (Ext.refl _).drew,fun hx=>(by rw[hd]at hx;cases hx),fun _=>by simp[qU,hd]⟩
    ·have hl:=hg.dirty hd
     refine⟨hg.ag.ext (Ext.refl _).drew,fun _=>?_,fun hx=>(by rw[hd]at hx;cases hx)⟩
     simp only[qU,hd];exact⟨hl.os,hl.tape,hl.output,hl.size,hl.block,hl.there⟩
   have hcl:Cl true ops (K_ ops.size false):=by
    intro j o hj;simp[h_]at hj
    split at hj<;>simp at hj
   have:=(dI (P:=P) (X:=fun ch w=>iV (s.kp.map (·.1)) w (X ch)) (dr:=true) (ds:=eU ops) (r:=r) hok.1.2 hQ hX hfin (B:=[]) (rl:=[]) (fun _ h=>by cases h) (fun _ h=>by cases h) p ops.size _ a s _ wa.drew hcl hg' (Fr.refl _ _) (bW.refl s) hN h).1 hok.2
   exact wpIn_region_any hm (yo hnd _ _ _ _ (ui _ _ _ _ this))
 |regR rl p=>
  intro r X c s w wa a Q hrf hok h hg hN;cases c<;>simp only[vc]at h<;>try exact h.elim
  rename_i id ops dr
  split at h<;>try exact h.elim
  rename_i hall;simp only[iE,F_]at hok;have hB:∀k,k∈rl->∃b cs,(k,b,cs)∈(s.withRo (rl++s.ro)).l/\b∈(s.l.filter (fun x=>rl.any (G_ x.1))).map (·.2.1):=by
   intro k hk;obtain⟨⟨b,cs⟩,hl⟩:=Option.isSome_iff_exists.1 (List.all_eq_true.1 hall k hk);have hm:=pm hl;exact⟨b,cs,hm,List.mem_map.2 ⟨_,c_.2 ⟨hm,List.any_eq_true.2 ⟨k,hk,Nat.beq_refl k⟩⟩,rfl⟩⟩
  have hB':∀b,b∈(s.l.filter (fun x=>rl.any (G_ x.1))).map (·.2.1)->∃k cs,k∈(s.withRo (rl++s.ro)).ro/\(k,b,cs)∈(s.withRo (rl++s.ro)).l:=by
   intro b hb;obtain⟨⟨k,b',cs⟩,hm,rfl⟩:=List.mem_map.1 hb;obtain⟨hm,hk⟩:=c_.1 hm;exact⟨k,cs,List.mem_append_left _ (gz (by simpa[AB]using hk)),hm⟩
  have hnd:=CA hok.1.1;have hQ:∀c a' d v w',(∀t,d=some t->t∈eU ops)->fD (eU ops) true a s X Q (.panic c) (Act.put a' d v) w'->fD (eU ops) true a s X Q (.panic c) a' w':=by
   intro c a' d v w' hd0 hx;rcases hx with⟨ch,kpx,he,hfp,hn,hmk,hk,hx⟩|⟨hne,_⟩
   ·cases he
    refine .inl ⟨c,kpx,rfl,hfp.unput hd0,hn,⟨hmk.1,?_⟩,hk,hx⟩;have:=hmk.2;cases d<;>exact this
   ·exact absurd rfl (hne c)
  have hX:∀ch w' a',Fr (eU ops) a a'->dJ s.kp w'->iV (s.kp.map (·.1)) w' (X ch)->fD (eU ops) true a s X Q (.panic ch) a' w':=fun ch w' a' hf hk hx=>.inl ⟨ch,[],rfl,hf.c,fun _=>rfl,⟨(fun _ h=>by cases h),hf.defers⟩,hk,hx⟩
  have hfin:∀s' a' w' wa',Fr (eU ops) a a'->aZ s' a' w' wa'->bW (s.withRo (rl++s.ro)) s'->Q .normal (s'.withRo s.ro) w'->fD (eU ops) true a s X Q .normal a' wa':=
   fun s' a' w' wa' hf hg' hl hq=>.inr ⟨by simp,by simp,hf.c,s'.withRo s.ro,w',[],fun _=>rfl,⟨(fun _ h=>by cases h),hf.defers⟩,hl.1.2,hg'.withRo _,
    (show bW s (s'.withRo s.ro)from⟨⟨rfl,hl.1.2⟩,fun k b cs h=>let⟨c,h1,h2⟩:=hl.2 k b cs h;⟨c,h1,fun hr=>h2 (List.mem_append_right _ hr)⟩⟩).c,hq⟩
  cases dr with
  |false=>
   have:=(dI (P:=P) (X:=fun ch w=>iV (s.kp.map (·.1)) w (X ch)) (dr:=false) (ds:=eU ops) (r:=r) hok.1.2 hQ hX hfin (s0:=s.withRo (rl++s.ro)) hB hB' p ops.size #[] a _ w wa trivial (hg.withRo _) (Fr.refl _ _) (bW.refl _) hN h).1 hok.2;refine wpIn_region (xy hnd _ _ _ ?_);simp only[G,Nat.sub_self]at this;rwa[<-e_]at this
  |true=>
   have hg':aZ s a (qU true s w) wa.drew:=by
    cases hd:s.dirty
    ·have:=hg.clean hd
     subst this;exact⟨hg.ag.ext (Ext.refl _).drew,fun hx=>(by rw[hd]at hx;cases hx),fun _=>by simp[qU,hd]⟩
    ·have hl:=hg.dirty hd
     refine⟨hg.ag.ext (Ext.refl _).drew,fun _=>?_,fun hx=>(by rw[hd]at hx;cases hx)⟩
     simp only[qU,hd];exact⟨hl.os,hl.tape,hl.output,hl.size,hl.block,hl.there⟩
   have hcl:Cl true ops (K_ ops.size false):=by
    intro j o hj;simp[h_]at hj
    split at hj<;>simp at hj
   have:=(dI (P:=P) (X:=fun ch w=>iV (s.kp.map (·.1)) w (X ch)) (dr:=true) (ds:=eU ops) (r:=r) hok.1.2 hQ hX hfin (s0:=s.withRo (rl++s.ro)) hB hB' p ops.size _ a _ _ wa.drew hcl (hg'.withRo _) (Fr.refl _ _) (bW.refl _) hN h).1 hok.2;exact wpIn_region_any hm (yo hnd _ _ _ _ (ui _ _ _ _ this))
 |seq x y ihx ihy=>
  intro r X c s w wa a Q hrf hok h hg hN;cases c<;>simp only[vc]at h<;>try exact h.elim
  rename_i cx cy;simp only[iE,F_]at hok;have rx:r=none\/bB cx=false:=hrf.imp id fun h=>by simp[bB]at h;exact h.1
  have ry:r=none\/bB cy=false:=hrf.imp id fun h=>by simp[bB]at h;exact h.2
  have nx:(!bB (.seq cx cy))=true->(!bB cx)=true/\(!bB cy)=true:=fun h=>by simpa[bB]using h
  refine wpIn_seq (wpIn_mono (ihx r X cx s w wa a _ rx hok.1 h hg hN) ?_);intro e a1 wa1 hp;rcases hp with⟨ch,kpx,rfl,hfp,hn,hmk,hkp,hx⟩|⟨hne,hno,hf,s1,w1,kpx,hn,hmk,hkp,hg1,hl1,hq⟩
  ·exact .inl ⟨ch,kpx,rfl,hfp.mono (fun t ht=>by simp[dv,ht]),fun h=>hn (nx h).1,hmk,hkp,hx⟩
  ·rcases j8 hq with⟨rfl,hq⟩|⟨hne',hq⟩
   ·exact wpIn_mono (ihy r X cy s1 w1 wa1 a1 Q ry hok.2 hq hg1 (by rw[hf.size];exact hN)) fun e a2 w2 h2=>
     rS hf hl1 hmk hkp hn nx (fun t ht=>by simp[dv,ht]) (fun t ht=>by simp[dv,ht]) h2
   ·exact nA hne' (.inr ⟨hne,hno,hf.mono (fun t ht=>by simp[dv,ht]),s1,w1,kpx,fun h=>hn (nx h).1,hmk,hkp,hg1,hl1,hq⟩)
 |cut lv x y ihx ihy=>
  intro r X c s w wa a Q hrf hok h hg hN;cases c<;>simp only[vc]at h<;>try exact h.elim
  rename_i cx cy;simp only[iE,F_,H_]at hok;obtain⟨R,hx,hy⟩:=h;have ry:r=none\/bB cy=false:=hrf.imp id fun h=>by simp[bB]at h;exact h.2
  have nx:(!bB (.seq cx cy))=true->(!bB cx)=true/\(!bB cy)=true:=fun h=>by simpa[bB]using h
  have n0:(!bB cx)=true:=by simp[hok.2]
  refine wpIn_seq (wpIn_mono (ihx r X cx _ w wa a _ (.inr hok.2) hok.1.1 hx (hg.withRo _) hN) ?_);intro e a1 wa1 hp;rcases hp with⟨ch,kpx,rfl,hfp,hn,hmk,hkp,hx⟩|⟨hne,hno,hf,s1,w1,kpx,hn,hmk,hkp,hg1,hl1,hq⟩
  ·exact .inl ⟨ch,kpx,rfl,hfp.mono (fun t ht=>by simp[dv,ht]),fun h=>hn (nx h).1,hmk,hkp,hx⟩
  ·obtain rfl:=hn n0
   rcases j8 hq with⟨rfl,hq⟩|⟨hne',hq⟩
   ·obtain⟨vs,hvs,hR⟩:=ig (hg1.sync hq)
    obtain⟨s2,h2,h3,h4,h5,h6⟩:=oZ hg1.ag lv [] vs _ hy hvs (vC hg hf hl1);have hkp2:dJ s2.kp wa1:=by rw[h5.2];have:=hg1.ag.dok;rw[hkp]at this;exact this
    have hg2:aZ s2 a1 wa1 wa1:=h3.good hg1.ag.lok (by rw[h4];rfl) hkp2
    have hl2:eE s s2:=BC hl1 hg1.ag.lok h3 h5.1 h6;simp only[L_]at h2;exact wpIn_mono (ihy r X cy s2 wa1 wa1 a1 Q ry hok.1.2 (h2 wa1 hR) hg2 (by rw[hf.size];exact hN)) fun e a2 w2 h7=>
     rS hf hl2 hmk (by rw[h5.2];rfl) (fun _=>rfl) (fun h=>⟨rfl,(nx h).2⟩) (fun t ht=>by simp[dv,ht]) (fun t ht=>by simp[dv,ht]) h7
   ·exact nA hne' (.inr ⟨hne,hno,hf.mono (fun t ht=>by simp[dv,ht]),s1.withRo s.ro,w1,[],fun _=>rfl,hmk,hkp,hg1.withRo _,sG hl1,hq⟩)
 |cond x y ihx ihy=>
  intro r X c s w wa a Q hrf hok h hg hN;cases c<;>simp only[vc]at h<;>try exact h.elim
  rename_i co cx cy;simp only[iE,F_]at hok
  split at h<;>try exact h.elim
  rename_i t ht;have rx:r=none\/bB cx=false:=hrf.imp id fun h=>by simp[bB]at h;exact h.1
  have ry:r=none\/bB cy=false:=hrf.imp id fun h=>by simp[bB]at h;exact h.2
  have nx:(!bB (.cond co cx cy))=true->(!bB cx)=true/\(!bB cy)=true:=fun h=>by simpa[bB]using h
  refine wpIn_cond (hg.ag.ev ht) ?_;rcases pV h with⟨rfl,h⟩|⟨rfl,h⟩
  ·exact wpIn_mono (ihx r X cx s w wa a Q rx hok.1 h hg hN) fun e a1 w1 h1=>BJ (fun t ht=>by simp[dv,ht]) (fun h=>(nx h).1) h1
  ·exact wpIn_mono (ihy r X cy s w wa a Q ry hok.2 h hg hN) fun e a1 w1 h1=>BJ (fun t ht=>by simp[dv,ht]) (fun h=>(nx h).2) h1
 |block x ihx=>
  intro r X c s w wa a Q hrf hok h hg hN;cases c<;>simp only[vc]at h<;>try exact h.elim
  rename_i id cx;simp only[iE]at hok;refine wpIn_block (wpIn_mono (ihx r X cx s w wa a _ hrf hok h hg hN) ?_);intro e a1 wa1 hp;rcases hp with⟨ch,kpx,rfl,hfp,hn,hmk,hkp,hx⟩|⟨hne,hno,hf,s1,w1,kpx,hn,hmk,hkp,hg1,hl1,hq⟩
  ·exact .inl ⟨ch,kpx,rfl,hfp,hn,hmk,hkp,hx⟩
  ·cases e with
   |exit id'=>
    simp only[CR]at hq;simp only[Exit.inBlock]
    split at hq
    ·rename_i hb
     rw[if_pos (I_ hb)];exact .inr ⟨by simp,by simp,hf,s1,w1,kpx,hn,hmk,hkp,hg1,hl1,hq⟩
    ·rename_i hb
     rw[if_neg (fun e=>by subst e;simp at hb)]
     exact .inr ⟨by simp,by simp,hf,s1,w1,kpx,hn,hmk,hkp,hg1,hl1,hq⟩
   |outgrown=>exact absurd rfl hno
   |panic ch=>exact absurd rfl (hne ch)
   |normal=>exact .inr ⟨by simp,by simp,hf,s1,w1,kpx,hn,hmk,hkp,hg1,hl1,hq⟩
   |goto l=>exact .inr ⟨by simp,by simp,hf,s1,w1,kpx,hn,hmk,hkp,hg1,hl1,hq⟩
   |ret=>exact .inr ⟨by simp,by simp,hf,s1,w1,kpx,hn,hmk,hkp,hg1,hl1,hq⟩
 |bcut lv x ihx=>
  intro r X c s w wa a Q hrf hok h hg hN;cases c<;>simp only[vc]at h<;>try exact h.elim
  rename_i id cx;simp only[iE,F_,H_]at hok;obtain⟨R,hx,hy⟩:=h;have n0:(!bB cx)=true:=by simp[hok.2]
  refine wpIn_block (wpIn_mono (ihx r X cx _ w wa a _ (.inr hok.2) hok.1 hx (hg.withRo _) hN) ?_);intro e a1 wa1 hp;rcases hp with⟨ch,kpx,rfl,hfp,hn,hmk,hkp,hx⟩|⟨hne,hno,hf,s1,w1,kpx,hn,hmk,hkp,hg1,hl1,hq⟩
  ·exact .inl ⟨ch,kpx,rfl,hfp,hn,hmk,hkp,hx⟩
  ·obtain rfl:=hn n0
   have fin:(sync s1 w1 fun w'=>pM s1 lv fun vs=>R vs w')->fD (dv (.block id cx)) (!bB (.block id cx)) a s X Q .normal a1 wa1:=by
    intro hq;obtain⟨vs,hvs,hR⟩:=ig (hg1.sync hq);obtain⟨s2,h2,h3,h4,h5,h6⟩:=oZ hg1.ag lv [] vs _ hy hvs (vC hg hf hl1);have hkp2:dJ s2.kp wa1:=by rw[h5.2];have:=hg1.ag.dok;rw[hkp]at this;exact this
    have hg2:aZ s2 a1 wa1 wa1:=h3.good hg1.ag.lok (by rw[h4];rfl) hkp2
    have hl2:eE s s2:=BC hl1 hg1.ag.lok h3 h5.1 h6;simp only[L_]at h2;exact .inr ⟨by simp,by simp,hf,s2,wa1,[],fun _=>rfl,hmk,h5.2,hg2,hl2,h2 wa1 hR⟩
   cases e with
   |exit id'=>
    simp only[CR]at hq;simp only[Exit.inBlock]
    split at hq
    ·rename_i hb
     rw[if_pos (I_ hb)];exact fin hq
    ·rename_i hb
     rw[if_neg (fun e=>by subst e;simp at hb)]
     exact .inr ⟨by simp,by simp,hf,s1.withRo s.ro,w1,[],fun _=>rfl,hmk,hkp,hg1.withRo _,sG hl1,hq⟩
   |outgrown=>exact absurd rfl hno
   |panic ch=>exact absurd rfl (hne ch)
   |normal=>exact fin hq
   |goto l=>exact .inr ⟨by simp,by simp,hf,s1.withRo s.ro,w1,[],fun _=>rfl,hmk,hkp,hg1.withRo _,sG hl1,hq⟩
   |ret=>exact .inr ⟨by simp,by simp,hf,s1.withRo s.ro,w1,[],fun _=>rfl,hmk,hkp,hg1.withRo _,sG hl1,hq⟩
 |loop lv x ihx=>
  intro r X c s w wa a Q hrf hok h hg hN;cases c<;>simp only[vc]at h<;>try exact h.elim
  rename_i cx;simp only[iE,F_,H_]at hok;obtain⟨I,μ,h0,hr⟩:=h;have n0:(!bB cx)=true:=by simp[hok.2]
  obtain⟨vs0,hvs0,hI0⟩:=ig (hg.sync h0);refine Is (fun n a1 wa1=>∃s1 vs,jn (dv cx) a a1/\a1.defers=a.defers/\s1.kp=s.kp/\aZ s1 a1 wa1 wa1/\eE (s.withRo (fW s lv)) s1/\dl s1 lv=some vs/\I vs wa1/\n=μ vs wa1) (μ vs0 wa)
   ⟨(s.withRo (fW s lv)).clean,vs0,jn.refl _ _,rfl,rfl,(hg.withRo _).ag.good,eE.of_eq rfl rfl,?_,hI0,rfl⟩ ?_
  ·have:∀(lv':List LV) (t:St),dl s lv'=dl {s with ro:=t.ro,dirty:=t.dirty} lv':=by
    intro lv' t
    induction lv' with
    |nil=>rfl
    |cons x r ih=>cases x<;>simp only[dl,ih]
   rw[this lv (s.withRo (fW s lv)).clean]at hvs0;exact hvs0
  ·rintro n a1 wa1 ⟨s1,vs,hf,hdf,hkp1,hg1,hl1,hvs,hI,rfl⟩
   obtain⟨s2,h2,h3,h4,h5,h6⟩:=oZ hg1.ag lv [] vs _ hr hvs (vC hg hf hl1);have hkp2:dJ s2.kp wa1:=by rw[h5.2];have:=hg1.ag.dok;rw[hkp1]at this;exact this
   have hg2:aZ s2 a1 wa1 wa1:=h3.good hg1.ag.lok (by rw[h4];rfl) hkp2
   have hl2:eE s s2:=BC hl1 hg1.ag.lok h3 h5.1 h6;have hl3:eE (s.withRo (fW s lv)) (s2.withRo (fW s lv)):=
    ⟨rfl,fun k b cs hmem=>by
     obtain⟨c1,e1,e2⟩:=h6 k b cs hmem;refine⟨c1,e1,fun hro=>?_⟩;simp only[St.withRo,fW,S_,c_]at hro;rcases hro with hro|hro
     ·obtain⟨c2,e3,e4⟩:=hl2.2 k b cs hmem
      have:=eJ hg2.ag.lok.keys e1 e3 rfl;cases this;exact e4 hro
     ·refine e2 (fun hm'=>?_)
      have:(cr lv).any (G_ k)=true:=List.any_eq_true.2 ⟨k,hm',by simp⟩
      rw[this]at hro;simp at hro⟩
   simp only[L_]at h2;refine wpIn_mono (ihx r X cx _ wa1 wa1 a1 _ (.inr hok.2) hok.1 (h2 wa1 hI) (hg2.withRo _) (by rw[hf.size];exact hN)) ?_
   intro e a2 wa2 hp;rcases hp with⟨ch,kpx,rfl,hfp,hn,hmk,hkp,hx⟩|⟨hne,hno,hf2,s3,w3,kpx,hn,hmk,hkp,hg3,hlf3,hq⟩
   ·have e2:(s2.withRo (fW s lv)).kp=s.kp:=h5.2
    rw[e2]at hkp hx;exact .inl ⟨ch,kpx,rfl,hf.trans hfp,fun _=>hn n0,⟨hmk.1,by rw[hmk.2,hdf]⟩,hkp,hx⟩
   ·obtain rfl:=hn n0
    have hl4:eE (s.withRo (fW s lv)) s3:=hl3.trans hlf3;have hkp3:s3.kp=s.kp:=hkp.trans h5.2;have hd3:a2.defers=a.defers:=hmk.2.trans hdf;rcases j8 hq with⟨rfl,hq⟩|⟨hne',hq⟩
    ·obtain⟨vs',hvs',hI',hμ⟩:=ig (hg3.sync hq)
     refine⟨μ vs' wa2,hμ,s3.clean,vs',hf.trans hf2,hd3,hkp3,hg3.ag.good,hl4.trans (eE.of_eq rfl rfl),?_,hI',rfl⟩;have:∀(lv':List LV),dl s3 lv'=dl s3.clean lv':=by
      intro lv'
      induction lv' with
      |nil=>rfl
      |cons x r ih=>cases x<;>simp only[dl,ih]<;>rfl
     rw[<-this];exact hvs'
    ·exact nA hne' (.inr ⟨hne,hno,(hf.trans hf2).mono (fun t ht=>ht),s3.withRo s.ro,w3,[],fun _=>rfl,⟨(fun _ h=>by cases h),hd3⟩,hkp3,hg3.withRo _,sG hl4,hq⟩)
 |rfunc pn lv scs x y ihx ihy=>
  intro r X c s w wa a Q hrf hok h hg hN;cases c<;>simp only[vc]at h<;>try exact h.elim
  rename_i g ps cx cy;have hr:r=none:=hrf.resolve_right (by simp[bB])
  subst hr;simp only[iE,F_,H_]at hok;obtain⟨⟨hokx,hoky⟩,⟨⟨⟨hlo,hps⟩,hnx⟩,hny⟩,hpN⟩:=hok
  split at h<;>try exact h.elim
  rename_i gv hgv;obtain⟨vs0,hvs0,h⟩:=ig (hg.sync h);exact H2 hg hN hgv hlo (I_ hps) hnx hny hpN hvs0
   (fun r X s w wa a Q h hg hN=>ihx r X cx s w wa a Q (.inr hnx) hokx h hg hN) (fun r X s w wa a Q h hg hN=>ihy r X cy s w wa a Q (.inr hny) hoky h hg hN) h
 |dfr x ihx=>
  intro r X c s w wa a Q hrf hok h hg hN;cases c<;>simp only[vc]at h
inductive xv
 |tmp (t:Nat)
 |cell (t:Nat) (sh:Sh)
def iZ(P:D_):List ResultVar->Option (List xv)
 |[]=>some []
 |.tmp t::r=>(iZ P r).map (.tmp t::·)
 |.cell t ty::r=>match qk P ty,eA P ty,jL P ty,iZ P r with
  |some false,_,some z,some rs=>some (.cell t (.sc (HT z))::rs)
  |some true,some n,some (.agg cs),some rs=>match G_ n cs.size with|true=>some (.cell t (yM cs)::rs)|false=>none
  |_,_,_,_=>none
def eW(s:St)(w:A_):List xv->List B_->(List B_->Prop)->Prop
 |[],acc,K=>K acc
 |.tmp t::r,acc,K=>match s.ρ t with
  |some (.v v)=>eW s w r (acc++[v]) K
  |_=>False
 |.cell t sh::r,acc,K=>match s.ρ t with
  |some (.v (.pointer p))=>nn p fun a=>match sh with
   |.sc sc=>sc.ex fun v=>w.cell? a=some v/\eW s w r (acc++[v]) K
   |.agg l=>GD l fun vs=>yB w a vs 0 (eW s w r (acc++[.agg vs.toArray]) K)
   |.row n=>∃vs:List B_,vs.length=n/\iK w a vs/\eW s w r (acc++[.agg vs.toArray]) K
  |some (.loc k off)=>match fu k s.l with
   |some (_,cs)=>match sh with
    |.sc _=>match cs[off]? with|some v=>eW s w r (acc++[v]) K|none=>False
    |.agg l=>match Y_ (off+l.length) cs.length with|true=>eW s w r (acc++[.agg ((cs.drop off).take l.length).toArray]) K|false=>False
    |.row _=>False
   |none=>False
  |_=>False
def vh:List B_->B_
 |[v]=>v
 |vs=>.tuple vs.toArray
def vt(rs:List xv)(s:St)(w:A_)(R:C_->A_->Prop):Prop:=sync s w fun w=>iV (s.kp.map (·.1)) w fun w=>eW s w rs [] fun vs=>R (.returned (vh vs)) w
def cM(args:List B_):St:={ρ:=fun t=>(args[t]?).map EV.v,l:=[],dirty:=false,ro:=[],kp:=[]}
def Np(P:D_)(fn:Func)(ac:AC)(args:List B_)(w:A_)(R:C_->A_->Prop):Prop:=
 match fn.body,iZ P fn.results.toList with
 |some c,some rs=>vc P (fun ch w=>R (.panicked ch) w) ac c (cM args) w fun e s w'=>match e with
  |.normal=>vt rs s w' R
  |.ret=>vt rs s w' R
  |_=>False
 |_,_=>False
def MS(P:D_)(fn:Func)(ac:AC)(n:Nat):Bool:=
 match fn.body with
 |some c=>iE P fn.ntmps ac c&&Y_ n fn.ntmps
 |none=>false
def nh(tmps:Array B_):ResultVar->Sem B_
 |.tmp t=>pure (tmps.getD t undef)
 |.cell a t=>do loadVar t (<-asAddr (tmps.getD a undef))
theorem qZ{s:St}{a:Act}{wa:A_}(hg:bQ s a wa):∀(rv:List ResultVar) (rs:List xv) (acc:List B_) (K:List B_->Prop),iZ P rv=some rs->eW s wa rs acc K->
  ∃vs:List B_,(rv.mapM (nh a.tmps)).run P wa=.ok vs wa/\K (acc++vs)
 |[],rs,acc,K,h1,h2=>by
  simp[iZ]at h1;subst h1;exact⟨[],rfl,by simpa[eW]using h2⟩
 |.tmp t::rv,rs,acc,K,h1,h2=>by
  simp only[iZ]at h1;cases hr:iZ P rv with
  |none=>rw[hr]at h1;cases h1
  |some rs'=>
   rw[hr]at h1;cases h1;simp only[eW]at h2
   split at h2<;>try exact h2.elim
   rename_i v hv;obtain⟨vs,h3,h4⟩:=qZ hg rv rs' _ K hr h2;refine⟨v::vs,?_,by simpa using h4⟩
   simp only[i_,nh,T_,N_,J_];rw[h3];simp only[J_,hg.v _ _ hv]
 |.cell x t::rv,rs,acc,K,h1,h2=>by
  simp only[iZ]at h1;have fin:∀(y:Addr) (v:B_) (rs':List xv),a.tmps.getD x undef=.pointer (some y)->(loadVar t y).run P wa=.ok v wa->iZ P rv=some rs'->eW s wa rs' (acc++[v]) K->
    ∃vs:List B_,((ResultVar.cell x t::rv).mapM (nh a.tmps)).run P wa=.ok vs wa/\K (acc++vs):=by
   intro y v rs' hy hl hr h2;obtain⟨vs,h3,h4⟩:=qZ hg rv rs' _ K hr h2;refine⟨v::vs,?_,by simpa using h4⟩
   simp only[i_,nh,T_,N_,J_,hy,asAddr,hl];rw[h3];simp only[J_]
  split at h1<;>try cases h1
  ·rename_i z rs' hagg hz hr
   simp only[eW]at h2
   split at h2<;>try exact h2.elim
   ·rename_i p hp
    obtain⟨y,rfl,h2⟩:=gR h2;obtain⟨v,hc,h2⟩:=Sc.ex_some h2;exact fin y v rs' (hg.v _ _ hp) (gL hagg hc) hr h2
   ·rename_i k off hp
    obtain⟨b,cs,hm,he⟩:=hg.loc _ _ _ hp
    split at h2<;>try exact h2.elim
    rename_i b' cs' hl;rw[cH hg.lok.keys hm]at hl;cases hl
    split at h2<;>try exact h2.elim
    rename_i v hv;obtain⟨hlt,e,hb⟩:=hg.lok.at_ _ _ _ hm;exact fin _ v rs' he (gL hagg (dV hb hv)) hr h2
  ·rename_i n cs rs' hagg hsz hz hr
   split at h1<;>cases h1
   rename_i hn;have hn':n=cs.toList.length:=by simpa using I_ hn
   rcases rQ cs with hsh|hsh<;>rw[hsh]at h2<;>simp only[eW]at h2
   rotate_left
   ·split at h2<;>try exact h2.elim
    ·rename_i p hp
     obtain⟨y,rfl,h2⟩:=gR h2;obtain⟨vs,hlen,hc,h2⟩:=h2;exact fin y _ rs' (hg.v _ _ hp) (eC hagg (by rw[hsz,hn',hlen];simp) (fun j v hj=>hc j v hj)) hr h2
    ·split at h2<;>exact h2.elim
   split at h2<;>try exact h2.elim
   ·rename_i p hp
    obtain⟨y,rfl,h2⟩:=gR h2;obtain⟨vs,hlen,h2⟩:=mH h2;obtain⟨hc,h2⟩:=pL h2;exact fin y _ rs' (hg.v _ _ hp) (eC hagg (by rw[hsz,hn',hlen];simp) (fun j v hj=>by simpa using hc j v hj)) hr h2
   ·rename_i k off hp
    obtain⟨b,ls,hm,he⟩:=hg.loc _ _ _ hp
    split at h2<;>try exact h2.elim
    rename_i b' cs' hl;rw[cH hg.lok.keys hm]at hl;cases hl
    split at h2<;>try exact h2.elim
    rename_i hle;have hle:=Z_ hle;obtain⟨hlt,e,hb⟩:=hg.lok.at_ _ _ _ hm;refine fin _ _ rs' he (eC (vs:=(ls.drop off).take (cs.toList.map AG).length) hagg (by rw[hsz,hn'];simp at hle⊢;omega) (fun j v hj=>?_)) hr h2
    rw[af];refine dV hb ?_;rw[List.getElem?_take]at hj
    split at hj
    ·rw[List.getElem?_drop]at hj;exact hj
    ·cases hj
theorem rL{s s':St}{w:A_}(h1:s.ρ=s'.ρ)(h2:s.l=s'.l):∀(rs:List xv) (acc:List B_) (K:List B_->Prop),eW s w rs acc K=eW s' w rs acc K
 |[],_,_=>rfl
 |.tmp t::rs,acc,K=>by simp only[eW,h1,rL h1 h2 rs]
 |.cell t sh::rs,acc,K=>by simp only[eW,h1,h2,rL h1 h2 rs]
theorem pZ{P:D_}{fn:Func}{tmps:Array B_}{R:C_->A_->Prop}{u:FrameMode}(hu:u≠.run){F:A_->Prop}(Inv:A_->Prop)(hInv:∀D w w',Inv w->w.heap[D]?=some bK->dP D w w'->Inv w')
  (hF:∀w,Inv w->F w->LeavesIn E_ 0 P fn tmps R [] u w):∀{kp:List (Nat×Obj)} {w:A_},dJ kp w->(∀x,x∈kp->x.2=bK)->Inv w->iV (kp.map (·.1)) w F->LeavesInM E_ 0 P fn tmps R (kp.map lg) u w
 |[],w,_,_,hi,h=>hF w hi h
 |(D,o)::kp,w,hk,hd,hi,h=>by
  have ho:o=bK:=hd (D,o) (by simp)
  subst ho;have hD:=(hk.at_ D bK (by simp)).1
  have hput:=dP.putObj D w (.deferred none);refine⟨hu,.inl ⟨D,_,rfl,run_takeDeferred hD,?_⟩⟩;exact pZ hu Inv hInv hF (hk.tail.put hput (g_.1 hk.nd).1) (fun x hx=>hd x (by simp[hx])) (hInv D _ _ hi hD hput) (h _ hput)
theorem Ib{f:FuncId}{fn:Func}{ac:AC}{args:List B_}(hm:P.follows .mixedOrders=true)(hf:P.funcs[f]?=some fn)
 (hok:MS P fn ac args.length=true)(h:Np P fn ac args w R):Calls P f args.toArray w R:=by
  unfold Np at h;unfold MS at hok;cases hb:fn.body with
  |none=>rw[hb]at hok;cases hok
  |some c=>
    rw[hb]at h hok;cases hr:iZ P fn.results.toList with
    |none=>rw[hr]at h;exact h.elim
    |some rs=>
      rw[hr]at h;simp only at h;simp only[F_]at hok;have hle:=Z_ hok.2
      let a0:Act:={tmps:=args.toArray++K_ (fn.ntmps-args.toArray.size) undef,defers:=[]}
      have hN:a0.tmps.size=fn.ntmps:=by simp[a0];omega
      have hg:aZ (cM args) a0 w w:=by
        refine⟨⟨fun t x hx=>?_,fun t k off hx=>?_,fun t k n hx=>?_,⟨fun k b cs hm=>by simp[cM]at hm,by simp[cM],by simp[cM,am]⟩,⟨fun D o hm=>by simp[cM]at hm,by simp[cM]⟩⟩,fun hd=>by simp[cM]at hd,fun _=>rfl⟩
        · simp only[cM,O_]at hx
          obtain⟨y,hy,he⟩:=hx;cases he;have hlt:t<args.length:=(List.getElem?_eq_some_iff.1 hy).1;simp only[a0];rw[j_,k_ (by simpa using hlt)]
          simp[hy]
        · simp only[cM,O_]at hx
          obtain⟨y,hy,he⟩:=hx;cases he
        · simp only[cM,O_]at hx
          obtain⟨y,hy,he⟩:=hx;cases he
      refine callsIn_wide.1 (callsIn_of_wp_marks hf hb trivial (wpIn_mono (oS hm ac none _ c (cM args) w w a0 _ (.inl rfl) hok.1 h hg hN) ?_));intro e a' wa' hp;have ret:∀s' w' kpx,aZ s' a' w' wa'->om kpx a0 a'->s'.kp=kpx++(cM args).kp->vt rs s' w' R->LeavesInM E_ 0 P fn a'.tmps R a'.defers .returning wa':=by
        intro s' w' kpx hg' hmk hkp hv;have hv:=hg'.sync hv;have hkp':s'.kp=kpx:=by rw[hkp];simp[cM]
        have hdf:a'.defers=s'.kp.map lg:=by rw[hmk.2,hkp'];simp[a0]
        rw[hdf];refine pZ (by simp) (fun w=>bQ (s'.withKp []) a' w) (fun D w1 w2 hi hD hp=>⟨hi.v,hi.loc,hi.lsl,hp.locks hi.lok hD rfl,⟨(fun _ _ h=>by cases h),by simp[St.withKp]⟩⟩) ?_ hg'.ag.dok (fun x hx=>hmk.1 x (hkp'▸hx)) ⟨hg'.ag.v,hg'.ag.loc,hg'.ag.lsl,hg'.ag.lok,⟨(fun _ _ h=>by cases h),by simp[St.withKp]⟩⟩ hv
        intro w1 hag hv;have hv:eW (s'.withKp []) w1 rs [] fun vs=>R (.returned (vh vs)) w1:=by
          rw[rL (s:=s'.withKp []) (s':=s') rfl rfl];exact hv
        obtain⟨vs,h1,h2⟩:=qZ hag fn.results.toList rs [] _ hr hv;refine⟨vh vs,?_,by simpa using h2⟩
        have h3:(fn.results.mapM (nh a'.tmps)).run P w1=.ok vs.toArray w1:=by
          rw[l_];simp only[Sem.run_map,h1,J_]
        have h4:results fn a'.tmps=(do
            let vs <-fn.results.mapM (nh a'.tmps)
            pure (if h:vs.size=1 then vs[0]else .tuple vs)):=by
          unfold results;congr 2
        rw[h4];simp only[T_,h3,J_,N_];congr 1;cases vs with
        |nil=>rfl
        |cons v vs=>cases vs<;>simp[vh]
      rcases hp with⟨ch,kpx,rfl,_,_,hmk,hk,hx⟩|⟨hne,hno,hf2,s',w',kpx,_,hmk,hkp,hg',_,hq⟩
      · have e1:kpx++(cM args).kp=kpx:=by simp[cM]
        rw[e1]at hk hx;have hdf:a'.defers=kpx.map lg:=by rw[hmk.2];simp[a0]
        show LeavesInM E_ 0 P fn a'.tmps R a'.defers (.panicking ch) wa';rw[hdf];exact pZ (by simp) (fun _=>True) (fun _ _ _ _ _ _=>trivial) (fun w1 _ h=>h) hk hmk.1 trivial hx
      · cases e with
        |normal=>exact ret s' w' kpx hg' hmk hkp hq
        |ret=>exact ret s' w' kpx hg' hmk hkp hq
        |exit id=>exact hq.elim
        |goto l=>exact hq.elim
        |panic ch=>exact absurd rfl (hne ch)
        |outgrown=>exact absurd rfl hno
end
def lx:FrameMode->B_
 |.panicking ({v,recovered:=false,goexit:=false}::_)=>v
 |_=>.nilIface
def kK:FrameMode->FrameMode
 |.panicking ({v,recovered:=false,goexit:=false}::older)=>.panicking ({v,recovered:=true}::older)
 |u=>u
theorem Fl(c:Frame)(cs:List Frame):(recoverD (c::cs)=some (lx c.mode,{c with mode:=kK c.mode}::cs))\/(recoverD (c::cs)=none/\lx c.mode=.nilIface/\kK c.mode=c.mode):=by
 unfold recoverD;simp only
 split
 ·rename_i v older h
  rw[h];exact .inl rfl
 ·rename_i h
  refine .inr ⟨rfl,?_,?_⟩
  ·unfold lx;split
   ·rename_i v older e;exact absurd e (h v older)
   ·rfl
  ·unfold kK;split
   ·rename_i v older e;exact absurd e (h v older)
   ·rfl
def oY(t:Nat):List Oper->Option (List Nat)
 |[]=>some []
 |o::r=>match o.op,o.dst,o.guard with
  |.assign (.tmp t'),some d,none=>match G_ t t' with
   |true=>(oY t r).map (d::·)
   |false=>none
  |_,_,_=>none
def Hx:List Oper->Option (Nat×List Nat)
 |[]=>none
 |o::r=>match o.op,o.dst,o.guard with
  |.call c,some t,none=>match c.callee with
   |.builtin .recover=>(oY t r).map (t,·)
   |_=>none
  |_,_,_=>none
def j7(v:B_):List Nat->St->St
 |[],s=>s
 |d::ds,s=>j7 v ds (s.set d (some (.v v)))
def JB(P:D_)(fn:Func)(ac:AC)(args:List B_)(v:B_)(w:A_)(R:C_->A_->Prop):Prop:=
 match fn.body,iZ P fn.results.toList with
 |some (.seq (.region _ ops false) c),some rs=>match Hx ops.toList with
  |some (t,ds)=>vc P (fun ch w=>R (.panicked ch) w) ac c (j7 v (t::ds) (cM args)) w fun e s w'=>match e with
   |.normal=>vt rs s w' R
   |.ret=>vt rs s w' R
   |_=>False
  |none=>False
 |_,_=>False
def ND(P:D_)(fn:Func)(ac:AC)(n:Nat):Bool:=
 match fn.body with
 |some (.seq (.region _ ops false) c)=>match Hx ops.toList with
  |some (t,ds)=>iE P fn.ntmps ac c&&Y_ n fn.ntmps&&(!bB c)&&(t::ds).all (fun d=>U_ d fn.ntmps)
  |none=>false
 |_=>false
theorem rU(v:B_):∀(ds:List Nat) (s:St),(j7 v ds s).l=s.l/\(j7 v ds s).dirty=s.dirty/\(j7 v ds s).ro=s.ro/\(j7 v ds s).kp=s.kp
 |[],_=>⟨rfl,rfl,rfl,rfl⟩
 |d::ds,s=>rU v ds (s.set d (some (.v v)))
section
variable {P : D_}
theorem CF{fn:Func}{args:List B_}(hle:args.length<=fn.ntmps):
  aZ (cM args) {tmps:=args.toArray++K_ (fn.ntmps-args.toArray.size) undef,defers:=[]} w w:=by
 refine⟨⟨fun t x hx=>?_,fun t k off hx=>?_,fun t k n hx=>?_,⟨fun k b cs hm=>by simp[cM]at hm,by simp[cM],by simp[cM,am]⟩,⟨fun D o hm=>by simp[cM]at hm,by simp[cM]⟩⟩,fun hd=>by simp[cM]at hd,fun _=>rfl⟩
 ·simp only[cM,O_]at hx
  obtain⟨y,hy,he⟩:=hx;cases he;have hlt:t<args.length:=(List.getElem?_eq_some_iff.1 hy).1;rw[j_,k_ (by simpa using hlt)]
  simp[hy]
 ·simp only[cM,O_]at hx
  obtain⟨y,hy,he⟩:=hx;cases he
 ·simp only[cM,O_]at hx
  obtain⟨y,hy,he⟩:=hx;cases he
theorem uS{fn:Func}{a:Act}{s:St}{rs:List xv}(hr:iZ P fn.results.toList=some rs)(hag:bQ s a w)(hv:eW s w rs [] fun vs=>R (.returned (vh vs)) w):
  ∃v,(results fn a.tmps).run P w=.ok v w/\R (.returned v) w:=by
 obtain⟨vs,h1,h2⟩:=qZ hag fn.results.toList rs [] _ hr hv;refine⟨vh vs,?_,by simpa using h2⟩
 have h3:(fn.results.mapM (nh a.tmps)).run P w=.ok vs.toArray w:=by
  rw[l_];simp only[Sem.run_map,h1,J_]
 have h4:results fn a.tmps=(do
   let vs <-fn.results.mapM (nh a.tmps)
   pure (if h:vs.size=1 then vs[0]else .tuple vs)):=by
  unfold results;congr 2
 rw[h4];simp only[T_,h3,J_,N_];congr 1;cases vs with
 |nil=>rfl
 |cons v vs=>cases vs<;>simp[vh]
theorem wR{ops:Array Oper}{Q:Exit->Act->List Frame->A_->Prop}{cs:List Frame}{w:A_}{v:B_}{t:Nat}{N:Nat}:∀(os:List Oper) (i:Nat) (ds:List Nat) (s:St) (a:Act),(∀j o,os[j]?=some o->ops[i+j]?=some o)->
  oY t os=some ds->aZ s a w w->s.ρ t=some (.v v)->a.tmps.size=N->(∀d,d∈ds->d<N)->a.defers=[]->
  (∀a',aZ (j7 v ds s) a' w w->a'.tmps.size=N->a'.defers=[]->Q .normal a' cs w)->wpOpsSIn E_ 0 P ops Q (List.range' i os.length) a cs w
 |[],i,ds,s,a,hops,hm,hg,ht,hN,hlt,hd,hQ=>by
  simp only[oY,V_]at hm;subst hm;exact hQ a hg hN hd
 |o::os,i,ds,s,a,hops,hm,hg,ht,hN,hlt,hd,hQ=>by
  unfold oY at hm
  split at hm<;>try cases hm
  rename_i t' d ho hdst hgd
  split at hm<;>try cases hm
  rename_i htt;obtain rfl:=I_ htt;obtain⟨ds',hds,rfl⟩:=O_.1 hm;have ho0:ops[i]?=some o:=hops 0 o rfl;have htv:a.eval (.tmp t)=v:=hg.ag.v _ _ ht;have hdN:d<a.tmps.size:=by rw[hN];exact hlt d (by simp)
  have hrun:(execOp a.eval o).run P w=.ok (.value v) w:=by simp only[execOp,ho,htv,N_]
  simp only[List.length_cons,m_,wpOpsSIn,ho0];refine⟨fun _ _=>trivial,?_⟩;have hwt:P_ o (yielded ops a.tmps)=true:=by simp[P_,hgd]
  simp only[hwt,if_true,hrun,hdst];have hg':aZ (s.put (some d) (some (.v v))) (a.put (some d) v) w w:=hg.put (fun t ht=>by cases ht;exact hdN) rfl
  refine wR os (i+1) ds' (s.set d (some (.v v))) _ (fun j o hj=>by rw[show i+1+j=i+(j+1) by omega];exact hops (j+1) o (by simpa using hj)) hds hg' ?_ (by simp[Act.put,hN]) (fun x hx=>hlt x (by simp[hx])) hd hQ
  simp only[St.set,oa];by_cases e:t=d
  ·subst e;simp
  ·simp[e,ht]
theorem Gt{f:FuncId}{fn:Func}{ac:AC}{args:List B_}{u:FrameMode}(hm:P.follows .mixedOrders=true)(hf:P.funcs[f]?=some fn)
 (hok:ND P fn ac args.length=true)(h:JB P fn ac args (lx u) w R):CallsDIn E_ 0 P f args.toArray u w fun e u' w'=>u'=kK u/\R e w':=by
 unfold JB at h;unfold ND at hok
 split at h<;>try exact h.elim
 rename_i id ops c rs hb hr;rw[hb]at hok;simp only at hok
 split at h<;>try exact h.elim
 rename_i t ds hro;rw[hro]at hok;simp only[F_,H_]at hok;obtain⟨⟨⟨hokc,hle⟩,hrf⟩,hall⟩:=hok;have hle:=Z_ hle;have hlt:∀d,d∈t::ds->d<fn.ntmps:=fun d hd=>by
  have:=List.all_eq_true.1 hall d hd;simpa[d_]using this
 refine callsDIn_of_wpSIn hf hb trivial fun c₀ cs hu=>wpSIn_seq (wpSIn_region ?_);have hops:∃o os,ops.toList=o::os/\(∃cl,o.op=.call cl/\cl.callee=.builtin .recover)/\o.dst=some t/\o.guard=none/\oY t os=some ds:=by
  cases hl:ops.toList with
  |nil=>rw[hl]at hro;cases hro
  |cons o os=>
   rw[hl]at hro;simp only[Hx]at hro
   split at hro<;>try cases hro
   rename_i cl t' ho hd hg
   split at hro<;>try cases hro
   rename_i hc;obtain⟨ds',h1,h2⟩:=O_.1 hro;cases h2;exact⟨o,os,rfl,⟨cl,ho,hc⟩,hd,hg,h1⟩
 obtain⟨o,os,hl,⟨cl,ho,hcal⟩,hdst,hgd,hmv⟩:=hops;have hat:∀j x,(o::os)[j]?=some x->ops[j]?=some x:=fun j x hj=>by rw[<-X_,hl];exact hj
 have hsz:ops.size=os.length+1:=by rw[<-n_,hl];rfl
 have hg0:=CF (fn:=fn) (w:=w) hle;have hN0:(args.toArray++K_ (fn.ntmps-args.toArray.size) undef).size=fn.ntmps:=by simp;omega
 have hrun:∀a:Act,(execOp a.eval o).run P w=.ok .recover w:=fun a=>by
  simp only[execOp,ho,resolve,hcal,T_,N_,J_,invoke,builtin]
 have hwt:∀tm:Array B_,P_ o (yielded ops tm)=true:=fun tm=>by simp[P_,hgd]
 have fin:∀(cs':List Frame) (hcs:cs'={c₀ with mode:=kK u}::cs) (a':Act),aZ (j7 (lx u) ds ((cM args).set t (some (.v (lx u))))) a' w w->a'.tmps.size=fn.ntmps->a'.defers=[]->
   Exit.thenS (c.wpSIn E_ 0 P (bodyPostS P fn c₀ cs fun e u' w'=>u'=kK u/\R e w')) (bodyPostS P fn c₀ cs fun e u' w'=>u'=kK u/\R e w') .normal a' cs' w:=by
  intro cs' hcs a' hg' hN' hd';refine wpSIn_of_wpIn rfl (wpIn_mono (oS hm ac none _ c _ w w a' _ (.inl rfl) hokc h hg' hN') ?_);intro e a2 w2 hp;have ret:∀s' w' kpx,kpx=[]->aZ s' a2 w' w2->om kpx a' a2->s'.kp=kpx++(j7 (lx u) (t::ds) (cM args)).kp->vt rs s' w' R->
    a2.defers=[]/\∃u',cs'={c₀ with mode:=u'}::cs/\∃v,(results fn a2.tmps).run P w2=.ok v w2/\(u'=kK u/\R (.returned v) w2):=by
   rintro s' w' kpx rfl hg2 hmk hkp hv
   have hkp':s'.kp=[]:=by rw[hkp];exact(rU _ _ _).2.2.2
   have hv:=hg2.sync hv;rw[hkp']at hv;obtain⟨v,h1,h2⟩:=uS hr hg2.ag hv;exact⟨by rw[hmk.2,hd'];rfl,kK u,hcs,v,h1,rfl,h2⟩
  rcases hp with⟨ch,kpx,rfl,_,hn,hmk,hk,hx⟩|⟨hne,hno,hf2,s',w',kpx,hn,hmk,hkp,hg2,_,hq⟩
  ·obtain rfl:=hn (by simp[hrf])
   refine⟨by rw[hmk.2,hd'];rfl,kK u,hcs,rfl,?_⟩
   have e1:(j7 (lx u) (t::ds) (cM args)).kp=[]:=(rU _ _ _).2.2.2;exact jM hx
  ·have hkn:=hn (by simp[hrf])
   cases e with
   |normal=>exact ret s' w' kpx hkn hg2 hmk hkp hq
   |ret=>exact ret s' w' kpx hkn hg2 hmk hkp hq
   |exit id=>exact hq.elim
   |goto l=>exact hq.elim
   |panic ch=>exact absurd rfl (hne ch)
   |outgrown=>exact absurd rfl hno
 rw[hsz,e_,m_];simp only[wpOpsSIn,hat 0 o rfl];refine⟨fun _ _=>trivial,?_⟩;simp only[hwt,if_true,hrun,hdst];have ht:t<fn.ntmps:=hlt t (by simp)
 have hgt:=hg0.put (d:=some t) (e:=some (.v (lx u))) (v:=lx u) (fun x hx=>by cases hx;rw[hN0];exact ht) rfl
 have hst:((cM args).set t (some (.v (lx u)))).ρ t=some (.v (lx u)):=by simp[St.set]
 rcases Fl c₀ cs with he|⟨he,hv,hmd⟩
 ·rw[he,hu]
  exact wR os (0+1) ds _ _ (fun j x hj=>by rw[show 0+1+j=j+1 by omega];exact hat (j+1) x (by simpa using hj)) hmv hgt hst (by simp[Act.put];omega) (fun d hd=>hlt d (by simp[hd])) rfl (fin _ rfl)
 ·rw[he]
  rw[hu]at hv hmd;have hgt':=hgt;rw[hv]at hgt' hst;have:=wR (P:=P) (Q:=Exit.thenS (c.wpSIn E_ 0 P (bodyPostS P fn c₀ cs fun e u' w'=>u'=kK u/\R e w')) (bodyPostS P fn c₀ cs fun e u' w'=>u'=kK u/\R e w')) (cs:=c₀::cs) os (0+1) ds _ _ (fun j x hj=>by rw[show 0+1+j=j+1 by omega];exact hat (j+1) x (by simpa using hj)) hmv hgt' hst (by simp[Act.put];omega) (fun d hd=>hlt d (by simp[hd])) rfl
   (by rw[hv]at fin;exact fin _ (by rw[hmd];subst hu;rfl))
  exact this
end
def DQ:List Oper->Option (Nat×FuncId×List Operand)
 |[o1,o2]=>match o1.op,o1.dst,o1.guard with
  |.makeFunc (.func f) first caps,some t,none=>match o2.op,o2.dst,o2.guard with
   |.defer c,none,none=>match c.callee with
    |.value (.tmp t')=>match G_ t t'&&first.toList.isEmpty&&c.args.toList.isEmpty with
     |true=>some (t,f,caps.toList)
     |false=>none
    |_=>none
   |_,_,_=>none
  |_,_,_=>none
 |_=>none
def St.vals(s:St):St:={ρ:=fun t=>match s.ρ t with|some (.v x)=>some (.v x)|_=>none,l:=[],dirty:=false,ro:=[],kp:=[]}
def kB(P:D_)(f:FuncId)(args:List B_)(v:B_)(w:A_)(R:C_->A_->Prop):Prop:=
 ∀u,lx u=v->CallsDIn E_ 0 P f args.toArray u w fun e u' w'=>u'=kK u/\R e w'
def Jw(rs:List xv)(s:St)(R:C_->A_->Prop)(e:C_)(w':A_):Prop:=(∃x,e=.returned x)/\eW s.vals w' rs [] fun vs=>R (.returned (vh vs)) w'
def Pp(rs:List xv)(R:C_->A_->Prop)(e:Exit)(s:St)(w:A_):Prop:=match e with|.ret=>vt rs s w R|_=>False
def LT(P:D_)(rs:List xv)(R:C_->A_->Prop):AC->Code->St->A_->Prop
 |.seq a b,.seq x y,s,w=>vc P (fun ch w=>R (.panicked ch) w) a x s w (rh (fun s' w'=>LT P rs R b y s' w') (Pp rs R))
 |.dfr a,.seq (.region _ ops _) y,s,w=>match DQ ops.toList with
  |some (t,f,caps)=>match s.evs caps with
   |some vs=>vc P (fun ch w=>∃v,ch=[{v:=v,recovered:=false}]/\kB P f vs v w (Jw rs ((s.set t (some (.v (.func (.func f) #[] vs.toArray)))).del (dv y)) R)) a y (s.set t (some (.v (.func (.func f) #[] vs.toArray)))) w fun e s' w'=>match e with
    |.normal=>sync s' w' fun w'=>kB P f vs .nilIface w' (Jw rs s' R)
    |.ret=>sync s' w' fun w'=>kB P f vs .nilIface w' (Jw rs s' R)
    |_=>False
   |none=>False
  |none=>False
 |_,_,_,_=>False
def KI(P:D_)(fn:Func)(ac:AC)(args:List B_)(w:A_)(R:C_->A_->Prop):Prop:=
 match fn.body,iZ P fn.results.toList with
 |some c,some rs=>LT P rs R ac c (cM args) w
 |_,_=>False
def Lq(P:D_)(N:Nat):AC->Code->Bool
 |.seq a b,.seq x y=>iE P N a x&&!bB x&&Lq P N b y
 |.dfr a,.seq (.region _ ops dr) y=>!dr&&iE P N a y&&!bB y&&(match DQ ops.toList with|some (t,f,_)=>U_ t N&&!(dv y).any (G_ t)&&rX P f|none=>false)
 |_,_=>false
def NP(P:D_)(fn:Func)(ac:AC)(n:Nat):Bool:=
 match fn.body with
 |some c=>Lq P fn.ntmps ac c&&Y_ n fn.ntmps
 |none=>false
section
variable {P : D_}
theorem KM{s:St}{a b:Act}{D:List Nat}(h:bQ s a w)(hf:∀t,t∉D->b.tmps.getD t undef=a.tmps.getD t undef):bQ (s.del D).vals b w':=by
 refine⟨fun t x hx=>?_,fun t k off hx=>?_,fun t k n hx=>?_,⟨(fun _ _ _ h=>by cases h),by simp[St.vals],by simp[St.vals,am]⟩,⟨(fun _ _ h=>by cases h),by simp[St.vals]⟩⟩
 ·simp only[St.vals]at hx
  split at hx<;>cases hx
  rename_i hx;obtain⟨h1,h2⟩:=St.del_some hx;rw[hf t h2];exact h.v t x h1
 ·simp only[St.vals]at hx
  split at hx<;>cases hx
 ·simp only[St.vals]at hx
  split at hx<;>cases hx
theorem Ij{s:St}{a:Act}(h:bQ s a w):bQ s.vals a w':=by
 refine⟨fun t x hx=>?_,fun t k off hx=>?_,fun t k n hx=>?_,⟨(fun _ _ _ h=>by cases h),by simp[St.vals],by simp[St.vals,am]⟩,⟨(fun _ _ h=>by cases h),by simp[St.vals]⟩⟩
 ·simp only[St.vals]at hx
  split at hx<;>cases hx
  rename_i hx;exact h.v t x hx
 ·simp only[St.vals]at hx
  split at hx<;>cases hx
 ·simp only[St.vals]at hx
  split at hx<;>cases hx
theorem Mf(hm:P.follows .mixedOrders=true){fn:Func}{rs:List xv}(hr:iZ P fn.results.toList=some rs):∀(ac:AC) (c:Code) (s:St) (w wa:A_) (a:Act),Lq P fn.ntmps ac c=true->
  LT P rs R ac c s w->aZ s a w wa->a.tmps.size=fn.ntmps->a.defers=[]->s.kp=[]->c.wpIn (fR none) 0 P (bodyPostM E_ 0 P fn R) a wa:=by
 intro ac
 induction ac with
 |seq x y ihx ihy=>
  intro c s w wa a hok h hg hN hd hk;cases c<;>simp only[LT]at h<;>try exact h.elim
  rename_i cx cy;simp only[Lq,F_,H_]at hok;obtain⟨⟨hokx,hrf⟩,hoky⟩:=hok;refine wpIn_seq (wpIn_mono (oS hm x none _ cx s w wa a _ (.inl rfl) hokx h hg hN) ?_);intro e a1 wa1 hp;rcases hp with⟨ch,kpx,rfl,_,hn,hmk,_,hx⟩|⟨hne,hno,hf,s1,w1,kpx,hn,hmk,hkp,hg1,_,hq⟩
  ·obtain rfl:=hn (by simp[hrf])
   have hx:=jM hx;refine nA (by simp) ?_
   show LeavesInM E_ 0 P fn a1.tmps R a1.defers (.panicking ch) wa1;rw[hmk.2,hd];exact hx
  ·obtain rfl:=hn (by simp[hrf])
   have hd1:a1.defers=[]:=by rw[hmk.2,hd];rfl
   have hk1:s1.kp=[]:=by rw[hkp,hk];rfl
   rcases j8 hq with⟨rfl,hq⟩|⟨hne',hq⟩
   ·exact ihy cy s1 w1 wa1 a1 hoky hq hg1 (by rw[hf.size];exact hN) hd1 hk1
   ·refine nA hne' ?_
    cases e with
    |ret=>
     have hv:=hg1.sync hq;rw[hk1]at hv;obtain⟨v,h1,h2⟩:=uS hr hg1.ag hv;show LeavesInM E_ 0 P fn a1.tmps R a1.defers .returning wa1;rw[hd1];exact⟨v,h1,h2⟩
    |normal=>exact absurd rfl hne'
    |exit id=>exact hq.elim
    |goto l=>exact hq.elim
    |panic ch=>exact absurd rfl (hne ch)
    |outgrown=>exact absurd rfl hno
 |dfr x ihx=>
  intro c s w wa a hok h hg hN hd hk;cases c<;>try exact h.elim
  rename_i cx cy;cases cx<;>try exact h.elim
  rename_i id ops dr;simp only[LT]at h;simp only[Lq,F_,H_]at hok;obtain⟨⟨⟨hdr,hoky⟩,hrf⟩,hpo⟩:=hok;subst hdr
  split at h<;>try exact h.elim
  rename_i t f caps hpf;rw[hpf]at hpo;simp only[F_,H_]at hpo;obtain⟨⟨htN,htc⟩,hfo⟩:=hpo;have htN:t<fn.ntmps:=by simpa[d_]using htN
  split at h<;>try exact h.elim
  rename_i vs hvs;obtain⟨o1,o2,capsA,c2,firstA,hl,ho1,hd1,hg1,ho2,hd2,hg2,hcal,hfe,hae,rfl⟩:∃o1 o2 capsA c2 firstA,ops.toList=[o1,o2]/\o1.op=.makeFunc (.func f) firstA capsA/\o1.dst=some t/\o1.guard=none/\o2.op=.defer c2/\o2.dst=none/\o2.guard=none/\c2.callee=.value (.tmp t)/\firstA=#[]/\c2.args=#[]/\capsA.toList=caps:=by
   unfold DQ at hpf
   split at hpf<;>try cases hpf
   rename_i o1 o2 hl
   split at hpf<;>try cases hpf
   rename_i f' first' caps' t' e1 e2 e3
   split at hpf<;>try cases hpf
   rename_i c' e4 e5 e6
   split at hpf<;>try cases hpf
   rename_i t'' e7
   split at hpf<;>cases hpf
   rename_i hb;simp only[F_]at hb;obtain⟨⟨b1,b2⟩,b3⟩:=hb;have b1:=I_ b1;subst b1;exact⟨o1,o2,caps',c',first',hl,e1,e2,e3,e4,e5,e6,e7,by cases first';simpa using b2,(by
    generalize c'.args=A at b3;cases A;simpa using b3),rfl⟩
  have hops0:ops[0]?=some o1:=by rw[<-X_,hl];rfl
  have hops1:ops[1]?=some o2:=by rw[<-X_,hl];rfl
  have hsz:ops.size=2:=by rw[<-n_,hl];rfl
  have hcaps:capsA.map a.eval=vs.toArray:=by
   have:=hg.ag.evs hvs;rw[<-this];cases capsA;simp
  let fv:B_:=.func (.func f) #[] vs.toArray
  have hg3:aZ (s.set t (some (.v fv))) (a.put (some t) fv) w wa:=hg.put (d:=some t) (e:=some (.v fv)) (v:=fv) (fun x hx=>by cases hx;rw[hN];exact htN) rfl
  have run1:(execOp a.eval o1).run P wa=.ok (.value fv) wa:=by
   simp[execOp,ho1,Instr.makeFunc,hfe,hcaps,fv]
  have hev2:(a.put (some t) fv).eval (.tmp t)=fv:=by
   simp only[Act.eval];rw[Act.getD_put t (by rw[hN];exact htN),if_pos rfl]
  have run2:(execOp (a.put (some t) fv).eval o2).run P wa=.ok (.defer {target:=.fn (.func f) vs.toArray,args:=#[]}) wa:=by
   simp[execOp,ho2,resolve,hcal,hev2,Deferred.ofValue,fv,hae]
  let d0:Deferred:={target:=.fn (.func f) vs.toArray,args:=#[]}
  let a3:Act:={a.put (some t) fv with defers:=d0::a.defers}
  have hg4:aZ (s.set t (some (.v fv))) a3 w wa:=⟨⟨hg3.ag.v,hg3.ag.loc,hg3.ag.lsl,hg3.ag.lok,hg3.ag.dok⟩,hg3.dirty,hg3.clean⟩;have hN3:a3.tmps.size=fn.ntmps:=by simp[a3,Act.put];exact hN
  have hinv:∀w',(invoke d0.target d0.args).run P w'=.ok (.enter f vs.toArray) w':=fun w'=>by
   unfold rX at hfo
   split at hfo<;>try cases hfo
   rename_i fn1 hfn1;simp only[F_,H_]at hfo;have hb:fn1.body.isNone=false:=by cases hb:fn1.body<;>simp_all
   have hb':fn1.body≠none:=by intro e;rw[e]at hb;cases hb
   have hn':fn1.name≠ "runtime.NumGoroutine" :=by intro e;rw[e]at hfo;simp at hfo
   simp only[invoke,d0];simp[callFunc,hfn1,hn',hb']
  have leave:∀(a4:Act) (s4:St) (w4:A_) (u:FrameMode),a4.defers=[d0]->u≠.run->settle (kK u)=.returning->(∀w',bQ s4 a4 w')->kB P f vs (lx u) w4 (fun e w'=>(∃x,e=.returned x)/\eW s4 w' rs [] fun vs=>R (.returned (vh vs)) w')->
    LeavesInM E_ 0 P fn a4.tmps R a4.defers u w4:=by
   intro a4 s4 w4 u hd4 hu hst hag hc;rw[hd4];refine⟨hu,.inr ⟨fun hd=>(by cases hd),.func f,vs.toArray,f,vs.toArray,rfl,hinv w4,fun _ _=>trivial,?_⟩⟩
   refine CallsDIn.mono (hc u rfl) ?_
   rintro e u' w' ⟨rfl,⟨x,rfl⟩,hv⟩
   show LeavesInM E_ 0 P fn a4.tmps R [] (settle (kK u)) w';rw[hst];obtain⟨v,h1,h2⟩:=uS hr (hag w') hv;exact⟨v,h1,h2⟩
  refine wpIn_seq (wpIn_region ?_);rw[hsz];show wpOpsIn _ _ _ _ _ [0,1] a wa;rw[wpOpsIn_cons,wpOpIn];simp only[hops0,P_,hg1,if_true];refine⟨fun _ _=>trivial,?_⟩;rw[Oper.semAt_none,run1];show wpOpsIn _ _ _ _ _ [1] (a.put o1.dst fv) wa;rw[hd1,wpOpsIn_cons,wpOpIn];simp only[hops1,P_,hg2,if_true];refine⟨fun _ _=>trivial,?_⟩;rw[Oper.semAt_none,run2];show Exit.then (cy.wpIn (fR none) 0 P (bodyPostM E_ 0 P fn R)) (bodyPostM E_ 0 P fn R) .normal (Act.put a3 o2.dst undef) wa;rw[hd2];show cy.wpIn (fR none) 0 P (bodyPostM E_ 0 P fn R) a3 wa;have hcs:=oS hm x none _ cy _ w wa a3 _ (.inl rfl) hoky h hg4 hN3;refine wpIn_mono hcs ?_;intro e a4 wa4 hp;rcases hp with⟨ch,kpx,rfl,hfr,hn,hmk,_,hx⟩|⟨hne,hno,hf,s1,w1,kpx,hn,hmk,hkp,hg5,_,hq⟩
  ·obtain rfl:=hn (by simp[hrf])
   obtain⟨v,rfl,hc⟩:=jM hx;have hd4:a4.defers=[d0]:=by rw[hmk.2];show[]++(d0::a.defers)=_;rw[hd];rfl
   exact leave a4 ((s.set t (some (.v fv))).del (dv cy)).vals wa4 (.panicking [{v:=v,recovered:=false}]) hd4 (by simp) rfl (fun w'=>KM hg4.ag fun t' ht'=>hfr.tmps t' ht') hc
  ·obtain rfl:=hn (by simp[hrf])
   have hd4:a4.defers=[d0]:=by rw[hmk.2];show[]++(d0::a.defers)=_;rw[hd];rfl
   have fin:(sync s1 w1 fun w'=>kB P f vs .nilIface w' (Jw rs s1 R))->LeavesInM E_ 0 P fn a4.tmps R a4.defers .returning wa4:=fun hq=>
    leave a4 s1.vals wa4 .returning hd4 (by simp) rfl (fun w'=>Ij hg5.ag) (hg5.sync hq)
   cases e with
   |normal=>exact fin hq
   |ret=>exact fin hq
   |exit id=>exact hq.elim
   |goto l=>exact hq.elim
   |panic ch=>exact absurd rfl (hne ch)
   |outgrown=>exact absurd rfl hno
 |_=>
  intro c s w wa a hok h hg hN hd hk;cases c<;>exact h.elim
theorem Hh{f:FuncId}{fn:Func}{ac:AC}{args:List B_}(hm:P.follows .mixedOrders=true)(hf:P.funcs[f]?=some fn)
 (hok:NP P fn ac args.length=true)(h:KI P fn ac args w R):Calls P f args.toArray w R:=by
 unfold KI at h;unfold NP at hok
 split at h<;>try exact h.elim
 rename_i c rs hb hr;rw[hb]at hok;simp only[F_]at hok;have hle:=Z_ hok.2;have:=Mf (fn:=fn) (rs:=rs) (R:=R) hm hr ac c (cM args) w w _ hok.1 h (CF hle) (by simp;omega) rfl rfl
 exact callsIn_wide.1 (callsIn_of_wp_marks (F:=E_) (n:=0) hf hb trivial this)
end
end Go.Vc
namespace Go.Proofs.YtoomejkiagonpaaGreatDoor
open Go Go.Vc
variable {w w' wa : A_} {R : C_ -> A_ -> Prop} {k : Nat} {vs : List B_} {v : B_} {ds : List Nat}
noncomputable abbrev P:D_:=Tryz.prog
theorem JC:P.follows .mixedOrders=true:=by kernel_rfl
abbrev rr(n:Nat):AC:=.reg (.run 0 n .done)
abbrev ra:AC:=.reg (.op 0 false false false .done)
abbrev o0(i:Nat)(p:ey):ey:=.op i false false false p
abbrev o1(i:Nat)(p:ey):ey:=.op i true false false p
abbrev si:Sc:=.int .i64
abbrev zq(a b:AC):AC:=.seq a b
abbrev zc(a b:AC):AC:=.cond a b
abbrev zb(a:AC):AC:=.block a
abbrev zl(v:List LV)(a:AC):AC:=.loop v a
abbrev zt(v:List LV)(a b:AC):AC:=.cut v a b
abbrev zk(v:List LV)(a:AC):AC:=.bcut v a
abbrev zg(p:ey):AC:=.reg p
abbrev zr(i n:Nat)(p:ey):ey:=.run i n p
abbrev zd(g:Nat)(t:Bool)(i n:Nat)(p:ey):ey:=.gand g t i n p
abbrev za(p q:ey):ey:=.alt p q
abbrev zp(t:Nat)(p:ey):ey:=.split t p
abbrev z0:AC:=.skip
abbrev z1:AC:=.ret
abbrev z2:AC:=.exit
abbrev z3:ey:=.done
def CY:AC:=zq (zg (o1 0<|o0 1<|z3)) (zq (zq (rr 2) (zc (zq ra z1) z0)) (zq (rr 10) (zq (zg (zr 0 7<|o1 7<|zr 8 2<|z3)) (zq (zq (rr 2) (zc (zq (rr 4) z1) z0)) (zq (zg (zr 0 6<|o1 6<|zr 7 2<|z3)) (zq (rr 8) (zq (zg (zr 0 5<|o1 5<|zr 6 2<|z3)) (zq (zg (zr 0 3<|zd 58 true 3 2<|o0 6<|zd 62 true 7 2<|o0 10<|zd 66 true 11 2<|o0 14<|zp 70<|zr 15 5<|zp 75<|zr 20 5<|z3)) z1))))))))
def KA:AC:=zq ra (zq (zg (zr 0 5<|o1 5<|zr 6 2<|z3)) (zq (rr 7) (zq (zg (zr 0 6<|o1 6<|zr 7 2<|z3)) (zq (zg (zr 0 3<|zp 25<|zr 3 5<|zd 30 true 8 2<|o0 11<|zd 34 true 12 4<|o0 17<|zp 40<|zr 18 7<|z3)) z1))))
def Dv:AC:=zq (zg (o1 0<|zr 1 2<|z3)) (zq (zg (zr 0 7<|o1 7<|zr 8 2<|z3)) (zq (zq (rr 2) (zc (zq (rr 3) z1) z0)) (zq (rr 6) z1)))
def KO:AC:=zq (zg (o1 0<|o1 1<|z3)) (zq (rr 3) z1)
def DX:AC:=zq (zg (o1 0<|o1 1<|o0 2<|z3)) (zq (zq (rr 3) (zc (zq (rr 3) z1) z0)) (zq (zq (zg (zr 0 3<|zd 35 false 3 2<|o0 6<|zd 39 false 7 2<|o0 10<|zd 43 false 11 2<|z3)) (zc (zq (rr 3) z1) z0)) (zq (zg (zr 0 7<|o1 7<|o0 8<|z3)) (zt [.loc 8 [si,si,si,.slice]] (zq (rr 2) (zc (rr 6) z0)) (zt [] (zq (rr 2) (zc (.regR [8] (zr 0 3<|zr 4 2<|.ldl 3<|zr 6 4<|z3)) z0)) (zq (rr 11) (zq (zq ra (zb (zl [.slot 13 si] (zq (zq (rr 5) (zc z0 z2)) (zq (zb (zq (zg (zr 0 5<|o1 5<|o0 6<|z3)) (zq (rr 9) (zq (rr 7) (zq (rr 10) (zq ra (zb (zl [.slot 19 si] (zq (zq (rr 11) (zc z0 z2)) (zq (zb (zq (rr 16) (zq ra (zq (zq ra (zb (zl [.slot 22 .slice,.slot 23 si] (zq (zq (rr 2) (zc z0 z2)) (zq (zb (zq (rr 5) (zq (zq ra (zb (zl [.slot 24 si,.slot 25 si] (zq (zq (rr 5) (zc z0 z2)) (zq (zb (zg (zr 0 22<|o0 23<|o0 25<|o0 22<|o0 24<|zr 26 3<|z3))) (rr 3)))))) (zg (zr 0 7<|o1 7<|zr 8 2<|z3))))) (rr 3)))))) (zq (rr 7) (zq (rr 7) (zq (rr 9) (zq (zq ra (zb (zl [.slot 28 si] (zq (zq (rr 2) (zc z0 z2)) (zq (zb (rr 11)) (rr 3)))))) (.regR [8] (o0 0<|zr 2 8<|.ldl 1<|o1 10<|zr 11 4<|z3)))))))))) (rr 3))))))))))) (rr 3)))))) (zq (rr 3) z1))))))))
def AN:AC:=zq (rr 2) (zq (zq (rr 3) (zc (zq (rr 3) z1) z0)) (.dfr (zt [] (zg (zr 0 4<|zp 16<|zr 4 6<|zp 22<|zr 10 6<|z3)) (zq (rr 5) (zq (zq ra (zb (zl [.slot 7 si] (zq (zq (rr 2) (zc z0 z2)) (zb (zq (rr 3) (rr 4))))))) (zq (rr 2) (zq (rr 6) z1)))))))
def Hf:AC:=zq ra (zq (rr 4) z1)
def Cb:AC:=zq (zg (o1 0<|zr 1 2<|z3)) (zq (zq (rr 3) (zc (zq (rr 2) z1) z0)) (zq (zq (zg (zr 0 7<|zd 25 false 7 6<|z3)) (zc (zq (rr 2) z1) z0)) (zq (rr 3) (zq (rr 20) (zq (rr 6) (zq (rr 2) (zq (zq (rr 4) (zb (zl [.slot 5 .slice,.slot 6 .slice,.slot 62 si] (zq ra (zq (zc z0 z2) (zq (zb (zq (zg (zr 0 3<|o1 3<|zr 4 2<|z3)) (zq (rr 4) (zq (zq (rr 3) (zb (zl [.slot 10 .slice,.slot 72 si] (zq ra (zq (zc z0 z2) (zq (zb (zq (rr 3) (zg (zr 0 7<|o1 7<|zr 8 2<|z3)))) (rr 2))))))) (zt [] (zg (o0 1<|za (o0 0<|zr 2 3<|z3) (o0 2<|o0 0<|zr 3 2<|z3))) (zq (zg (zr 0 13<|o1 13<|zr 14 2<|z3)) (zg (zr 0 4<|o1 4<|zr 5 2<|z3)))))))) (rr 2))))))) (zt [] (zg (o0 1<|za (o0 0<|zr 2 3<|z3) (o0 2<|o0 0<|zr 3 2<|z3))) (zt [] (zq (rr 3) (zc (zg (zr 1 7<|za (o0 0<|zr 8 4<|z3) (o0 8<|za (o0 0<|zr 9 3<|z3) (o0 9<|o0 0<|zr 10 2<|z3)))) z0)) (zq (rr 4) (zq (rr 3) (zq (zq ra (zb (zl [.slot 135 si] (zq ra (zq (zc z0 z2) (zq (zk [] (zq (rr 2) (zg (zr 1 2<|za (o0 0<|zr 3 4<|z3) (o0 3<|za (o0 0<|zr 4 3<|z3) (o0 4<|o0 0<|zr 5 2<|z3)))))) (rr 2))))))) (zt [] (zg (o0 1<|za (o0 0<|o1 2<|zr 3 4<|z3) (o1 2<|za (o0 0<|zr 3 4<|z3) (o0 3<|za (o0 0<|zr 4 3<|z3) (o0 4<|o0 0<|zr 5 2<|z3))))) (zt [] (zg (za (zr 0 5<|z3) (o0 1<|o0 0<|zr 2 3<|z3))) (zq (rr 3) (zq (rr 4) (zq (rr 2) (zq (zg (o0 0<|o1 1<|zr 2 3<|z3)) z1))))))))))))))))))
def FE:AC:=zq (zg (o1 0<|o1 1<|z3)) (zq ra (zq (zq ra (zb (zl [.slot 3 .slice,.slot 4 si] (zq (zq (rr 5) (zc z0 z2)) (zq (zb (zq (zg (zr 0 5<|o1 5<|o0 6<|z3)) (zq (rr 6) (zq ra (zq (zq ra (zb (zl [.slot 6 .slice,.slot 7 si] (zq (zq (rr 5) (zc z0 z2)) (zq (zb (zg (zr 0 8<|o1 8<|zr 9 2<|z3))) (rr 3)))))) (zq (rr 3) (zg (zr 0 2<|o1 2<|zr 3 2<|z3)))))))) (rr 3)))))) (zq (rr 3) (zq (rr 2) z1))))
def FQ:AC:=zq (zg (o1 0<|o1 1<|o0 2<|z3)) (zq (zq (zg (zr 0 6<|zd 14 false 6 5<|o0 12<|zd 21 false 13 5<|o0 19<|zd 28 false 20 7<|z3)) (zc (zq ra z1) z0)) (zq (zq ra (zb (zl [.slot 5 si] (zq (zq (rr 5) (zc z0 z2)) (zq (zb (zt [.nloc 6 [si,si,.slice,.slice],.nloc 7 [si,si,.slice,.slice]] (.regR [3] (zr 0 6<|o0 7<|.ldl 6<|o0 8<|za (o0 9<|za (o1 10<|o1 11<|zr 12 2<|z3) (o1 11<|o1 10<|zr 12 2<|z3)) (za (o1 10<|za (o0 9<|o1 11<|zr 12 2<|z3) (o1 11<|za (o0 9<|zr 12 2<|z3) (o0 12<|o0 9<|o0 13<|z3))) (o1 11<|za (o0 9<|o1 10<|zr 12 2<|z3) (o1 10<|za (o0 9<|zr 12 2<|z3) (o0 12<|o0 9<|o0 13<|z3)))))) (zq (zq (zg (zr 0 6<|zd 59 false 6 5<|o0 12<|zp 66<|zr 13 8<|zd 74 false 21 7<|z3)) (zc (zq ra z1) z0)) (zq ra (zb (zl [.slot 8 si] (zq (zq (rr 5) (zc z0 z2)) (zq (zb (zq (rr 12) (zc (zq ra z1) z0))) (rr 3))))))))) (rr 3)))))) (zq ra z1)))
def Ff:AC:=zq (zg (o1 0<|o1 1<|o0 2<|z3)) (zq (zq (rr 4) (zc (zq (rr 3) z1) z0)) (zq (zg (zr 0 3<|o1 3<|o0 4<|z3)) (zq (zq ra (zb (zl [.slot 9 si,.loc 8 [si,si,.slice]] (zq (zq (rr 5) (zc z0 z2)) (zq (zb (rr 4)) (rr 3)))))) (zq (rr 3) z1))))
def FR:AC:=zq (zg (o1 0<|o1 1<|o1 2<|zr 3 2<|z3)) (zq (rr 7) (zq (zq (rr 2) (zc (zq (rr 3) z1) z0)) (zq (zq (zg (zr 0 3<|zd 26 false 3 2<|o0 6<|zd 30 false 7 2<|o0 10<|zd 34 false 11 2<|z3)) (zc (zq (rr 2) z1) z0)) (zq ra (zt [] (.regR [3] (o0 0<|o0 4<|o0 9<|.ldl 5<|.ldl 10<|o0 1<|za (o0 2<|za (o0 3<|o0 6<|za (o0 7<|za (o0 8<|zr 11 4<|z3) (o0 11<|o0 8<|zr 12 3<|z3)) (o0 11<|zr 7 2<|zr 12 3<|z3)) (o0 6<|za (o0 3<|za (o0 7<|za (o0 8<|zr 11 4<|z3) (o0 11<|o0 8<|zr 12 3<|z3)) (o0 11<|zr 7 2<|zr 12 3<|z3)) (o0 11<|o0 3<|zr 7 2<|zr 12 3<|z3))) (o0 6<|za (o0 2<|za (o0 3<|za (o0 7<|za (o0 8<|zr 11 4<|z3) (o0 11<|o0 8<|zr 12 3<|z3)) (o0 11<|zr 7 2<|zr 12 3<|z3)) (o0 11<|o0 3<|zr 7 2<|zr 12 3<|z3)) (o0 11<|zr 2 2<|zr 7 2<|zr 12 3<|z3)))) (zt [] (zq (rr 3) (zc (rr 4) z0)) (zq (zq (rr 2) (zb (.rfunc false [] [.sc si,.sc .slice] ra (zb (zq ra (zq (zq (rr 3) (zb (zl [.slot 13 .slice,.slot 66 si] (zq ra (zq (zc z0 z2) (zq (zb (zq (zg (zr 0 2<|o1 2<|o0 3<|z3)) (rr 7))) (rr 2))))))) (rr 4))))))) (zq (rr 3) z1))))))))
def Fb:AC:=zq (zg (o1 0<|o0 1<|z3)) (zq (zq (rr 3) (zc (zq (rr 3) z1) z0)) (zq (rr 4) (zq (zq (rr 3) (zc (zq (rr 3) z1) z0)) (zq (zq (rr 10) (zc (zq (rr 3) z1) z0)) (zq ra (zt [.slot 7 si] (zq (rr 6) (zc ra z0)) (zq (rr 18) (zq (zq (rr 2) (zc (zq (rr 3) z1) z0)) (zq (zg (zr 0 9<|o1 9<|o0 10<|z3)) (zq (zq (rr 10) (zb (zl [.slot 81 si,.loc 10 [si,si,.slice]] (zq ra (zq (zc z0 z2) (zq (zb (zq (rr 2) (zq (zq ra (zb (zl [.slot 84 si,.loc 10 [si,si,.slice]] (zq ra (zq (zc z0 z2) (zq (zb (zq (rr 2) (zq (rr 11) (zt [.slot 13 si] (zq (rr 6) (zc (rr 3) z0)) (zq (rr 11) (zg (zr 0 3<|o1 3<|zr 4 3<|z3))))))) (rr 2))))))) (zg (zr 0 2<|o1 2<|zr 3 3<|z3))))) (rr 2))))))) (zq (rr 3) z1)))))))))))
def FZ:AC:=zq (zg (o1 0<|o1 1<|o0 2<|z3)) (zq (rr 7) (zq (zq (rr 2) (zc (zq (rr 4) z1) z0)) (zq (zq (zg (zr 0 3<|zd 35 false 3 2<|o0 6<|zd 39 false 7 2<|o0 10<|zd 43 false 11 2<|z3)) (zc (zq (rr 3) z1) z0)) (zq (zg (zr 0 11<|o1 11<|o0 12<|z3)) (zt [.loc 10 [si,si,si,.slice]] (zq (rr 2) (zc (zg (zr 0 4<|o1 4<|zr 5 3<|z3)) z0)) (zt [.nloc 11 [si,si,.slice]] (zg (zr 0 7<|za (.op 7 false false true<|za (.op 8 false false true<|za (.op 9 false false true<|o0 10<|o1 11<|o0 12<|z3) (o1 11<|.op 9 false false true<|o0 10<|o0 12<|z3)) (o1 11<|.op 8 false false true<|.op 9 false false true<|o0 10<|o0 12<|z3)) (o1 11<|.op 7 false false true<|.op 8 false false true<|.op 9 false false true<|o0 10<|o0 12<|z3))) (zq (rr 3) (zq (rr 20) (zq (zq (rr 4) (zb (zl [.slot 102 si] (zq ra (zq (zc z0 z2) (zq (zb (zq (rr 2) (zq (rr 5) (zq (rr 11) (zq (rr 7) (zq (rr 7) (zb (zl [.slot 131 si] (zq ra (zq (zc z0 z2) (zq (zb (zq (rr 2) (zq (rr 7) (zb (zl [.slot 140 si] (zq ra (zq (zc z0 z2) (zq (zb (zq (rr 2) (zq (rr 2) (zq (zq (rr 3) (zb (zl [.slot 146 si] (zq ra (zq (zc z0 z2) (zq (zb (zq (rr 2) (zq (rr 5) (zq (zq (rr 4) (zb (zl [.slot 22 si,.slot 156 si] (zq ra (zq (zc z0 z2) (zq (zb (zq (rr 2) (zg (zr 0 24<|o0 25<|o0 24<|zr 26 3<|z3)))) (rr 2))))))) (rr 10))))) (rr 2))))))) (zg (zr 0 10<|.op 10 false false true<|o1 11<|zr 12 4<|z3)))))) (rr 2))))))))) (rr 2)))))))))))) (rr 2))))))) (zq (rr 3) z1))))))))))
def Fa:AC:=zq (zg (o1 0<|o1 1<|z3)) (zq (rr 6) (zq (rr 2) z1))
def FB:AC:=zq (zg (o1 0<|o0 1<|z3)) (zq (zg (zr 0 6<|zd 8 true 6 10<|o0 17<|z3)) z1)
def Du:AC:=zq (zg (o1 0<|zr 1 4<|z3)) (zq (rr 2) (zq (zq ra (zb (zl [.slot 6 si,.slot 7 si,.slot 8 si] (zq (zq (rr 5) (zc z0 z2)) (zq (zk [.slot 6 si,.slot 7 si] (zt [.slot 6 si] (zq (rr 8) (zc (rr 7) z0)) (zq (rr 8) (zc (rr 7) z0)))) (rr 3)))))) (zq (rr 24) z1)))
def Dq:AC:=zq (rr 2) (zq (zq (zg (zr 0 3<|zd 14 false 3 2<|z3)) (zc (zq (rr 2) z1) z0)) (zq (rr 4) (zt [.slot 6 si] (zq (rr 2) (zc (rr 3) z0)) (zq ra (zq (zq ra (zb (zl [.slot 7 .slice,.slot 8 si] (zq (zq (rr 2) (zc z0 z2)) (zq (zb (zq ra (zb (zl [.slot 7 .slice,.slot 9 si] (zq (zq (rr 2) (zc z0 z2)) (zq (zk [.slot 7 .slice] (zq (rr 6) (zt [.slot 10 si] (zq ra (zc (rr 6) z0)) (zq (rr 6) (zq (zq (rr 2) (zc ra z0)) (zq (zq (rr 2) (zc ra z0)) (zg (zr 0 2<|o1 2<|zr 3 2<|z3)))))))) (rr 3))))))) (rr 3)))))) (zq (rr 3) z1))))))
def DL:AC:=zq (zg (o1 0<|o1 1<|z3)) (zq (zq (rr 2) (zc (zq (rr 8) (zq (rr 3) z1)) z0)) (zq (rr 8) (zq (rr 8) (zq (rr 8) (zq (rr 11) (zq (rr 5) z1))))))
def FF:AC:=zq (zg (o1 0<|o1 1<|z3)) (zq (zg (zr 0 5<|zr 6 4<|.op 5 false false true<|.op 10 false false true<|zr 11 2<|z3)) z1)
def Ak:AC:=zq (rr 2) (zq (rr 3) (zq (zq (rr 2) (zc (zq (rr 3) z1) z0)) (zq (rr 3) (zq ra (zq (zq ra (zb (zl [.slot 6 .slice,.slot 7 si] (zq (zq (rr 2) (zc z0 z2)) (zq (zb (zq ra (zb (zl [.slot 6 .slice,.slot 8 si] (zq (zq (rr 2) (zc z0 z2)) (zq (zb (zq ra (zq (zq ra (zb (zl [.slot 9 si,.slot 10 si] (zq (zq (rr 2) (zc z0 z2)) (zq (zb (zq ra (zb (zl [.slot 9 si,.slot 11 si] (zq (zq (rr 2) (zc z0 z2)) (zq (zb (rr 24)) (rr 3))))))) (rr 3)))))) (zg (zr 0 3<|o1 3<|zr 4 2<|z3))))) (rr 3))))))) (rr 3)))))) (zq (rr 3) z1))))))
def Cq:AC:=zq (rr 2) (zq (zq (zg (zr 0 4<|zd 12 false 4 3<|z3)) (zc (zq (rr 2) z1) z0)) (zq (zq (zg (zr 0 4<|zp 20<|zr 4 4<|z3)) (zc (zq (rr 2) z1) z0)) (zq ra (zq (zq ra (zb (zl [.slot 6 .slice,.slot 7 si] (zq (zq (rr 2) (zc z0 z2)) (zq (zk [.slot 6 .slice] (zq (rr 5) (zq (rr 2) (zc (zg (zr 0 15<|o1 15<|zr 16 2<|z3)) (zg (zr 0 14<|o1 14<|zr 15 2<|z3)))))) (rr 3)))))) (zq (rr 3) z1)))))
def D5:AC:=zq ra (zq (zq (rr 2) (zc (zq ra z1) z0)) (zq (zq (rr 3) (zc (zq (rr 2) z1) z0)) (zq (rr 2) z1)))
def vA:AC:=zq (rr 2) (zc (zq (zg (zr 0 5<|o1 5<|zr 6 2<|z3)) (zq (zq (rr 2) (zc (rr 2) z0)) (.regR [3] (zr 0 2<|.ldl 2<|zr 3 2<|z3)))) z0)
def uf:AC:=zq ra (zc (rr 3) z0)
def se:AC:=zq ra (zt [] (zg (zr 0 7<|zp 10<|zr 7 9<|z3)) (zq (zk [] (zl [] (zq (zq (zg (zr 0 7<|zp 26<|zr 7 8<|z3)) (zc z0 z2)) (zb (rr 9))))) (zq (rr 7) (zq (rr 7) (zq (rr 9) (zq (rr 3) z1))))))
def qQ:AC:=zt [] (zg (zr 0 3<|zd 11 false 3 2<|o0 6<|zp 15<|zr 7 3<|zp 18<|zr 10 5<|z3)) (zq (zg (zr 0 3<|zd 26 true 3 2<|o0 6<|zd 30 true 7 2<|o0 10<|z3)) (zq (rr 6) (zq (rr 2) (zq (rr 3) (zq (rr 5) (zq (rr 5) (zq ra (zk [] (zq (rr 2) (zc (rr 3) (zq (rr 2) (zc (rr 3) (zq (rr 2) (zc (rr 4) (zq (rr 2) (zc (rr 3) (zq (rr 2) (zc (zq (rr 4) (rr 6)) z0))))))))))))))))))
def ti:AC:=zq (zg (zr 0 5<|o1 5<|o0 6<|z3)) (zq (zq (rr 7) (zb (zl [.slot 25 si] (zq ra (zq (zc z0 z2) (zq (zb (zq (rr 2) (zq (rr 8) (rr 20)))) (rr 2))))))) (zq (rr 2) (zq (rr 7) (zq (zq ra (zb (zl [.slot 7 si,.slot 8 si] (zq (zq (rr 3) (zc z0 z2)) (zk [.slot 7 si,.slot 8 si] (zq (rr 10) (zq (rr 10) (zq (rr 6) (zq (zq (rr 6) (zb (zl [.slot 91 si] (zq ra (zq (zc z0 z2) (zq (zb (zq (rr 2) (rr 8))) (rr 2))))))) (zq (rr 4) (zt [.slot 13 si] (zq (rr 6) (zc (rr 8) z0)) (zq (zq (rr 2) (zb (zl [.slot 8 si,.slot 119 si] (zq ra (zq (zc z0 z2) (zq (zb (zq (rr 5) (rr 3))) (rr 2))))))) (zq (rr 7) (zq (rr 3) (zc (zq (rr 7) (rr 3)) z0))))))))))))))) (rr 4)))))
def B9:AC:=zq (zg (o1 0<|o0 1<|z3)) (zt [] (zq (zg (zr 0 7<|zd 15 false 7 8<|o0 16<|zd 25 false 17 3<|o0 21<|zp 30<|zr 22 5<|zp 35<|zr 27 6<|z3)) (zc (zq ra z1) z0)) (zq (zq (rr 4) (zb (zl [.slot 45 si] (zq ra (zq (zc z0 z2) (zq (zb (zq (zg (zr 0 2<|o1 2<|o0 3<|z3)) (zt [] (zq (zg (zr 0 7<|zd 55 false 7 6<|o0 14<|zp 63<|zr 15 5<|zp 68<|zr 20 8<|z3)) (zc (zq ra z1) z0)) (zq (zg (zr 0 5<|zp 81<|zr 5 6<|zp 87<|zr 11 5<|z3)) (zc (zq ra z1) z0))))) (rr 2))))))) (zq (zg (zr 0 2<|o1 2<|zr 3 2<|z3)) (zq (zq (rr 4) (zb (zl [.slot 6 si,.slot 99 si] (zq ra (zq (zc z0 z2) (zq (zb (zq (zg (zr 0 2<|o1 2<|o0 3<|z3)) (zq (rr 6) (zq (zg (zr 0 16<|zp 123<|zr 16 4<|z3)) (zc (zq ra z1) z0))))) (rr 2))))))) (zq (rr 3) z1)))))
def Fq:AC:=zq ra (zq (rr 2) (zq (rr 2) (zq (zq ra (zb (zl [.slot 1 .slice,.slot 2 si,.slot 3 si,.slot 5 si] (zq ra (zq (zc z0 z2) (zq (zb (zq (zg (zr 0 5<|o1 5<|zr 6 2<|z3)) (zk [.slot 2 si,.slot 3 si] (zt [.slot 18 .bool] (zq (zg (zr 0 6<|zd 24 true 6 2<|o0 9<|z3)) (zc z0 (zg (zr 0 6<|zd 33 true 6 2<|o0 9<|zd 37 true 10 2<|o0 13<|z3)))) (zc (rr 3) (zt [.slot 43 .bool] (zq (zg (zr 0 6<|zd 49 true 6 2<|o0 9<|z3)) (zc z0 (zg (zr 0 6<|zd 58 true 6 2<|o0 9<|z3)))) (zc (rr 3) (zq (rr 6) (zc (rr 6) (rr 6)))))))))) (rr 2))))))) (zq (rr 2) z1))))
def xI:AC:=zq ra (zq (rr 4) (zq (rr 10) z1))
def sF:AC:=zq (zg (o1 0<|z3)) (zq (zg (zr 0 2<|o1 2<|o0 3<|z3)) (zq (rr 2) (zq (rr 5) (zq (rr 7) (zq (rr 2) (zb (zl [.slot 10 si,.slot 30 si] (zq ra (zq (zc z0 z2) (zq (zk [.slot 10 si] (zq (rr 2) (zq (zq (rr 4) (zb (zl [.slot 36 si] (zq ra (zq (zc z0 z2) (zq (zb (zq (zg (zr 0 3<|o1 3<|zr 4 2<|z3)) (zq (rr 3) (zb (zl [.slot 43 si] (zq ra (zq (zc z0 z2) (zq (zb (zq (rr 2) (zq (rr 3) (zb (zl [.slot 48 si] (zq ra (zq (zc z0 z2) (zq (zb (zq (rr 2) (zq (rr 30) (zq (rr 8) (rr 7))))) (rr 2))))))))) (rr 2))))))))) (rr 2))))))) (zq (zg (zr 0 4<|zp 100<|zr 4 8<|zd 108 true 12 4<|z3)) (zc (zq (rr 3) (zq (rr 3) (rr 2))) z0))))) (rr 2)))))))))))
def sD:AC:=zq ra (zq (rr 8) (zq (rr 2) (zq ra (zq ra (zq (zq ra (zb (zl [.slot 8 .slice,.slot 9 si] (zq (zq (rr 2) (zc z0 z2)) (zq (zb (zq (rr 3) (zb (zl [.slot 8 .slice,.slot 29 si] (zq ra (zq (zc z0 z2) (zq (zk [.slot 8 .slice] (zq (rr 5) (zq (rr 3) (zc (zq (rr 5) (zq (rr 6) (zq (rr 2) (zc (zg (zr 0 3<|o1 3<|zr 4 2<|z3)) z0)))) z0)))) (rr 2)))))))) (rr 3)))))) (zq (zg (zr 0 5<|zr 9 2<|zr 13 2<|zr 5 4<|zr 11 2<|zr 15 2<|z3)) (zq (rr 5) (zq (zq (rr 3) (zb (zl [.slot 12 .slice,.slot 75 si] (zq ra (zq (zc z0 z2) (zq (zb (zq (rr 3) (zg (zr 0 3<|o1 3<|zr 4 2<|z3)))) (rr 2))))))) (zq (rr 4) z1)))))))))
def zJ:AC:=zq ra (zq (rr 6) z1)
def wg:AC:=zt [] (zq (rr 7) (zq (rr 2) (zc (rr 7) z0))) (zq (zg (zr 0 5<|.op 5 false false true<|.op 6 false false true<|zr 7 2<|z3)) (zg (o0 0<|.op 1 false false true<|zr 2 3<|z3)))
def wS:AC:=zq ra (zq (zq (rr 2) (zc (zq ra z1) z0)) (zq (rr 5) z1))
def xV:AC:=zq ra (zq (zq (rr 2) (zc (zq ra z1) z0)) (zq (zq (zg (zr 0 3<|zd 12 false 3 2<|z3)) (zc (zq ra z1) z0)) (zq (zq (rr 2) (zb (zl [.slot 17 si] (zq ra (zq (zc z0 z2) (zq (zk [] (zq (rr 2) (zq (zq (rr 4) (zc (rr 5) z0)) (rr 7)))) (rr 2))))))) (zq ra z1))))
def Fe:AC:=zq ra (zq (rr 4) (zq (zq (rr 3) (zb (zl [.slot 3 .slice,.slot 11 si] (zq ra (zq (zc z0 z2) (zq (zk [.slot 3 .slice] (zq (rr 3) (zq (zg (zr 0 2<|o1 2<|zr 3 2<|z3)) (zq (rr 2) (zc (zg (o0 0<|o1 1<|zr 2 2<|z3)) z0))))) (rr 2))))))) (zq (rr 2) z1)))
def uj:AC:=zq ra (zq (zq (rr 2) (zc (zq ra z1) z0)) (zq (rr 6) z1))
def zC:AC:=zq ra (zq (zq (rr 5) (zc (zq ra z1) z0)) (zq (zq ra (zb (zl [.slot 5 si] (zq (zq (rr 4) (zc z0 z2)) (zq (zb (zq (rr 9) (zc (zq ra z1) z0))) (rr 3)))))) (zq ra z1)))
def FJ:AC:=zq ra (zq (zg (zr 0 3<|zd 7 true 3 2<|o0 6<|zd 11 true 7 2<|o0 10<|zd 15 true 11 2<|o0 14<|zd 19 true 15 4<|o0 20<|z3)) z1)
def GV:AC:=zq (zg (o1 0<|o1 1<|o1 2<|z3)) (zq (zg (zr 0 10<|o1 10<|zr 11 3<|z3)) (zq (rr 2) z1))
def DP:AC:=zq (zg (o1 0<|zr 1 2<|z3)) (zq (zq (rr 3) (zc (zq (rr 2) z1) z0)) (zq (zg (zr 0 6<|o1 6<|o0 7<|z3)) (zq (zq (rr 3) (zb (.rfunc false [.loc 4 [.slice]] [.sc .slice] ra (zb (zg (zr 0 2<|.op 2 false false true<|o1 3<|zr 4 2<|z3)))))) (zq (rr 10) z1))))
def nj:AC:=zq (rr 2) (zq (rr 4) (zq (rr 9) (zq (zq (rr 2) (zc (rr 5) z0)) (zq (rr 10) z1))))
def C3:AC:=zq ra (zq (rr 3) z1)
def m8:AC:=zq (rr 2) (zq (rr 2) z1)
def DF:AC:=zq (zg (o1 0<|zr 1 2<|z3)) (zq (rr 2) (zq (zq ra (zb (zq (zk [] (zb (zq (zk [] (zb (zq (zq (zq (rr 2) (zc z2 z0)) (zq (zq (rr 2) (zc z2 z0)) (zq (zq (rr 2) (zc z2 z0)) (zq (rr 2) (zc z2 z0))))) z2))) (zq (zq (zq (rr 3) (zc (zq (rr 2) z1) z0)) (zq (rr 2) z1)) z2)))) (zq (zq (rr 6) z1) z2)))) (zq (zg (zr 0 3<|zr 4 3<|zr 8 3<|.op 3 false false true<|.op 7 false false true<|zr 11 3<|z3)) z1)))
def Ip:AC:=zq ra (zq (zq (rr 3) (zb (zl [.slot 8 (.int .u8),.slot 13 si] (zq ra (zq (zc z0 z2) (zq (zb (zq (rr 5) (zk [.slot 8 (.int .u8)] (zq (rr 3) (zc (zq (zq (rr 2) (zc (rr 2) z0)) (rr 4)) (zq (rr 3) (zc (zq (rr 9) (zq (zg (zr 0 4<|zd 54 false 4 5<|z3)) (zc (zq (rr 3) ra) z0))) (zq (zq (rr 2) (zc (rr 5) z0)) (rr 4))))))))) (rr 2))))))) (zq (rr 2) (zc (rr 2) z0)))
def tc:AC:=zq ra (zq (rr 10) z1)
def ya:AC:=zq ra (zq (zq (zg (zr 0 7<|zp 9<|zr 7 9<|zp 18<|zr 16 9<|zp 27<|zr 25 8<|z3)) (zc (zq ra z1) z0)) (zq (rr 20) (zq (zq (rr 10) (zq (rr 2) (zc (zq ra z1) z0))) (zq (zq (rr 10) (zq (rr 2) (zc (zq ra z1) z0))) (zq (zq (rr 6) (zc (rr 10) z0)) (zq (rr 2) z1))))))
def HI:AC:=zq ra (zq (zg (zr 0 5<|zd 11 false 5 6<|o0 12<|z3)) z1)
def ta:AC:=zq (rr 2) (zq (rr 3) (zq (zq (rr 4) (zb (zt [.slot 22 .bool] (zq (rr 2) (zc z0 (zq (rr 2) (zc z0 (rr 2))))) (zc (zq (zb (zl [.slot 6 .slice] (zq (zq (rr 4) (zc z0 z2)) (zb (zq (rr 10) (zq (zq (rr 2) (zc (zq (rr 2) z1) z0)) (zg (zr 0 2<|o1 2<|zr 3 2<|z3)))))))) (zq (rr 3) z1)) z0)))) (zq (zq (zg (zr 0 11<|zp 55<|zr 11 13<|z3)) (zc (zq (rr 2) z1) z0)) (zq (rr 11) (zq (zq (rr 5) (zc (zq (rr 7) (zq (zq (rr 9) (zc (zq (rr 2) z1) z0)) (zq (zq (rr 2) (zb (zl [.slot 6 .slice,.slot 100 si] (zq ra (zq (zc z0 z2) (zq (zb (zq (rr 2) (zq (rr 7) (zg (zr 0 21<|o1 21<|zr 22 2<|z3))))) (rr 2))))))) (zq (rr 3) z1)))) z0)) (zq ra (zt [.slot 13 si] (zq (rr 5) (zc ra z0)) (zq (zq (rr 6) (zc (zq (rr 2) z1) z0)) (zq (zq (rr 2) (zb (zl [.slot 6 .slice,.slot 146 si] (zq ra (zq (zc z0 z2) (zq (zb (zq (rr 2) (zq (rr 8) (zt [.slot 15 si] (zq (rr 2) (zc (rr 11) z0)) (zq (zq (rr 6) (zc (zq (rr 2) z1) z0)) (zg (zr 0 2<|o1 2<|zr 3 2<|z3))))))) (rr 2))))))) (zq (rr 3) z1))))))))))
def Ir:AC:=zq (rr 2) (zq (zq (zg (zr 0 3<|zd 8 false 3 2<|o0 6<|zd 12 false 7 2<|o0 10<|zd 16 false 11 3<|z3)) (zc (zq (rr 2) z1) z0)) (zq (rr 10) z1))
def nf:AC:=zq ra (zq (zq (rr 2) (zc (zq ra z1) z0)) (zq (rr 17) (zq (zq (rr 6) (zb (zl [.slot 31 si] (zq ra (zq (zc z0 z2) (zq (zb (zq (zg (zr 0 2<|o1 2<|o0 3<|z3)) (zg (zr 0 7<|.op 7 false false true<|o1 8<|zr 9 4<|z3)))) (rr 2))))))) (zq (rr 2) z1))))
def Fp:AC:=zq (rr 2) (zq (rr 2) z1)
def qn:AC:=zq ra (zq (zq (rr 2) (zc (zq ra z1) z0)) (zq (rr 6) z1))
def GL:AC:=zq (rr 2) (zq (zq (zg (zr 0 3<|zd 13 false 3 2<|z3)) (zc (zq (rr 2) z1) z0)) (zq (rr 4) (zt [.slot 6 si] (zq (rr 2) (zc (rr 3) z0)) (zq (rr 2) (zt [.slot 7 si,.slot 8 si] (zq ra (zc (rr 2) z0)) (zq (rr 2) (zq (zq (rr 3) (zb (zl [.slot 28 si] (zq ra (zq (zc z0 z2) (zq (zb (zq (rr 2) (rr 19))) (rr 2))))))) (zq (rr 3) z1))))))))
def qe:AC:=zq (zg (o1 0<|o1 1<|z3)) (zq (rr 21) z1)
def FH:AC:=zq ra (zq (rr 7) (zq (rr 7) (zq (zq (rr 3) (zb (zl [.slot 22 si] (zq ra (zq (zc z0 z2) (zq (zb (zq (rr 2) (zq ra (zt [.slot 8 si] (zq (rr 2) (zc ra z0)) (rr 11))))) (rr 2))))))) (zq (rr 2) z1))))
def FP:AC:=zq (rr 2) (zq (zq (zg (zr 0 3<|zd 8 false 3 2<|z3)) (zc (zq (rr 2) z1) z0)) (zq (rr 8) z1))
def Ft:AC:=zq (zg (o1 0<|o0 1<|z3)) (zq (rr 18) z1)
def Gz:AC:=zq (rr 3) (zq (rr 9) (zq (rr 11) (zq (rr 11) (zq (rr 11) (zq (rr 9) z1)))))
def DJ:AC:=zq (zg (o1 0<|o1 1<|z3)) (zq (rr 8) (zq (rr 25) z1))
def CZ:AC:=zq ra (zq (zq (rr 3) (zc (zq ra z1) z0)) (zq (zq ra (zb (zl [.slot 7 si] (zq (zq (rr 2) (zc z0 z2)) (zq (zb (zq (zg (zr 0 7<|zp 21<|zr 7 7<|z3)) (zc (zq ra z1) z0))) (rr 3)))))) (zq ra z1)))
def Df:AC:=zq ra (zq ra (zq (zq ra (zb (zl [.slot 2 si] (zq (zq (rr 2) (zc z0 z2)) (zq (zb (zq ra (zb (zl [.slot 3 si] (zq (zq (rr 2) (zc z0 z2)) (zq (zb (rr 9)) (rr 3))))))) (rr 3)))))) (zq (rr 2) z1)))
def Fy:AC:=zq ra (zq (rr 3) (zq (zq (rr 3) (zc (rr 3) z0)) (zq (rr 2) z1)))
def rH:AC:=zq ra (zc (rr 3) z0)
def ws:AC:=zq ra (zq (rr 7) z1)
def sY:AC:=zq ra (zq (rr 7) (zq (rr 6) (zq (rr 8) (zq (rr 2) z1))))
def od:AC:=zq ra (zq (rr 2) (zb (zl [] (zq (zq (rr 3) (zc z0 z2)) (zb (zq (rr 2) (zq (zg (zr 0 4<|zd 18 false 4 3<|o0 8<|z3)) (zq (rr 4) (zq (rr 2) (zq (rr 3) (zq (rr 2) (zq (zq (rr 3) (zb (zl [.slot 35 si] (zq ra (zq (zc z0 z2) (zq (zb (zq (rr 5) (rr 9))) (rr 2))))))) (rr 8)))))))))))))
def rY:AC:=zq ra (zb (zl [] (zq (zq (rr 3) (zc z0 z2)) (zb (zq (rr 2) (zq (zg (zr 0 4<|zd 18 false 4 3<|o0 8<|z3)) (zq (rr 4) (zq ra (zq (zq (rr 3) (zb (zl [.slot 5 .slice,.slot 30 si] (zq ra (zq (zc z0 z2) (zq (zb (zq (rr 5) (rr 9))) (rr 2))))))) (zq (rr 7) (zq (zg (zr 0 3<|zd 51 false 3 2<|o0 6<|zd 55 false 7 3<|o0 11<|z3)) (zq (rr 6) (zq (rr 9) (rr 11))))))))))))))
def sO:AC:=zq ra (zt [] (zg (zr 0 7<|zp 16<|zr 7 5<|z3)) (zq (rr 3) (zq (rr 12) (zq (rr 7) (zq (rr 7) (zq (rr 2) (zq (zg (zr 0 3<|zd 52 true 3 2<|o0 6<|z3)) (zq (zq (rr 2) (zb (zl [.slot 58 si] (zq ra (zq (zc z0 z2) (zq (zk [] (zq (rr 2) (zq (rr 10) (zq (rr 7) (zq (zg (zr 0 11<|o1 11<|o0 12<|z3)) (zt [] (zg (zr 0 7<|zd 93 false 7 6<|o0 14<|zp 101<|zr 15 5<|z3)) (zq (rr 7) (zt [.loc 9 [si,si,.slice,.slice]] (zq (rr 2) (zc (rr 4) z0)) (.regR [9] (zr 0 7<|zr 9 4<|.ldl 14<|za (o1 7<|za (o0 8<|o0 13<|o1 15<|zr 16 8<|z3) (za (o0 13<|za (o0 8<|o1 15<|zr 16 8<|z3) (o1 15<|o0 8<|zr 16 8<|z3)) (o1 15<|za (o0 8<|o0 13<|zr 16 8<|z3) (o0 13<|o0 8<|zr 16 8<|z3)))) (za (o0 13<|za (o1 7<|za (o0 8<|o1 15<|zr 16 8<|z3) (o1 15<|o0 8<|zr 16 8<|z3)) (o1 15<|o1 7<|o0 8<|zr 16 8<|z3)) (o1 15<|za (o1 7<|za (o0 8<|o0 13<|zr 16 8<|z3) (o0 13<|o0 8<|zr 16 8<|z3)) (o0 13<|o1 7<|o0 8<|zr 16 8<|z3))))))))))))) (rr 2))))))) (zq (rr 4) (zq (zg (zr 0 13<|zp 157<|zr 13 15<|z3)) (zc (rr 3) z0)))))))))))
def vH:AC:=zq ra (zq (rr 7) (zt [] (zg (zr 1 3<|za (o0 0<|zr 4 4<|z3) (zr 4 2<|o0 0<|zr 6 2<|z3))) (zq (zq (rr 6) (zb (zl [.slot 28 si] (zq ra (zq (zc z0 z2) (zq (zk [] (zq (rr 2) (zq (rr 7) (zq (rr 2) (zt [] (zg (zr 0 9<|zp 46<|zr 9 7<|zp 53<|zr 16 7<|z3)) (zq (rr 28) (zq (rr 10) (zt [] (zg (zr 0 6<|zp 101<|zr 6 7<|zd 108 false 13 2<|o0 16<|z3)) (zg (zr 0 4<|zr 5 2<|za (o0 4<|zr 7 4<|z3) (o0 7<|o0 4<|zr 8 3<|z3))))))))))) (rr 2))))))) (rr 5))))
def xp:AC:=zq (zg (o1 0<|o1 1<|z3)) (zq (zg (o0 0<|o1 1<|o0 2<|z3)) (zq (zq (rr 4) (zb (zl [.slot 10 si,.loc 3 [si,si,si,si]] (zq ra (zq (zc z0 z2) (zq (zb (zq (zg (zr 0 2<|o1 2<|o0 3<|z3)) (.regR [5] (zr 0 8<|o0 10<|.ldl 8<|o0 9<|zr 11 3<|z3)))) (rr 2))))))) (zq (.regR [1] (zr 0 12<|zr 13 3<|zr 18 3<|o0 22<|.ldl 12<|zr 16 2<|o0 21<|zr 23 3<|z3)) (zq (rr 2) z1))))
def Cd:AC:=zq (rr 2) (zq (rr 4) (zq ra (zq (zk [.slot 4 .slice,.slot 5 si] (zl [.slot 4 .slice,.slot 5 si] (zq (zq (rr 4) (zc z0 z2)) (zq (zk [.slot 4 .slice,.slot 5 si] (zq (zq (rr 5) (zc (zq (zq (zg (zr 0 6<|zp 25<|zr 6 7<|z3)) (zc z2 z0)) (zq (zg (o0 0<|o1 1<|zr 2 2<|z3)) (zq (rr 3) z2))) z0)) (zg (zr 0 5<|o1 5<|zr 6 2<|z3)))) (rr 3))))) (zq (rr 4) z1))))
def yX:AC:=zq ra (zq (rr 8) z1)
def ve:AC:=zq (zg (o1 0<|z3)) (zq (rr 6) (zb (zl [.slot 17 si] (zq ra (zq (zc z0 z2) (zq (zb (zq (rr 2) (zq (zg (zr 0 8<|o1 8<|o0 9<|z3)) (zq (rr 3) (zb (zl [.slot 30 si] (zq ra (zq (zc z0 z2) (zq (zb (zq (rr 2) (zq (rr 3) (zb (zl [.slot 35 si] (zq ra (zq (zc z0 z2) (zq (zb (zq (rr 2) (.regR [6,9] (o0 0<|zr 2 2<|o0 6<|o0 9<|o0 11<|o0 14<|zr 17 2<|o0 21<|o0 25<|zr 27 7<|.ldl 1<|.ldl 4<|o0 5<|.ldl 7<|o0 8<|o0 10<|.ldl 12<|o0 13<|.ldl 15<|o0 16<|.ldl 19<|o0 20<|.ldl 22<|zr 23 2<|o0 26<|zr 34 3<|z3)))) (rr 2))))))))) (rr 2)))))))))) (rr 2)))))))
def wj:AC:=zq ra (zq (zq (rr 2) (zc (zq ra z1) z0)) (zq (rr 12) z1))
def zE:AC:=zq ra (zq (zq (rr 3) (zc (rr 2) z0)) (zq (rr 4) (zq (zq ra (zb (zl [.slot 3 si,.slot 4 si] (zq (zq (rr 4) (zc z0 z2)) (zq (zb (rr 7)) (rr 3)))))) (zq (rr 2) z1))))
def yU:AC:=zq ra (zq (zq (rr 3) (zc (rr 2) z0)) (zq (rr 4) (zq (zq ra (zb (zl [.slot 3 si,.slot 4 si] (zq (zq (rr 4) (zc z0 z2)) (zq (zb (rr 7)) (rr 3)))))) (zq (rr 2) z1))))
def nW:AC:=zq ra (zq (rr 5) z1)
def wo:AC:=zq ra (zq (rr 4) z1)
def un:AC:=zq ra (zq (zq (zg (zr 0 4<|zp 6<|zr 4 5<|z3)) (zc (zq ra z1) z0)) (zq (zg (zr 0 4<|zp 15<|zr 4 6<|z3)) z1))
def r8:AC:=zq (rr 11) (zq (rr 5) (zq ra (zq (zq (rr 4) (zb (zl [.slot 10 si,.slot 32 si] (zq ra (zq (zc z0 z2) (zq (zk [.slot 10 si] (zq (rr 3) (zq (zq (rr 5) (zc (zq (rr 3) z2) z0)) (zq (zb (zl [.slot 10 si] (zq (zq (rr 2) (zc z0 z2)) (zq (zb (rr 2)) (rr 3))))) (zq (rr 10) (zq (rr 8) ra)))))) (rr 2))))))) (zq (rr 2) (zc (rr 2) z0)))))
def xL:AC:=zq (rr 2) (zq (zg (o0 0<|o1 1<|zr 2 7<|z3)) (zq (rr 2) z1))
def BS:AC:=zq (rr 2) (zq (rr 11) (zq (rr 4) (zq (rr 7) (zq (rr 4) z1))))
def Fc:AC:=zq ra (zq (zq ra (zc (zq ra z1) z0)) (zq ra z1))
def yu:AC:=zt [] (zq (rr 6) (zc (zg (zr 0 5<|o1 5<|zr 6 4<|z3)) z0)) (zq (zg (zr 0 20<|.op 20 false false true<|zr 21 4<|z3)) (rr 8))
def tY:AC:=zq ra (zq (zq (rr 2) (zc (zq ra z1) z0)) (zq (rr 4) z1))
def C9:AC:=zq (zg (o1 0<|o0 1<|z3)) (zq (zg (zr 0 7<|zd 9 true 7 6<|o0 14<|zd 17 true 15 6<|o0 22<|zd 25 true 23 10<|o0 34<|z3)) z1)
def rJ:AC:=zq (rr 3) (zq (zq (rr 2) (zc (rr 2) z0)) (zq (rr 2) z1))
def AV:AC:=zq (zg (o1 0<|z3)) (zq (rr 14) z1)
def tT:AC:=zq (rr 2) (zq (zq (rr 4) (zc (zq (rr 2) z1) z0)) (zq (zq (rr 6) (zc (zq (rr 2) z1) z0)) (zq (rr 8) z1)))
def kA:AC:=zq (rr 2) (zq (zq (rr 6) (zq (rr 9) (zc (zq (rr 12) (zq (rr 3) z1)) z0))) (zq (rr 2) z1))
def vq:AC:=zq ra (zq (rr 3) (zt [] (zq (zg (zr 0 3<|zp 13<|zr 3 6<|z3)) (zc (rr 2) z0)) (zq (zq (rr 8) (zq ra (zc (zq (rr 2) z1) z0))) (zq (zq (zg (zr 0 6<|zd 35 true 6 2<|z3)) (zc (zq (rr 6) (zq ra z1)) z0)) (zq (rr 6) (zt [] (zq (rr 6) (zc (rr 14) (zq (rr 6) (zc (rr 2) (rr 20))))) (zq (rr 4) (zq (rr 12) (zq (rr 2) z1)))))))))
def pB:AC:=zq ra (zq (rr 3) z1)
def kW:AC:=zq (rr 3) (zb (zl [.slot 6 si] (zq ra (zq (zc z0 z2) (zq (zb (zq (rr 2) (zq (rr 23) (zc z1 z0)))) (rr 2))))))
def pK:AC:=zq ra (zq (zq (rr 2) (zc (zq ra z1) z0)) (zq (rr 5) z1))
def oG:AC:=zq ra (zq (zq (rr 2) (zc (zq ra z1) z0)) (zq (rr 4) z1))
def xj:AC:=zq ra (zq (rr 8) (zq (rr 2) z1))
def FD:AC:=zq (rr 2) (zq (zq (zg (zr 0 3<|zd 8 false 3 2<|z3)) (zc (zq (rr 2) z1) z0)) (zq (rr 8) z1))
def E6:AC:=zq (zg (o1 0<|o0 1<|z3)) (zq (rr 3) (zq (rr 24) z1))
def oN:AC:=zq ra (zq (rr 4) (zq (rr 7) (zq (zq (rr 2) (zc (rr 3) z0)) (zq (rr 8) (zq ra z1)))))
def uV:AC:=zq (rr 2) (zq (zq (rr 3) (zc (zq (rr 2) z1) z0)) (zq (rr 8) z1))
def Hq:AC:=zq ra (zq (zg (zr 0 3<|zp 5<|zr 3 3<|zp 8<|zr 6 5<|z3)) z1)
def zi:AC:=zq (zg (o1 0<|o1 1<|z3)) (zq (zq ra (zc (zq (rr 5) z1) z0)) (zq (zg (zr 0 2<|zr 3 2<|zr 6 2<|.op 2 false false true<|.op 5 false false true<|zr 8 9<|z3)) (zq (rr 5) z1)))
def HD:AC:=zq ra (zq (rr 7) (zq (rr 2) z1))
def Gi:AC:=zq (rr 3) (zq (rr 9) (zq (zg (zr 0 4<|o1 4<|o0 5<|z3)) (zq ra (zq (zq (rr 2) (zb (zl [.slot 24 si] (zq ra (zq (zc z0 z2) (zq (zb (zq (rr 5) (rr 22))) (rr 2))))))) (zq (rr 9) z1)))))
def sH:AC:=zq ra (zq (zq (rr 2) (zc (zq ra z1) z0)) (zq (rr 4) z1))
def Ds:AC:=zq (rr 2) (zq (zq (rr 3) (zq (rr 2) (zc (zq (rr 3) z1) z0))) (zq (rr 5) z1))
def Fm:AC:=zq (rr 2) (zq (rr 7) z1)
def E7:AC:=zq ra (zq (rr 4) (zq (zq (rr 4) (zc (rr 3) z0)) (zq (rr 2) z1)))
def Dc:AC:=zq ra (zq (rr 2) (zq (zq (rr 2) (zc (zq ra z1) z0)) (zq (rr 7) (zq (zb (zq (rr 3) (zc (zq (rr 5) z1) (zq (zg (zr 0 3<|zd 26 true 3 2<|o0 6<|z3)) (zc (zq (rr 7) z1) (zq (zg (zr 0 3<|zd 39 true 3 2<|o0 6<|z3)) (zc (zq (rr 7) z1) (zq (rr 3) (zc (zq (rr 6) z1) z0))))))))) (zq ra z1)))))
def vV:AC:=zq ra (zq (rr 6) (zq (rr 6) (zq (rr 7) (zq (rr 3) z1))))
def qI:AC:=zq ra (zq (rr 5) z1)
def uG:AC:=zq ra (zq (zq (rr 2) (zc (rr 2) z0)) (zq (rr 11) (zq (zq (zg (zr 0 3<|zd 23 false 3 2<|z3)) (zc (rr 2) z0)) (zq (rr 4) (zq (rr 4) (zq (zb (zl [.slot 8 si] (zq (zq (rr 4) (zc z0 z2)) (zb (rr 10))))) (zq (rr 2) z1)))))))
def DR:AC:=zq (rr 2) (zq (zq (rr 3) (zc (zq (rr 2) z1) z0)) (zq ra (zq (zq (rr 3) (zb (zl [.slot 4 si,.slot 12 si] (zq ra (zq (zc z0 z2) (zq (zk [.slot 4 si] (zq (rr 3) (zq (zq (zg (zr 0 3<|zd 18 false 3 2<|z3)) (zc (zq (rr 2) z1) z0)) (zq (rr 2) (zc (rr 6) z0))))) (rr 2))))))) (zq (rr 3) z1))))
def FX:AC:=zq (rr 2) (zq (zq (rr 3) (zq (rr 2) (zc (zq (rr 3) z1) z0))) (zq (rr 3) (zq ra (zq (zq ra (zb (zl [.slot 6 si,.slot 7 si] (zq (zq (rr 2) (zc z0 z2)) (zq (zb (zq (rr 3) (zq (zg (zr 0 13<|zr 14 2<|o0 13<|zr 16 2<|z3)) (zq (zq (rr 3) (zb (zl [.slot 41 si] (zq ra (zq (zc z0 z2) (zq (zk [] (zq (rr 5) (zq (rr 3) (zc (zq (zg (zr 0 6<|o1 6<|zr 7 4<|z3)) (zq (rr 11) (rr 5))) z0)))) (rr 2))))))) (rr 9))))) (rr 3)))))) (zq (rr 3) z1)))))
def jA:AC:=zq ra (zq (rr 5) z1)
def oK:AC:=zq (zg (o1 0<|o0 1<|z3)) (zq (rr 6) z1)
def wi:AC:=zq ra (zq (zq (rr 2) (zc (zq ra z1) z0)) (zq (rr 4) z1))
def vj:AC:=zq ra (zq (zq (rr 5) (zc (zq ra z1) z0)) (zq (zq (rr 3) (zb (zl [.slot 13 si] (zq ra (zq (zc z0 z2) (zq (zb (zq (rr 2) (zq (rr 9) (zc (zq ra z1) z0)))) (rr 2))))))) (zq ra z1)))
def qH:AC:=zq ra (zq (rr 2) (zq (rr 7) (zq (rr 3) (zt [] (zg (zr 0 3<|zr 4 2<|za (o0 3<|zr 6 5<|z3) (o0 6<|o0 3<|zr 7 4<|z3))) (zq (rr 7) (zt [] (zg (zr 0 5<|zp 41<|zr 5 6<|z3)) (zq (zq ra (zk [] (zl [.slot 7 si] (zq (zq (rr 2) (zc z0 z2)) (zq (zk [.slot 7 si] (zq (rr 7) (zq (rr 6) (zq (zq (rr 2) (zc z2 z0)) (zq (rr 4) (zq (zq (rr 2) (zc (zq (zg (zr 0 3<|zd 71 false 3 2<|o0 6<|z3)) z2) z0)) (zq (zg (zr 0 3<|zd 78 false 3 2<|o0 6<|z3)) (zg (zr 0 4<|o0 5<|zr 8 2<|za (o0 4<|o0 6<|za (o0 7<|zr 10 3<|z3) (o0 10<|o0 7<|zr 11 2<|z3)) (o0 10<|o0 4<|zr 6 2<|zr 11 2<|z3)))))))))) (rr 3)))))) (zq (rr 2) z1))))))))
def qx:AC:=zq ra (zq (zq (rr 3) (zb (zl [.slot 8 si] (zq ra (zq (zc z0 z2) (zq (zb (zq (rr 2) (zq (rr 6) (zc (zq (rr 2) z1) z0)))) (rr 2))))))) (zq ra z1))
def AX:AC:=zq (rr 2) (zq ra (zq (zb (zl [.slot 4 si] (zq (zq (rr 7) (zc z0 z2)) (zb (rr 3))))) (zq (zq (rr 2) (zc (rr 6) z0)) (zq (rr 4) z1))))
def uI:AC:=zq (zq (rr 5) (zc (zq (rr 14) z1) z0)) (zq (rr 23) (rr 8))
def BU:AC:=zq (rr 2) (zq (zq (rr 3) (zc (zq (rr 2) z1) z0)) (zq (zq (zg (zr 0 3<|zd 23 false 3 2<|o0 6<|zp 27<|zr 7 3<|z3)) (zc (zq (rr 2) z1) z0)) (zq ra (zq (zq (rr 3) (zb (zl [.slot 6 .slice,.slot 33 si] (zq ra (zq (zc z0 z2) (zq (zk [.slot 6 .slice] (zq (rr 5) (zq (rr 2) (zc (zg (zr 0 5<|o1 5<|zr 6 2<|z3)) z0)))) (rr 2))))))) (zq (rr 4) (zq (zb (zq (rr 6) (zc (zq (rr 2) z1) (zq (rr 4) (zc (zq (rr 3) z1) (zq (rr 4) (zc (zq (rr 9) (zq (rr 3) z1)) z0))))))) (zq ra (zq (rr 3) (zq (rr 2) (zq (zq (rr 3) (zb (zl [.slot 11 .slice,.slot 81 si] (zq ra (zq (zc z0 z2) (zq (zb (zq ra (zq (zq ra (zb (zl [.slot 12 .slice,.slot 13 si] (zq (zq (rr 5) (zc z0 z2)) (zq (zb (zg (zr 0 25<|.op 25 false false true<|o0 26<|o1 27<|zr 28 2<|z3))) (rr 3)))))) (zq (rr 5) (rr 3))))) (rr 2))))))) (zq (zq (rr 8) (zb (zl [.slot 134 si] (zq ra (zq (zc z0 z2) (zq (zb (zq (zg (zr 0 2<|o1 2<|o0 3<|z3)) (zq (rr 4) (zb (zl [.slot 141 si] (zq ra (zq (zc z0 z2) (zq (zb (zq (rr 3) (rr 7))) (rr 2))))))))) (rr 2))))))) (zq (rr 3) z1))))))))))))
def CX:AC:=zq (rr 2) (zq (zq (rr 3) (zq (rr 2) (zc (zq (rr 3) z1) z0))) (zq ra (zq (zq (rr 3) (zb (zl [.slot 20 si] (zq ra (zq (zc z0 z2) (zq (zk [] (zq (rr 3) (zq (rr 2) (zc (rr 6) z0)))) (rr 2))))))) (zq ra (zq (zq ra (zb (zl [.slot 9 si] (zq (zq (rr 2) (zc z0 z2)) (zq (zb (rr 12)) (rr 3)))))) (zq (rr 4) (zq (zq (rr 3) (zb (zl [.slot 52 si] (zq ra (zq (zc z0 z2) (zq (zk [] (zq (rr 5) (zq (rr 2) (zc (zq (rr 7) (rr 6)) z0)))) (rr 2))))))) (zq (rr 3) z1))))))))
def Gp:AC:=zq ra (zq (rr 5) z1)
def Iy:AC:=zq ra (zq (rr 4) z1)
def nX:AC:=zq ra (zb (zl [.slot 4 si] (zq (zq (rr 4) (zc z0 z2)) (zq (zb (zq (rr 7) (zq (rr 12) (zc z1 z0)))) (rr 4)))))
def HO:AC:=zq ra (zq (zg (zr 0 5<|zd 9 true 5 4<|o0 10<|zd 15 true 11 4<|o0 16<|z3)) z1)
def wm:AC:=zq ra (zq (rr 11) z1)
def lU:AC:=zq ra (zq (zq (rr 2) (zc (zq (zq (zg (zr 0 3<|zd 14 true 3 2<|z3)) (zc (zq (rr 3) z1) z0)) (zq ra (zq (rr 3) (zt [.slot 6 (.int .u64)] (zq (rr 2) (zc (rr 3) z0)) (zq (rr 3) (zq (rr 5) (zq (zq (rr 2) (zc (zq (rr 2) (zq (rr 5) z1)) z0)) (zq (rr 5) z1)))))))) z0)) (zq (rr 11) (zq (rr 2) z1)))
def zG:AC:=zq ra (zq (rr 5) (zq (zb (zl [] (zq (zq (rr 10) (zc z0 z2)) (zb (zq (rr 11) (zk [] (zq (rr 3) (zc (rr 8) (zq (rr 3) (zc (zq (rr 11) (zq (zq (rr 2) (zc (zq ra z1) z0)) (rr 9))) (zq (rr 7) z1))))))))))) (zq (rr 7) z1)))
def vo:AC:=zq (rr 2) (zq ra (zq (zk [.slot 8 si] (zl [.slot 8 si] (zq (zq (zg (zr 0 13<|zp 23<|zr 13 15<|zp 38<|zr 28 14<|z3)) (zc z0 z2)) (zb (rr 3))))) (zq (zq (zg (zr 0 3<|zd 57 false 3 2<|z3)) (zc (zq (rr 2) z1) z0)) (zq (rr 22) (zq (rr 9) (zq (zg (zr 0 5<|zd 93 true 5 3<|zr 9 2<|z3)) z1))))))
def Dw:AC:=zq ra (zq (rr 4) z1)
def Kt:AC:=zq ra (zq (zq (rr 3) (zc (zq ra z1) z0)) (zq (zq (zg (zr 0 5<|zp 14<|zr 5 5<|z3)) (zc (zq ra z1) z0)) (zq ra z1)))
def Iu:AC:=zq (rr 2) (zq (rr 2) (zq (zq (zg (zr 0 3<|o0 4<|o0 6<|.op 3 false false true<|o0 5<|z3)) (zb (zl [.slot 7 .slice,.slot 17 si] (zq ra (zq (zc z0 z2) (zq (zb (zq (rr 4) (zg (zr 0 6<|o1 6<|zr 7 2<|z3)))) (rr 2))))))) (zq (rr 2) z1)))
def HN:AC:=zq ra (zq (rr 3) (zq ra (zq (zq ra (zb (zl [.slot 7 si] (zq ra (zq (zc z0 z2) (zq (zb (zq (rr 2) (zq (rr 4) (zq ra (zb (zl [.slot 4 si] (zq (zq (rr 2) (zc z0 z2)) (zq (zk [] (zq (rr 7) (zq (rr 5) (zq (rr 2) (zc (rr 10) (rr 8)))))) (rr 3))))))))) (rr 2))))))) (zq (rr 2) z1))))
def yn:AC:=zq ra (zq (rr 2) z1)
def KP:AC:=zq (rr 2) (zq (zq (zg (zr 0 4<|zd 15 false 4 3<|z3)) (zc (zq (rr 2) z1) z0)) (zq (zq (zg (zr 0 4<|zp 23<|zr 4 7<|z3)) (zc (zq (rr 2) z1) z0)) (zq (rr 2) (zq (zq (rr 3) (zb (zl [.slot 34 si] (zq ra (zq (zc z0 z2) (zq (zb (zq (rr 2) (rr 14))) (rr 2))))))) (zq (rr 3) z1)))))
def zH:AC:=zq ra (zq (zq (rr 2) (zc (zq (rr 9) z1) z0)) (zq (rr 8) z1))
def uX:AC:=zq ra (zq (zq (rr 3) (zb (zl [.slot 8 si] (zq ra (zq (zc z0 z2) (zq (zb (zq (rr 2) (zq (rr 6) (zc (zq (rr 2) z1) z0)))) (rr 2))))))) (zq ra z1))
def AJ:AC:=zq (rr 2) (zq (zc (zq (rr 10) (zq (rr 6) z1)) z0) (zq (rr 8) (zq (rr 4) z1)))
def zA:AC:=zq ra (zq (rr 7) (zq (zq (zg (zr 0 3<|zd 12 true 3 2<|z3)) (zc ra z0)) (zq (rr 2) z1)))
def kI:AC:=zq ra (zq (zq (rr 3) (zb (zl [.slot 8 si] (zq ra (zq (zc z0 z2) (zq (zb (zq (rr 2) (zq (rr 6) (zc (zq (rr 2) z1) z0)))) (rr 2))))))) (zq ra z1))
def qD:AC:=zq ra (zq (rr 14) (zq (rr 3) (zq (rr 9) z1)))
def pQ:AC:=zq ra (zq (rr 11) (zq (rr 3) (zq (rr 3) (zq (zq (zg (zr 0 3<|zp 24<|zr 3 6<|z3)) (zc (rr 6) z0)) (zq (rr 2) z1)))))
def lb:AC:=zq ra (zq (rr 5) z1)
def wu:AC:=zq ra (zq (zg (zr 0 3<|zd 5 false 3 2<|o0 6<|z3)) z1)
def we:AC:=zq (zg (o1 0<|o1 1<|o0 2<|z3)) (zq (rr 6) z1)
def xq:AC:=zq ra (zq (rr 3) (zq (rr 3) (zq (zq ra (zc (zq (zq ra (zc (zq ra z1) z0)) (zq ra z1)) z0)) (zq (zq ra (zc (zq ra z1) z0)) (zq (zq (rr 3) (zc (zq ra z1) z0)) (zq (zq (rr 3) (zc (zq ra z1) z0)) (zq ra z1)))))))
def i9:AC:=zg (zr 0 5<|z3)
def vl:AC:=zq ra (zq ra (zq (zq (rr 3) (zb (zl [.slot 3 si,.slot 11 si] (zq ra (zq (zc z0 z2) (zq (zb (zq (rr 3) (zq (rr 5) (zq (rr 2) (zc (rr 2) z0))))) (rr 2))))))) (zq (rr 3) (zq (zq (rr 3) (zb (zl [.slot 6 .slice,.slot 27 si] (zq ra (zq (zc z0 z2) (zq (zb (zq (rr 3) (rr 4))) (rr 2))))))) (zq (rr 2) z1)))))
def my:AC:=zq ra (zq ra (zq (zq (rr 3) (zb (zl [.slot 3 si,.slot 11 si] (zq ra (zq (zc z0 z2) (zq (zb (zq (rr 3) (zq (rr 5) (zq (rr 2) (zc (rr 2) z0))))) (rr 2))))))) (zq (rr 3) (zq (zq (rr 3) (zb (zl [.slot 6 .slice,.slot 27 si] (zq ra (zq (zc z0 z2) (zq (zb (zq (rr 3) (rr 4))) (rr 2))))))) (zq (rr 2) z1)))))
def oW:AC:=zq ra (zq (zq (rr 2) (zc (zq (rr 5) z1) z0)) (zq (rr 7) z1))
def lZ:AC:=zq ra (zq (rr 4) (zq (rr 9) z1))
def CI:AC:=zq (rr 2) (zq (rr 7) (zq (zq (rr 2) (zc (zq (rr 6) z1) z0)) (zq (rr 3) z1)))
def Il:AC:=zq (rr 2) (zq ra (zq (zq ra (zb (zl [.slot 12 si] (zq ra (zq (zc z0 z2) (zq (zb (zq (rr 2) (zq (zg (zr 0 10<|o1 10<|o0 11<|z3)) (zq ra (zb (zl [.slot 25 si] (zq ra (zq (zc z0 z2) (zq (zb (zq (rr 2) (zq ra (zq (zq (rr 2) (zb (zl [.slot 9 si,.slot 29 si] (zq ra (zq (zc z0 z2) (zq (zb (zq (rr 4) (rr 10))) (rr 2))))))) (rr 7))))) (rr 2)))))))))) (rr 2))))))) (zq ra z1)))
def xi:AC:=zq (rr 2) (zq (rr 3) (zq (rr 3) (zq (rr 3) (zq (rr 3) (zq (rr 4) (zq (rr 7) (zq (rr 3) (zq (rr 3) (zq (rr 6) (zq (rr 9) (zq (rr 4) z1)))))))))))
def rM:AC:=zq (rr 2) (zq (zq (zg (zr 0 3<|zd 13 false 3 2<|z3)) (zc (zq (rr 2) z1) z0)) (zq ra (zq (zq ra (zk [] (zl [.slot 6 si,.slot 7 si] (zq (zq (rr 6) (zc z0 z2)) (zq (zb (zq (rr 7) (zq (zq (rr 2) (zc (zq (rr 2) z1) z0)) (zq (rr 6) (zq (zq (rr 9) (zq (zg (zr 0 9<|zd 53 true 9 2<|z3)) (zc (zq (rr 16) z1) z0))) (zq (rr 5) (zc z2 z0))))))) (rr 3)))))) (zq (rr 2) z1))))
def ww:AC:=zq (rr 2) (zq (zb (zq (rr 3) (zc (zq (rr 2) z1) (zq (zg (zr 0 3<|zd 15 false 3 2<|o0 6<|z3)) (zc (zq (rr 2) z1) (zq (rr 5) (zc (zq (rr 2) z1) z0))))))) (zq ra (zq (zq (rr 2) (zb (zl [.slot 6 (.int .u32),.slot 25 si] (zq ra (zq (zc z0 z2) (zq (zk [.slot 6 (.int .u32)] (zq (rr 2) (zq (zg (zr 0 19<|.op 19 false false true<|zr 20 4<|z3)) (zq (rr 8) (zq (rr 4) (zc (rr 5) (rr 6))))))) (rr 2))))))) (zq (rr 3) z1))))
def nv:AC:=zq ra (zq (zq (rr 3) (zb (zl [.slot 8 si] (zq ra (zq (zc z0 z2) (zq (zb (zq (rr 2) (zq (rr 6) (zc (zq (rr 2) z1) z0)))) (rr 2))))))) (zq ra z1))
def Bn:AC:=zq ra (zq (rr 4) z1)
def jK:AC:=zq ra (zq (rr 3) (zq (zb (zl [.slot 7 si,.slot 8 si] (zq (zq (rr 3) (zc z0 z2)) (zb (zq (rr 5) (zq (rr 2) (rr 4))))))) (zq (rr 5) (zb (zl [.slot 6 si] (zq (zq (rr 3) (zc z0 z2)) (zk [.slot 6 si] (zq (rr 4) (zq (zb (zl [.slot 7 si,.slot 8 si] (zq (zq (rr 3) (zc z0 z2)) (zb (zq (rr 8) (zq (rr 2) (rr 5))))))) (zq (zq (rr 4) (zq (rr 3) (zc (rr 6) z0))) (rr 3)))))))))))
def yp:AC:=zq ra (zq (zq (rr 2) (zc (rr 2) z0)) (zq (zq (rr 8) (zq (rr 2) (zc (rr 10) z0))) (zq (rr 2) z1)))
def og:AC:=zq ra (zq (zq (rr 2) (zc (rr 2) z0)) (zq (zq (rr 8) (zq (rr 2) (zc (rr 10) z0))) (zq (rr 2) z1)))
def lT:AC:=zq ra (zq (rr 4) z1)
def wY:AC:=zq ra (zt [.slot 0 (.int .u64),.slot 2 si] (zq (rr 2) (zc (zq (rr 3) ra) z0)) (zt [.slot 0 (.int .u64),.slot 2 si] (zq (rr 2) (zc (zq (rr 3) (rr 3)) z0)) (zq (zq (rr 2) (zc (zq (rr 3) (rr 3)) z0)) (zq (rr 7) z1))))
def lX:AC:=zq ra (zq (zq ra (zc (zq ra z1) z0)) (zq ra z1))
def pi:AC:=zq (rr 2) (zq (rr 3) (zt [.slot 0 .str] (zq (zg (zr 0 13<|zp 25<|zr 13 5<|z3)) (zc (zq (rr 2) (zt [.slot 0 .str] (zq (zg (zr 0 4<|zp 35<|zr 4 4<|z3)) (zc (zq (rr 3) (zq (rr 3) (zc (zq (rr 3) z1) z0))) z0)) (zq ra (zq (zq (rr 4) (zb (zl [.slot 6 si,.slot 49 si] (zq ra (zq (zc z0 z2) (zq (zb (zq (rr 3) (zq (rr 3) (zq (zq (rr 2) (zc (zq (rr 3) z1) z0)) (rr 6))))) (rr 2))))))) (zq (zq (rr 3) (zc (rr 3) z0)) (zq (rr 3) z1)))))) z0)) (zq (rr 7) (zq (rr 4) z1))))
def qy:AC:=zq ra (zq (rr 21) (zq (zq (rr 6) (zc (zq ra z1) z0)) (zq (rr 10) z1)))
def gT:AC:=zq (rr 3) (zb (zl [.slot 8 si] (zq (zq (rr 3) (zc z0 z2)) (zq (zb (zq (rr 2) (zk [] (zl [.slot 9 si] (zq (zq (zg (zr 0 4<|zp 21<|zr 4 13<|z3)) (zc z0 z2)) (zq (zb (rr 18)) (rr 3))))))) (rr 3)))))
def i5:AC:=zq (zq (rr 4) (zc (zq (rr 2) (zq (rr 2) (zq (zb (zl [.slot 10 si,.slot 11 si] (zq (zq (rr 3) (zc z0 z2)) (zk [.slot 10 si,.slot 11 si] (zq (rr 7) (zq (rr 11) (zc (rr 3) (rr 2)))))))) (zq (zq (rr 2) (zb (zl [.slot 13 si] (zq (zq (rr 4) (zc z0 z2)) (zq (zb (rr 18)) (rr 3)))))) z1)))) z0)) (zq (zq (rr 4) (zc (zq (rr 2) (zq (rr 2) (zq (zb (zl [.slot 14 si,.slot 15 si] (zq (zq (rr 3) (zc z0 z2)) (zk [.slot 14 si,.slot 15 si] (zq (rr 7) (zq (rr 12) (zc (rr 3) (rr 2)))))))) (zq (zq (rr 2) (zb (zl [.slot 17 si] (zq (zq (rr 3) (zc z0 z2)) (zq (zb (rr 18)) (rr 3)))))) z1)))) z0)) (zq (rr 7) (zq (rr 4) (zq (rr 2) (zt [.slot 20 si,.slot 21 si] (zq (rr 3) (zc (zq (rr 4) (rr 2)) (zq (rr 2) (rr 2)))) (zq (rr 3) (zq (zb (zl [.slot 20 si,.slot 21 si] (zq (zq (rr 3) (zc z0 z2)) (zk [.slot 20 si,.slot 21 si] (zq (rr 7) (zq (rr 14) (zc (rr 3) (rr 2)))))))) (zq (rr 4) (zt [] (zq (zg (zr 0 4<|zd 181 true 4 3<|z3)) (zc (rr 6) z0)) (zt [] (zq (zg (zr 0 4<|zd 195 true 4 3<|z3)) (zc (rr 6) z0)) (zq (zg (zr 0 4<|zd 209 true 4 3<|z3)) (zc (rr 6) z0))))))))))))
def jx:AC:=zq (rr 4) (zq (rr 4) (zq (zb (zl [.slot 10 si,.slot 11 si] (zq (zq (rr 3) (zc z0 z2)) (zk [.slot 10 si,.slot 11 si] (zq (rr 3) (zc (zq (rr 8) (rr 4)) (zq (rr 12) (rr 4)))))))) (rr 8)))
def iS:AC:=zq ra (zb (zl [.slot 10 si] (zq (zq (rr 3) (zc z0 z2)) (zq (zb (rr 24)) (rr 3)))))
end Go.Proofs.YtoomejkiagonpaaGreatDoor
