/- For each function the condition that its code asks, written out (by a program of ours), and the theorem that it suffices: the kernel holds both against the code. -/
import Derived.Test.YtoomejkiagonpaaGreatDoorCP3
set_option linter.unusedVariables false
set_option maxRecDepth 100000
open Go.IntKind renaming i64->A_,u8->B_,u32->C_,u64->D_
open Go renaming World->E_,Value->F_,Addr->G_,TypeId->H_,IntKind->I_,Calls->J_
open Go.Obj renaming cells->K_
open Go.Value renaming iface->L_,int->M_,string->N_,nilIface->O_,agg->P_,tuple->S_,slice->T_
open List renaming map->Q_
open Go.Fence renaming wide->R_
namespace Go.Proofs.YtoomejkiagonpaaGreatDoor
open Go Go.Vc
variable {w : E_}
abbrev aI(w:E_)(a:G_)(vs:List F_)(K:E_->Prop):Prop:=(∃v,w.cell? a=some v)/\w.frozen? a=false/\K (ab w a vs 0)
abbrev aa(n:Int):F_:=.int .i64 n
abbrev u8(n:Int):F_:=.int .u8 n
abbrev au(n:Int):F_:=.int .u16 n
abbrev aM(a:Array F_):Ending:=.returned (.tuple a)
abbrev aH(k:Nat):Option G_:=some ⟨k,0,none⟩
abbrev aj:=Option G_
abbrev aw:=List F_->E_->Prop
abbrev bV:=Ending->E_->Prop
theorem aF{f:FuncId}{fn:Func}{ac:AC}{args:List F_}{R:bV}{V:Prop}(hf:P.funcs[f]?=some fn)(h:V)(e:V=Np P fn ac args w R:=by kernel_rfl)(hok:MS P fn ac args.length=true:=by kernel_rfl):J_ P f args.toArray w R:=Ib JC hf hok (cast e h)
abbrev IJ:Array F_:=#[.int .i64 0,.int .i64 0,.int .i64 0,.int .i64 0,.int .i64 0,.int .i64 0,.int .i64 0,.int .i64 0,.int .i64 0,.int .i64 0,.int .i64 0,.int .i64 0,.int .i64 0,.int .i64 0,.int .i64 0,.int .i64 0,.int .i64 0,.int .i64 0,.int .i64 0,.int .i64 0,.int .i64 0,.int .i64 0,.int .i64 0,.int .i64 0,.int .i64 0,.int .i64 0,.int .i64 0,.int .i64 0,.int .i64 0,.int .i64 0,.int .i64 0,.int .i64 0,.int .i64 0,.int .i64 0,.int .i64 0,.int .i64 0,.int .i64 0,.int .i64 0,.int .i64 0,.int .i64 0,.int .i64 0,.int .i64 0,.int .i64 0,.int .i64 0,.int .i64 0,.int .i64 0,.int .i64 0,.int .i64 0,.int .i64 0,.int .i64 0,.int .i64 0,.int .i64 0,.int .i64 0,.int .i64 0,.int .i64 0,.int .i64 0,.int .i64 0,.int .i64 0,.int .i64 0,.int .i64 0,.int .i64 0,.int .i64 0,.int .i64 0,.int .i64 0]
abbrev Ph:Array F_:=#[.int .u32 0,.int .u32 0,.int .u32 0,.int .u32 0,.int .u32 0,.int .u32 0,.int .u32 0,.int .u32 0,.int .u32 0,.int .u32 0,.int .u32 0,.int .u32 0,.int .u32 0,.int .u32 0,.int .u32 0,.int .u32 0,.int .u32 0,.int .u32 0]
section
variable (w : E_) (R : bV)
def Jv:Prop:=
 J_ P 13 #[aa 1,aa 1,.agg #[au 65535,au 0,au 0,au 65535]] w fun e1 w1=>∃n1 n2 p1 k1 k2 n3,(e1=.returned (.tuple #[.agg #[aa n1,aa n2,.slice p1 k1 k2],aa n3]))/\∀k3,w1.heap.size<=k3->∀w2,Locl [k3] w1 w2->J_ P 14 #[.agg #[aa n1,aa n2,.slice p1 k1 k2],aa 6,aa 255] w2 fun e2 w3=>∃p2 k4 k5 n4,(e2=.returned (.tuple #[.slice p2 k4 k5,aa n4]))/\ao [k3] w2 w3/\∀k6 w4,(aK w3 (K_ #[u8 80,u8 53,u8 32,u8 49,u8 32,u8 49,u8 32,u8 50,u8 53,u8 53,u8 32,u8 255] 5) k6 w4)->∃(y1:Array F_) (y2:H_),(w4.heap[k6]?=some (K_ y1 y2))/\(¬k6∈[k3])/\∀w5,(Mk k6 w4 w5)->J_ P 15 #[.slice (aH k6) 12 12,aa 1] w5 fun e3 w6=>∃n5 n6 p3 k7 k8 n7,(e3=.returned (.tuple #[.agg #[aa n5,aa n6,.slice p3 k7 k8],aa n7]))/\ao [k3] w5 w6/\∀k9,w6.heap.size<=k9->ae (n4==0) (∀w7,Locl [k9,k3] w6 w7->∃l1:List Int,(l1.length=k4)/\(aV w7 p2 (Q_ (.int .u8) l1))/\ae (decide (iD l1={data:=#[80,54,10,49,32,49,10,50,53,53,10,255,0,0]})&&n7==0&&(k7:Int)==4) (aq (p3) (k7) (2) (1) fun a1=>∃n8,(w7.cell? a1=some (au n8))/\R (.returned (.bool (n8==65535))) w7) (R (.returned (.bool false)) w7)) (∀w8,Locl [k9,k3] w6 w8->R (.returned (.bool false)) w8)
theorem FM(h:Jv w R):J_ P 4 #[] w R:=
  aF (ac:=KA) Tryz.func4 h
def DB(x1 x2:Int)(sa1:aj)(sl1 sc1:Nat)(x3 x4:Int):Prop:=
 ∀k1,w.heap.size<=k1->∀w1,Locl [k1] w w1->J_ P 16 #[.agg #[aa x1,aa x2,.slice sa1 sl1 sc1],aa x3,aa x4] w1 fun e1 w2=>∃n1 n2 n3 p1 k2 k3 n4,(e1=.returned (.tuple #[.agg #[aa n1,aa n2,aa n3,.slice p1 k2 k3],aa n4]))/\ao [k1] w1 w2/\∀k4,w2.heap.size<=k4->ae (n4 !=0) (∀w3,Locl [k4,k1] w2 w3->R (aM #[.slice none 0 0,aa n4]) w3) (∀w4,Locl [k4,k1] w2 w4->J_ P 10 #[.agg #[aa n1,aa n2,aa n3,.slice p1 k2 k3]] w4 fun e2 w5=>∃p2 k5 k6 n5,(e2=.returned (.tuple #[.slice p2 k5 k6,aa n5]))/\ao [k4,k1] w4 w5/\R (aM #[.slice p2 k5 k6,aa n5]) w5)
theorem y8(x1 x2:Int)(sa1:aj)(sl1 sc1:Nat)(x3 x4:Int)(h:DB w R x1 x2 sa1 sl1 sc1 x3 x4):J_ P 5 #[.agg #[aa x1,aa x2,.slice sa1 sl1 sc1],aa x3,aa x4] w R:=
  aF (ac:=Dv) Tryz.func5 h
def J3(x1 x2:Int)(sa1:aj)(sl1 sc1:Nat):Prop:=
 ∀k1,w.heap.size<=k1->∀k2,w.heap.size<=k2->∀w1,Locl [k2,k1] w w1->J_ P 17 #[.agg #[aa x1,aa x2,.slice sa1 sl1 sc1]] w1 fun e1 w2=>∃n1 n2 p1 k3 k4,(e1=.returned (.agg #[aa n1,aa n2,.slice p1 k3 k4]))/\ao [k2,k1] w1 w2/\∀w3,Locl [k2,k1] w2 w3->R (.returned (.agg #[aa n1,aa n2,.slice p1 k3 k4])) w3
theorem Fx(x1 x2:Int)(sa1:aj)(sl1 sc1:Nat)(h:J3 w R x1 x2 sa1 sl1 sc1):J_ P 6 #[.agg #[aa x1,aa x2,.slice sa1 sl1 sc1]] w R:=
  aF (ac:=KO) Tryz.func6 h
def GQ(sa1:aj)(sl1 sc1:Nat):Prop:=
 ∀k1 w1,(aK w (K_ #[] 5) k1 w1)->∃l1:List F_,(l1.length=sl1*1)/\(aN l1=true)/\(aV w1 sa1 l1)/\ay (w1) ([]) (aH k1) (0) (0) (sl1) (1) (1) (5) ([u8 0]) (l1) fun p1 k2 k3 w2=>R (.returned (.slice p1 k2 k3)) w2
theorem BV(sa1:aj)(sl1 sc1:Nat)(h:GQ w R sa1 sl1 sc1):J_ P 9 #[.slice sa1 sl1 sc1] w R:=
  aF (ac:=Hf) Tryz.func9 h
def FK(x1 x2 x3 x4 x5 x6:Int):Prop:=
 ∀k1,w.heap.size<=k1->∀k2,w.heap.size<=k2->∀w1,Locl [k2,k1] w w1->J_ P 45 #[aa x1,aa x2] w1 fun e1 w2=>∃c1,(e1=.returned (.bool c1))/\ao [k2,k1] w1 w2/\ae (!c1) (∀w3,Locl [k2,k1] w2 w3->R (aM #[.agg #[aa 0,aa 0,.slice none 0 0],aa 4]) w3) (∀k3,w2.heap.size<=k3->∃(I1:aw) (m1:List F_->E_->Nat),(∀w4,Locl [k3,k2,k1] w2 w4->I1 [aa 0,aa x1,aa x2,.slice none 0 0] w4)/\∀n1 n2 n3 p1 k4 k5 w5,(I1 [aa n1,aa n2,aa n3,.slice p1 k4 k5] w5)->ae (decide (n1<A_.wrap (x1*x2))) (J_ P 46 #[.agg #[aa n2,aa n3,.slice p1 k4 k5],.agg #[au x3,au x4,au x5,au x6]] w5 fun e2 w6=>∃n4 n5 p2 k6 k7,(e2=.returned (.agg #[aa n4,aa n5,.slice p2 k6 k7]))/\ao [k3,k2,k1] w5 w6/\∀w7,Locl [k3,k2,k1] w6 w7->(I1 [aa (A_.wrap (n1+1)),aa n4,aa n5,.slice p2 k6 k7] w7)/\m1 [aa (A_.wrap (n1+1)),aa n4,aa n5,.slice p2 k6 k7] w7<m1 [aa n1,aa n2,aa n3,.slice p1 k4 k5] w5) (∀w8,Locl [k3,k2,k1] w5 w8->R (aM #[.agg #[aa n2,aa n3,.slice p1 k4 k5],aa 0]) w8))
theorem Ap(x1 x2 x3 x4 x5 x6:Int)(h:FK w R x1 x2 x3 x4 x5 x6):J_ P 13 #[aa x1,aa x2,.agg #[au x3,au x4,au x5,au x6]] w R:=
  aF (ac:=Ff) Tryz.func13 h
def E4(x1 x2:Int)(sa1:aj)(sl1 sc1:Nat):Prop:=
 ∀k1,w.heap.size<=k1->∀k2,w.heap.size<=k2->∀w1,Locl [k2,k1] w w1->∀k3 w2,(aK w1 (K_ #[] 45) k3 w2)->∃l1:List F_,(l1.length=sl1*1)/\(aN l1=true)/\(aV w2 sa1 l1)/\ay (w2) ([(2,k2,[aa 0,aa 0,.slice none 0 0]),(1,k1,[aa x1,aa x2,.slice sa1 sl1 sc1])]) (aH k3) (0) (0) (sl1) (1) (2) (45) ([au 0]) (l1) fun p1 k4 k5 w3=>∀w4,Locl [k2,k1] w3 w4->R (.returned (.agg #[aa x1,aa x2,.slice p1 k4 k5])) w4
theorem Am(x1 x2:Int)(sa1:aj)(sl1 sc1:Nat)(h:E4 w R x1 x2 sa1 sl1 sc1):J_ P 17 #[.agg #[aa x1,aa x2,.slice sa1 sl1 sc1]] w R:=
  aF (ac:=Fa) Tryz.func17 h
def F0(x1 x2:Int)(sa1:aj)(sl1 sc1:Nat):Prop:=
 ∀k1,w.heap.size<=k1->∀w1,Locl [k1] w w1->J_ P 45 #[aa x1,aa x2] w1 fun e1 w2=>∃c1,(e1=.returned (.bool c1))/\ao [k1] w1 w2/\R (.returned (.bool (c1&&(sl1:Int)==A_.wrap (A_.wrap (4*x1)*x2)))) w2
theorem Ay(x1 x2:Int)(sa1:aj)(sl1 sc1:Nat)(h:F0 w R x1 x2 sa1 sl1 sc1):J_ P 18 #[.agg #[aa x1,aa x2,.slice sa1 sl1 sc1]] w R:=
  aF (ac:=FB) Tryz.func18 h
def DD(x1 x2 x3:Int)(sa1:aj)(sl1 sc1:Nat):Prop:=
 ∀k1,w.heap.size<=k1->∃(I1:aw) (m1:List F_->E_->Nat),(∀w1,Locl [k1] w w1->I1 [aa 1,aa 1,aa 0] w1)/\∀n1 n2 n3 w2,(I1 [aa n1,aa n2,aa n3] w2)->ae (decide (n3<(sl1:Int))) (∃I2:aw,(∃I3:aw,(aq (sa1) (sl1) (n3) (4) fun a1=>∃n4,(w2.cell? a1=some (aa n4))/\ae (decide (n4>n1)) (aq (sa1) (sl1) (n3) (4) fun a2=>∃n5,(w2.cell? a2=some (aa n5))/\I3 [aa n5] w2) (I3 [aa n1] w2))/\∀n6 w3,(I3 [aa n6] w3)->aq (sa1) (sl1) (n3) (4) fun a3=>∃n7,(w3.cell? (a3.add 1)=some (aa n7))/\ae (decide (n7>n2)) (aq (sa1) (sl1) (n3) (4) fun a4=>∃n8,(w3.cell? (a4.add 1)=some (aa n8))/\I2 [aa n6,aa n8] w3) (I2 [aa n6,aa n2] w3))/\∀n9 n10 w4,(I2 [aa n9,aa n10] w4)->(I1 [aa n9,aa n10,aa (A_.wrap (n3+1))] w4)/\m1 [aa n9,aa n10,aa (A_.wrap (n3+1))] w4<m1 [aa n1,aa n2,aa n3] w2) ((A_.wrap (8*n1)≠0)/\(A_.wrap (8*n2)≠0)/\R (aM #[aa n1,aa n2,aa (ad .quo .i64 (A_.wrap (A_.wrap (x1+A_.wrap (8*n1))-1)) (A_.wrap (8*n1))),aa (ad .quo .i64 (A_.wrap (A_.wrap (x2+A_.wrap (8*n2))-1)) (A_.wrap (8*n2)))]) w2.drew)
theorem zh(x1 x2 x3:Int)(sa1:aj)(sl1 sc1:Nat)(h:DD w R x1 x2 x3 sa1 sl1 sc1):J_ P 19 #[.agg #[aa x1,aa x2,aa x3,.slice sa1 sl1 sc1]] w R:=
  aF (ac:=Du) Tryz.func19 h
def Dg(x1:Int)(b1:Bool):Prop:=
 ae (decide (x1<1)||decide (x1>100)) (R (aM #[.slice none 0 0,aa 2]) w) (∃I1:aw,(ae (decide (x1<50)) ((x1≠0)/\I1 [aa (ad .quo .i64 5000 x1)] w) (I1 [aa (A_.wrap (200-A_.wrap (2*x1)))] w))/\∀n1 w1,(I1 [aa n1] w1)->∃(I2:aw) (m1:List F_->E_->Nat),(I2 [.slice none 0 0,aa 0] w1)/\∀p1 k1 k2 n2 w2,(I2 [.slice p1 k1 k2,aa n2] w2)->ae (decide (n2<8)) (∃I3:aw,∃m2:List F_->E_->Nat,(I3 [.slice p1 k1 k2,aa 0] w2)/\∀p2 k3 k4 n3 w3,(I3 [.slice p2 k3 k4,aa n3] w3)->ae (decide (n3<8)) (∃I4:aw,(∃I5:aw,(ae (b1) (I5 [aa (A_.wrap (12+A_.wrap (6*A_.wrap (n3+n2))))] w3) (I5 [aa (A_.wrap (10+A_.wrap (3*A_.wrap (n3+n2))))] w3))/\∀n4 w4,(I5 [aa n4] w4)->ae (decide (ad .quo .i64 (A_.wrap (A_.wrap (n4*n1)+50)) 100<1)) (∀k5,w4.heap.size<=k5->∀w5,Locl [k5] w4 w5->ay (w5) ([(55,k5,[aa 1])]) (p2) (k3) (k4) (1) (1) (8) (3) ([aa 0]) ([aa 1]) fun p3 k6 k7 w6=>I4 [.slice p3 k6 k7] w6) (ae (decide (ad .quo .i64 (A_.wrap (A_.wrap (n4*n1)+50)) 100>255)) (∀k8,w4.heap.size<=k8->∀w7,Locl [k8] w4 w7->ay (w7) ([(55,k8,[aa 255])]) (p2) (k3) (k4) (1) (1) (8) (3) ([aa 0]) ([aa 255]) fun p4 k9 k10 w8=>I4 [.slice p4 k9 k10] w8) (∀k11,w4.heap.size<=k11->∀w9,Locl [k11] w4 w9->ay (w9) ([(55,k11,[aa (ad .quo .i64 (A_.wrap (A_.wrap (n4*n1)+50)) 100)])]) (p2) (k3) (k4) (1) (1) (8) (3) ([aa 0]) ([aa (ad .quo .i64 (A_.wrap (A_.wrap (n4*n1)+50)) 100)]) fun p5 k12 k13 w10=>I4 [.slice p5 k12 k13] w10)))/\∀p6 k14 k15 w11,(I4 [.slice p6 k14 k15] w11)->(I3 [.slice p6 k14 k15,aa (A_.wrap (n3+1))] w11)/\m2 [.slice p6 k14 k15,aa (A_.wrap (n3+1))] w11<m2 [.slice p2 k3 k4,aa n3] w3) ((I2 [.slice p2 k3 k4,aa (A_.wrap (n2+1))] w3)/\m1 [.slice p2 k3 k4,aa (A_.wrap (n2+1))] w3<m1 [.slice p1 k1 k2,aa n2] w2)) (R (aM #[.slice p1 k1 k2,aa 0]) w2))
theorem ze(x1:Int)(b1:Bool)(h:Dg w R x1 b1):J_ P 20 #[aa x1,.bool b1] w R:=
  aF (ac:=Dq) Tryz.func20 h
def DO(x1 x2 x3 x4 x5:Int):Prop:=
 ∀k1,w.heap.size<=k1->∀k2,w.heap.size<=k2->ae (x5==0) (∀w1,Locl [k2,k1] w w1->J_ P 65 #[.agg #[au x1,au x2,au x3,au x4]] w1 fun e1 w2=>∃n1,(e1=.returned (au n1))/\ao [k2,k1] w1 w2/\J_ P 64 #[au n1,aa 255] w2 fun e2 w3=>∃n2 n3,(e2=.returned (.tuple #[aa n2,aa n3]))/\ao [k2,k1] w2 w3/\∀w4,Locl [k2,k1] w3 w4->R (.returned (.agg #[aa n2,aa 0,aa 0])) w4) (∀w5,Locl [k2,k1] w w5->J_ P 64 #[au x1,aa 255] w5 fun e3 w6=>∃n4 n5,(e3=.returned (.tuple #[aa n4,aa n5]))/\ao [k2,k1] w5 w6/\J_ P 64 #[au x2,aa 255] w6 fun e4 w7=>∃n6 n7,(e4=.returned (.tuple #[aa n6,aa n7]))/\ao [k2,k1] w6 w7/\J_ P 64 #[au x3,aa 255] w7 fun e5 w8=>∃n8 n9,(e5=.returned (.tuple #[aa n8,aa n9]))/\ao [k2,k1] w7 w8/\J_ P 66 #[aa n4,aa n6,aa n8] w8 fun e6 w9=>∃n10 n11 n12,(e6=.returned (.tuple #[aa n10,aa n11,aa n12]))/\ao [k2,k1] w8 w9/\∀w10,Locl [k2,k1] w9 w10->R (.returned (.agg #[aa n10,aa n11,aa n12])) w10)
theorem zM(x1 x2 x3 x4 x5:Int)(h:DO w R x1 x2 x3 x4 x5):J_ P 21 #[.agg #[au x1,au x2,au x3,au x4],aa x5] w R:=
  aF (ac:=DL) Tryz.func21 h
def FA(x1 x2:Int)(sa1:aj)(sl1 sc1:Nat)(x3 x4:Int):Prop:=
 ∀k1,w.heap.size<=k1->∀k2,w.heap.size<=k2->∀w1,Locl [k2,k1] w w1->J_ P 25 #[aa x3,aa (A_.wrap (x1-1))] w1 fun e1 w2=>∃n1,(e1=.returned (aa n1))/\ao [k2,k1] w1 w2/\(aU w1 w2)/\J_ P 25 #[aa x4,aa (A_.wrap (x2-1))] w2 fun e2 w3=>∃n2,(e2=.returned (aa n2))/\ao [k2,k1] w2 w3/\(aU w2 w3)/\J_ P 67 #[.agg #[aa x1,aa x2,.slice sa1 sl1 sc1],aa n1,aa n2] w3 fun e3 w4=>∃n3 n4 n5 n6,(e3=.returned (.agg #[au n3,au n4,au n5,au n6]))/\ao [k2,k1] w3 w4/\∀w5,Locl [k2,k1] w4 w5->R (.returned (.agg #[au n3,au n4,au n5,au n6])) w5
theorem AP(x1 x2:Int)(sa1:aj)(sl1 sc1:Nat)(x3 x4:Int)(h:FA w R x1 x2 sa1 sl1 sc1 x3 x4):J_ P 22 #[.agg #[aa x1,aa x2,.slice sa1 sl1 sc1],aa x3,aa x4] w R:=
  aF (ac:=FF) Tryz.func22 h
def BY(sa1:aj)(sl1 sc1:Nat)(sa2:aj)(sl2 sc2:Nat):Prop:=
 ae ((sl1:Int)!=64||(sl2:Int)!=64) (R (aM #[.slice none 0 0,aa 3]) w) (J_ P 68 #[.slice sa2 sl2 sc2,aa 1,aa 65535] w fun e1 w1=>∃n1,(e1=.returned (aa n1))/\ae (n1 !=0) (R (aM #[.slice none 0 0,aa 2]) w1) (J_ P 68 #[.slice sa1 sl1 sc1,aa (-1048576),aa 1048576] w1 fun e2 w2=>∃n2,(e2=.returned (aa n2))/\ae (n2 !=0) (R (aM #[.slice none 0 0,aa 2]) w2) (∃I1:aw,∃m1:List F_->E_->Nat,(I1 [.slice none 0 0,aa 0] w2)/\∀p1 k1 k2 n3 w3,(I1 [.slice p1 k1 k2,aa n3] w3)->ae (decide (n3<64)) (∃I2:aw,(aq (sa1) (sl1) (n3) (1) fun a1=>∃n4,(w3.cell? a1=some (aa n4))/\ae (decide (n4<0)) (aq (sa2) (sl2) (n3) (1) fun a2=>∃n5,(w3.drew.cell? a2=some (aa n5))/\aq (sa2) (sl2) (n3) (1) fun a3=>∃n6,(w3.drew.cell? a3=some (aa n6))/\(A_.wrap (2*n6)≠0)/\∀k3,(w3.drew.heap.size<=k3)->∀w4:E_,(Locl ([k3]) (w3.drew) w4)->ay (w4) ([(50,k3,[aa (A_.wrap (0-ad .quo .i64 (A_.wrap (A_.wrap (-2*n4)+n5)) (A_.wrap (2*n6))))])]) (p1) (k1) (k2) (1) (1) (8) (3) ([aa 0]) ([aa (A_.wrap (0-ad .quo .i64 (A_.wrap (A_.wrap (-2*n4)+n5)) (A_.wrap (2*n6))))]) fun p2 k4 k5 w5=>I2 [.slice p2 k4 k5] w5) (aq (sa2) (sl2) (n3) (1) fun a4=>∃n7,(w3.drew.cell? a4=some (aa n7))/\aq (sa2) (sl2) (n3) (1) fun a5=>∃n8,(w3.drew.cell? a5=some (aa n8))/\(A_.wrap (2*n8)≠0)/\∀k6,(w3.drew.heap.size<=k6)->∀w6:E_,(Locl ([k6]) (w3.drew) w6)->ay (w6) ([(66,k6,[aa (ad .quo .i64 (A_.wrap (A_.wrap (2*n4)+n7)) (A_.wrap (2*n8)))])]) (p1) (k1) (k2) (1) (1) (8) (3) ([aa 0]) ([aa (ad .quo .i64 (A_.wrap (A_.wrap (2*n4)+n7)) (A_.wrap (2*n8)))]) fun p3 k7 k8 w7=>I2 [.slice p3 k7 k8] w7))/\∀p4 k9 k10 w8,(I2 [.slice p4 k9 k10] w8)->(I1 [.slice p4 k9 k10,aa (A_.wrap (n3+1))] w8)/\m1 [.slice p4 k9 k10,aa (A_.wrap (n3+1))] w8<m1 [.slice p1 k1 k2,aa n3] w3) (R (aM #[.slice p1 k1 k2,aa 0]) w3))))
theorem xW(sa1:aj)(sl1 sc1:Nat)(sa2:aj)(sl2 sc2:Nat)(h:BY w R sa1 sl1 sc1 sa2 sl2 sc2):J_ P 24 #[.slice sa1 sl1 sc1,.slice sa2 sl2 sc2] w R:=
  aF (ac:=Cq) Tryz.func24 h
def Dp(x1 x2:Int):Prop:=
 ae (decide (x1<0)) (R (.returned (aa 0)) w) (ae (decide (x1>x2)) (R (.returned (aa x2)) w) (R (.returned (aa x1)) w))
theorem yV(x1 x2:Int)(h:Dp w R x1 x2):J_ P 25 #[aa x1,aa x2] w R:=
  aF (ac:=D5) Tryz.func25 h
def lJ(fr1 fr2:G_)(rv:F_):Prop:=
 (mZ rv=true)/\ae (!lw rv) (((∃n1:Int,(rv=L_ 67 (P_ #[M_ .i64 n1]))/\∀k1,w.heap.size<=k1->∀w1,Locl [k1] w w1->aI w1 fr1 [aa 0,aa 0,aa 0,.slice none 0 0] fun u1=>(∃v2,w1.cell? (fr1.add 1)=some v2)/\(w1.frozen? (fr1.add 1)=false)/\(∃v3,w1.cell? (fr1.add 2)=some v3)/\(w1.frozen? (fr1.add 2)=false)/\(∃v4,w1.cell? (fr1.add 3)=some v4)/\(w1.frozen? (fr1.add 3)=false)/\(¬fr1.block∈[k1])/\aI u1 fr2 [aa n1] fun u2=>(¬fr2.block∈[k1])/\R (aM #[]) u2)\/((mZ rv=true)/\(∀v6:F_,rv≠L_ 67 v6)/\∀k2,w.heap.size<=k2->(∃y1:H_,∃v7:F_,rv=L_ y1 v7)/\∀w2,Locl [k2] w w2->R (.panicked [{v:=rv,recovered:=false}]) w2))) (R (aM #[]) w)
theorem sP(fr1:G_)(fr2:G_)(rv:F_)(h:lJ w R fr1 fr2 rv):kB P 26 [.pointer (some fr1),.pointer (some fr2)] rv w R:=fun u hu=>by
 subst hu;exact Gt (fn:=Tryz.f26) (ac:=vA) (args:=[.pointer (some fr1),.pointer (some fr2)]) JC Tryz.func26 (by kernel_rfl) (cast (by unfold lJ JB;kernel_rfl) h)
def uc(b1:Bool):Prop:=
 ae (b1) ((∃y1:H_,∃v1:F_,L_ 67 (P_ #[M_ .i64 9])=L_ y1 v1)/\R (.panicked [{v:=L_ 67 (P_ #[M_ .i64 9]),recovered:=false}]) w) (R (aM #[]) w)
theorem qt(b1:Bool)(h:uc w R b1):J_ P 27 #[.bool b1] w R:=
  aF (ac:=uf) Tryz.func27 h
def rI(q1:aj):Prop:=
 ∃I1:aw,(nn (q1) fun a1=>∃p1 k1 k2,(w.cell? a1=some (.slice p1 k1 k2))/\ae ((k1:Int)==0) (J_ P 27 #[.bool true] w fun e1 w1=>(e1=.returned (.tuple #[]))/\I1 [] w1) (nn (q1) fun a2=>∃p2 k3 k4,(w.cell? a2=some (.slice p2 k3 k4))/\aq (p2) (k3) (0) (1) fun a3=>∃n1,(w.cell? a3=some (u8 n1))/\J_ P 27 #[.bool (n1 !=255)] w fun e2 w2=>(e2=.returned (.tuple #[]))/\I1 [] w2))/\∀w3,(I1 [] w3)->∃I2:aw,(∃I3:aw,∃m1:List F_->E_->Nat,(I3 [] w3)/\∀w4,(I3 [] w4)->nn (q1) fun a4=>∃p3 k5 k6,(w4.cell? a4=some (.slice p3 k5 k6))/\ae (decide ((k5:Int)>0)) (nn (q1) fun a5=>∃p4 k7 k8,(w4.cell? a5=some (.slice p4 k7 k8))/\aq (p4) (k7) (0) (1) fun a6=>∃n2,(w4.cell? a6=some (u8 n2))/\ae (n2==255) (nn (q1) fun a7=>∃p5 k9 k10,(w4.cell? a7=some (.slice p5 k9 k10))/\cO (p5) (k10) (1) ((k9:Int)) (1) fun p6 k11 k12=>nn (q1) fun a8=>aI w4 a8 [.slice p6 k11 k12] fun u1=>(I3 [] u1)/\m1 [] u1<m1 [] w4) (I2 [] w4)) (I2 [] w4))/\∀w5,(I2 [] w5)->nn (q1) fun a9=>∃p7 k13 k14,(w5.cell? a9=some (.slice p7 k13 k14))/\J_ P 27 #[.bool ((k13:Int)==0)] w5 fun e3 w6=>(e3=.returned (.tuple #[]))/\nn (q1) fun a10=>∃p8 k15 k16,(w6.cell? a10=some (.slice p8 k15 k16))/\aq (p8) (k15) (0) (1) fun a11=>∃n3,(w6.cell? a11=some (u8 n3))/\nn (q1) fun a12=>∃p9 k17 k18,(w6.cell? a12=some (.slice p9 k17 k18))/\cO (p9) (k18) (1) ((k17:Int)) (1) fun p10 k19 k20=>nn (q1) fun a13=>aI w6 a13 [.slice p10 k19 k20] fun u2=>R (.returned (aa (A_.wrap n3))) u2
theorem ox(q1:aj)(h:rI w R q1):J_ P 28 #[.pointer q1] w R:=
  aF (ac:=se) Tryz.func28 h
def Fu:Prop:=
 ((0:Int)<=0)/\((0:Int)<=64)/\((512:Int)<=281474976710656)/\((64:Int)<4611686018427387904)/\∀k1 w1,(aK w (K_ (bg [aa 0] 64) 3) k1 w1)->∃(I1:aw) (m1:List F_->E_->Nat),(I1 [.slice (aH k1) 0 64,aa 0,aa 0,aa 0] w1)/\∀p1 k2 k3 n1 n2 n3 w2,(I1 [.slice p1 k2 k3,aa n1,aa n2,aa n3] w2)->ae (decide (n3<64)) (∀k4,w2.heap.size<=k4->∀w3,Locl [k4] w2 w3->ay (w3) ([(12,k4,[aa (A_.wrap (A_.wrap (8*n1)+n2))])]) (p1) (k2) (k3) (1) (1) (8) (3) ([aa 0]) ([aa (A_.wrap (A_.wrap (8*n1)+n2))]) fun p2 k5 k6 w4=>∃I2:aw,(∃I3:aw,(ae (ad .rem .i64 (A_.wrap (n1+n2)) 2==0&&n2==7) (I3 [.bool (ad .rem .i64 (A_.wrap (n1+n2)) 2==0&&n2==7)] w4) (I3 [.bool (ad .rem .i64 (A_.wrap (n1+n2)) 2==1&&decide (n1<7)&&n2==0)] w4))/\∀c1 w5,(I3 [.bool c1] w5)->ae (c1) (I2 [aa (A_.wrap (n1+1)),aa n2] w5) (∃I4:aw,(ae (ad .rem .i64 (A_.wrap (n1+n2)) 2==0&&n1==0) (I4 [.bool (ad .rem .i64 (A_.wrap (n1+n2)) 2==0&&n1==0)] w5) (I4 [.bool (ad .rem .i64 (A_.wrap (n1+n2)) 2==1&&n1==7)] w5))/\∀c2 w6,(I4 [.bool c2] w6)->ae (c2) (I2 [aa n1,aa (A_.wrap (n2+1))] w6) (ae (ad .rem .i64 (A_.wrap (n1+n2)) 2==0) (I2 [aa (A_.wrap (n1-1)),aa (A_.wrap (n2+1))] w6) (I2 [aa (A_.wrap (n1+1)),aa (A_.wrap (n2-1))] w6))))/\∀n4 n5 w7,(I2 [aa n4,aa n5] w7)->(I1 [.slice p2 k5 k6,aa n4,aa n5,aa (A_.wrap (n3+1))] w7)/\m1 [.slice p2 k5 k6,aa n4,aa n5,aa (A_.wrap (n3+1))] w7<m1 [.slice p1 k2 k3,aa n1,aa n2,aa n3] w2) (R (.returned (.slice p1 k2 k3)) w2)
theorem As(h:Fu w R):J_ P 32 #[] w R:=
  aF (ac:=Fq) Tryz.func32 h
def yx(x1:Int)(sa1:aj)(sl1 sc1:Nat):Prop:=
 ∀k1 w1,(aK w (K_ #[u8 255,u8 x1,u8 (B_.wrap (an .shr .i64 (A_.wrap ((sl1:Int)+2)) 8)),u8 (B_.wrap (A_.wrap ((sl1:Int)+2)))] 5) k1 w1)->∃l1:List F_,(l1.length=sl1*1)/\(aN l1=true)/\(aV w1 sa1 l1)/\ay (w1) ([]) (aH k1) (4) (4) (sl1) (1) (1) (5) ([u8 0]) (l1) fun p1 k2 k3 w2=>R (.returned (.slice p1 k2 k3)) w2
theorem tj(x1:Int)(sa1:aj)(sl1 sc1:Nat)(h:yx w R x1 sa1 sl1 sc1):J_ P 33 #[u8 x1,.slice sa1 sl1 sc1] w R:=
  aF (ac:=xI) Tryz.func33 h
def zx(b1:Bool):Prop:=
 J_ P 91 #[.bool b1] w fun e1 w1=>∃(y1:FuncId) (y2 y3:Array F_),(e1=.returned (.func (Fn.func y1) y2 y3))/\∀k1 w2,(aK w1 (K_ #[.slice none 0 0,aa 0,.bool b1,.func (Fn.func y1) y2 y3] 180) k1 w2)->R (.returned (.pointer (aH k1))) w2
theorem vn(b1:Bool)(h:zx w R b1):J_ P 37 #[.bool b1] w R:=
  aF (ac:=zJ) Tryz.func37 h
def wn(fr1 fr2:G_):Prop:=
 ∃I1:aw,(∃p1,(w.cell? fr1=some (.pointer p1))/\nn (p1) fun a1=>∃p2,(w.cell? (a1.add 516)=some (.pointer p2))/\J_ P 39 #[.pointer p2] w fun e1 w1=>∃n1,(e1=.returned (aa n1))/\ae (decide (ad .rem .i64 n1 8>0)) (∃p3,(w1.cell? fr1=some (.pointer p3))/\nn (p3) fun a2=>∃p4,(w1.cell? (a2.add 516)=some (.pointer p4))/\J_ P 40 #[.pointer p4,.int .u32 255,aa (A_.wrap (8-ad .rem .i64 n1 8))] w1 fun e2 w2=>∃n2,(e2=.returned (aa n2))/\I1 [] w2) (I1 [] w1))/\∀w3,(I1 [] w3)->∃p5 k1 k2,(w3.drew.cell? fr2=some (.slice p5 k1 k2))/\∃p6,(w3.drew.cell? fr1=some (.pointer p6))/\nn (p6) fun a3=>∃p7,(w3.drew.cell? (a3.add 516)=some (.pointer p7))/\J_ P 42 #[.pointer p7] (w3.drew) fun e3 w4=>∃p8 k3 k4,(e3=.returned (.slice p8 k3 k4))/\(aU (w3.drew) w4)/\J_ P 41 #[.slice p8 k3 k4] w4 fun e4 w5=>∃p9 k5 k6,(e4=.returned (.slice p9 k5 k6))/\(aU w4 w5)/\∃l1:List F_,(l1.length=k5*1)/\(aN l1=true)/\(aV w5 p9 l1)/\ay (w5) ([]) (p5) (k1) (k2) (k5) (1) (1) (5) ([u8 0]) (l1) fun p10 k7 k8 w6=>aI w6 fr2 [.slice p10 k7 k8] fun u1=>∃p11,(u1.drew.cell? fr1=some (.pointer p11))/\J_ P 37 #[.bool true] (u1.drew) fun e5 w7=>∃p12,(e5=.returned (.pointer p12))/\(aU (u1.drew) w7)/\nn (p11) fun a4=>aI w7 (a4.add 516) [.pointer p12] fun u2=>R (aM #[]) u2
theorem sd(fr1 fr2:G_)(h:wn w R fr1 fr2):J_ P 38 #[.pointer (some fr1),.pointer (some fr2)] w R:=
  aF (ac:=wg) Tryz.func38 h
def xP(q1:aj):Prop:=
 ae (q1.isNone) (R (.returned (aa 0)) w) (nn (q1) fun a1=>∃n1,(w.cell? (a1.add 1)=some (aa n1))/\R (.returned (aa n1)) w)
theorem to(q1:aj)(h:xP w R q1):J_ P 39 #[.pointer q1] w R:=
  aF (ac:=wS) Tryz.func39 h
def xQ(q1:aj)(x1 x2:Int):Prop:=
 ae (q1.isNone) (R (.returned (aa 1)) w) (ae (decide (x2<0)||decide (x2>32)) (R (.returned (aa 2)) w) (∃I1:aw,∃m1:List F_->E_->Nat,(I1 [aa 0] w)/\∀n1 w1,(I1 [aa n1] w1)->ae (decide (n1<x2)) (∃I2:aw,(nn (q1) fun a1=>∃c1,(w1.cell? (a1.add 2)=some (.bool c1))/\ae (c1) ((0<=A_.wrap (A_.wrap (x2-1)-n1))/\J_ P 92 #[.pointer q1,u8 (B_.wrap (C_.wrap (aR .and .u32 (an .shr .u32 x1 (A_.wrap (A_.wrap (x2-1)-n1))) 1)))] w1 fun e1 w2=>(e1=.returned (.tuple #[]))/\I2 [] w2) ((0<=n1)/\J_ P 92 #[.pointer q1,u8 (B_.wrap (C_.wrap (aR .and .u32 (an .shr .u32 x1 n1) 1)))] w1 fun e2 w3=>(e2=.returned (.tuple #[]))/\I2 [] w3))/\∀w4,(I2 [] w4)->(I1 [aa (A_.wrap (n1+1))] w4)/\m1 [aa (A_.wrap (n1+1))] w4<m1 [aa n1] w1) (R (.returned (aa 0)) w1)))
theorem sM(q1:aj)(x1 x2:Int)(h:xQ w R q1 x1 x2):J_ P 40 #[.pointer q1,.int .u32 x1,aa x2] w R:=
  aF (ac:=xV) Tryz.func40 h
def Fh(sa1:aj)(sl1 sc1:Nat):Prop:=
 ((0:Int)<=0)/\(0<=(sl1:Int))/\((sl1:Int)*1<=281474976710656)/\((sl1:Int)<4611686018427387904)/\∀k1 w1,(aK w (K_ (bg [u8 0] (sl1:Int).toNat) 5) k1 w1)->∃(I1:aw) (m1:List F_->E_->Nat),(I1 [.slice (aH k1) 0 (sl1:Int).toNat,aa 0] w1)/\∀p1 k2 k3 n1 w2,(I1 [.slice p1 k2 k3,aa n1] w2)->ae (decide (n1<(sl1:Int))) (∃I2:aw,(aq (sa1) (sl1) (n1) (1) fun a1=>∃n2,(w2.cell? a1=some (u8 n2))/\∀k4,w2.heap.size<=k4->∀w3,Locl [k4] w2 w3->ay (w3) ([(17,k4,[u8 n2])]) (p1) (k2) (k3) (1) (1) (1) (5) ([u8 0]) ([u8 n2]) fun p2 k5 k6 w4=>ae (n2==255) (∀k7,w4.heap.size<=k7->∀w5,Locl [k7,k4] w4 w5->ay (w5) ([(22,k7,[u8 0]),(17,k4,[u8 n2])]) (p2) (k5) (k6) (1) (1) (1) (5) ([u8 0]) ([u8 0]) fun p3 k8 k9 w6=>I2 [.slice p3 k8 k9] w6) (I2 [.slice p2 k5 k6] w4))/\∀p4 k10 k11 w7,(I2 [.slice p4 k10 k11] w7)->(I1 [.slice p4 k10 k11,aa (A_.wrap (n1+1))] w7)/\m1 [.slice p4 k10 k11,aa (A_.wrap (n1+1))] w7<m1 [.slice p1 k2 k3,aa n1] w2) (R (.returned (.slice p1 k2 k3)) w2)
theorem Bh(sa1:aj)(sl1 sc1:Nat)(h:Fh w R sa1 sl1 sc1):J_ P 41 #[.slice sa1 sl1 sc1] w R:=
  aF (ac:=Fe) Tryz.func41 h
def uR(q1:aj):Prop:=
 ae (q1.isNone) (R (.returned (.slice none 0 0)) w) (nn (q1) fun a1=>∃p1 k1 k2,(w.cell? a1=some (.slice p1 k1 k2))/\J_ P 93 #[.slice p1 k1 k2] w fun e1 w1=>∃p2 k3 k4,(e1=.returned (.slice p2 k3 k4))/\R (.returned (.slice p2 k3 k4)) w1)
theorem qC(q1:aj)(h:uR w R q1):J_ P 42 #[.pointer q1] w R:=
  aF (ac:=uj) Tryz.func42 h
def zI(sa1:aj)(sl1 sc1:Nat)(sa2:aj)(sl2 sc2:Nat):Prop:=
 ae ((sl1:Int)!=(sl2:Int)) (R (.returned (.bool false)) w) (∃I1:aw,∃m1:List F_->E_->Nat,(I1 [aa 0] w)/\∀n1 w1,(I1 [aa n1] w1)->ae (decide (n1<(sl1:Int))) (aq (sa1) (sl1) (n1) (1) fun a1=>∃n2,(w1.drew.cell? a1=some (aa n2))/\aq (sa2) (sl2) (n1) (1) fun a2=>∃n3,(w1.drew.cell? a2=some (aa n3))/\ae (n2 !=n3) (R (.returned (.bool false)) w1.drew) ((I1 [aa (A_.wrap (n1+1))] w1.drew)/\m1 [aa (A_.wrap (n1+1))] w1.drew<m1 [aa n1] w1)) (R (.returned (.bool true)) w1))
theorem ul(sa1:aj)(sl1 sc1:Nat)(sa2:aj)(sl2 sc2:Nat)(h:zI w R sa1 sl1 sc1 sa2 sl2 sc2):J_ P 44 #[.slice sa1 sl1 sc1,.slice sa2 sl2 sc2] w R:=
  aF (ac:=zC) Tryz.func44 h
def vQ(x1 x2:Int):Prop:=
 R (.returned (.bool (decide (x1>=1)&&decide (x2>=1)&&decide (x1<=4096)&&decide (x2<=4096)&&decide (A_.wrap (x1*x2)<=65536)))) w
theorem AE(x1 x2:Int)(h:vQ w R x1 x2):J_ P 45 #[aa x1,aa x2] w R:=
  aF (ac:=FJ) Tryz.func45 h
def HM(x1 x2:Int)(sa1:aj)(sl1 sc1:Nat)(x3 x4 x5 x6:Int):Prop:=
 ∀k1,w.heap.size<=k1->∀k2,w.heap.size<=k2->∀k3,w.heap.size<=k3->∀k4,w.heap.size<=k4->∀w1,Locl [k4,k3,k2,k1] w w1->ay (w1) ([(15,k4,[au x3,au x4,au x5,au x6]),(4,k3,[aa 0,aa 0,.slice none 0 0]),(3,k2,[au x3,au x4,au x5,au x6]),(2,k1,[aa x1,aa x2,.slice sa1 sl1 sc1])]) (sa1) (sl1) (sc1) (4) (1) (2) (45) ([au 0]) ([au x3,au x4,au x5,au x6]) fun p1 k5 k6 w2=>∀w3,Locl [k4,k3,k2,k1] w2 w3->R (.returned (.agg #[aa x1,aa x2,.slice p1 k5 k6])) w3
theorem CW(x1 x2:Int)(sa1:aj)(sl1 sc1:Nat)(x3 x4 x5 x6:Int)(h:HM w R x1 x2 sa1 sl1 sc1 x3 x4 x5 x6):J_ P 46 #[.agg #[aa x1,aa x2,.slice sa1 sl1 sc1],.agg #[au x3,au x4,au x5,au x6]] w R:=
  aF (ac:=GV) Tryz.func46 h
def DI(x1 x2:Int)(sa1:aj)(sl1 sc1:Nat):Prop:=
 ∀k1,w.heap.size<=k1->∀w1,Locl [k1] w w1->J_ P 94 #[.agg #[aa x1,aa x2,.slice sa1 sl1 sc1]] w1 fun e1 w2=>∃c1,(e1=.returned (.bool c1))/\ao [k1] w1 w2/\ae (!c1) (R (aM #[.pointer none,aa 6]) w2) (((0:Int)<=0)/\(0<=A_.wrap (x1*x2))/\(A_.wrap (x1*x2)*8<=281474976710656)/\(A_.wrap (x1*x2)<4611686018427387904)/\∀k2 w3,(aK w2 (K_ (bg [au 0,au 0,au 0,au 0] (A_.wrap (x1*x2)).toNat) 47) k2 w3)->∀k3,w3.heap.size<=k3->∀w4,Locl [k3,k1] w3 w4->J_ P 95 #[.slice sa1 sl1 sc1,aa 4] w4 fun e2 w5=>∃(y1:FuncId) (y2 y3:Array F_),(e2=.returned (.func (Fn.func y1) y2 y3))/\ao [k3,k1] w4 w5/\∀k4 w6,(Rf w5 w6 k4)->∀(I1:aw) (Z1:Exit->aw),(∀l1:List F_,∀w7 w8:E_,(I1 l1 w7)->(ao ([k4,w5.heap.size,k3,k1]) w7 w8)->I1 l1 w8)->(∀y4:Exit,∀(l2:List F_) (w9 w10:E_),(Z1 y4 l2 w9)->(ao ([k4,w5.heap.size,k3,k1]) w9 w10)->Z1 y4 l2 w10)->(I1 [.slice (aH k2) 0 (A_.wrap (x1*x2)).toNat] w6)->(∀p1:aj,∀(k5 k6:Nat) (p2:aj) (k7 k8:Nat) (w11:E_) (I2:bV),(I1 [.slice p1 k5 k6] w11)->(∀y5:Obj,∀(y6:Obj) (w12:E_),(dP k4 w11 w12)->J_ P 96 #[.slice p2 k7 k8] (w12.drew) fun e3 w13=>∃n1 n2 n3 n4,(e3=.returned (.agg #[au n1,au n2,au n3,au n4]))/\(ao ([k4,w5.heap.size,k3,k1]) (w12.drew) w13)/\(aU (w12.drew) w13)/\∀k9,w13.heap.size<=k9->∀w14,Locl [k9,k3,k1] w13 w14->ay (w14) ([(22,k9,[au n1,au n2,au n3,au n4]),(4,k3,[.slice p1 k5 k6]),(1,k1,[aa x1,aa x2,.slice sa1 sl1 sc1])]) (p1) (k5) (k6) (1) (4) (8) (47) ([au 0,au 0,au 0,au 0]) ([au n1,au n2,au n3,au n4]) fun p3 k10 k11 w15=>∀w16,Locl [k9,k3,k1] w15 w16->∀w17,(dP k4 w16 w17)->(I1 [.slice p3 k10 k11] w17)->I2 (.returned (.bool true)) w17)->YieldAt R_ 0 P (k4) #[.slice p2 k7 k8] (w11) I2)->rC P (.func (Fn.func y1) y2 y3) [.func (Fn.yield k4) #[] #[]] w6 fun e4 w18=>∃v1,(e4=.returned v1)/\((∃p4:aj,∃k12 k13,(I1 [.slice p4 k12 k13] w18)/\∀w19,(dP k4 w18 w19)->J_ P 97 #[aa x1,aa x2,.slice p4 k12 k13] w19 fun e5 w20=>∃p5 n5,(e5=.returned (.tuple #[.pointer p5,aa n5]))/\ao [w5.heap.size,k3,k1] w19 w20/\∀w21,(dP (w5.heap.size) w20 w21)->R (aM #[.pointer p5,aa n5]) w21)\/(False)))
theorem zo(x1 x2:Int)(sa1:aj)(sl1 sc1:Nat)(h:DI w R x1 x2 sa1 sl1 sc1):J_ P 47 #[.agg #[aa x1,aa x2,.slice sa1 sl1 sc1]] w R:=
  aF (ac:=DP) Tryz.func47 h
def nb(q1:aj)(st1:ByteArray):Prop:=
 nn (q1) fun a1=>aI w (a1.add 2) [.int .i8 0] fun u1=>J_ P 98 #[.pointer q1,aa (↑st1.size:Int)] u1 fun e1 w1=>∃n1 c1,(e1=.returned (.tuple #[aa n1,.bool c1]))/\ae (!c1) (J_ P 99 #[.pointer q1,aa (↑st1.size:Int)] w1 fun e2 w2=>∃n2,(e2=.returned (aa n2))/\nn (q1) fun a2=>∃p1 k1 k2,(w2.cell? a2=some (.slice p1 k1 k2))/\cO (p1) (k2) (n2) ((k1:Int)) (1) fun p2 k3 k4=>(((bG st1 (min st1.size k3)=[])/\R (aM #[aa (↑(min st1.size k3):Int),O_]) w2)\/(∃a3:G_,(p2=some a3)/\(dq w2 a3 ((bG st1 (min st1.size k3)).length))/\R (aM #[aa (↑(min st1.size k3):Int),O_]) (ab w2 a3 (bG st1 (min st1.size k3)) 0)))) (nn (q1) fun a4=>∃p3 k5 k6,(w1.cell? a4=some (.slice p3 k5 k6))/\cO (p3) (k6) (n1) ((k5:Int)) (1) fun p4 k7 k8=>(((bG st1 (min st1.size k7)=[])/\R (aM #[aa (↑(min st1.size k7):Int),O_]) w1)\/(∃a5:G_,(p4=some a5)/\(dq w1 a5 ((bG st1 (min st1.size k7)).length))/\R (aM #[aa (↑(min st1.size k7):Int),O_]) (ab w1 a5 (bG st1 (min st1.size k7)) 0))))
theorem f9(q1:aj)(st1:ByteArray)(h:nb w R q1 st1):J_ P 48 #[.pointer q1,.string st1] w R:=
  aF (ac:=nj) Tryz.func48 h
def CC(x1:Int):Prop:=
 J_ P 100 #[aa x1] w fun e1 w1=>∃s1:ByteArray,(e1=.returned (.string s1))/\R (.returned (.string s1)) w1
theorem ji(x1:Int)(h:CC w R x1):J_ P 49 #[aa x1] w R:=
  aF (ac:=C3) Tryz.func49 h
def na(q1:aj):Prop:=
 ∀k1 w1,(aK w (K_ #[.pointer q1] 103) k1 w1)->R (.returned (.func (Fn.func 101) #[] #[.pointer (aH k1)])) w1
theorem lh(q1:aj)(h:na w R q1):J_ P 50 #[.pointer q1] w R:=
  aF (ac:=m8) Tryz.func50 h
def Dm(x1 x2 x3 x4 x5 x6:Int):Prop:=
 ∀k1,w.heap.size<=k1->∀w1,Locl [k1] w w1->∀k2 w2,(aK w1 (K_ #[aa x6] 3) k2 w2)->∃I1:aw,(∃I2:aw,(ae (x5==1) (I2 [] w2) (ae (x5==4) (I2 [] w2) (ae (x5==2) (I1 [] w2) (ae (x5==5) (I1 [] w2) (J_ P 104 #[au x1,.pointer (aH k2)] (w2.drew) fun e1 w3=>∃n1,(e1=.returned (aa n1))/\(ao ([k1]) (w2.drew) w3)/\(aU (w2.drew) w3)/\J_ P 104 #[au x2,.pointer (aH k2)] w3 fun e2 w4=>∃n2,(e2=.returned (aa n2))/\ao [k1] w3 w4/\(aU w3 w4)/\J_ P 104 #[au x3,.pointer (aH k2)] w4 fun e3 w5=>∃n3,(e3=.returned (aa n3))/\ao [k1] w4 w5/\∀k3 w6,(aK w5 (K_ #[aa n1,aa n2,aa n3] 3) k3 w6)->R (.returned (.slice (aH k3) 3 3)) w6)))))/\∀w7,(I2 [] w7)->J_ P 106 #[.agg #[au x1,au x2,au x3,au x4]] w7 fun e4 w8=>∃n4,(e4=.returned (au n4))/\ao [k1] w7 w8/\ae (decide (n4<32768)) (∀k4:Nat,∀w9,(aK w8 (K_ #[aa 1] 3) k4 w9)->R (.returned (.slice (aH k4) 1 1)) w9) (∀k5:Nat,∀w10,(aK w8 (K_ #[aa 0] 3) k5 w10)->R (.returned (.slice (aH k5) 1 1)) w10))/\∀w11,(I1 [] w11)->J_ P 106 #[.agg #[au x1,au x2,au x3,au x4]] w11 fun e5 w12=>∃n5,(e5=.returned (au n5))/\ao [k1] w11 w12/\J_ P 104 #[au n5,.pointer (aH k2)] w12 fun e6 w13=>∃n6,(e6=.returned (aa n6))/\ao [k1] w12 w13/\∀k6 w14,(aK w13 (K_ #[aa n6] 3) k6 w14)->R (.returned (.slice (aH k6) 1 1)) w14
theorem zD(x1 x2 x3 x4 x5 x6:Int)(h:Dm w R x1 x2 x3 x4 x5 x6):J_ P 51 #[.agg #[au x1,au x2,au x3,au x4],aa x5,aa x6] w R:=
  aF (ac:=DF) Tryz.func51 h
def H6(q1 sa1:aj)(sl1 sc1:Nat)(x1 x2:Int):Prop:=
 ∃(I1:aw) (m1:List F_->E_->Nat),(I1 [u8 0,aa 0] w)/\∀n1 n2 w1,(I1 [u8 n1,aa n2] w1)->ae (decide (n2<(sl1:Int))) (aq (sa1) (sl1) (n2) (1) fun a1=>∃n3,(w1.cell? a1=some (aa n3))/\∃I2:aw,(ae (decide (x1<4)) (ae (decide (n2>0)) (J_ P 107 #[.pointer q1,u8 32] w1 fun e1 w2=>∃v1,(e1=.returned v1)/\J_ P 49 #[aa n3] w2 fun e2 w3=>∃s1:ByteArray,(e2=.returned (.string s1))/\J_ P 48 #[.pointer q1,.string s1] w3 fun e3 w4=>∃n4 v2,(e3=.returned (.tuple #[aa n4,v2]))/\I2 [u8 n1] w4) (J_ P 49 #[aa n3] w1 fun e4 w5=>∃s2:ByteArray,(e4=.returned (.string s2))/\J_ P 48 #[.pointer q1,.string s2] w5 fun e5 w6=>∃n5 v3,(e5=.returned (.tuple #[aa n5,v3]))/\I2 [u8 n1] w6)) (ae (x1==4) ((0<=A_.wrap (7-ad .rem .i64 n2 8))/\ae (ad .rem .i64 n2 8==7||n2==A_.wrap ((sl1:Int)-1)) (J_ P 107 #[.pointer q1,u8 (B_.wrap (aR .or .u8 n1 (an .shl .u8 (B_.wrap n3) (A_.wrap (7-ad .rem .i64 n2 8)))))] w1 fun e6 w7=>∃v4,(e6=.returned v4)/\I2 [u8 0] w7) (I2 [u8 (B_.wrap (aR .or .u8 n1 (an .shl .u8 (B_.wrap n3) (A_.wrap (7-ad .rem .i64 n2 8)))))] w1)) (ae (decide (x2>255)) (J_ P 107 #[.pointer q1,u8 (B_.wrap (an .shr .i64 n3 8))] w1 fun e7 w8=>∃v5,(e7=.returned v5)/\J_ P 107 #[.pointer q1,u8 (B_.wrap n3)] w8 fun e8 w9=>∃v6,(e8=.returned v6)/\I2 [u8 n1] w9) (J_ P 107 #[.pointer q1,u8 (B_.wrap n3)] w1 fun e9 w10=>∃v7,(e9=.returned v7)/\I2 [u8 n1] w10))))/\∀n6 w11,(I2 [u8 n6] w11)->(I1 [u8 n6,aa (A_.wrap (n2+1))] w11)/\m1 [u8 n6,aa (A_.wrap (n2+1))] w11<m1 [u8 n1,aa n2] w1) (ae (decide (x1<4)) (J_ P 107 #[.pointer q1,u8 10] w1 fun e10 w12=>∃v8,(e10=.returned v8)/\R (aM #[]) w12) (R (aM #[]) w1))
theorem DV(q1 sa1:aj)(sl1 sc1:Nat)(x1 x2:Int)(h:H6 w R q1 sa1 sl1 sc1 x1 x2):J_ P 52 #[.pointer q1,.slice sa1 sl1 sc1,aa x1,aa x2] w R:=
  aF (ac:=Ip) Tryz.func52 h
def tg(q1:aj):Prop:=
 nn (q1) fun a1=>∃p1 k1 k2,(w.drew.cell? a1=some (.slice p1 k1 k2))/\nn (q1) fun a2=>∃n1,(w.drew.cell? (a2.add 1)=some (aa n1))/\cO (p1) (k2) (n1) ((k1:Int)) (1) fun p2 k3 k4=>R (.returned (.slice p2 k3 k4)) w.drew
theorem pz(q1:aj)(h:tg w R q1):J_ P 53 #[.pointer q1] w R:=
  aF (ac:=tc) Tryz.func53 h
def Gm(x1 x2 x3:Int):Prop:=
 R (.returned (.bool (decide (max x1 x2>4096)||decide (A_.wrap (x1*x2)>min x3 65536)))) w
theorem BW(x1 x2 x3:Int)(h:Gm w R x1 x2 x3):J_ P 55 #[aa x1,aa x2,aa x3] w R:=
  aF (ac:=HI) Tryz.func55 h
def Ih(x1 x2:Int):Prop:=
 ae (decide (x2<1)||decide (x2>65535)||decide (x1<0)||decide (x1>x2)) (R (aM #[au 0,aa 2]) w) ((x2≠0)/\R (aM #[au (I_.u16.wrap (ad .quo .i64 (A_.wrap (A_.wrap (65535*x1)+ad .quo .i64 x2 2)) x2)),aa 0]) w)
theorem Dx(x1 x2:Int)(h:Ih w R x1 x2):J_ P 57 #[aa x1,aa x2] w R:=
  aF (ac:=Ir) Tryz.func57 h
def m9(q1:aj)(va1:F_):Prop:=
 ae (q1.isNone) (R (.returned (.pointer none)) w) (nn (q1) fun a1=>∃n1,(w.drew.cell? a1=some (aa n1))/\nn (q1) fun a2=>∃n2,(w.drew.cell? (a2.add 1)=some (aa n2))/\nn (q1) fun a3=>∃p1 k1 k2,(w.drew.cell? (a3.add 2)=some (.slice p1 k1 k2))/\((0:Int)<=0)/\(0<=(k1:Int))/\((k1:Int)*24<=281474976710656)/\((k1:Int)<4611686018427387904)/\∀k3 w1,(aK (w.drew) (K_ (bg [aa 0,aa 0,aa 0] (k1:Int).toNat) 60) k3 w1)->∀k4 w2,(aK w1 (K_ #[aa n1,aa n2,.slice (aH k3) 0 (k1:Int).toNat] 201) k4 w2)->nn (q1) fun a4=>∃p2 k5 k6,(w2.cell? (a4.add 2)=some (.slice p2 k5 k6))/\∃(I1:aw) (m1:List F_->E_->Nat),(I1 [aa 0] w2)/\∀n3 w3,(I1 [aa n3] w3)->ae (decide (n3<(k5:Int))) (aq (p2) (k5) (n3) (4) fun a5=>∃n4 n5 n6 n7:Int,(w3.cell? a5=some (au n4))/\(w3.cell? (a5.add 1)=some (au n5))/\(w3.cell? (a5.add 2)=some (au n6))/\(w3.cell? (a5.add 3)=some (au n7))/\∀k7,w3.heap.size<=k7->∀w4,Locl [k7] w3 w4->∃p3 k8 k9,(w4.cell? {block:=k4,off:=2}=some (.slice p3 k8 k9))/\dO P (va1) [.agg #[au n4,au n5,au n6,au n7]] w4 fun e1 w5=>∃n8 n9 n10,(e1=.returned (.agg #[aa n8,aa n9,aa n10]))/\ao [k7] w4 w5/\(aU w4 w5)/\∀k10,w5.heap.size<=k10->∀w6,Locl [k10,k7] w5 w6->ay (w6) ([(43,k10,[aa n8,aa n9,aa n10]),(7,k7,[au n4,au n5,au n6,au n7])]) (p3) (k8) (k9) (1) (3) (24) (60) ([aa 0,aa 0,aa 0]) ([aa n8,aa n9,aa n10]) fun p4 k11 k12 w7=>aI w7 {block:=k4,off:=2} [.slice p4 k11 k12] fun u1=>(¬k4∈[k10,k7])/\(I1 [aa (A_.wrap (n3+1))] u1)/\m1 [aa (A_.wrap (n3+1))] u1<m1 [aa n3] w3) (R (.returned (.pointer (aH k4))) w3))
theorem lm(q1:aj)(va1:F_)(h:m9 w R q1 va1):J_ P 58 #[.pointer q1,va1] w R:=
  aF (ac:=nf) Tryz.func58 h
def Fj(b1:Bool):Prop:=
 ∀k1 w1,(aK w (K_ #[.bool b1] 4) k1 w1)->R (.returned (.func (Fn.func 111) #[] #[.pointer (aH k1)])) w1
theorem pw(b1:Bool)(h:Fj w R b1):J_ P 59 #[.bool b1] w R:=
  aF (ac:=Fp) Tryz.func59 h
def pH(q1:aj):Prop:=
 ae (q1.isNone) (R (.returned (.slice none 0 0)) w) (nn (q1) fun a1=>∃p1 k1 k2,(w.cell? (a1.add 2)=some (.slice p1 k1 k2))/\J_ P 114 #[.slice p1 k1 k2] w fun e1 w1=>∃p2 k3 k4,(e1=.returned (.slice p2 k3 k4))/\R (.returned (.slice p2 k3 k4)) w1)
theorem nJ(q1:aj)(h:pH w R q1):J_ P 60 #[.pointer q1] w R:=
  aF (ac:=qn) Tryz.func60 h
def GZ(x1:Int)(b1:Bool):Prop:=
 ae (decide (x1<1)||decide (x1>100)) (R (aM #[.slice none 0 0,aa 2]) w) (∃I1:aw,(ae (decide (x1<50)) ((x1≠0)/\I1 [aa (ad .quo .i64 5000 x1)] w) (I1 [aa (A_.wrap (200-A_.wrap (2*x1)))] w))/\∀n1 w1,(I1 [aa n1] w1)->∃I2:aw,(ae (b1) (I2 [aa 12,aa 6] w1) (I2 [aa 10,aa 3] w1))/\∀n2 n3 w2,(I2 [aa n2,aa n3] w2)->((0:Int)<=64)/\((64:Int)<=64)/\((512:Int)<=281474976710656)/\((64:Int)<4611686018427387904)/\∀k1 w3,(aK w2 (K_ (bg [aa 0] 64) 3) k1 w3)->∃(I3:aw) (m1:List F_->E_->Nat),(I3 [aa 0] w3)/\∀n4 w4,(I3 [aa n4] w4)->ae (decide (n4<64)) (aq (aH k1) (64) (n4) (1) fun a1=>aI w4 a1 [aa (min (max (ad .quo .i64 (A_.wrap (A_.wrap (A_.wrap (n2+A_.wrap (n3*A_.wrap (ad .quo .i64 n4 8+ad .rem .i64 n4 8)))*n1)+50)) 100) 1) 255)] fun u1=>(I3 [aa (A_.wrap (n4+1))] u1)/\m1 [aa (A_.wrap (n4+1))] u1<m1 [aa n4] w4) (R (aM #[.slice (aH k1) 64 64,aa 0]) w4))
theorem Ci(x1:Int)(b1:Bool)(h:GZ w R x1 b1):J_ P 61 #[aa x1,.bool b1] w R:=
  aF (ac:=GL) Tryz.func61 h
def pI(x1 x2:Int)(sa1:aj)(sl1 sc1:Nat)(x3 x4:Int):Prop:=
 ∀k1,w.heap.size<=k1->∀k2,w.heap.size<=k2->aq (sa1) (sl1) (A_.wrap (A_.wrap (min (max x4 0) (A_.wrap (x2-1))*x1)+min (max x3 0) (A_.wrap (x1-1)))) (3) fun a1=>∀w1,Locl [k2,k1] w w1->∃n1 n2 n3:Int,(w1.cell? a1=some (aa n1))/\(w1.cell? (a1.add 1)=some (aa n2))/\(w1.cell? (a1.add 2)=some (aa n3))/\∀w2,Locl [k2,k1] w1 w2->R (.returned (.agg #[aa n1,aa n2,aa n3])) w2
theorem ng(x1 x2:Int)(sa1:aj)(sl1 sc1:Nat)(x3 x4:Int)(h:pI w R x1 x2 sa1 sl1 sc1 x3 x4):J_ P 62 #[.agg #[aa x1,aa x2,.slice sa1 sl1 sc1],aa x3,aa x4] w R:=
  aF (ac:=qe) Tryz.func62 h
def Fw(sa1:aj)(sl1 sc1:Nat)(sa2:aj)(sl2 sc2:Nat):Prop:=
 J_ P 115 #[.slice sa1 sl1 sc1] w fun e1 w1=>∃p1 k1 k2 n1,(e1=.returned (.tuple #[.slice p1 k1 k2,aa n1]))/\J_ P 116 #[.slice p1 k1 k2,.slice sa2 sl2 sc2] w1 fun e2 w2=>∃p2 k3 k4 n2,(e2=.returned (.tuple #[.slice p2 k3 k4,aa n2]))/\∃(I1:aw) (m1:List F_->E_->Nat),(I1 [aa 0] w2)/\∀n3 w3,(I1 [aa n3] w3)->ae (decide (n3<(k3:Int))) (∃I2:aw,(ae (n3==0) (I2 [aa (-1024)] w3) (I2 [aa (-1023)] w3))/\∀n4 w4,(I2 [aa n4] w4)->aq (p2) (k3) (n3) (1) fun a1=>∃n5,(w4.cell? a1=some (aa n5))/\aq (p2) (k3) (n3) (1) fun a2=>aI w4 a2 [aa (min (max n5 n4) 1023)] fun u1=>(I1 [aa (A_.wrap (n3+1))] u1)/\m1 [aa (A_.wrap (n3+1))] u1<m1 [aa n3] w3) (R (.returned (.slice p2 k3 k4)) w3)
theorem AW(sa1:aj)(sl1 sc1:Nat)(sa2:aj)(sl2 sc2:Nat)(h:Fw w R sa1 sl1 sc1 sa2 sl2 sc2):J_ P 63 #[.slice sa1 sl1 sc1,.slice sa2 sl2 sc2] w R:=
  aF (ac:=FH) Tryz.func63 h
def vJ(x1 x2:Int):Prop:=
 ae (decide (x2<1)||decide (x2>65535)) (R (aM #[aa 0,aa 2]) w) (R (aM #[aa (ad .quo .i64 (A_.wrap (A_.wrap (A_.wrap x1*x2)+32767)) 65535),aa 0]) w)
theorem Bq(x1 x2:Int)(h:vJ w R x1 x2):J_ P 64 #[au x1,aa x2] w R:=
  aF (ac:=FP) Tryz.func64 h
def Fz(x1 x2 x3 x4:Int):Prop:=
 ∀k1,w.heap.size<=k1->∀w1,Locl [k1] w w1->R (.returned (au (I_.u16.wrap (ad .quo .i64 (A_.wrap (A_.wrap (A_.wrap (A_.wrap (19595*A_.wrap x1)+A_.wrap (38470*A_.wrap x2))+A_.wrap (7471*A_.wrap x3))+32768)) 65536)))) w1
theorem Aq(x1 x2 x3 x4:Int)(h:Fz w R x1 x2 x3 x4):J_ P 65 #[.agg #[au x1,au x2,au x3,au x4]] w R:=
  aF (ac:=Ft) Tryz.func65 h
def Hr(x1 x2 x3:Int):Prop:=
 J_ P 25 #[aa x1,aa 255] w fun e1 w1=>∃n1,(e1=.returned (aa n1))/\J_ P 25 #[aa x2,aa 255] w1 fun e2 w2=>∃n2,(e2=.returned (aa n2))/\J_ P 25 #[aa x3,aa 255] w2 fun e3 w3=>∃n3,(e3=.returned (aa n3))/\J_ P 117 #[aa (A_.wrap (A_.wrap (A_.wrap (A_.wrap (19595*n1)+A_.wrap (38470*n2))+A_.wrap (7471*n3))+32768)),aa 65536] w3 fun e4 w4=>∃n4,(e4=.returned (aa n4))/\J_ P 117 #[aa (A_.wrap (A_.wrap (A_.wrap (A_.wrap (32768*n3)-A_.wrap (11058*n1))-A_.wrap (21710*n2))+8421376)),aa 65536] w4 fun e5 w5=>∃n5,(e5=.returned (aa n5))/\J_ P 117 #[aa (A_.wrap (A_.wrap (A_.wrap (A_.wrap (32768*n1)-A_.wrap (27439*n2))-A_.wrap (5329*n3))+8421376)),aa 65536] w5 fun e6 w6=>∃n6,(e6=.returned (aa n6))/\J_ P 25 #[aa n4,aa 255] w6 fun e7 w7=>∃n7,(e7=.returned (aa n7))/\J_ P 25 #[aa n5,aa 255] w7 fun e8 w8=>∃n8,(e8=.returned (aa n8))/\J_ P 25 #[aa n6,aa 255] w8 fun e9 w9=>∃n9,(e9=.returned (aa n9))/\R (aM #[aa n7,aa n8,aa n9]) w9
theorem BP(x1 x2 x3:Int)(h:Hr w R x1 x2 x3):J_ P 66 #[aa x1,aa x2,aa x3] w R:=
  aF (ac:=Gz) Tryz.func66 h
def De(x1 x2:Int)(sa1:aj)(sl1 sc1:Nat)(x3 x4:Int):Prop:=
 ∀k1,w.heap.size<=k1->∀k2,w.heap.size<=k2->aq (sa1) (sl1) (A_.wrap (4*A_.wrap (A_.wrap (x4*x1)+x3))) (1) fun a1=>∀w1,Locl [k2,k1] w w1->∃n1,(w1.cell? a1=some (au n1))/\aq (sa1) (sl1) (A_.wrap (A_.wrap (4*A_.wrap (A_.wrap (x4*x1)+x3))+1)) (1) fun a2=>∃n2,(w1.cell? a2=some (au n2))/\aq (sa1) (sl1) (A_.wrap (A_.wrap (4*A_.wrap (A_.wrap (x4*x1)+x3))+2)) (1) fun a3=>∃n3,(w1.cell? a3=some (au n3))/\aq (sa1) (sl1) (A_.wrap (A_.wrap (4*A_.wrap (A_.wrap (x4*x1)+x3))+3)) (1) fun a4=>∃n4,(w1.cell? a4=some (au n4))/\∀w2,Locl [k2,k1] w1 w2->R (.returned (.agg #[au n1,au n2,au n3,au n4])) w2
theorem zj(x1 x2:Int)(sa1:aj)(sl1 sc1:Nat)(x3 x4:Int)(h:De w R x1 x2 sa1 sl1 sc1 x3 x4):J_ P 67 #[.agg #[aa x1,aa x2,.slice sa1 sl1 sc1],aa x3,aa x4] w R:=
  aF (ac:=DJ) Tryz.func67 h
def CK(sa1:aj)(sl1 sc1:Nat)(x1 x2:Int):Prop:=
 ae ((sl1:Int)!=64) (R (.returned (aa 3)) w) (∃I1:aw,∃m1:List F_->E_->Nat,(I1 [aa 0] w)/\∀n1 w1,(I1 [aa n1] w1)->ae (decide (n1<64)) (aq (sa1) (sl1) (n1) (1) fun a1=>∃n2,(w1.cell? a1=some (aa n2))/\ae (decide (n2<x1)) (R (.returned (aa 2)) w1) (aq (sa1) (sl1) (n1) (1) fun a2=>∃n3,(w1.cell? a2=some (aa n3))/\ae (decide (n3>x2)) (R (.returned (aa 2)) w1) ((I1 [aa (A_.wrap (n1+1))] w1)/\m1 [aa (A_.wrap (n1+1))] w1<m1 [aa n1] w1))) (R (.returned (aa 0)) w1))
theorem yf(sa1:aj)(sl1 sc1:Nat)(x1 x2:Int)(h:CK w R sa1 sl1 sc1 x1 x2):J_ P 68 #[.slice sa1 sl1 sc1,aa x1,aa x2] w R:=
  aF (ac:=CZ) Tryz.func68 h
def vN(x1:Int):Prop:=
 ae (decide (ad .rem .i64 x1 268435456<0)) (R (.returned (aa (A_.wrap (ad .quo .i64 x1 268435456-1)))) w) (R (.returned (aa (ad .quo .i64 x1 268435456))) w)
theorem Bd(x1:Int)(h:vN w R x1):J_ P 70 #[aa x1] w R:=
  aF (ac:=Fy) Tryz.func70 h
def rW(b1:Bool):Prop:=
 ae (b1) ((∃y1:H_,∃v1:F_,L_ 67 (P_ #[M_ .i64 10])=L_ y1 v1)/\R (.panicked [{v:=L_ 67 (P_ #[M_ .i64 10]),recovered:=false}]) w) (R (aM #[]) w)
theorem oU(b1:Bool)(h:rW w R b1):J_ P 71 #[.bool b1] w R:=
  aF (ac:=rH) Tryz.func71 h
def vW(q1:aj):Prop:=
 J_ P 119 #[.pointer q1] w fun e1 w1=>∃n1,(e1=.returned (aa n1))/\J_ P 119 #[.pointer q1] w1 fun e2 w2=>∃n2,(e2=.returned (aa n2))/\R (.returned (aa (A_.wrap (aR .or .i64 (an .shl .i64 n1 8) n2)))) w2
theorem sa(q1:aj)(h:vW w R q1):J_ P 72 #[.pointer q1] w R:=
  aF (ac:=ws) Tryz.func72 h
def tn(q1:aj)(x1:Int):Prop:=
 nn (q1) fun a1=>∃p1 k1 k2,(w.cell? a1=some (.slice p1 k1 k2))/\J_ P 27 #[.bool (decide ((k1:Int)<x1))] w fun e1 w1=>(e1=.returned (.tuple #[]))/\nn (q1) fun a2=>∃p2 k3 k4,(w1.cell? a2=some (.slice p2 k3 k4))/\cO (p2) (k4) (0) (x1) (1) fun p3 k5 k6=>nn (q1) fun a3=>∃p4 k7 k8,(w1.cell? a3=some (.slice p4 k7 k8))/\cO (p4) (k8) (x1) ((k7:Int)) (1) fun p5 k9 k10=>nn (q1) fun a4=>aI w1 a4 [.slice p5 k9 k10] fun u1=>R (.returned (.slice p3 k5 k6)) u1
theorem qg(q1:aj)(x1:Int)(h:tn w R q1 x1):J_ P 73 #[.pointer q1,aa x1] w R:=
  aF (ac:=sY) Tryz.func73 h
def nT(q1 sa1:aj)(sl1 sc1:Nat):Prop:=
 ∀k1 w1,(aK w (K_ #[.slice sa1 sl1 sc1] 152) k1 w1)->J_ P 32 #[] w1 fun e1 w2=>∃p1 k2 k3,(e1=.returned (.slice p1 k2 k3))/\∃(I1:aw) (m1:List F_->E_->Nat),(I1 [] w2)/\∀w3,(I1 [] w3)->∃p2 k4 k5,(w3.cell? {block:=k1,off:=0}=some (.slice p2 k4 k5))/\ae (decide ((k4:Int)>0)) (J_ P 119 #[.pointer (aH k1)] w3 fun e2 w4=>∃n1,(e2=.returned (aa n1))/\J_ P 27 #[.bool (decide (an .shr .i64 n1 4>1)||decide (A_.wrap (aR .and .i64 n1 15)>3))] w4 fun e3 w5=>(e3=.returned (.tuple #[]))/\J_ P 71 #[.bool (an .shr .i64 n1 4==1)] w5 fun e4 w6=>(e4=.returned (.tuple #[]))/\J_ P 73 #[.pointer (aH k1),aa 64] w6 fun e5 w7=>∃p3 k6 k7,(e5=.returned (.slice p3 k6 k7))/\J_ P 120 #[.slice p3 k6 k7,u8 0] w7 fun e6 w8=>∃c1,(e6=.returned (.bool c1))/\J_ P 27 #[.bool c1] w8 fun e7 w9=>(e7=.returned (.tuple #[]))/\((0:Int)<=64)/\((64:Int)<=64)/\((512:Int)<=281474976710656)/\((64:Int)<4611686018427387904)/\∀k8 w10,(aK w9 (K_ (bg [aa 0] 64) 3) k8 w10)->∃(I2:aw) (m2:List F_->E_->Nat),(I2 [aa 0] w10)/\∀n2 w11,(I2 [aa n2] w11)->ae (decide (n2<(k6:Int))) (aq (p3) (k6) (n2) (1) fun a1=>∃n3,(w11.cell? a1=some (u8 n3))/\aq (p1) (k2) (n2) (1) fun a2=>∃n4,(w11.cell? a2=some (aa n4))/\aq (aH k8) (64) (n4) (1) fun a3=>aI w11 a3 [aa (A_.wrap n3)] fun u1=>(I2 [aa (A_.wrap (n2+1))] u1)/\m2 [aa (A_.wrap (n2+1))] u1<m2 [aa n2] w11) (nn (q1) fun a4=>(0<=A_.wrap (aR .and .i64 n1 15))/\(A_.wrap (aR .and .i64 n1 15)<4)/\aI w11 ((a4.add 1).add ((A_.wrap (aR .and .i64 n1 15)).toNat*1)) [.slice (aH k8) 64 64] fun u2=>(I1 [] u2)/\m1 [] u2<m1 [] w3)) (R (aM #[]) w3)
theorem lW(q1 sa1:aj)(sl1 sc1:Nat)(h:nT w R q1 sa1 sl1 sc1):J_ P 74 #[.pointer q1,.slice sa1 sl1 sc1] w R:=
  aF (ac:=od) Tryz.func74 h
def xg(x1 x2 x3:Int)(sa1:aj)(sl1 sc1:Nat):Prop:=
 ∀k1,w.heap.size<=k1->∀k2,w.heap.size<=k2->∀k3,w.heap.size<=k3->∃(I1:aw) (m1:List F_->E_->Nat),(∀w1,Locl [k3,k2,k1] w w1->I1 [aa 0,aa 1,aa 1,aa 0,aa 0] w1)/\∀n1 n2 n3 n4 n5 w2,(I1 [aa n1,aa n2,aa n3,aa n4,aa n5] w2)->ae (decide (n1<(sl1:Int))) (aq (sa1) (sl1) (n1) (4) fun a1=>∃(n6 n7:Int) (p1:aj) (k4 k5:Nat) (p2:aj) (k6 k7:Nat),(w2.cell? a1=some (aa n6))/\(w2.cell? (a1.add 1)=some (aa n7))/\(w2.cell? (a1.add 2)=some (.slice p1 k4 k5))/\(w2.cell? (a1.add 3)=some (.slice p2 k6 k7))/\∀k8,w2.heap.size<=k8->∀w3,Locl [k8,k3,k2,k1] w2 w3->(I1 [aa (A_.wrap (n1+1)),aa (max n2 n6),aa (max n3 n7),aa n4,aa n5] w3)/\m1 [aa (A_.wrap (n1+1)),aa (max n2 n6),aa (max n3 n7),aa n4,aa n5] w3<m1 [aa n1,aa n2,aa n3,aa n4,aa n5] w2) ((A_.wrap (8*n2)≠0)/\(A_.wrap (8*n3)≠0)/\∀w4:E_,(Locl ([k3,k2,k1]) (w2.drew) w4)->R (.returned (.agg #[aa n2,aa n3,aa (ad .quo .i64 (A_.wrap (A_.wrap (x1+A_.wrap (8*n2))-1)) (A_.wrap (8*n2))),aa (ad .quo .i64 (A_.wrap (A_.wrap (x2+A_.wrap (8*n3))-1)) (A_.wrap (8*n3)))])) w4)
theorem tu(x1 x2 x3:Int)(sa1:aj)(sl1 sc1:Nat)(h:xg w R x1 x2 x3 sa1 sl1 sc1):J_ P 78 #[.agg #[aa x1,aa x2,aa x3,.slice sa1 sl1 sc1]] w R:=
  aF (ac:=xp) Tryz.func78 h
def Cr(sa1:aj)(sl1 sc1:Nat):Prop:=
 ((0:Int)<=0)/\(0<=(sl1:Int))/\((sl1:Int)*1<=281474976710656)/\((sl1:Int)<4611686018427387904)/\∀k1 w1,(aK w (K_ (bg [u8 0] (sl1:Int).toNat) 5) k1 w1)->∃I1:aw,(∃I2:aw,∃m1:List F_->E_->Nat,(I2 [.slice (aH k1) 0 (sl1:Int).toNat,aa 0] w1)/\∀p1 k2 k3 n1 w2,(I2 [.slice p1 k2 k3,aa n1] w2)->ae (decide (n1<(sl1:Int))) (∃I3:aw,(aq (sa1) (sl1) (n1) (1) fun a1=>∃n2,(w2.cell? a1=some (u8 n2))/\ae (n2==255) (ae (A_.wrap (n1+1)==(sl1:Int)) (I1 [.slice p1 k2 k3,aa n1] w2) (aq (sa1) (sl1) (A_.wrap (n1+1)) (1) fun a2=>∃n3,(w2.cell? a2=some (u8 n3))/\ae (n3 !=0) (I1 [.slice p1 k2 k3,aa n1] w2) (∀k4,w2.heap.size<=k4->∀w3,Locl [k4] w2 w3->ay (w3) ([(34,k4,[u8 255])]) (p1) (k2) (k3) (1) (1) (1) (5) ([u8 0]) ([u8 255]) fun p2 k5 k6 w4=>I3 [.slice p2 k5 k6,aa (A_.wrap (n1+1))] w4))) (aq (sa1) (sl1) (n1) (1) fun a3=>∃n4,(w2.cell? a3=some (u8 n4))/\∀k7,w2.heap.size<=k7->∀w5,Locl [k7] w2 w5->ay (w5) ([(43,k7,[u8 n4])]) (p1) (k2) (k3) (1) (1) (1) (5) ([u8 0]) ([u8 n4]) fun p3 k8 k9 w6=>I3 [.slice p3 k8 k9,aa n1] w6))/\∀p4 k10 k11 n5 w7,(I3 [.slice p4 k10 k11,aa n5] w7)->(I2 [.slice p4 k10 k11,aa (A_.wrap (n5+1))] w7)/\m1 [.slice p4 k10 k11,aa (A_.wrap (n5+1))] w7<m1 [.slice p1 k2 k3,aa n1] w2) (I1 [.slice p1 k2 k3,aa n1] w2))/\∀p5 k12 k13 n6 w8,(I1 [.slice p5 k12 k13,aa n6] w8)->R (aM #[.slice p5 k12 k13,aa n6]) w8
theorem wG(sa1:aj)(sl1 sc1:Nat)(h:Cr w R sa1 sl1 sc1):J_ P 79 #[.slice sa1 sl1 sc1] w R:=
  aF (ac:=Cd) Tryz.func79 h
def zy(sa1:aj)(sl1 sc1:Nat)(b1:Bool):Prop:=
 J_ P 93 #[.slice sa1 sl1 sc1] w fun e1 w1=>∃p1 k1 k2,(e1=.returned (.slice p1 k1 k2))/\J_ P 91 #[.bool b1] w1 fun e2 w2=>∃(y1:FuncId) (y2 y3:Array F_),(e2=.returned (.func (Fn.func y1) y2 y3))/\∀k3 w3,(aK w2 (K_ #[.slice p1 k1 k2,aa 0,.bool b1,.func (Fn.func y1) y2 y3] 220) k3 w3)->R (.returned (.pointer (aH k3))) w3
theorem vk(sa1:aj)(sl1 sc1:Nat)(b1:Bool)(h:zy w R sa1 sl1 sc1 b1):J_ P 80 #[.slice sa1 sl1 sc1,.bool b1] w R:=
  aF (ac:=yX) Tryz.func80 h
def uN(q1 q2:aj)(x1 x2 x3 x4 x5:Int):Prop:=
 ∀k1,w.heap.size<=k1->nn (q1) fun a1=>∀w1,Locl [k1] w w1->∃p1 k2 k3,(w1.cell? (a1.add 13)=some (.slice p1 k2 k3))/\∃(I1:aw) (m1:List F_->E_->Nat),(I1 [aa 0] w1)/\∀n1 w2,(I1 [aa n1] w2)->ae (decide (n1<(k2:Int))) (nn (q1) fun a2=>∃p2 k4 k5,(w2.cell? ((a2.add 9).add 3)=some (.slice p2 k4 k5))/\aq (p2) (k4) (n1) (4) fun a3=>∃(n2 n3:Int) (p3:aj) (k6 k7:Nat) (p4:aj) (k8 k9:Nat),(w2.cell? a3=some (aa n2))/\(w2.cell? (a3.add 1)=some (aa n3))/\(w2.cell? (a3.add 2)=some (.slice p3 k6 k7))/\(w2.cell? (a3.add 3)=some (.slice p4 k8 k9))/\∀k10,w2.heap.size<=k10->∃(I2:aw) (m2:List F_->E_->Nat),(∀w3,Locl [k10,k1] w2 w3->I2 [aa 0] w3)/\∀n4 w4,(I2 [aa n4] w4)->ae (decide (n4<n3)) (∃I3:aw,∃m3:List F_->E_->Nat,(I3 [aa 0] w4)/\∀n5 w5,(I3 [aa n5] w5)->ae (decide (n5<n2)) (nn (q1) fun a4=>∃p5 k11 k12,(w5.drew.cell? (a4.add 13)=some (.slice p5 k11 k12))/\aq (p5) (k11) (n1) (5) fun a5=>(x3≠0)/\(x3≠0)/\J_ P 128 #[.pointer q2,.pointer (some a5)] (w5.drew) fun e1 w6=>∃p6 k13 k14,(e1=.returned (.slice p6 k13 k14))/\(ao ([k10,k1]) (w5.drew) w6)/\aq (p4) (k8) (A_.wrap (A_.wrap (A_.wrap (A_.wrap (A_.wrap (A_.wrap (ad .quo .i64 x5 x3*n3)+n4)*x3)*n2)+A_.wrap (ad .rem .i64 x5 x3*n2))+n5)) (1) fun a6=>aI w6 a6 [.slice p6 k13 k14] fun u1=>(¬a6.block∈[k10,k1])/\(I3 [aa (A_.wrap (n5+1))] u1)/\m3 [aa (A_.wrap (n5+1))] u1<m3 [aa n5] w5) ((I2 [aa (A_.wrap (n4+1))] w5)/\m2 [aa (A_.wrap (n4+1))] w5<m2 [aa n4] w4)) ((I1 [aa (A_.wrap (n1+1))] w4)/\m1 [aa (A_.wrap (n1+1))] w4<m1 [aa n1] w2)) (R (aM #[]) w2)
theorem qz(q1 q2:aj)(x1 x2 x3 x4 x5:Int)(h:uN w R q1 q2 x1 x2 x3 x4 x5):J_ P 81 #[.pointer q1,.pointer q2,.agg #[aa x1,aa x2,aa x3,aa x4],aa x5] w R:=
  aF (ac:=ve) Tryz.func81 h
def wp(q1:aj):Prop:=
 ae (q1.isNone) (R (.returned (aa 0)) w) (nn (q1) fun a1=>∃p1 k1 k2,(w.drew.cell? a1=some (.slice p1 k1 k2))/\nn (q1) fun a2=>∃n1,(w.drew.cell? (a2.add 1)=some (aa n1))/\R (.returned (aa (A_.wrap (A_.wrap (8*(k1:Int))-n1)))) w.drew)
theorem rZ(q1:aj)(h:wp w R q1):J_ P 82 #[.pointer q1] w R:=
  aF (ac:=wj) Tryz.func82 h
def zL(sa1:aj)(sl1 sc1:Nat):Prop:=
 ae (decide ((sl1:Int)<1)) ((∃y1:H_,∃v1:F_,L_ 9 (N_ {data:=#[115,108,105,99,101,115,46,77,105,110,58,32,101,109,112,116,121,32,108,105,115,116]})=L_ y1 v1)/\R (.panicked [{v:=L_ 9 (N_ {data:=#[115,108,105,99,101,115,46,77,105,110,58,32,101,109,112,116,121,32,108,105,115,116]}),recovered:=false}]) w) (aq (sa1) (sl1) (0) (1) fun a1=>∃n1,(w.cell? a1=some (aa n1))/\∃(I1:aw) (m1:List F_->E_->Nat),(I1 [aa n1,aa 1] w)/\∀n2 n3 w1,(I1 [aa n2,aa n3] w1)->ae (decide (n3<(sl1:Int))) (aq (sa1) (sl1) (n3) (1) fun a2=>∃n4,(w1.cell? a2=some (aa n4))/\(I1 [aa (min n2 n4),aa (A_.wrap (n3+1))] w1)/\m1 [aa (min n2 n4),aa (A_.wrap (n3+1))] w1<m1 [aa n2,aa n3] w1) (R (.returned (aa n2)) w1))
theorem uD(sa1:aj)(sl1 sc1:Nat)(h:zL w R sa1 sl1 sc1):J_ P 83 #[.slice sa1 sl1 sc1] w R:=
  aF (ac:=zE) Tryz.func83 h
def yY(sa1:aj)(sl1 sc1:Nat):Prop:=
 ae (decide ((sl1:Int)<1)) ((∃y1:H_,∃v1:F_,L_ 9 (N_ {data:=#[115,108,105,99,101,115,46,77,97,120,58,32,101,109,112,116,121,32,108,105,115,116]})=L_ y1 v1)/\R (.panicked [{v:=L_ 9 (N_ {data:=#[115,108,105,99,101,115,46,77,97,120,58,32,101,109,112,116,121,32,108,105,115,116]}),recovered:=false}]) w) (aq (sa1) (sl1) (0) (1) fun a1=>∃n1,(w.cell? a1=some (aa n1))/\∃(I1:aw) (m1:List F_->E_->Nat),(I1 [aa n1,aa 1] w)/\∀n2 n3 w1,(I1 [aa n2,aa n3] w1)->ae (decide (n3<(sl1:Int))) (aq (sa1) (sl1) (n3) (1) fun a2=>∃n4,(w1.cell? a2=some (aa n4))/\(I1 [aa (max n2 n4),aa (A_.wrap (n3+1))] w1)/\m1 [aa (max n2 n4),aa (A_.wrap (n3+1))] w1<m1 [aa n2,aa n3] w1) (R (.returned (aa n2)) w1))
theorem uy(sa1:aj)(sl1 sc1:Nat)(h:yY w R sa1 sl1 sc1):J_ P 84 #[.slice sa1 sl1 sc1] w R:=
  aF (ac:=yU) Tryz.func84 h
def oe(sa1:aj)(sl1 sc1:Nat)(va1:F_):Prop:=
 J_ P 129 #[.slice sa1 sl1 sc1,va1] w fun e1 w1=>∃n1,(e1=.returned (aa n1))/\R (.returned (.bool (decide (n1>=0)))) w1
theorem lY(sa1:aj)(sl1 sc1:Nat)(va1:F_)(h:oe w R sa1 sl1 sc1 va1):J_ P 85 #[.slice sa1 sl1 sc1,va1] w R:=
  aF (ac:=nW) Tryz.func85 h
def wB(sa1:aj)(sl1 sc1:Nat):Prop:=
 J_ P 87 #[.slice sa1 sl1 sc1] w fun e1 w1=>∃c1,(e1=.returned (.bool c1))/\R (.returned (.bool !c1)) w1
theorem rO(sa1:aj)(sl1 sc1:Nat)(h:wB w R sa1 sl1 sc1):J_ P 86 #[.slice sa1 sl1 sc1] w R:=
  aF (ac:=wo) Tryz.func86 h
def vz(sa1:aj)(sl1 sc1:Nat):Prop:=
 ae ((sl1:Int)!=64) (R (.returned (.bool false)) w) (aq (sa1) (sl1) (0) (1) fun a1=>∃n1,(w.cell? a1=some (aa n1))/\ae (decide (n1 < -1024)) (R (.returned (.bool false)) w) (J_ P 84 #[.slice sa1 sl1 sc1] w fun e1 w1=>∃n2,(e1=.returned (aa n2))/\ae (decide (n2<=1023)) (cO (sa1) (sc1) (1) ((sl1:Int)) (1) fun p1 k1 k2=>J_ P 83 #[.slice p1 k1 k2] w1 fun e2 w2=>∃n3,(e2=.returned (aa n3))/\R (.returned (.bool (decide (n3>= -1023)))) w2) (R (.returned (.bool false)) w1)))
theorem qK(sa1:aj)(sl1 sc1:Nat)(h:vz w R sa1 sl1 sc1):J_ P 87 #[.slice sa1 sl1 sc1] w R:=
  aF (ac:=un) Tryz.func87 h
def su(q1 sa1:aj)(sl1 sc1:Nat)(x1:Int)(sa2:aj)(sl2 sc2:Nat):Prop:=
 aq (sa1) (sl1) (0) (1) fun a1=>∃n1,(w.cell? a1=some (aa n1))/\J_ P 130 #[aa (A_.wrap (n1-x1))] w fun e1 w1=>∃n2 n3,(e1=.returned (.tuple #[aa n2,aa n3]))/\J_ P 131 #[.pointer q1,aa 0,aa n2,aa n3,aa n2] w1 fun e2 w2=>(e2=.returned (.tuple #[]))/\cO (sa2) (sc2) (1) ((sl2:Int)) (1) fun p1 k1 k2=>∃(I1:aw) (m1:List F_->E_->Nat),(I1 [aa 0,aa 0] w2)/\∀n4 n5 w3,(I1 [aa n4,aa n5] w3)->ae (decide (n5<(k1:Int))) (∃I2:aw,(aq (p1) (k1) (n5) (1) fun a2=>∃n6,(w3.cell? a2=some (aa n6))/\aq (sa1) (sl1) (n6) (1) fun a3=>∃n7,(w3.cell? a3=some (aa n7))/\ae (n7==0) (I2 [aa (A_.wrap (n4+1))] w3) (∃I3:aw,∃m2:List F_->E_->Nat,(I3 [aa n4] w3)/\∀n8 w4,(I3 [aa n8] w4)->ae (decide (n8>15)) (J_ P 131 #[.pointer q1,aa 1,aa 240,aa 0,aa 0] w4 fun e3 w5=>(e3=.returned (.tuple #[]))/\(I3 [aa (A_.wrap (n8-16))] w5)/\m2 [aa (A_.wrap (n8-16))] w5<m2 [aa n8] w4) (aq (sa1) (sl1) (n6) (1) fun a4=>∃n9,(w4.cell? a4=some (aa n9))/\J_ P 130 #[aa n9] w4 fun e4 w6=>∃n10 n11,(e4=.returned (.tuple #[aa n10,aa n11]))/\J_ P 131 #[.pointer q1,aa 1,aa (A_.wrap (aR .or .i64 (an .shl .i64 n8 4) n10)),aa n11,aa n10] w6 fun e5 w7=>(e5=.returned (.tuple #[]))/\I2 [aa 0] w7)))/\∀n12 w8,(I2 [aa n12] w8)->(I1 [aa n12,aa (A_.wrap (n5+1))] w8)/\m1 [aa n12,aa (A_.wrap (n5+1))] w8<m1 [aa n4,aa n5] w3) (ae (decide (n4>0)) (J_ P 131 #[.pointer q1,aa 1,aa 0,aa 0,aa 0] w3 fun e6 w9=>(e6=.returned (.tuple #[]))/\R (aM #[]) w9) (R (aM #[]) w3))
theorem oy(q1 sa1:aj)(sl1 sc1:Nat)(x1:Int)(sa2:aj)(sl2 sc2:Nat)(h:su w R q1 sa1 sl1 sc1 x1 sa2 sl2 sc2):J_ P 88 #[.pointer q1,.slice sa1 sl1 sc1,aa x1,.slice sa2 sl2 sc2] w R:=
  aF (ac:=r8) Tryz.func88 h
def xu(vs1:List F_):Prop:=
 ∀k1 w1,(aK w (K_ vs1.toArray 85) k1 w1)->cO (aH k1) (256) (0) (256) (1) fun p1 k2 k3=>∀k4,w1.heap.size<=k4->∀w2,Locl [k4] w1 w2->ay (w2) ([(7,k4,[aa 1])]) (p1) (k2) (k3) (1) (1) (8) (3) ([aa 0]) ([aa 1]) fun p2 k5 k6 w3=>J_ P 132 #[.slice p2 k5 k6,aa 16] w3 fun e1 w4=>∃p3 k7 k8 n1,(e1=.returned (.tuple #[.slice p3 k7 k8,aa n1]))/\ao [k4] w3 w4/\R (.returned (.slice p3 k7 k8)) w4
theorem tF(vs1:List F_)(h:xu w R vs1):J_ P 89 #[.agg vs1.toArray] w R:=
  aF (ac:=xL) Tryz.func89 h
def Cc(sa1:aj)(sl1 sc1:Nat)(q1:aj):Prop:=
 aq (sa1) (sl1) (256) (1) fun a1=>∃n1,(w.drew.cell? a1=some (aa n1))/\nn (q1) fun a2=>(0<=n1)/\(n1<17)/\∃n2,(w.drew.cell? (a2.add (n1.toNat*1))=some (aa n2))/\nn (q1) fun a3=>(0<=n1)/\(n1<17)/\aI w.drew (a3.add (n1.toNat*1)) [aa (A_.wrap (n2-1))] fun u1=>cO (sa1) (sc1) (0) (256) (1) fun p1 k1 k2=>J_ P 126 #[.slice p1 k1 k2] u1 fun e1 w1=>∃p2 k3 k4,(e1=.returned (.slice p2 k3 k4))/\J_ P 133 #[.slice p2 k3 k4] w1 fun e2 w2=>∃p3 k5 k6 n3,(e2=.returned (.tuple #[.slice p3 k5 k6,aa n3]))/\R (aM #[.slice p3 k5 k6,.slice p2 k3 k4]) w2
theorem xA(sa1:aj)(sl1 sc1:Nat)(q1:aj)(h:Cc w R sa1 sl1 sc1 q1):J_ P 90 #[.slice sa1 sl1 sc1,.pointer q1] w R:=
  aF (ac:=BS) Tryz.func90 h
def FG(b1:Bool):Prop:=
 ae (b1) (R (.returned (.func (Fn.func 134) #[] #[])) w) (R (.returned (.func (Fn.func 135) #[] #[])) w)
theorem Au(b1:Bool)(h:FG w R b1):J_ P 91 #[.bool b1] w R:=
  aF (ac:=Fc) Tryz.func91 h
def no(q1:aj)(x1:Int):Prop:=
 ∃I1:aw,(nn (q1) fun a1=>∃n1,(w.cell? (a1.add 1)=some (aa n1))/\ae (ad .rem .i64 n1 8==0) (nn (q1) fun a2=>∃p1 k1 k2,(w.cell? a2=some (.slice p1 k1 k2))/\∀k3,w.heap.size<=k3->∀w1,Locl [k3] w w1->ay (w1) ([(15,k3,[u8 0])]) (p1) (k1) (k2) (1) (1) (1) (5) ([u8 0]) ([u8 0]) fun p2 k4 k5 w2=>nn (q1) fun a3=>aI w2 a3 [.slice p2 k4 k5] fun u1=>(¬a3.block∈[k3])/\I1 [] u1) (I1 [] w))/\∀w3,(I1 [] w3)->nn (q1) fun a4=>∃p3 k6 k7,(w3.drew.cell? a4=some (.slice p3 k6 k7))/\nn (q1) fun a5=>∃n2,(w3.drew.cell? (a5.add 1)=some (aa n2))/\aq (p3) (k6) (ad .quo .i64 n2 8) (1) fun a6=>∃n3,(w3.drew.cell? a6=some (u8 n3))/\nn (q1) fun a7=>∃(y1:FuncId) (y2 y3:Array F_),(w3.drew.cell? (a7.add 3)=some (.func (Fn.func y1) y2 y3))/\nn (q1) fun a8=>∃n4,(w3.drew.cell? (a8.add 1)=some (aa n4))/\dO P (.func (Fn.func y1) y2 y3) [aa n4] (w3.drew) fun e1 w4=>∃n5,(e1=.returned (.int .u64 n5))/\(aU (w3.drew) w4)/\(0<=n5)/\aq (p3) (k6) (ad .quo .i64 n2 8) (1) fun a9=>aI w4 a9 [u8 (B_.wrap (aR .or .u8 n3 (an .shl .u8 x1 n5)))] fun u2=>nn (q1) fun a10=>∃n6,(u2.cell? (a10.add 1)=some (aa n6))/\nn (q1) fun a11=>aI u2 (a11.add 1) [aa (A_.wrap (n6+1))] fun u3=>R (aM #[]) u3
theorem sR(q1:aj)(x1:Int)(h:no w R q1 x1):J_ P 92 #[.pointer q1,u8 x1] w R:=
  aF (ac:=yu) Tryz.func92 h
def lA(sa1:aj)(sl1 sc1:Nat):Prop:=
 ae (sa1.isNone) (R (.returned (.slice none 0 0)) w) (∀k1:Nat,∀w1,(aK w (K_ #[] 5) k1 w1)->∃l1:List F_,(l1.length=sl1*1)/\(aN l1=true)/\(aV w1 sa1 l1)/\ay (w1) ([]) (aH k1) (0) (0) (sl1) (1) (1) (5) ([u8 0]) (l1) fun p1 k2 k3 w2=>R (.returned (.slice p1 k2 k3)) w2)
theorem qo(sa1:aj)(sl1 sc1:Nat)(h:lA w R sa1 sl1 sc1):J_ P 93 #[.slice sa1 sl1 sc1] w R:=
  aF (ac:=tY) Tryz.func93 h
def DC(x1 x2:Int)(sa1:aj)(sl1 sc1:Nat):Prop:=
 ∀k1,w.heap.size<=k1->∀w1,Locl [k1] w w1->R (.returned (.bool (decide (min x1 x2>=1)&&decide (max x1 x2<=4096)&&decide (A_.wrap (x1*x2)<=65536)&&(sl1:Int)==A_.wrap (A_.wrap (4*x1)*x2)))) w1
theorem zN(x1 x2:Int)(sa1:aj)(sl1 sc1:Nat)(h:DC w R x1 x2 sa1 sl1 sc1):J_ P 94 #[.agg #[aa x1,aa x2,.slice sa1 sl1 sc1]] w R:=
  aF (ac:=C9) Tryz.func94 h
def sr(sa1:aj)(sl1 sc1:Nat)(x1:Int):Prop:=
 ∀k1 w1,(aK w (K_ #[.slice sa1 sl1 sc1] 22) k1 w1)->∀k2 w2,(aK w1 (K_ #[aa x1] 3) k2 w2)->∃n1,(w2.cell? {block:=k2,off:=0}=some (aa n1))/\ae (decide (n1<1)) ((∃y1:H_,∃v1:F_,L_ 9 (N_ {data:=#[99,97,110,110,111,116,32,98,101,32,108,101,115,115,32,116,104,97,110,32,49]})=L_ y1 v1)/\R (.panicked [{v:=L_ 9 (N_ {data:=#[99,97,110,110,111,116,32,98,101,32,108,101,115,115,32,116,104,97,110,32,49]}),recovered:=false}]) w2) (R (.returned (.func (Fn.func 136) #[] #[.pointer (aH k1),.pointer (aH k2)])) w2)
theorem oV(sa1:aj)(sl1 sc1:Nat)(x1:Int)(h:sr w R sa1 sl1 sc1 x1):J_ P 95 #[.slice sa1 sl1 sc1,aa x1] w R:=
  aF (ac:=rJ) Tryz.func95 h
def Bt(sa1:aj)(sl1 sc1:Nat):Prop:=
 ∀k1,w.heap.size<=k1->aq (sa1) (sl1) (0) (1) fun a1=>∀w1,Locl [k1] w w1->∃n1,(w1.cell? a1=some (au n1))/\aq (sa1) (sl1) (1) (1) fun a2=>∃n2,(w1.cell? a2=some (au n2))/\aq (sa1) (sl1) (2) (1) fun a3=>∃n3,(w1.cell? a3=some (au n3))/\aq (sa1) (sl1) (3) (1) fun a4=>∃n4,(w1.cell? a4=some (au n4))/\∀w2,Locl [k1] w1 w2->R (.returned (.agg #[au n1,au n2,au n3,au n4])) w2
theorem wk(sa1:aj)(sl1 sc1:Nat)(h:Bt w R sa1 sl1 sc1):J_ P 96 #[.slice sa1 sl1 sc1] w R:=
  aF (ac:=AV) Tryz.func96 h
def vF(x1 x2:Int)(sa1:aj)(sl1 sc1:Nat):Prop:=
 J_ P 137 #[aa x1,aa x2] w fun e1 w1=>∃c1,(e1=.returned (.bool c1))/\ae (!c1) (R (aM #[.pointer none,aa 4]) w1) (ae ((sl1:Int)!=A_.wrap (x1*x2)) (R (aM #[.pointer none,aa 3]) w1) (J_ P 103 #[.slice sa1 sl1 sc1] w1 fun e2 w2=>∃p1 k1 k2,(e2=.returned (.slice p1 k1 k2))/\∀k3 w3,(aK w2 (K_ #[aa x1,aa x2,.slice p1 k1 k2] 192) k3 w3)->R (aM #[.pointer (aH k3),aa 0]) w3))
theorem qG(x1 x2:Int)(sa1:aj)(sl1 sc1:Nat)(h:vF w R x1 x2 sa1 sl1 sc1):J_ P 97 #[aa x1,aa x2,.slice sa1 sl1 sc1] w R:=
  aF (ac:=tT) Tryz.func97 h
def kM(q1:aj)(x1:Int):Prop:=
 nn (q1) fun a1=>∃p1 k1 k2,(w.cell? a1=some (.slice p1 k1 k2))/\nn (q1) fun a2=>∃p2 k3 k4,(w.cell? a2=some (.slice p2 k3 k4))/\ae (decide (x1<=A_.wrap ((k4:Int)-(k1:Int)))) (nn (q1) fun a3=>∃p3 k5 k6,(w.cell? a3=some (.slice p3 k5 k6))/\cO (p3) (k6) (0) (A_.wrap ((k1:Int)+x1)) (1) fun p4 k7 k8=>nn (q1) fun a4=>aI w a4 [.slice p4 k7 k8] fun u1=>R (aM #[aa (k1:Int),.bool true]) u1) (R (aM #[aa 0,.bool false]) w)
theorem fq(q1:aj)(x1:Int)(h:kM w R q1 x1):J_ P 98 #[.pointer q1,aa x1] w R:=
  aF (ac:=kA) Tryz.func98 h
def pO(x1:Int):Prop:=
 J_ P 141 #[aa x1,aa 10] w fun e1 w1=>∃s1:ByteArray,(e1=.returned (.string s1))/\R (.returned (.string s1)) w1
theorem eY(x1:Int)(h:pO w R x1):J_ P 100 #[aa x1] w R:=
  aF (ac:=pB) Tryz.func100 h
def kV(yl1:Nat)(fr1:G_):Prop:=
 ∃p1,(w.cell? fr1=some (.pointer p1))/\J_ P 102 #[.pointer p1] w fun e1 w1=>∃n1,(e1=.returned (aa n1))/\∃(I1:aw) (m1:List F_->E_->Nat),(I1 [aa 0] w1)/\∀n2 w2,(I1 [aa n2] w2)->ae (decide (n2<n1)) (∃p2,(w2.drew.cell? fr1=some (.pointer p2))/\nn (p2) fun a1=>∃p3 k1 k2,(w2.drew.cell? (a1.add 2)=some (.slice p3 k1 k2))/\∃p4,(w2.drew.cell? fr1=some (.pointer p4))/\nn (p4) fun a2=>∃n3,(w2.drew.cell? a2=some (aa n3))/\∃p5,(w2.drew.cell? fr1=some (.pointer p5))/\nn (p5) fun a3=>∃n4,(w2.drew.cell? a3=some (aa n4))/\cO (p3) (k2) (A_.wrap (n2*n3)) (A_.wrap (A_.wrap (n2+1)*n4)) (4) fun p6 k3 k4=>J_ P 103 #[.slice p6 k3 k4] (w2.drew) fun e2 w3=>∃p7 k5 k6,(e2=.returned (.slice p7 k5 k6))/\YieldAt R_ 0 P (yl1) #[aa n2,.slice p7 k5 k6] w3 fun e3 w4=>∃c1,(e3=.returned (.bool c1))/\ae (!c1) (R (aM #[]) w4) ((I1 [aa (A_.wrap (n2+1))] w4)/\m1 [aa (A_.wrap (n2+1))] w4<m1 [aa n2] w2)) (R (aM #[]) w2)
theorem jR(yl1:Nat)(fr1:G_)(h:kV w R yl1 fr1):J_ P 101 #[.func (.yield yl1) #[] #[],.pointer (some fr1)] w R:=
  aF (ac:=kW) Tryz.func101 h
def pj(q1:aj):Prop:=
 ae (q1.isNone) (R (.returned (aa 0)) w) (nn (q1) fun a1=>∃n1,(w.cell? (a1.add 1)=some (aa n1))/\R (.returned (aa n1)) w)
theorem nM(q1:aj)(h:pj w R q1):J_ P 102 #[.pointer q1] w R:=
  aF (ac:=pK) Tryz.func102 h
def iY(sa1:aj)(sl1 sc1:Nat):Prop:=
 ae (sa1.isNone) (R (.returned (.slice none 0 0)) w) (∀k1:Nat,∀w1,(aK w (K_ #[] 47) k1 w1)->∃l1:List F_,(l1.length=sl1*4)/\(aN l1=true)/\(aV w1 sa1 l1)/\ay (w1) ([]) (aH k1) (0) (0) (sl1) (4) (8) (47) ([au 0,au 0,au 0,au 0]) (l1) fun p1 k2 k3 w2=>R (.returned (.slice p1 k2 k3)) w2)
theorem mu(sa1:aj)(sl1 sc1:Nat)(h:iY w R sa1 sl1 sc1):J_ P 103 #[.slice sa1 sl1 sc1] w R:=
  aF (ac:=oG) Tryz.func103 h
def xF(x1:Int)(fr1:G_):Prop:=
 ∃n1,(w.cell? fr1=some (aa n1))/\J_ P 105 #[au x1,aa n1] w fun e1 w1=>∃n2 n3,(e1=.returned (.tuple #[aa n2,aa n3]))/\R (.returned (aa n2)) w1
theorem tv(x1:Int)(fr1:G_)(h:xF w R x1 fr1):J_ P 104 #[au x1,.pointer (some fr1)] w R:=
  aF (ac:=xj) Tryz.func104 h
def vO(x1 x2:Int):Prop:=
 ae (decide (x2<1)||decide (x2>65535)) (R (aM #[aa 0,aa 2]) w) (R (aM #[aa (ad .quo .i64 (A_.wrap (A_.wrap (A_.wrap x1*x2)+32767)) 65535),aa 0]) w)
theorem qm(x1 x2:Int)(h:vO w R x1 x2):J_ P 105 #[au x1,aa x2] w R:=
  aF (ac:=FD) Tryz.func105 h
def FN(x1 x2 x3 x4:Int):Prop:=
 ∀k1,w.heap.size<=k1->∀w1,Locl [k1] w w1->∀k2 w2,(aK w1 (K_ #[aa 0,aa 0,aa 0] 60) k2 w2)->aI w2 {block:=k2,off:=0} [aa 19595,aa 38470,aa 7471] fun u1=>(∃v2,w2.cell? {block:=k2,off:=1}=some v2)/\(w2.frozen? {block:=k2,off:=1}=false)/\(∃v3,w2.cell? {block:=k2,off:=2}=some v3)/\(w2.frozen? {block:=k2,off:=2}=false)/\(¬k2∈[k1])/\((0:Int)<=0)/\((0:Int)<3)/\∃n1,(u1.cell? {block:=k2,off:=0}=some (aa n1))/\((0:Int)<=1)/\((1:Int)<3)/\∃n2,(u1.cell? {block:=k2,off:=1}=some (aa n2))/\((0:Int)<=2)/\((2:Int)<3)/\∃n3,(u1.cell? {block:=k2,off:=2}=some (aa n3))/\R (.returned (au (I_.u16.wrap (an .shr .i64 (A_.wrap (A_.wrap (A_.wrap (A_.wrap (n1*A_.wrap x1)+A_.wrap (n2*A_.wrap x2))+A_.wrap (n3*A_.wrap x3))+32768)) 16)))) u1
theorem AZ(x1 x2 x3 x4:Int)(h:FN w R x1 x2 x3 x4):J_ P 106 #[.agg #[au x1,au x2,au x3,au x4]] w R:=
  aF (ac:=E6) Tryz.func106 h
def oH(q1:aj)(x1:Int):Prop:=
 nn (q1) fun a1=>aI w (a1.add 2) [.int .i8 0] fun u1=>J_ P 98 #[.pointer q1,aa 1] u1 fun e1 w1=>∃n1 c1,(e1=.returned (.tuple #[aa n1,.bool c1]))/\ae (!c1) (J_ P 99 #[.pointer q1,aa 1] w1 fun e2 w2=>∃n2,(e2=.returned (aa n2))/\nn (q1) fun a2=>∃p1 k1 k2,(w2.cell? a2=some (.slice p1 k1 k2))/\aq (p1) (k1) (n2) (1) fun a3=>aI w2 a3 [u8 x1] fun u2=>R (.returned O_) u2) (nn (q1) fun a4=>∃p2 k3 k4,(w1.cell? a4=some (.slice p2 k3 k4))/\aq (p2) (k3) (n1) (1) fun a5=>aI w1 a5 [u8 x1] fun u3=>R (.returned O_) u3)
theorem mo(q1:aj)(x1:Int)(h:oH w R q1 x1):J_ P 107 #[.pointer q1,u8 x1] w R:=
  aF (ac:=oN) Tryz.func107 h
def uB(q1:aj)(x1 x2:Int):Prop:=
 J_ P 142 #[.pointer q1] w fun e1 w1=>∃n1,(e1=.returned (aa n1))/\ae (decide (n1<1)) (R (aM #[aa 0,.bool false]) w1) (J_ P 143 #[.pointer q1,aa x1,aa x2] w1 fun e2 w2=>∃n2 c1,(e2=.returned (.tuple #[aa n2,.bool c1]))/\R (aM #[aa n2,.bool c1]) w2)
theorem qq(q1:aj)(x1 x2:Int)(h:uB w R q1 x1 x2):J_ P 108 #[.pointer q1,aa x1,aa x2] w R:=
  aF (ac:=uV) Tryz.func108 h
def Gj(x1:Int):Prop:=
 ae (x1==32) (R (.returned (.bool true)) w) (ae (decide (x1>=9)) (R (.returned (.bool (decide (x1<=13)))) w) (R (.returned (.bool false)) w))
theorem li(x1:Int)(h:Gj w R x1):J_ P 110 #[u8 x1] w R:=
  aF (ac:=Hq) Tryz.func110 h
def yZ(x1 x2 x3 x4:Int)(fr1:G_):Prop:=
 ∀k1,w.heap.size<=k1->∀k2,w.heap.size<=k2->∀w1,Locl [k2,k1] w w1->∃c1,(w1.cell? fr1=some (.bool c1))/\ae (c1) (J_ P 106 #[.agg #[au x1,au x2,au x3,au x4]] w1 fun e1 w2=>∃n1,(e1=.returned (au n1))/\ao [k2,k1] w1 w2/\J_ P 112 #[au n1] w2 fun e2 w3=>∃n2,(e2=.returned (aa n2))/\ao [k2,k1] w2 w3/\∀w4,Locl [k2,k1] w3 w4->R (.returned (.agg #[aa n2,aa 0,aa 0])) w4) (J_ P 112 #[au x1] (w1.drew) fun e3 w5=>∃n3,(e3=.returned (aa n3))/\(ao ([k2,k1]) (w1.drew) w5)/\(aU (w1.drew) w5)/\J_ P 112 #[au x2] w5 fun e4 w6=>∃n4,(e4=.returned (aa n4))/\ao [k2,k1] w5 w6/\(aU w5 w6)/\J_ P 112 #[au x3] w6 fun e5 w7=>∃n5,(e5=.returned (aa n5))/\ao [k2,k1] w6 w7/\J_ P 113 #[aa n3,aa n4,aa n5] w7 fun e6 w8=>∃n6 n7 n8,(e6=.returned (.tuple #[aa n6,aa n7,aa n8]))/\ao [k2,k1] w7 w8/\∀w9,Locl [k2,k1] w8 w9->R (.returned (.agg #[aa n6,aa n7,aa n8])) w9)
theorem tM(x1 x2 x3 x4:Int)(fr1:G_)(h:yZ w R x1 x2 x3 x4 fr1):J_ P 111 #[.agg #[au x1,au x2,au x3,au x4],.pointer (some fr1)] w R:=
  aF (ac:=zi) Tryz.func111 h
def G1(x1:Int):Prop:=
 J_ P 105 #[au x1,aa 255] w fun e1 w1=>∃n1 n2,(e1=.returned (.tuple #[aa n1,aa n2]))/\R (.returned (aa n1)) w1
theorem CP(x1:Int)(h:G1 w R x1):J_ P 112 #[au x1] w R:=
  aF (ac:=HD) Tryz.func112 h
def tE(sa1:aj)(sl1 sc1:Nat):Prop:=
 ae (sa1.isNone) (R (.returned (.slice none 0 0)) w) (∀k1:Nat,∀w1,(aK w (K_ #[] 60) k1 w1)->∃l1:List F_,(l1.length=sl1*3)/\(aN l1=true)/\(aV w1 sa1 l1)/\ay (w1) ([]) (aH k1) (0) (0) (sl1) (3) (24) (60) ([aa 0,aa 0,aa 0]) (l1) fun p1 k2 k3 w2=>R (.returned (.slice p1 k2 k3)) w2)
theorem ph(sa1:aj)(sl1 sc1:Nat)(h:tE w R sa1 sl1 sc1):J_ P 114 #[.slice sa1 sl1 sc1] w R:=
  aF (ac:=sH) Tryz.func114 h
def DM(sa1:aj)(sl1 sc1:Nat):Prop:=
 J_ P 145 #[.slice sa1 sl1 sc1,aa (-32768),aa 32767] w fun e1 w1=>∃n1,(e1=.returned (aa n1))/\ae (n1 !=0) (R (aM #[.slice none 0 0,aa n1]) w1) (J_ P 147 #[] w1 fun e2 w2=>∃l1:List F_,(l1.length=64)/\(e2=.returned (.agg l1.toArray))/\J_ P 146 #[.slice sa1 sl1 sc1,.agg l1.toArray,.func (Fn.func 148) #[] #[]] w2 fun e3 w3=>∃p1 k1 k2,(e3=.returned (.slice p1 k1 k2))/\R (aM #[.slice p1 k1 k2,aa 0]) w3)
theorem zB(sa1:aj)(sl1 sc1:Nat)(h:DM w R sa1 sl1 sc1):J_ P 115 #[.slice sa1 sl1 sc1] w R:=
  aF (ac:=Ds) Tryz.func115 h
def FY(sa1:aj)(sl1 sc1:Nat)(sa2:aj)(sl2 sc2:Nat):Prop:=
 J_ P 149 #[.slice sa1 sl1 sc1,.slice sa2 sl2 sc2,aa 1048576,.func (Fn.func 150) #[] #[]] w fun e1 w1=>∃p1 k1 k2 n1,(e1=.returned (.tuple #[.slice p1 k1 k2,aa n1]))/\R (aM #[.slice p1 k1 k2,aa n1]) w1
theorem Aw(sa1:aj)(sl1 sc1:Nat)(sa2:aj)(sl2 sc2:Nat)(h:FY w R sa1 sl1 sc1 sa2 sl2 sc2):J_ P 116 #[.slice sa1 sl1 sc1,.slice sa2 sl2 sc2] w R:=
  aF (ac:=Fm) Tryz.func116 h
def vU(x1 x2:Int):Prop:=
 (x2≠0)/\(x2≠0)/\ae (decide (ad .rem .i64 x1 x2<0)) (R (.returned (aa (A_.wrap (ad .quo .i64 x1 x2-1)))) w) (R (.returned (aa (ad .quo .i64 x1 x2))) w)
theorem Bm(x1 x2:Int)(h:vU w R x1 x2):J_ P 117 #[aa x1,aa x2] w R:=
  aF (ac:=E7) Tryz.func117 h
def tC(x1 x2:Int):Prop:=
 ∀k1 w1,(aK w (K_ #[aa 0,aa 8035,aa 7568,aa 6811,aa 5793,aa 4551,aa 3135,aa 1598] 3) k1 w1)->ae (x1==0) (R (.returned (aa 5793)) w1) (ae (decide (ad .rem .i64 (A_.wrap (A_.wrap (A_.wrap (2*x2)+1)*x1)) 32<8)) (aq (aH k1) (8) (ad .rem .i64 (A_.wrap (A_.wrap (A_.wrap (2*x2)+1)*x1)) 32) (1) fun a1=>∃n1,(w1.cell? a1=some (aa n1))/\R (.returned (aa n1)) w1) (ae (decide (ad .rem .i64 (A_.wrap (A_.wrap (A_.wrap (2*x2)+1)*x1)) 32>8)&&decide (ad .rem .i64 (A_.wrap (A_.wrap (A_.wrap (2*x2)+1)*x1)) 32<=16)) (aq (aH k1) (8) (A_.wrap (16-ad .rem .i64 (A_.wrap (A_.wrap (A_.wrap (2*x2)+1)*x1)) 32)) (1) fun a2=>∃n2,(w1.cell? a2=some (aa n2))/\R (.returned (aa (A_.wrap (0-n2)))) w1) (ae (decide (ad .rem .i64 (A_.wrap (A_.wrap (A_.wrap (2*x2)+1)*x1)) 32>16)&&decide (ad .rem .i64 (A_.wrap (A_.wrap (A_.wrap (2*x2)+1)*x1)) 32<24)) (aq (aH k1) (8) (A_.wrap (ad .rem .i64 (A_.wrap (A_.wrap (A_.wrap (2*x2)+1)*x1)) 32-16)) (1) fun a3=>∃n3,(w1.cell? a3=some (aa n3))/\R (.returned (aa (A_.wrap (0-n3)))) w1) (ae (decide (ad .rem .i64 (A_.wrap (A_.wrap (A_.wrap (2*x2)+1)*x1)) 32>24)) (aq (aH k1) (8) (A_.wrap (32-ad .rem .i64 (A_.wrap (A_.wrap (A_.wrap (2*x2)+1)*x1)) 32)) (1) fun a4=>∃n4,(w1.cell? a4=some (aa n4))/\R (.returned (aa n4)) w1) (R (.returned (aa 0)) w1)))))
theorem y7(x1 x2:Int)(h:tC w R x1 x2):J_ P 118 #[aa x1,aa x2] w R:=
  aF (ac:=Dc) Tryz.func118 h
def vY(q1:aj):Prop:=
 nn (q1) fun a1=>∃p1 k1 k2,(w.cell? a1=some (.slice p1 k1 k2))/\J_ P 27 #[.bool ((k1:Int)==0)] w fun e1 w1=>(e1=.returned (.tuple #[]))/\nn (q1) fun a2=>∃p2 k3 k4,(w1.cell? a2=some (.slice p2 k3 k4))/\aq (p2) (k3) (0) (1) fun a3=>∃n1,(w1.cell? a3=some (u8 n1))/\nn (q1) fun a4=>∃p3 k5 k6,(w1.cell? a4=some (.slice p3 k5 k6))/\cO (p3) (k6) (1) ((k5:Int)) (1) fun p4 k7 k8=>nn (q1) fun a5=>aI w1 a5 [.slice p4 k7 k8] fun u1=>R (.returned (aa (A_.wrap n1))) u1
theorem rR(q1:aj)(h:vY w R q1):J_ P 119 #[.pointer q1] w R:=
  aF (ac:=vV) Tryz.func119 h
def qv(sa1:aj)(sl1 sc1:Nat)(x1:Int):Prop:=
 J_ P 151 #[.slice sa1 sl1 sc1,u8 x1] w fun e1 w1=>∃n1,(e1=.returned (aa n1))/\R (.returned (.bool (decide (n1>=0)))) w1
theorem nZ(sa1:aj)(sl1 sc1:Nat)(x1:Int)(h:qv w R sa1 sl1 sc1 x1):J_ P 120 #[.slice sa1 sl1 sc1,u8 x1] w R:=
  aF (ac:=qI) Tryz.func120 h
def Dz(sa1:aj)(sl1 sc1:Nat):Prop:=
 ae (decide ((sl1:Int)>4096)) (R (aM #[aa 0,aa 3]) w) (∃I1:aw,∃m1:List F_->E_->Nat,(I1 [aa 65536,aa 0] w)/\∀n1 n2 w1,(I1 [aa n1,aa n2] w1)->ae (decide (n2<(sl1:Int))) (∃I2:aw,(aq (sa1) (sl1) (n2) (1) fun a1=>∃n3,(w1.cell? a1=some (aa n3))/\ae (decide (n3<0)||decide (n3>16)) (R (aM #[aa 0,aa 2]) w1) (ae (decide (n3>0)) ((0<=A_.wrap (16-n3))/\I2 [aa (A_.wrap (n1-an .shl .i64 1 (A_.wrap (16-n3))))] w1) (I2 [aa n1] w1)))/\∀n4 w2,(I2 [aa n4] w2)->(I1 [aa n4,aa (A_.wrap (n2+1))] w2)/\m1 [aa n4,aa (A_.wrap (n2+1))] w2<m1 [aa n1,aa n2] w1) (R (aM #[aa n1,aa 0]) w1))
theorem zf(sa1:aj)(sl1 sc1:Nat)(h:Dz w R sa1 sl1 sc1):J_ P 122 #[.slice sa1 sl1 sc1] w R:=
  aF (ac:=DR) Tryz.func122 h
def jF(sa1:aj)(sl1 sc1:Nat)(va1:F_):Prop:=
 J_ P 154 #[.slice sa1 sl1 sc1,va1] w fun e1 w1=>∃n1,(e1=.returned (aa n1))/\R (.returned (.bool (decide (n1>=0)))) w1
theorem iT(sa1:aj)(sl1 sc1:Nat)(va1:F_)(h:jF w R sa1 sl1 sc1 va1):J_ P 124 #[.slice sa1 sl1 sc1,va1] w R:=
  aF (ac:=jA) Tryz.func124 h
def oR(x1 x2:Int)(q1 q2:aj)(x3:Int)(fr1:G_):Prop:=
 ∀k1,w.heap.size<=k1->∀w1,Locl [k1] w w1->∃n1,(w1.cell? fr1=some (u8 n1))/\R (.returned (.bool (x1==n1))) w1
theorem ml(x1 x2:Int)(q1 q2:aj)(x3:Int)(fr1:G_)(h:oR w R x1 x2 q1 q2 x3 fr1):J_ P 125 #[.agg #[u8 x1,aa x2,.pointer q1,.pointer q2,aa x3],.pointer (some fr1)] w R:=
  aF (ac:=oK) Tryz.func125 h
def vX(sa1:aj)(sl1 sc1:Nat):Prop:=
 ae (sa1.isNone) (R (.returned (.slice none 0 0)) w) (∀k1:Nat,∀w1,(aK w (K_ #[] 3) k1 w1)->∃l1:List F_,(l1.length=sl1*1)/\(aN l1=true)/\(aV w1 sa1 l1)/\ay (w1) ([]) (aH k1) (0) (0) (sl1) (1) (8) (3) ([aa 0]) (l1) fun p1 k2 k3 w2=>R (.returned (.slice p1 k2 k3)) w2)
theorem sq(sa1:aj)(sl1 sc1:Nat)(h:vX w R sa1 sl1 sc1):J_ P 126 #[.slice sa1 sl1 sc1] w R:=
  aF (ac:=wi) Tryz.func126 h
def uk(sa1:aj)(sl1 sc1:Nat)(sa2:aj)(sl2 sc2:Nat):Prop:=
 ae ((sl1:Int)!=(sl2:Int)) (R (.returned (.bool false)) w) (∃I1:aw,∃m1:List F_->E_->Nat,(I1 [aa 0] w)/\∀n1 w1,(I1 [aa n1] w1)->ae (decide (n1<(sl1:Int))) (aq (sa1) (sl1) (n1) (1) fun a1=>∃n2,(w1.drew.cell? a1=some (u8 n2))/\aq (sa2) (sl2) (n1) (1) fun a2=>∃n3,(w1.drew.cell? a2=some (u8 n3))/\ae (n2 !=n3) (R (.returned (.bool false)) w1.drew) ((I1 [aa (A_.wrap (n1+1))] w1.drew)/\m1 [aa (A_.wrap (n1+1))] w1.drew<m1 [aa n1] w1)) (R (.returned (.bool true)) w1))
theorem qA(sa1:aj)(sl1 sc1:Nat)(sa2:aj)(sl2 sc2:Nat)(h:uk w R sa1 sl1 sc1 sa2 sl2 sc2):J_ P 127 #[.slice sa1 sl1 sc1,.slice sa2 sl2 sc2] w R:=
  aF (ac:=vj) Tryz.func127 h
def qP(sa1:aj)(sl1 sc1:Nat)(va1:F_):Prop:=
 ∃(I1:aw) (m1:List F_->E_->Nat),(I1 [aa 0] w)/\∀n1 w1,(I1 [aa n1] w1)->ae (decide (n1<(sl1:Int))) (aq (sa1) (sl1) (n1) (1) fun a1=>∃p1 k1 k2,(w1.cell? a1=some (.slice p1 k1 k2))/\dO P (va1) [.slice p1 k1 k2] w1 fun e1 w2=>∃c1,(e1=.returned (.bool c1))/\ae (c1) (R (.returned (aa n1)) w2) ((I1 [aa (A_.wrap (n1+1))] w2)/\m1 [aa (A_.wrap (n1+1))] w2<m1 [aa n1] w1)) (R (.returned (aa (-1))) w1)
theorem nR(sa1:aj)(sl1 sc1:Nat)(va1:F_)(h:qP w R sa1 sl1 sc1 va1):J_ P 129 #[.slice sa1 sl1 sc1,va1] w R:=
  aF (ac:=qx) Tryz.func129 h
def pY(x1:Int):Prop:=
 ∃(I1:aw) (m1:List F_->E_->Nat),(I1 [aa 0] w)/\∀n1 w1,(I1 [aa n1] w1)->(0<=n1)/\ae (decide (an .shr .i64 (max x1 (A_.wrap (0-x1))) n1>0)) ((I1 [aa (A_.wrap (n1+1))] w1)/\m1 [aa (A_.wrap (n1+1))] w1<m1 [aa n1] w1) (ae (decide (x1<0)) ((0<=n1)/\R (aM #[aa n1,aa (A_.wrap (x1+A_.wrap (an .shl .i64 1 n1-1)))]) w1) (R (aM #[aa n1,aa x1]) w1))
theorem wv(x1:Int)(h:pY w R x1):J_ P 130 #[aa x1] w R:=
  aF (ac:=AX) Tryz.func130 h
def vg(q1:aj)(x1 x2 x3 x4:Int):Prop:=
 nn (q1) fun a1=>∃p1,(w.cell? (a1.add 516)=some (.pointer p1))/\ae (p1.isNone) (nn (q1) fun a2=>(0<=x1)/\(x1<2)/\(0<=x2)/\(x2<256)/\∃n1,(w.drew.cell? ((a2.add (x1.toNat*256)).add (x2.toNat*1))=some (aa n1))/\nn (q1) fun a3=>(0<=x1)/\(x1<2)/\(0<=x2)/\(x2<256)/\aI w.drew ((a3.add (x1.toNat*256)).add (x2.toNat*1)) [aa (A_.wrap (n1+1))] fun u1=>R (aM #[]) u1) (nn (q1) fun a4=>∃p2,(w.drew.cell? (a4.add 516)=some (.pointer p2))/\nn (q1) fun a5=>(0<=x1)/\(x1<2)/\∃p3 k1 k2,(w.drew.cell? ((a5.add 514).add (x1.toNat*1))=some (.slice p3 k1 k2))/\aq (p3) (k1) (x2) (1) fun a6=>∃n2,(w.drew.cell? a6=some (.int .u32 n2))/\nn (q1) fun a7=>(0<=x1)/\(x1<2)/\∃p4 k3 k4,(w.drew.cell? ((a7.add 512).add (x1.toNat*1))=some (.slice p4 k3 k4))/\aq (p4) (k3) (x2) (1) fun a8=>∃n3,(w.drew.cell? a8=some (aa n3))/\J_ P 40 #[.pointer p2,.int .u32 n2,aa n3] (w.drew) fun e1 w1=>∃n4,(e1=.returned (aa n4))/\nn (q1) fun a9=>∃p5,(w1.cell? (a9.add 516)=some (.pointer p5))/\J_ P 40 #[.pointer p5,.int .u32 (C_.wrap x3),aa x4] w1 fun e2 w2=>∃n5,(e2=.returned (aa n5))/\R (aM #[]) w2)
theorem jO(q1:aj)(x1 x2 x3 x4:Int)(h:vg w R q1 x1 x2 x3 x4):J_ P 131 #[.pointer q1,aa x1,aa x2,aa x3,aa x4] w R:=
  aF (ac:=uI) Tryz.func131 h
def xT(x1:Int):Prop:=
 R (.returned (.int .u64 (D_.wrap (7-ad .rem .u64 (D_.wrap x1) 8)))) w
theorem B1(x1:Int)(h:xT w R x1):J_ P 134 #[aa x1] w R:=
  aF (ac:=Gp) Tryz.func134 h
def Ah(x1:Int):Prop:=
 R (.returned (.int .u64 (ad .rem .u64 (D_.wrap x1) 8))) w
theorem D4(x1:Int)(h:Ah w R x1):J_ P 135 #[aa x1] w R:=
  aF (ac:=Iy) Tryz.func135 h
def nV(yl1:Nat)(fr1 fr2:G_):Prop:=
 ∃(I1:aw) (m1:List F_->E_->Nat),(I1 [aa 0] w)/\∀n1 w1,(I1 [aa n1] w1)->∃p1 k1 k2,(w1.cell? fr1=some (.slice p1 k1 k2))/\ae (decide (n1<(k1:Int))) (∃n2,(w1.drew.cell? fr2=some (aa n2))/\∃p2 k3 k4,(w1.drew.cell? fr1=some (.slice p2 k3 k4))/\cO (p2) (k4) (n1) ((k3:Int)) (1) fun p3 k5 k6=>∃p4 k7 k8,(w1.drew.cell? fr1=some (.slice p4 k7 k8))/\(0<=A_.wrap (n1+min n2 (k5:Int)))/\(A_.wrap (n1+min n2 (k5:Int))<=(k8:Int))/\cO (p4) ((A_.wrap (n1+min n2 (k5:Int))).toNat) (n1) (A_.wrap (n1+min n2 (k5:Int))) (1) fun p5 k9 k10=>YieldAt R_ 0 P (yl1) #[.slice p5 k9 k10] (w1.drew) fun e1 w2=>∃c1,(e1=.returned (.bool c1))/\ae (!c1) (R (aM #[]) w2) (∃n3,(w2.cell? fr2=some (aa n3))/\(I1 [aa (A_.wrap (n1+n3))] w2)/\m1 [aa (A_.wrap (n1+n3))] w2<m1 [aa n1] w1)) (R (aM #[]) w1)
theorem lR(yl1:Nat)(fr1 fr2:G_)(h:nV w R yl1 fr1 fr2):J_ P 136 #[.func (.yield yl1) #[] #[],.pointer (some fr1),.pointer (some fr2)] w R:=
  aF (ac:=nX) Tryz.func136 h
def xa(x1 x2:Int):Prop:=
 R (.returned (.bool (decide (min x1 x2>=1)&&decide (max x1 x2<=4096)&&decide (A_.wrap (x1*x2)<=65536)))) w
theorem BE(x1 x2:Int)(h:xa w R x1 x2):J_ P 137 #[aa x1,aa x2] w R:=
  aF (ac:=HO) Tryz.func137 h
def wz(q1:aj):Prop:=
 nn (q1) fun a1=>∃p1 k1 k2,(w.drew.cell? a1=some (.slice p1 k1 k2))/\nn (q1) fun a2=>∃n1,(w.drew.cell? (a2.add 1)=some (aa n1))/\R (.returned (aa (A_.wrap ((k1:Int)-n1)))) w.drew
theorem rP(q1:aj)(h:wz w R q1):J_ P 138 #[.pointer q1] w R:=
  aF (ac:=wm) Tryz.func138 h
def lQ(x1 x2:Int):Prop:=
 ae (x2==10) (ae (decide (0<=x1)&&decide (x1<100)) (J_ P 165 #[aa x1] w fun e1 w1=>∃s1:ByteArray,(e1=.returned (.string s1))/\R (.returned (.string s1)) w1) (∀k1:Nat,∀w2,(aK w (K_ #[u8 0,u8 0,u8 0,u8 0,u8 0,u8 0,u8 0,u8 0,u8 0,u8 0,u8 0,u8 0,u8 0,u8 0,u8 0,u8 0,u8 0,u8 0,u8 0,u8 0,u8 0,u8 0,u8 0,u8 0] 257) k1 w2)->∃I1:aw,(ae (decide (x1<0)) (I1 [.int .u64 (D_.wrap (0-D_.wrap x1))] w2) (I1 [.int .u64 (D_.wrap x1)] w2))/\∀n1 w3,(I1 [.int .u64 n1] w3)->J_ P 166 #[.int .u64 n1] w3 fun e2 w4=>∃n2,(e2=.returned (aa n2))/\cO (aH k1) (24) (1) (A_.wrap (1+n2)) (1) fun p1 k2 k3=>J_ P 167 #[.slice p1 k2 k3,.int .u64 n1] w4 fun e3 w5=>(e3=.returned (.tuple #[]))/\ae (decide (x1<0)) (((0:Int)<=0)/\((0:Int)<24)/\aI w5 {block:=k1,off:=0} [u8 45] fun u1=>cO (aH k1) (24) (0) (A_.wrap (1+n2)) (1) fun p2 k4 k5=>∃l1:List Int,(l1.length=k4)/\(aV u1 p2 (Q_ (.int .u8) l1))/\R (.returned (.string (iD l1))) u1) (cO (aH k1) (24) (1) (A_.wrap (1+n2)) (1) fun p3 k6 k7=>∃l2:List Int,(l2.length=k6)/\(aV w5 p3 (Q_ (.int .u8) l2))/\R (.returned (.string (iD l2))) w5))) (J_ P 168 #[.slice none 0 0,.int .u64 (D_.wrap x1),aa x2,.bool (decide (x1<0)),.bool false] w fun e4 w6=>∃(p4:aj) (k8 k9:Nat) (s2:ByteArray),(e4=.returned (.tuple #[.slice p4 k8 k9,.string s2]))/\R (.returned (.string s2)) w6)
theorem d6(x1 x2:Int)(h:lQ w R x1 x2):J_ P 141 #[aa x1,aa x2] w R:=
  aF (ac:=lU) Tryz.func141 h
def zm(q1:aj):Prop:=
 nn (q1) fun a1=>∃n1,(w.cell? (a1.add 1)=some (aa n1))/\∃(I1:aw) (m1:List F_->E_->Nat),(I1 [] w)/\∀w1,(I1 [] w1)->nn (q1) fun a2=>∃n2,(w1.drew.cell? (a2.add 1)=some (aa n2))/\nn (q1) fun a3=>∃p1 k1 k2,(w1.drew.cell? a3=some (.slice p1 k1 k2))/\ae (decide (n2<(k1:Int))) (nn (q1) fun a4=>∃p2 k3 k4,(w1.drew.drew.cell? a4=some (.slice p2 k3 k4))/\nn (q1) fun a5=>∃n3,(w1.drew.drew.cell? (a5.add 1)=some (aa n3))/\aq (p2) (k3) (n3) (1) fun a6=>∃n4,(w1.drew.drew.cell? a6=some (u8 n4))/\∃I2:aw,(J_ P 110 #[u8 n4] (w1.drew.drew) fun e1 w2=>∃c1,(e1=.returned (.bool c1))/\ae (c1) (nn (q1) fun a7=>∃n5,(w2.cell? (a7.add 1)=some (aa n5))/\nn (q1) fun a8=>aI w2 (a8.add 1) [aa (A_.wrap (n5+1))] fun u1=>I2 [] u1) (ae (n4==35) (nn (q1) fun a9=>∃p3 k5 k6,(w2.drew.cell? a9=some (.slice p3 k5 k6))/\nn (q1) fun a10=>∃n6,(w2.drew.cell? (a10.add 1)=some (aa n6))/\cO (p3) (k6) (n6) ((k5:Int)) (1) fun p4 k7 k8=>J_ P 169 #[.slice p4 k7 k8,.string {data:=#[10,13]}] (w2.drew) fun e2 w3=>∃n7,(e2=.returned (aa n7))/\ae (decide (n7<0)) (R (.returned (aa (-1))) w3) (nn (q1) fun a11=>∃n8,(w3.cell? (a11.add 1)=some (aa n8))/\nn (q1) fun a12=>aI w3 (a12.add 1) [aa (A_.wrap (n8+n7))] fun u2=>I2 [] u2)) (nn (q1) fun a13=>∃n9,(w2.cell? (a13.add 1)=some (aa n9))/\R (.returned (aa (A_.wrap (n9-n1)))) w2)))/\∀w4,(I2 [] w4)->(I1 [] w4)/\m1 [] w4<m1 [] w1) (nn (q1) fun a14=>∃n10,(w1.drew.cell? (a14.add 1)=some (aa n10))/\R (.returned (aa (A_.wrap (n10-n1)))) w1.drew)
theorem tJ(q1:aj)(h:zm w R q1):J_ P 142 #[.pointer q1] w R:=
  aF (ac:=zG) Tryz.func142 h
def uQ(q1:aj)(x1 x2:Int):Prop:=
 ∃I1:aw,(∃I2:aw,∃m1:List F_->E_->Nat,(I2 [aa 0] w)/\∀n1 w1,(I2 [aa n1] w1)->nn (q1) fun a1=>∃n2,(w1.drew.cell? (a1.add 1)=some (aa n2))/\nn (q1) fun a2=>∃p1 k1 k2,(w1.drew.cell? a2=some (.slice p1 k1 k2))/\ae (decide (A_.wrap (n2+n1)<(k1:Int))) (nn (q1) fun a3=>∃p2 k3 k4,(w1.drew.cell? a3=some (.slice p2 k3 k4))/\nn (q1) fun a4=>∃n3,(w1.drew.cell? (a4.add 1)=some (aa n3))/\aq (p2) (k3) (A_.wrap (n3+n1)) (1) fun a5=>∃n4,(w1.drew.cell? a5=some (u8 n4))/\ae (decide (n4>=48)) (nn (q1) fun a6=>∃p3 k5 k6,(w1.drew.cell? a6=some (.slice p3 k5 k6))/\nn (q1) fun a7=>∃n5,(w1.drew.cell? (a7.add 1)=some (aa n5))/\aq (p3) (k5) (A_.wrap (n5+n1)) (1) fun a8=>∃n6,(w1.drew.cell? a8=some (u8 n6))/\ae (decide (n6<=57)) ((I2 [aa (A_.wrap (n1+1))] w1.drew)/\m1 [aa (A_.wrap (n1+1))] w1.drew<m1 [aa n1] w1) (I1 [aa n1] w1.drew)) (I1 [aa n1] w1.drew)) (I1 [aa n1] w1.drew))/\∀n7 w2,(I1 [aa n7] w2)->ae (n7==0||decide (n7>9)) (R (aM #[aa 0,.bool false]) w2) (nn (q1) fun a9=>∃p4 k7 k8,(w2.drew.cell? a9=some (.slice p4 k7 k8))/\nn (q1) fun a10=>∃n8,(w2.drew.cell? (a10.add 1)=some (aa n8))/\nn (q1) fun a11=>∃n9,(w2.drew.cell? (a11.add 1)=some (aa n9))/\cO (p4) (k8) (n8) (A_.wrap (n9+n7)) (1) fun p5 k9 k10=>∃l1:List Int,(l1.length=k9)/\(aV (w2.drew) p5 (Q_ (.int .u8) l1))/\J_ P 170 #[.string (iD l1)] (w2.drew) fun e1 w3=>∃n10 v1,(e1=.returned (.tuple #[aa n10,v1]))/\nn (q1) fun a12=>∃n11,(w3.cell? (a12.add 1)=some (aa n11))/\nn (q1) fun a13=>aI w3 (a13.add 1) [aa (A_.wrap (n11+n7))] fun u1=>R (aM #[aa n10,.bool (decide (n10>=x1)&&decide (n10<=x2))]) u1)
theorem qw(q1:aj)(x1 x2:Int)(h:uQ w R q1 x1 x2):J_ P 143 #[.pointer q1,aa x1,aa x2] w R:=
  aF (ac:=vo) Tryz.func143 h
def Dr(x1:Int):Prop:=
 R (.returned (aa (min (max x1 0) 255))) w
theorem yW(x1:Int)(h:Dr w R x1):J_ P 144 #[aa x1] w R:=
  aF (ac:=Dw) Tryz.func144 h
def Kw(sa1:aj)(sl1 sc1:Nat)(x1 x2:Int):Prop:=
 ae ((sl1:Int)!=64) (R (.returned (aa 3)) w) (J_ P 83 #[.slice sa1 sl1 sc1] w fun e1 w1=>∃n1,(e1=.returned (aa n1))/\ae (decide (n1<x1)) (R (.returned (aa 2)) w1) (J_ P 84 #[.slice sa1 sl1 sc1] w1 fun e2 w2=>∃n2,(e2=.returned (aa n2))/\ae (decide (n2>x2)) (R (.returned (aa 2)) w2) (R (.returned (aa 0)) w2)))
theorem FI(sa1:aj)(sl1 sc1:Nat)(x1 x2:Int)(h:Kw w R sa1 sl1 sc1 x1 x2):J_ P 145 #[.slice sa1 sl1 sc1,aa x1,aa x2] w R:=
  aF (ac:=Kt) Tryz.func145 h
def Io(sa1:aj)(sl1 sc1:Nat)(vs1:List F_)(va1:F_):Prop:=
 ∀k1 w1,(aK w (K_ vs1.toArray 236) k1 w1)->((0:Int)<=0)/\((0:Int)<=64)/\((512:Int)<=281474976710656)/\((64:Int)<4611686018427387904)/\∀k2 w2,(aK w1 (K_ (bg [aa 0] 64) 3) k2 w2)->(64<=sl1)/\∃l1:List F_,(l1.length=64)/\(iK (w2.drew) ({block:=k1,off:=0}) l1)/\∃l2:List F_,(l2.length=64)/\(iK (w2.drew) ({block:=k1,off:=0}) l2)/\J_ P 171 #[.pointer sa1,.agg l1.toArray] (w2.drew) fun e1 w3=>∃p1,(e1=.returned (.pointer p1))/\(aU (w2.drew) w3)/\J_ P 171 #[.pointer p1,.agg l2.toArray] w3 fun e2 w4=>∃p2,(e2=.returned (.pointer p2))/\∃(I1:aw) (m1:List F_->E_->Nat),(I1 [.slice (aH k2) 0 64,aa 0] w4)/\∀p3 k3 k4 n1 w5,(I1 [.slice p3 k3 k4,aa n1] w5)->ae (decide (n1<64)) (nn (p2) fun a1=>(0<=n1)/\(n1<64)/\∃n2,(w5.cell? (a1.add (n1.toNat*1))=some (aa n2))/\dO P (va1) [aa (an .shr .i64 (A_.wrap (n2+134217728)) 28)] w5 fun e3 w6=>∃n3,(e3=.returned (aa n3))/\∀k5,w6.heap.size<=k5->∀w7,Locl [k5] w6 w7->ay (w7) ([(28,k5,[aa n3])]) (p3) (k3) (k4) (1) (1) (8) (3) ([aa 0]) ([aa n3]) fun p4 k6 k7 w8=>(I1 [.slice p4 k6 k7,aa (A_.wrap (n1+1))] w8)/\m1 [.slice p4 k6 k7,aa (A_.wrap (n1+1))] w8<m1 [.slice p3 k3 k4,aa n1] w5) (R (.returned (.slice p3 k3 k4)) w5)
theorem D9(sa1:aj)(sl1 sc1:Nat)(vs1:List F_)(va1:F_)(h:Io w R sa1 sl1 sc1 vs1 va1):J_ P 146 #[.slice sa1 sl1 sc1,.agg vs1.toArray,va1] w R:=
  aF (ac:=Iu) Tryz.func146 h
def yc(x1:Int):Prop:=
 R (.returned (aa x1)) w
theorem td(x1:Int)(h:yc w R x1):J_ P 148 #[aa x1] w R:=
  aF (ac:=yn) Tryz.func148 h
def JP(sa1:aj)(sl1 sc1:Nat)(sa2:aj)(sl2 sc2:Nat)(x1:Int)(va1:F_):Prop:=
 ae ((sl1:Int)!=64||(sl2:Int)!=64) (R (aM #[.slice none 0 0,aa 3]) w) (J_ P 145 #[.slice sa2 sl2 sc2,aa 1,aa 65535] w fun e1 w1=>∃n1,(e1=.returned (aa n1))/\ae (n1 !=0) (R (aM #[.slice none 0 0,aa 2]) w1) (J_ P 145 #[.slice sa1 sl1 sc1,aa (A_.wrap (0-x1)),aa x1] w1 fun e2 w2=>∃n2,(e2=.returned (aa n2))/\ae (n2 !=0) (R (aM #[.slice none 0 0,aa 2]) w2) (((0:Int)<=64)/\((64:Int)<=64)/\((512:Int)<=281474976710656)/\((64:Int)<4611686018427387904)/\∀k1 w3,(aK w2 (K_ (bg [aa 0] 64) 3) k1 w3)->∃(I1:aw) (m1:List F_->E_->Nat),(I1 [aa 0] w3)/\∀n3 w4,(I1 [aa n3] w4)->ae (decide (n3<64)) (aq (sa1) (sl1) (n3) (1) fun a1=>∃n4,(w4.drew.cell? a1=some (aa n4))/\aq (sa2) (sl2) (n3) (1) fun a2=>∃n5,(w4.drew.cell? a2=some (aa n5))/\dO P (va1) [aa n4,aa n5] (w4.drew) fun e3 w5=>∃n6,(e3=.returned (aa n6))/\aq (aH k1) (64) (n3) (1) fun a3=>aI w5 a3 [aa n6] fun u1=>(I1 [aa (A_.wrap (n3+1))] u1)/\m1 [aa (A_.wrap (n3+1))] u1<m1 [aa n3] w4) (R (aM #[.slice (aH k1) 64 64,aa 0]) w4))))
theorem FL(sa1:aj)(sl1 sc1:Nat)(sa2:aj)(sl2 sc2:Nat)(x1:Int)(va1:F_)(h:JP w R sa1 sl1 sc1 sa2 sl2 sc2 x1 va1):J_ P 149 #[.slice sa1 sl1 sc1,.slice sa2 sl2 sc2,aa x1,va1] w R:=
  aF (ac:=KP) Tryz.func149 h
def ol(x1 x2:Int):Prop:=
 ae (decide (x1<0)) ((A_.wrap (2*x2)≠0)/\R (.returned (aa (A_.wrap (0-ad .quo .i64 (A_.wrap (x2-A_.wrap (2*x1))) (A_.wrap (2*x2)))))) w) ((A_.wrap (2*x2)≠0)/\R (.returned (aa (ad .quo .i64 (A_.wrap (A_.wrap (2*x1)+x2)) (A_.wrap (2*x2))))) w)
theorem tU(x1 x2:Int)(h:ol w R x1 x2):J_ P 150 #[aa x1,aa x2] w R:=
  aF (ac:=zH) Tryz.func150 h
def uP(sa1:aj)(sl1 sc1:Nat)(x1:Int):Prop:=
 ∃(I1:aw) (m1:List F_->E_->Nat),(I1 [aa 0] w)/\∀n1 w1,(I1 [aa n1] w1)->ae (decide (n1<(sl1:Int))) (aq (sa1) (sl1) (n1) (1) fun a1=>∃n2,(w1.cell? a1=some (u8 n2))/\ae (x1==n2) (R (.returned (aa n1)) w1) ((I1 [aa (A_.wrap (n1+1))] w1)/\m1 [aa (A_.wrap (n1+1))] w1<m1 [aa n1] w1)) (R (.returned (aa (-1))) w1)
theorem qR(sa1:aj)(sl1 sc1:Nat)(x1:Int)(h:uP w R sa1 sl1 sc1 x1):J_ P 151 #[.slice sa1 sl1 sc1,u8 x1] w R:=
  aF (ac:=uX) Tryz.func151 h
def AY(x1 x2:Int):Prop:=
 J_ P 173 #[.int .u64 x1,.int .u64 x2] w fun e1 w1=>∃n1 n2,(e1=.returned (.tuple #[.int .u64 n1,.int .u64 n2]))/\R (aM #[.int .u64 n1,.int .u64 n2]) w1
theorem wl(x1 x2:Int)(h:AY w R x1 x2):J_ P 152 #[.int .u64 x1,.int .u64 x2] w R:=
  aF (ac:=AJ) Tryz.func152 h
def y9(sa1:aj)(sl1 sc1:Nat):Prop:=
 J_ P 122 #[.slice sa1 sl1 sc1] w fun e1 w1=>∃n1 n2,(e1=.returned (.tuple #[aa n1,aa n2]))/\ae (n2==0&&decide (n1<0)) (R (.returned (aa 30)) w1) (R (.returned (aa n2)) w1)
theorem tK(sa1:aj)(sl1 sc1:Nat)(h:y9 w R sa1 sl1 sc1):J_ P 153 #[.slice sa1 sl1 sc1] w R:=
  aF (ac:=zA) Tryz.func153 h
def kE(sa1:aj)(sl1 sc1:Nat)(va1:F_):Prop:=
 ∃(I1:aw) (m1:List F_->E_->Nat),(I1 [aa 0] w)/\∀n1 w1,(I1 [aa n1] w1)->ae (decide (n1<(sl1:Int))) (aq (sa1) (sl1) (n1) (5) fun a1=>∃(n2 n3:Int) (p1 p2:aj) (n4:Int),(w1.cell? a1=some (u8 n2))/\(w1.cell? (a1.add 1)=some (aa n3))/\(w1.cell? (a1.add 2)=some (.pointer p1))/\(w1.cell? (a1.add 3)=some (.pointer p2))/\(w1.cell? (a1.add 4)=some (aa n4))/\dO P (va1) [.agg #[u8 n2,aa n3,.pointer p1,.pointer p2,aa n4]] w1 fun e1 w2=>∃c1,(e1=.returned (.bool c1))/\ae (c1) (R (.returned (aa n1)) w2) ((I1 [aa (A_.wrap (n1+1))] w2)/\m1 [aa (A_.wrap (n1+1))] w2<m1 [aa n1] w1)) (R (.returned (aa (-1))) w1)
theorem jE(sa1:aj)(sl1 sc1:Nat)(va1:F_)(h:kE w R sa1 sl1 sc1 va1):J_ P 154 #[.slice sa1 sl1 sc1,va1] w R:=
  aF (ac:=kI) Tryz.func154 h
def qJ(q1 q2:aj):Prop:=
 nn (q2) fun a1=>∃p1,(w.drew.cell? a1=some (.pointer p1))/\nn (q1) fun a2=>∃p2,(w.drew.cell? a2=some (.pointer p2))/\J_ P 174 #[.pointer p1,.pointer p2] (w.drew) fun e1 w1=>∃n1 n2,(e1=.returned (.tuple #[aa n1,aa n2]))/\J_ P 27 #[.bool (n2 !=0)] w1 fun e2 w2=>(e2=.returned (.tuple #[]))/\nn (q2) fun a3=>∃p3 k1 k2,(w2.cell? (a3.add 1)=some (.slice p3 k1 k2))/\aq (p3) (k1) (n1) (1) fun a4=>∃n3,(w2.cell? a4=some (u8 n3))/\R (.returned (aa (A_.wrap n3))) w2
theorem nS(q1 q2:aj)(h:qJ w R q1 q2):J_ P 155 #[.pointer q1,.pointer q2] w R:=
  aF (ac:=qD) Tryz.func155 h
def pq(q1:aj)(x1:Int):Prop:=
 nn (q1) fun a1=>∃p1,(w.cell? a1=some (.pointer p1))/\J_ P 175 #[.pointer p1,aa x1] w fun e1 w1=>∃n1 n2,(e1=.returned (.tuple #[.int .u32 n1,aa n2]))/\J_ P 27 #[.bool (n2 !=0)] w1 fun e2 w2=>(e2=.returned (.tuple #[]))/\ae (decide (x1>0)) ((0<=A_.wrap (x1-1))/\ae (an .shr .i64 (A_.wrap n1) (A_.wrap (x1-1))==0) ((0<=x1)/\R (.returned (aa (A_.wrap (A_.wrap n1-A_.wrap (an .shl .i64 1 x1-1))))) w2) (R (.returned (aa (A_.wrap n1))) w2)) (R (.returned (aa (A_.wrap n1))) w2)
theorem nN(q1:aj)(x1:Int)(h:pq w R q1 x1):J_ P 156 #[.pointer q1,aa x1] w R:=
  aF (ac:=pQ) Tryz.func156 h
def kY(sa1:aj)(sl1 sc1:Nat)(va1:F_):Prop:=
 J_ P 176 #[.slice sa1 sl1 sc1,va1] w fun e1 w1=>∃n1,(e1=.returned (aa n1))/\R (.returned (.bool (decide (n1>=0)))) w1
theorem jY(sa1:aj)(sl1 sc1:Nat)(va1:F_)(h:kY w R sa1 sl1 sc1 va1):J_ P 157 #[.slice sa1 sl1 sc1,va1] w R:=
  aF (ac:=lb) Tryz.func157 h
def vZ(x1:Int):Prop:=
 R (.returned (.bool (decide (x1<0)||decide (x1>1073741824)))) w
theorem sj(x1:Int)(h:vZ w R x1):J_ P 158 #[aa x1] w R:=
  aF (ac:=wu) Tryz.func158 h
def wC(x1:Int)(sa1:aj)(sl1 sc1:Nat)(x2:Int)(sa2:aj)(sl2 sc2:Nat):Prop:=
 ∀k1,w.heap.size<=k1->∀k2,w.heap.size<=k2->∀w1,Locl [k2,k1] w w1->J_ P 160 #[aa x1,aa x2] w1 fun e1 w2=>∃n1,(e1=.returned (aa n1))/\ao [k2,k1] w1 w2/\R (.returned (aa n1)) w2
theorem sk(x1:Int)(sa1:aj)(sl1 sc1:Nat)(x2:Int)(sa2:aj)(sl2 sc2:Nat)(h:wC w R x1 sa1 sl1 sc1 x2 sa2 sl2 sc2):J_ P 159 #[.agg #[aa x1,.slice sa1 sl1 sc1],.agg #[aa x2,.slice sa2 sl2 sc2]] w R:=
  aF (ac:=we) Tryz.func159 h
def xr(x1 x2:Int):Prop:=
 J_ P 177 #[aa x1] w fun e1 w1=>∃c1,(e1=.returned (.bool c1))/\J_ P 177 #[aa x2] w1 fun e2 w2=>∃c2,(e2=.returned (.bool c2))/\ae (c1) (ae (c2) (R (.returned (aa 0)) w2) (R (.returned (aa (-1))) w2)) (ae (c2) (R (.returned (aa 1)) w2) (ae (decide (x1<x2)) (R (.returned (aa (-1))) w2) (ae (decide (x1>x2)) (R (.returned (aa 1)) w2) (R (.returned (aa 0)) w2))))
theorem tz(x1 x2:Int)(h:xr w R x1 x2):J_ P 160 #[aa x1,aa x2] w R:=
  aF (ac:=xq) Tryz.func160 h
def eZ(sa1:aj)(sl1 sc1:Nat)(va1:F_):Prop:=
 J_ P 178 #[.slice sa1 sl1 sc1,aa (sl1:Int),va1] w fun e1 w1=>(e1=.returned (.tuple #[]))/\R (aM #[]) w1
theorem iA(sa1:aj)(sl1 sc1:Nat)(va1:F_)(h:eZ w R sa1 sl1 sc1 va1):J_ P 161 #[.slice sa1 sl1 sc1,va1] w R:=
  aF (ac:=i9) Tryz.func161 h
def tP(sa1:aj)(sl1 sc1:Nat):Prop:=
 ∃(I1:aw) (m1:List F_->E_->Nat),(I1 [aa 0,aa 0] w)/\∀n1 n2 w1,(I1 [aa n1,aa n2] w1)->ae (decide (n2<(sl1:Int))) (aq (sa1) (sl1) (n2) (1) fun a1=>∃p1 k1 k2,(w1.cell? a1=some (.slice p1 k1 k2))/\ae (decide (A_.wrap (n1+(k1:Int))<0)) ((∃y1:H_,∃v1:F_,L_ 9 (N_ {data:=#[108,101,110,32,111,117,116,32,111,102,32,114,97,110,103,101]})=L_ y1 v1)/\R (.panicked [{v:=L_ 9 (N_ {data:=#[108,101,110,32,111,117,116,32,111,102,32,114,97,110,103,101]}),recovered:=false}]) w1) ((I1 [aa (A_.wrap (n1+(k1:Int))),aa (A_.wrap (n2+1))] w1)/\m1 [aa (A_.wrap (n1+(k1:Int))),aa (A_.wrap (n2+1))] w1<m1 [aa n1,aa n2] w1)) (J_ P 179 #[.slice none 0 0,aa n1] w1 fun e1 w2=>∃p2 k3 k4,(e1=.returned (.slice p2 k3 k4))/\∃(I2:aw) (m2:List F_->E_->Nat),(I2 [.slice p2 k3 k4,aa 0] w2)/\∀p3 k5 k6 n3 w3,(I2 [.slice p3 k5 k6,aa n3] w3)->ae (decide (n3<(sl1:Int))) (aq (sa1) (sl1) (n3) (1) fun a2=>∃p4 k7 k8,(w3.cell? a2=some (.slice p4 k7 k8))/\∃l1:List F_,(l1.length=k7*1)/\(aN l1=true)/\(aV w3 p4 l1)/\ay (w3) ([]) (p3) (k5) (k6) (k7) (1) (8) (3) ([aa 0]) (l1) fun p5 k9 k10 w4=>(I2 [.slice p5 k9 k10,aa (A_.wrap (n3+1))] w4)/\m2 [.slice p5 k9 k10,aa (A_.wrap (n3+1))] w4<m2 [.slice p3 k5 k6,aa n3] w3) (R (.returned (.slice p3 k5 k6)) w3))
theorem qE(sa1:aj)(sl1 sc1:Nat)(h:tP w R sa1 sl1 sc1):J_ P 162 #[.slice sa1 sl1 sc1] w R:=
  aF (ac:=vl) Tryz.func162 h
def mF(sa1:aj)(sl1 sc1:Nat):Prop:=
 ∃(I1:aw) (m1:List F_->E_->Nat),(I1 [aa 0,aa 0] w)/\∀n1 n2 w1,(I1 [aa n1,aa n2] w1)->ae (decide (n2<(sl1:Int))) (aq (sa1) (sl1) (n2) (1) fun a1=>∃p1 k1 k2,(w1.cell? a1=some (.slice p1 k1 k2))/\ae (decide (A_.wrap (n1+(k1:Int))<0)) ((∃y1:H_,∃v1:F_,L_ 9 (N_ {data:=#[108,101,110,32,111,117,116,32,111,102,32,114,97,110,103,101]})=L_ y1 v1)/\R (.panicked [{v:=L_ 9 (N_ {data:=#[108,101,110,32,111,117,116,32,111,102,32,114,97,110,103,101]}),recovered:=false}]) w1) ((I1 [aa (A_.wrap (n1+(k1:Int))),aa (A_.wrap (n2+1))] w1)/\m1 [aa (A_.wrap (n1+(k1:Int))),aa (A_.wrap (n2+1))] w1<m1 [aa n1,aa n2] w1)) (J_ P 180 #[.slice none 0 0,aa n1] w1 fun e1 w2=>∃p2 k3 k4,(e1=.returned (.slice p2 k3 k4))/\∃(I2:aw) (m2:List F_->E_->Nat),(I2 [.slice p2 k3 k4,aa 0] w2)/\∀p3 k5 k6 n3 w3,(I2 [.slice p3 k5 k6,aa n3] w3)->ae (decide (n3<(sl1:Int))) (aq (sa1) (sl1) (n3) (1) fun a2=>∃p4 k7 k8,(w3.cell? a2=some (.slice p4 k7 k8))/\∃l1:List F_,(l1.length=k7*2)/\(aN l1=true)/\(aV w3 p4 l1)/\ay (w3) ([]) (p3) (k5) (k6) (k7) (2) (32) (251) ([aa 0,.slice none 0 0]) (l1) fun p5 k9 k10 w4=>(I2 [.slice p5 k9 k10,aa (A_.wrap (n3+1))] w4)/\m2 [.slice p5 k9 k10,aa (A_.wrap (n3+1))] w4<m2 [.slice p3 k5 k6,aa n3] w3) (R (.returned (.slice p3 k5 k6)) w3))
theorem kX(sa1:aj)(sl1 sc1:Nat)(h:mF w R sa1 sl1 sc1):J_ P 163 #[.slice sa1 sl1 sc1] w R:=
  aF (ac:=my) Tryz.func163 h
def oJ(x1:Int):Prop:=
 ae (decide (x1<10)) ((0<=x1)/\(x1<=A_.wrap (x1+1))/\(A_.wrap (x1+1)<=36)/\R (.returned (.string ((ByteArray.mk #[48,49,50,51,52,53,54,55,56,57,97,98,99,100,101,102,103,104,105,106,107,108,109,110,111,112,113,114,115,116,117,118,119,120,121,122]).extract x1.toNat (A_.wrap (x1+1)).toNat))) w) ((0<=A_.wrap (x1*2))/\(A_.wrap (x1*2)<=A_.wrap (A_.wrap (x1*2)+2))/\(A_.wrap (A_.wrap (x1*2)+2)<=200)/\R (.returned (.string ((ByteArray.mk #[48,48,48,49,48,50,48,51,48,52,48,53,48,54,48,55,48,56,48,57,49,48,49,49,49,50,49,51,49,52,49,53,49,54,49,55,49,56,49,57,50,48,50,49,50,50,50,51,50,52,50,53,50,54,50,55,50,56,50,57,51,48,51,49,51,50,51,51,51,52,51,53,51,54,51,55,51,56,51,57,52,48,52,49,52,50,52,51,52,52,52,53,52,54,52,55,52,56,52,57,53,48,53,49,53,50,53,51,53,52,53,53,53,54,53,55,53,56,53,57,54,48,54,49,54,50,54,51,54,52,54,53,54,54,54,55,54,56,54,57,55,48,55,49,55,50,55,51,55,52,55,53,55,54,55,55,55,56,55,57,56,48,56,49,56,50,56,51,56,52,56,53,56,54,56,55,56,56,56,57,57,48,57,49,57,50,57,51,57,52,57,53,57,54,57,55,57,56,57,57]).extract (A_.wrap (x1*2)).toNat (A_.wrap (A_.wrap (x1*2)+2)).toNat))) w)
theorem gX(x1:Int)(h:oJ w R x1):J_ P 165 #[aa x1] w R:=
  aF (ac:=oW) Tryz.func165 h
def lP(x1:Int):Prop:=
 J_ P 182 #[.int .u64 x1] w fun e1 w1=>∃n1,(e1=.returned (aa n1))/\J_ P 181 #[aa n1] w1 fun e2 w2=>∃n2,(e2=.returned (aa n2))/\(0<=n2)/\(n2<20)/\∃n3,(w2.cell? ({block:=1,off:=0:G_}.add (n2.toNat*1))=some (.int .u64 n3))/\J_ P 183 #[.bool (decide (x1>=n3))] w2 fun e3 w3=>∃n4,(e3=.returned (aa n4))/\R (.returned (aa (A_.wrap (n2+n4)))) w3
theorem kw(x1:Int)(h:lP w R x1):J_ P 166 #[.int .u64 x1] w R:=
  aF (ac:=lZ) Tryz.func166 h
def Cf(st1:ByteArray):Prop:=
 J_ P 193 #[.string st1] w fun e1 w1=>∃n1 v1,(e1=.returned (.tuple #[aa n1,v1]))/\(mZ v1=true)/\ae (!lw v1) (J_ P 194 #[.string {data:=#[65,116,111,105]},.string st1,aa 0,aa 0,v1] w1 fun e2 w2=>∃v2,(e2=.returned v2)/\R (aM #[aa n1,v2]) w2) (R (aM #[aa n1,O_]) w1)
theorem wW(st1:ByteArray)(h:Cf w R st1):J_ P 170 #[.string st1] w R:=
  aF (ac:=CI) Tryz.func170 h
def yh(x1 x2:Int):Prop:=
 R (aM #[.int .u64 (D_.wrap (D_.wrap (D_.wrap (an .shr .u64 x1 32*an .shr .u64 x2 32)+an .shr .u64 (D_.wrap (D_.wrap (an .shr .u64 x1 32*D_.wrap (aR .and .u64 x2 4294967295))+an .shr .u64 (D_.wrap (D_.wrap (aR .and .u64 x1 4294967295)*D_.wrap (aR .and .u64 x2 4294967295))) 32)) 32)+an .shr .u64 (D_.wrap (D_.wrap (aR .and .u64 (D_.wrap (D_.wrap (an .shr .u64 x1 32*D_.wrap (aR .and .u64 x2 4294967295))+an .shr .u64 (D_.wrap (D_.wrap (aR .and .u64 x1 4294967295)*D_.wrap (aR .and .u64 x2 4294967295))) 32)) 4294967295)+D_.wrap (D_.wrap (aR .and .u64 x1 4294967295)*an .shr .u64 x2 32))) 32)),.int .u64 (D_.wrap (x1*x2))]) w
theorem tB(x1 x2:Int)(h:yh w R x1 x2):J_ P 173 #[.int .u64 x1,.int .u64 x2] w R:=
  aF (ac:=xi) Tryz.func173 h
def rT(q1 q2:aj):Prop:=
 ae (q1.isNone||q2.isNone) (R (aM #[aa 0,aa 1]) w) (∃I1:aw,(∃I2:aw,∃m1:List F_->E_->Nat,(I2 [aa 0,aa 1] w)/\∀n1 n2 w1,(I2 [aa n1,aa n2] w1)->nn (q1) fun a1=>∃n3,(w1.cell? (a1.add 52)=some (aa n3))/\ae (decide (n2<=n3)) (J_ P 175 #[.pointer q2,aa 1] w1 fun e1 w2=>∃n4 n5,(e1=.returned (.tuple #[.int .u32 n4,aa n5]))/\ae (n5 !=0) (R (aM #[aa 0,aa 5]) w2) (nn (q1) fun a2=>(0<=n2)/\(n2<17)/\∃n6,(w2.cell? (a2.add (n2.toNat*1))=some (aa n6))/\nn (q1) fun a3=>(0<=n2)/\(n2<17)/\∃n7,(w2.cell? ((a3.add 34).add (n2.toNat*1))=some (aa n7))/\ae (decide (A_.wrap (A_.wrap (aR .or .i64 (an .shl .i64 n1 1) (A_.wrap n4))-n6)<n7)&&decide (A_.wrap (A_.wrap (aR .or .i64 (an .shl .i64 n1 1) (A_.wrap n4))-n6)>=0)) (nn (q1) fun a4=>∃p1 k1 k2,(w2.drew.cell? (a4.add 51)=some (.slice p1 k1 k2))/\nn (q1) fun a5=>(0<=n2)/\(n2<17)/\∃n8,(w2.drew.cell? ((a5.add 17).add (n2.toNat*1))=some (aa n8))/\aq (p1) (k1) (A_.wrap (n8+A_.wrap (A_.wrap (aR .or .i64 (an .shl .i64 n1 1) (A_.wrap n4))-n6))) (1) fun a6=>∃n9,(w2.drew.cell? a6=some (aa n9))/\R (aM #[aa n9,aa 0]) w2.drew) (J_ P 195 #[.pointer q1,aa n2] w2 fun e2 w3=>∃n10,(e2=.returned (aa n10))/\ae (decide (A_.wrap (aR .or .i64 (an .shl .i64 n1 1) (A_.wrap n4))>=n10)) (I1 [] w3) ((I2 [aa (A_.wrap (aR .or .i64 (an .shl .i64 n1 1) (A_.wrap n4))),aa (A_.wrap (n2+1))] w3)/\m1 [aa (A_.wrap (aR .or .i64 (an .shl .i64 n1 1) (A_.wrap n4))),aa (A_.wrap (n2+1))] w3<m1 [aa n1,aa n2] w1)))) (I1 [] w1))/\∀w4,(I1 [] w4)->R (aM #[aa 0,aa 32]) w4)
theorem oD(q1 q2:aj)(h:rT w R q1 q2):J_ P 174 #[.pointer q1,.pointer q2] w R:=
  aF (ac:=rM) Tryz.func174 h
def mb(q1:aj)(x1:Int):Prop:=
 ae (q1.isNone) (R (aM #[.int .u32 0,aa 1]) w) (ae (decide (x1<0)||decide (x1>32)) (R (aM #[.int .u32 0,aa 2]) w) (J_ P 82 #[.pointer q1] w fun e1 w1=>∃n1,(e1=.returned (aa n1))/\ae (decide (x1>n1)) (R (aM #[.int .u32 0,aa 5]) w1) (∃I1:aw,∃m1:List F_->E_->Nat,(I1 [.int .u32 0,aa 0] w1)/\∀n2 n3 w2,(I1 [.int .u32 n2,aa n3] w2)->ae (decide (n3<x1)) (∃I2:aw,(nn (q1) fun a1=>∃p1 k1 k2,(w2.drew.cell? a1=some (.slice p1 k1 k2))/\nn (q1) fun a2=>∃n4,(w2.drew.cell? (a2.add 1)=some (aa n4))/\aq (p1) (k1) (ad .quo .i64 n4 8) (1) fun a3=>∃n5,(w2.drew.cell? a3=some (u8 n5))/\nn (q1) fun a4=>∃(y1:FuncId) (y2 y3:Array F_),(w2.drew.cell? (a4.add 3)=some (.func (Fn.func y1) y2 y3))/\nn (q1) fun a5=>∃n6,(w2.drew.cell? (a5.add 1)=some (aa n6))/\dO P (.func (Fn.func y1) y2 y3) [aa n6] (w2.drew) fun e2 w3=>∃n7,(e2=.returned (.int .u64 n7))/\(aU (w2.drew) w3)/\(0<=n7)/\nn (q1) fun a6=>∃n8,(w3.cell? (a6.add 1)=some (aa n8))/\nn (q1) fun a7=>aI w3 (a7.add 1) [aa (A_.wrap (n8+1))] fun u1=>nn (q1) fun a8=>∃c1,(u1.cell? (a8.add 2)=some (.bool c1))/\ae (c1) (I2 [.int .u32 (C_.wrap (aR .or .u32 (an .shl .u32 n2 1) (C_.wrap (aR .and .u32 (C_.wrap (an .shr .u8 n5 n7)) 1))))] u1) ((0<=n3)/\I2 [.int .u32 (C_.wrap (aR .or .u32 n2 (an .shl .u32 (C_.wrap (aR .and .u32 (C_.wrap (an .shr .u8 n5 n7)) 1)) n3)))] u1))/\∀n9 w4,(I2 [.int .u32 n9] w4)->(I1 [.int .u32 n9,aa (A_.wrap (n3+1))] w4)/\m1 [.int .u32 n9,aa (A_.wrap (n3+1))] w4<m1 [.int .u32 n2,aa n3] w2) (R (aM #[.int .u32 n2,aa 0]) w2))))
theorem sn(q1:aj)(x1:Int)(h:mb w R q1 x1):J_ P 175 #[.pointer q1,aa x1] w R:=
  aF (ac:=ww) Tryz.func175 h
def nk(sa1:aj)(sl1 sc1:Nat)(va1:F_):Prop:=
 ∃(I1:aw) (m1:List F_->E_->Nat),(I1 [aa 0] w)/\∀n1 w1,(I1 [aa n1] w1)->ae (decide (n1<(sl1:Int))) (aq (sa1) (sl1) (n1) (1) fun a1=>∃n2,(w1.cell? a1=some (aa n2))/\dO P (va1) [aa n2] w1 fun e1 w2=>∃c1,(e1=.returned (.bool c1))/\ae (c1) (R (.returned (aa n1)) w2) ((I1 [aa (A_.wrap (n1+1))] w2)/\m1 [aa (A_.wrap (n1+1))] w2<m1 [aa n1] w1)) (R (.returned (aa (-1))) w1)
theorem lD(sa1:aj)(sl1 sc1:Nat)(va1:F_)(h:nk w R sa1 sl1 sc1 va1):J_ P 176 #[.slice sa1 sl1 sc1,va1] w R:=
  aF (ac:=nv) Tryz.func176 h
def Br(x1:Int):Prop:=
 R (.returned (.bool (x1 !=x1))) w
theorem mf(x1:Int)(h:Br w R x1):J_ P 177 #[aa x1] w R:=
  aF (ac:=Bn) Tryz.func177 h
def fm(sa1:aj)(sl1 sc1:Nat)(x1:Int)(va1:F_):Prop:=
 ∃(I1:aw) (m1:List F_->E_->Nat),(I1 [aa 0,aa 20] w)/\∀n1 n2 w1,(I1 [aa n1,aa n2] w1)->ae (decide (n2<=x1)) (J_ P 196 #[.slice sa1 sl1 sc1,aa n1,aa n2,va1] w1 fun e1 w2=>(e1=.returned (.tuple #[]))/\(I1 [aa n2,aa (A_.wrap (n2+20))] w2)/\m1 [aa n2,aa (A_.wrap (n2+20))] w2<m1 [aa n1,aa n2] w1) (J_ P 196 #[.slice sa1 sl1 sc1,aa n1,aa x1,va1] w1 fun e2 w3=>(e2=.returned (.tuple #[]))/\∃(I2:aw) (m2:List F_->E_->Nat),(I2 [aa 20] w3)/\∀n3 w4,(I2 [aa n3] w4)->ae (decide (n3<x1)) (∃I3:aw,(∃I4:aw,∃m3:List F_->E_->Nat,(I4 [aa 0,aa (A_.wrap (2*n3))] w4)/\∀n4 n5 w5,(I4 [aa n4,aa n5] w5)->ae (decide (n5<=x1)) (J_ P 197 #[.slice sa1 sl1 sc1,aa n4,aa (A_.wrap (n4+n3)),aa n5,va1] w5 fun e3 w6=>(e3=.returned (.tuple #[]))/\(I4 [aa n5,aa (A_.wrap (n5+A_.wrap (2*n3)))] w6)/\m3 [aa n5,aa (A_.wrap (n5+A_.wrap (2*n3)))] w6<m3 [aa n4,aa n5] w5) (ae (decide (A_.wrap (n4+n3)<x1)) (J_ P 197 #[.slice sa1 sl1 sc1,aa n4,aa (A_.wrap (n4+n3)),aa x1,va1] w5 fun e4 w7=>(e4=.returned (.tuple #[]))/\I3 [aa (A_.wrap (n3*2))] w7) (I3 [aa (A_.wrap (n3*2))] w5)))/\∀n6 w8,(I3 [aa n6] w8)->(I2 [aa n6] w8)/\m2 [aa n6] w8<m2 [aa n3] w4) (R (aM #[]) w4))
theorem iP(sa1:aj)(sl1 sc1:Nat)(x1:Int)(va1:F_)(h:fm w R sa1 sl1 sc1 x1 va1):J_ P 178 #[.slice sa1 sl1 sc1,aa x1,va1] w R:=
  aF (ac:=jK) Tryz.func178 h
def nL(sa1:aj)(sl1 sc1:Nat)(x1:Int):Prop:=
 ae (decide (x1<0)) ((∃y1:H_,∃v1:F_,L_ 9 (N_ {data:=#[99,97,110,110,111,116,32,98,101,32,110,101,103,97,116,105,118,101]})=L_ y1 v1)/\R (.panicked [{v:=L_ 9 (N_ {data:=#[99,97,110,110,111,116,32,98,101,32,110,101,103,97,116,105,118,101]}),recovered:=false}]) w) (ae (decide (A_.wrap (x1-A_.wrap ((sc1:Int)-(sl1:Int)))>0)) (cO (sa1) (sc1) (0) ((sc1:Int)) (1) fun p1 k1 k2=>(0<=A_.wrap (x1-A_.wrap ((sc1:Int)-(sl1:Int))))/\(A_.wrap (x1-A_.wrap ((sc1:Int)-(sl1:Int)))*8<=281474976710656)/\(A_.wrap (x1-A_.wrap ((sc1:Int)-(sl1:Int)))<4611686018427387904)/\ay (w) ([]) (p1) (k1) (k2) ((A_.wrap (x1-A_.wrap ((sc1:Int)-(sl1:Int)))).toNat) (1) (8) (3) ([M_ .i64 0]) (cY (A_.wrap (jk .sub x1 (A_.wrap (jk .sub (sc1:Int) (sl1:Int))))).toNat ((fun x=>x.cells.toList) (M_ .i64 0))) fun p2 k3 k4 w1=>cO (p2) (k4) (0) ((sl1:Int)) (1) fun p3 k5 k6=>R (.returned (.slice p3 k5 k6)) w1) (R (.returned (.slice sa1 sl1 sc1)) w))
theorem sN(sa1:aj)(sl1 sc1:Nat)(x1:Int)(h:nL w R sa1 sl1 sc1 x1):J_ P 179 #[.slice sa1 sl1 sc1,aa x1] w R:=
  aF (ac:=yp) Tryz.func179 h
def iG(sa1:aj)(sl1 sc1:Nat)(x1:Int):Prop:=
 ae (decide (x1<0)) ((∃y1:H_,∃v1:F_,L_ 9 (N_ {data:=#[99,97,110,110,111,116,32,98,101,32,110,101,103,97,116,105,118,101]})=L_ y1 v1)/\R (.panicked [{v:=L_ 9 (N_ {data:=#[99,97,110,110,111,116,32,98,101,32,110,101,103,97,116,105,118,101]}),recovered:=false}]) w) (ae (decide (A_.wrap (x1-A_.wrap ((sc1:Int)-(sl1:Int)))>0)) (cO (sa1) (sc1) (0) ((sc1:Int)) (2) fun p1 k1 k2=>(0<=A_.wrap (x1-A_.wrap ((sc1:Int)-(sl1:Int))))/\(A_.wrap (x1-A_.wrap ((sc1:Int)-(sl1:Int)))*32<=281474976710656)/\(A_.wrap (x1-A_.wrap ((sc1:Int)-(sl1:Int)))<4611686018427387904)/\ay (w) ([]) (p1) (k1) (k2) ((A_.wrap (x1-A_.wrap ((sc1:Int)-(sl1:Int)))).toNat) (2) (32) (251) ([M_ .i64 0,T_ none 0 0]) (cY (A_.wrap (jk .sub x1 (A_.wrap (jk .sub (sc1:Int) (sl1:Int))))).toNat ((fun x=>x.cells.toList) (P_ #[M_ .i64 0,T_ none 0 0]))) fun p2 k3 k4 w1=>cO (p2) (k4) (0) ((sl1:Int)) (2) fun p3 k5 k6=>R (.returned (.slice p3 k5 k6)) w1) (R (.returned (.slice sa1 sl1 sc1)) w))
theorem lO(sa1:aj)(sl1 sc1:Nat)(x1:Int)(h:iG w R sa1 sl1 sc1 x1):J_ P 180 #[.slice sa1 sl1 sc1,aa x1] w R:=
  aF (ac:=og) Tryz.func180 h
def lV(x1:Int):Prop:=
 R (.returned (aa (an .shr .i64 (A_.wrap (x1*78913)) 18))) w
theorem kn(x1:Int)(h:lV w R x1):J_ P 181 #[aa x1] w R:=
  aF (ac:=lT) Tryz.func181 h
def xB(x1:Int):Prop:=
 ∃I1:aw,(ae (decide (x1>=4294967296)) (I1 [.int .u64 (an .shr .u64 x1 32),aa 32] w) (I1 [.int .u64 x1,aa 0] w))/\∀n1 n2 w1,(I1 [.int .u64 n1,aa n2] w1)->∃I2:aw,(ae (decide (n1>=65536)) (I2 [.int .u64 (an .shr .u64 n1 16),aa (A_.wrap (n2+16))] w1) (I2 [.int .u64 n1,aa n2] w1))/\∀n3 n4 w2,(I2 [.int .u64 n3,aa n4] w2)->ae (decide (n3>=256)) ((0<=B_.wrap (an .shr .u64 n3 8))/\(B_.wrap (an .shr .u64 n3 8)<256)/\R (.returned (aa (A_.wrap (A_.wrap (n4+8)+A_.wrap (dY {data:=#[0,1,2,2,3,3,3,3,4,4,4,4,4,4,4,4,5,5,5,5,5,5,5,5,5,5,5,5,5,5,5,5,6,6,6,6,6,6,6,6,6,6,6,6,6,6,6,6,6,6,6,6,6,6,6,6,6,6,6,6,6,6,6,6,7,7,7,7,7,7,7,7,7,7,7,7,7,7,7,7,7,7,7,7,7,7,7,7,7,7,7,7,7,7,7,7,7,7,7,7,7,7,7,7,7,7,7,7,7,7,7,7,7,7,7,7,7,7,7,7,7,7,7,7,7,7,7,7,8,8,8,8,8,8,8,8,8,8,8,8,8,8,8,8,8,8,8,8,8,8,8,8,8,8,8,8,8,8,8,8,8,8,8,8,8,8,8,8,8,8,8,8,8,8,8,8,8,8,8,8,8,8,8,8,8,8,8,8,8,8,8,8,8,8,8,8,8,8,8,8,8,8,8,8,8,8,8,8,8,8,8,8,8,8,8,8,8,8,8,8,8,8,8,8,8,8,8,8,8,8,8,8,8,8,8,8,8,8,8,8,8,8,8,8,8,8,8,8,8,8,8,8,8,8,8,8]} (B_.wrap (an .shr .u64 n3 8)).toNat))))) w2) ((0<=B_.wrap n3)/\(B_.wrap n3<256)/\R (.returned (aa (A_.wrap (n4+A_.wrap (dY {data:=#[0,1,2,2,3,3,3,3,4,4,4,4,4,4,4,4,5,5,5,5,5,5,5,5,5,5,5,5,5,5,5,5,6,6,6,6,6,6,6,6,6,6,6,6,6,6,6,6,6,6,6,6,6,6,6,6,6,6,6,6,6,6,6,6,7,7,7,7,7,7,7,7,7,7,7,7,7,7,7,7,7,7,7,7,7,7,7,7,7,7,7,7,7,7,7,7,7,7,7,7,7,7,7,7,7,7,7,7,7,7,7,7,7,7,7,7,7,7,7,7,7,7,7,7,7,7,7,7,8,8,8,8,8,8,8,8,8,8,8,8,8,8,8,8,8,8,8,8,8,8,8,8,8,8,8,8,8,8,8,8,8,8,8,8,8,8,8,8,8,8,8,8,8,8,8,8,8,8,8,8,8,8,8,8,8,8,8,8,8,8,8,8,8,8,8,8,8,8,8,8,8,8,8,8,8,8,8,8,8,8,8,8,8,8,8,8,8,8,8,8,8,8,8,8,8,8,8,8,8,8,8,8,8,8,8,8,8,8,8,8,8,8,8,8,8,8,8,8,8,8,8,8,8,8,8,8]} (B_.wrap n3).toNat))))) w2)
theorem tf(x1:Int)(h:xB w R x1):J_ P 182 #[.int .u64 x1] w R:=
  aF (ac:=wY) Tryz.func182 h
def ma(b1:Bool):Prop:=
 ae (b1) (R (.returned (aa 1)) w) (R (.returned (aa 0)) w)
theorem kC(b1:Bool)(h:ma w R b1):J_ P 183 #[.bool b1] w R:=
  aF (ac:=lX) Tryz.func183 h
def qj(st1:ByteArray):Prop:=
 ∃I1:aw,(ae (decide (0<(↑st1.size:Int))) (ae (decide ((↑st1.size:Int)<19)) (∃I2:aw,(((0:Int)<=0)/\(0<(↑st1.size:Int))/\ae (dY st1 0==45) (((0:Int)<=1)/\(1<=(↑st1.size:Int))/\ae (decide ((↑(st1.extract 1 st1.size).size:Int)<1)) (R (.returned (S_ #[M_ .i64 0,L_ 299 (M_ .i64 2)])) w) (I2 [.string (st1.extract 1 st1.size)] w)) (((0:Int)<=0)/\(0<(↑st1.size:Int))/\ae (dY st1 0==43) (((0:Int)<=1)/\(1<=(↑st1.size:Int))/\ae (decide ((↑(st1.extract 1 st1.size).size:Int)<1)) (R (.returned (S_ #[M_ .i64 0,L_ 299 (M_ .i64 2)])) w) (I2 [.string (st1.extract 1 st1.size)] w)) (I2 [.string st1] w)))/\∀(s1:ByteArray) (w1:E_),(I2 [.string s1] w1)->∀(k1 k2:Nat) (w2 w3:E_),(s1.size<=k1)->(aK (w1.drew) (K_ (bG s1 s1.size++cY (k1-s1.size) [u8 0]).toArray 5) k2 w2)->(Mk k2 w2 w3)->∃(I3:aw) (m1:List F_->E_->Nat),(I3 [aa 0,aa 0] w3)/\∀n1 n2 w4,(I3 [aa n1,aa n2] w4)->ae (decide (n2<(↑s1.size:Int))) (aq (aH k2) (s1.size) (n2) (1) fun a1=>∃n3,(w4.cell? a1=some (u8 n3))/\ae (decide (B_.wrap (n3-48)>9)) (R (.returned (S_ #[M_ .i64 0,L_ 299 (M_ .i64 2)])) w4) ((I3 [aa (A_.wrap (A_.wrap (n1*10)+A_.wrap (B_.wrap (n3-48)))),aa (A_.wrap (n2+1))] w4)/\m1 [aa (A_.wrap (A_.wrap (n1*10)+A_.wrap (B_.wrap (n3-48)))),aa (A_.wrap (n2+1))] w4<m1 [aa n1,aa n2] w4)) (((0:Int)<=0)/\(0<(↑st1.size:Int))/\ae (dY st1 0==45) (R (aM #[aa (A_.wrap (0-n1)),O_]) w4) (R (aM #[aa n1,O_]) w4))) (I1 [.string st1] w)) (I1 [.string st1] w))/\∀(s2:ByteArray) (w5:E_),(I1 [.string s2] w5)->J_ P 206 #[.string s2,aa 10,aa 0] w5 fun e1 w6=>∃n4 v1,(e1=.returned (.tuple #[aa n4,v1]))/\R (aM #[aa n4,v1]) w6
theorem nl(st1:ByteArray)(h:qj w R st1):J_ P 193 #[.string st1] w R:=
  aF (ac:=pi) Tryz.func193 h
def qB(q1:aj)(x1:Int):Prop:=
 nn (q1) fun a1=>∃n1,(w.drew.cell? (a1.add 52)=some (aa n1))/\nn (q1) fun a2=>(0<=n1)/\(n1<17)/\∃n2,(w.drew.cell? (a2.add (n1.toNat*1))=some (aa n2))/\nn (q1) fun a3=>∃n3,(w.drew.cell? (a3.add 52)=some (aa n3))/\nn (q1) fun a4=>(0<=n3)/\(n3<17)/\∃n4,(w.drew.cell? ((a4.add 34).add (n3.toNat*1))=some (aa n4))/\nn (q1) fun a5=>∃n5,(w.drew.cell? (a5.add 52)=some (aa n5))/\ae (decide (x1>=n5)) (R (.returned (aa 0)) w.drew) (nn (q1) fun a6=>∃n6,(w.drew.cell? (a6.add 52)=some (aa n6))/\(0<=A_.wrap (n6-x1))/\R (.returned (aa (A_.wrap (an .shr .i64 (A_.wrap (A_.wrap (n2+n4)-1)) (A_.wrap (n6-x1))+1)))) w.drew)
theorem nQ(q1:aj)(x1:Int)(h:qB w R q1 x1):J_ P 195 #[.pointer q1,aa x1] w R:=
  aF (ac:=qy) Tryz.func195 h
def d8(sa1:aj)(sl1 sc1:Nat)(x1 x2:Int)(va1:F_):Prop:=
 ∃(I1:aw) (m1:List F_->E_->Nat),(I1 [aa (A_.wrap (x1+1))] w)/\∀n1 w1,(I1 [aa n1] w1)->ae (decide (n1<x2)) (∃I2:aw,(∃I3:aw,∃m2:List F_->E_->Nat,(I3 [aa n1] w1)/\∀n2 w2,(I3 [aa n2] w2)->ae (decide (n2>x1)) (aq (sa1) (sl1) (n2) (2) fun a1=>∃(n3:Int) (p1:aj) (k1 k2:Nat),(w2.drew.cell? a1=some (aa n3))/\(w2.drew.cell? (a1.add 1)=some (.slice p1 k1 k2))/\aq (sa1) (sl1) (A_.wrap (n2-1)) (2) fun a2=>∃(n4:Int) (p2:aj) (k3 k4:Nat),(w2.drew.cell? a2=some (aa n4))/\(w2.drew.cell? (a2.add 1)=some (.slice p2 k3 k4))/\dO P (va1) [.agg #[aa n3,.slice p1 k1 k2],.agg #[aa n4,.slice p2 k3 k4]] (w2.drew) fun e1 w3=>∃n5,(e1=.returned (aa n5))/\ae (decide (n5<0)) (aq (sa1) (sl1) (A_.wrap (n2-1)) (2) fun a3=>∃(n6:Int) (p3:aj) (k5 k6:Nat),(w3.drew.cell? a3=some (aa n6))/\(w3.drew.cell? (a3.add 1)=some (.slice p3 k5 k6))/\aq (sa1) (sl1) (n2) (2) fun a4=>∃(n7:Int) (p4:aj) (k7 k8:Nat),(w3.drew.cell? a4=some (aa n7))/\(w3.drew.cell? (a4.add 1)=some (.slice p4 k7 k8))/\aq (sa1) (sl1) (n2) (2) fun a5=>aI w3.drew a5 [aa n6,.slice p3 k5 k6] fun u1=>(∃v2,w3.drew.cell? (a5.add 1)=some v2)/\(w3.drew.frozen? (a5.add 1)=false)/\aq (sa1) (sl1) (A_.wrap (n2-1)) (2) fun a6=>aI u1 a6 [aa n7,.slice p4 k7 k8] fun u2=>(∃v4,u1.cell? (a6.add 1)=some v4)/\(u1.frozen? (a6.add 1)=false)/\(I3 [aa (A_.wrap (n2-1))] u2)/\m2 [aa (A_.wrap (n2-1))] u2<m2 [aa n2] w2) (I2 [] w3)) (I2 [] w2.drew))/\∀w4,(I2 [] w4)->(I1 [aa (A_.wrap (n1+1))] w4)/\m1 [aa (A_.wrap (n1+1))] w4<m1 [aa n1] w1) (R (aM #[]) w1)
theorem gw(sa1:aj)(sl1 sc1:Nat)(x1 x2:Int)(va1:F_)(h:d8 w R sa1 sl1 sc1 x1 x2 va1):J_ P 196 #[.slice sa1 sl1 sc1,aa x1,aa x2,va1] w R:=
  aF (ac:=gT) Tryz.func196 h
def fj(sa1:aj)(sl1 sc1:Nat)(x1 x2 x3:Int)(va1:F_):Prop:=
 ∃(I1:aw) (m1:List F_->E_->Nat),(I1 [aa (A_.wrap (x2-x1)),aa (A_.wrap (x3-x2))] w)/\∀n1 n2 w1,(I1 [aa n1,aa n2] w1)->ae (n1 !=n2) (∃I2:aw,(ae (decide (n1>n2)) (J_ P 217 #[.slice sa1 sl1 sc1,aa (A_.wrap (x2-n1)),aa x2,aa n2,va1] w1 fun e1 w2=>(e1=.returned (.tuple #[]))/\I2 [aa (A_.wrap (n1-n2)),aa n2] w2) (J_ P 217 #[.slice sa1 sl1 sc1,aa (A_.wrap (x2-n1)),aa (A_.wrap (A_.wrap (x2+n2)-n1)),aa n1,va1] w1 fun e2 w3=>(e2=.returned (.tuple #[]))/\I2 [aa n1,aa (A_.wrap (n2-n1))] w3))/\∀n3 n4 w4,(I2 [aa n3,aa n4] w4)->(I1 [aa n3,aa n4] w4)/\m1 [aa n3,aa n4] w4<m1 [aa n1,aa n2] w1) (J_ P 217 #[.slice sa1 sl1 sc1,aa (A_.wrap (x2-n1)),aa x2,aa n1,va1] w1 fun e3 w5=>(e3=.returned (.tuple #[]))/\R (aM #[]) w5)
theorem iN(sa1:aj)(sl1 sc1:Nat)(x1 x2 x3:Int)(va1:F_)(h:fj w R sa1 sl1 sc1 x1 x2 x3 va1):J_ P 211 #[.slice sa1 sl1 sc1,aa x1,aa x2,aa x3,va1] w R:=
  aF (ac:=jx) Tryz.func211 h
def eN(sa1:aj)(sl1 sc1:Nat)(x1 x2 x3:Int)(va1:F_):Prop:=
 ∃(I1:aw) (m1:List F_->E_->Nat),(I1 [aa 0] w)/\∀n1 w1,(I1 [aa n1] w1)->ae (decide (n1<x3)) (aq (sa1) (sl1) (A_.wrap (x2+n1)) (2) fun a1=>∃(n2:Int) (p1:aj) (k1 k2:Nat),(w1.drew.cell? a1=some (aa n2))/\(w1.drew.cell? (a1.add 1)=some (.slice p1 k1 k2))/\aq (sa1) (sl1) (A_.wrap (x1+n1)) (2) fun a2=>∃(n3:Int) (p2:aj) (k3 k4:Nat),(w1.drew.cell? a2=some (aa n3))/\(w1.drew.cell? (a2.add 1)=some (.slice p2 k3 k4))/\aq (sa1) (sl1) (A_.wrap (x1+n1)) (2) fun a3=>aI w1.drew a3 [aa n2,.slice p1 k1 k2] fun u1=>(∃v2,w1.drew.cell? (a3.add 1)=some v2)/\(w1.drew.frozen? (a3.add 1)=false)/\aq (sa1) (sl1) (A_.wrap (x2+n1)) (2) fun a4=>aI u1 a4 [aa n3,.slice p2 k3 k4] fun u2=>(∃v4,u1.cell? (a4.add 1)=some v4)/\(u1.frozen? (a4.add 1)=false)/\(I1 [aa (A_.wrap (n1+1))] u2)/\m1 [aa (A_.wrap (n1+1))] u2<m1 [aa n1] w1) (R (aM #[]) w1)
theorem ic(sa1:aj)(sl1 sc1:Nat)(x1 x2 x3:Int)(va1:F_)(h:eN w R sa1 sl1 sc1 x1 x2 x3 va1):J_ P 217 #[.slice sa1 sl1 sc1,aa x1,aa x2,aa x3,va1] w R:=
  aF (ac:=iS) Tryz.func217 h
end
end Go.Proofs.YtoomejkiagonpaaGreatDoor
