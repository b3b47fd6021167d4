/- The condition of a great law, written out (by a program of ours), and the theorem that it suffices. -/
import Derived.Test.YtoomejkiagonpaaGreatDoorCP4
import Derived.Test.YtoomejkiagonpaaGreatDoorCP7
import Derived.Test.YtoomejkiagonpaaGreatDoorCP9
import Derived.Test.YtoomejkiagonpaaGreatDoorCP10
set_option linter.unusedVariables false
set_option linter.unusedSimpArgs false
set_option maxRecDepth 100000
set_option maxHeartbeats 16000000
open Go.IntKind renaming i64->A_,u8->B_
open Go renaming World->C_,Value->D_,Addr->E_,IntKind->F_,Calls->G_
open List renaming not_mem_nil->H_,mem_cons->I_,length_append->J_,replicate->N_,prefix_refl->O_,getElem?_map->S_,length_take->W_,prefix_append->X_,length_drop->Y_,mem_append_left->Z_,range_succ->a_
open Go.Obj renaming cells->K_
open List.cons renaming injEq->L_
open Go.Value.int renaming injEq->M_
open Nat renaming decEq->P_,lt_or_ge->V_
open Go.Value renaming int->Q_,slice->U_
open Option renaming map->R_
open Int renaming toNat_natCast->T_
open Option.some renaming injEq->b_
namespace Go.Proofs.YtoomejkiagonpaaGreatDoor
open Go Go.Vc
variable {w u w' u' : C_} {R : Ending -> C_ -> Prop} {n i k N W H : Nat} {vs T : List D_} {p q : Option E_} {bs : List Int} {L : List Nat} {x : Int} {f : Nat -> Nat}
def FS(x1 x2:Int)(sa1:aj)(sl1 sc1:Nat)(x3 x4:Int)(w:C_)(R:bV):Prop:=
 ∀k1,w.heap.size<=k1->∀k2,w.heap.size<=k2->∀k3,w.heap.size<=k3->∀w1,Locl [k3,k2,k1] w w1->G_ P 47 #[.agg #[aa x1,aa x2,.slice sa1 sl1 sc1]] w1 fun e1 w2=>∃p1 n1,(e1=.returned (.tuple #[.pointer p1,aa n1]))/\ao [k3,k2,k1] w1 w2/\ae (n1 !=0) (R (aM #[.slice none 0 0,aa n1]) w2) (ae (decide (x3<1)||decide (x3>6)||decide (x4<1)||decide (x4>65535)) (R (aM #[.slice none 0 0,aa 2]) w2) (∀k4:Nat,∀w3,(aK w2 (K_ #[.slice none 0 0,aa 0,.int .i8 0] 109) k4 w3)->∃I1:aw,(G_ P 49 #[aa x3] (w3.drew) fun e2 w4=>∃s1:ByteArray,(e2=.returned (.string s1))/\(ao ([k3,k2,k1]) (w3.drew) w4)/\((1+s1.size<=4611686018427387904)/\((({data:=#[80]}++s1).size+1<=4611686018427387904)/\G_ P 49 #[aa x1] w4 fun e3 w5=>∃s2:ByteArray,(e3=.returned (.string s2))/\ao [k3,k2,k1] w4 w5/\((({data:=#[80]}++s1++{data:=#[10]}).size+s2.size<=4611686018427387904)/\((({data:=#[80]}++s1++{data:=#[10]}++s2).size+1<=4611686018427387904)/\G_ P 49 #[aa x2] w5 fun e4 w6=>∃s3:ByteArray,(e4=.returned (.string s3))/\ao [k3,k2,k1] w5 w6/\(({data:=#[80]}++s1++{data:=#[10]}++s2++{data:=#[32]}).size+s3.size<=4611686018427387904)/\(({data:=#[80]}++s1++{data:=#[10]}++s2++{data:=#[32]}++s3).size+1<=4611686018427387904)/\G_ P 48 #[.pointer (aH k4),.string ({data:=#[80]}++s1++{data:=#[10]}++s2++{data:=#[32]}++s3++{data:=#[10]})] w6 fun e5 w7=>∃n2 v1,(e5=.returned (.tuple #[aa n2,v1]))/\ao [k3,k2,k1] w6 w7/\I1 [] w7)/\G_ P 49 #[aa x2] w5 fun e6 w8=>∃s4:ByteArray,(e6=.returned (.string s4))/\ao [k3,k2,k1] w5 w8/\(({data:=#[80]}++s1++{data:=#[10]}++s2).size+1<=4611686018427387904)/\(({data:=#[80]}++s1++{data:=#[10]}++s2++{data:=#[32]}).size+s4.size<=4611686018427387904)/\(({data:=#[80]}++s1++{data:=#[10]}++s2++{data:=#[32]}++s4).size+1<=4611686018427387904)/\G_ P 48 #[.pointer (aH k4),.string ({data:=#[80]}++s1++{data:=#[10]}++s2++{data:=#[32]}++s4++{data:=#[10]})] w8 fun e7 w9=>∃n3 v2,(e7=.returned (.tuple #[aa n3,v2]))/\ao [k3,k2,k1] w8 w9/\I1 [] w9)/\G_ P 49 #[aa x2] w5 fun e8 w10=>∃s5:ByteArray,(e8=.returned (.string s5))/\ao [k3,k2,k1] w5 w10/\(({data:=#[80]}++s1++{data:=#[10]}).size+s2.size<=4611686018427387904)/\(({data:=#[80]}++s1++{data:=#[10]}++s2).size+1<=4611686018427387904)/\(({data:=#[80]}++s1++{data:=#[10]}++s2++{data:=#[32]}).size+s5.size<=4611686018427387904)/\(({data:=#[80]}++s1++{data:=#[10]}++s2++{data:=#[32]}++s5).size+1<=4611686018427387904)/\G_ P 48 #[.pointer (aH k4),.string ({data:=#[80]}++s1++{data:=#[10]}++s2++{data:=#[32]}++s5++{data:=#[10]})] w10 fun e9 w11=>∃n4 v3,(e9=.returned (.tuple #[aa n4,v3]))/\ao [k3,k2,k1] w10 w11/\I1 [] w11)/\G_ P 49 #[aa x1] w4 fun e10 w12=>∃s6:ByteArray,(e10=.returned (.string s6))/\ao [k3,k2,k1] w4 w12/\((({data:=#[80]}++s1).size+1<=4611686018427387904)/\((({data:=#[80]}++s1++{data:=#[10]}).size+s6.size<=4611686018427387904)/\((({data:=#[80]}++s1++{data:=#[10]}++s6).size+1<=4611686018427387904)/\G_ P 49 #[aa x2] w12 fun e11 w13=>∃s7:ByteArray,(e11=.returned (.string s7))/\ao [k3,k2,k1] w12 w13/\(({data:=#[80]}++s1++{data:=#[10]}++s6++{data:=#[32]}).size+s7.size<=4611686018427387904)/\(({data:=#[80]}++s1++{data:=#[10]}++s6++{data:=#[32]}++s7).size+1<=4611686018427387904)/\G_ P 48 #[.pointer (aH k4),.string ({data:=#[80]}++s1++{data:=#[10]}++s6++{data:=#[32]}++s7++{data:=#[10]})] w13 fun e12 w14=>∃n5 v4,(e12=.returned (.tuple #[aa n5,v4]))/\ao [k3,k2,k1] w13 w14/\I1 [] w14)/\G_ P 49 #[aa x2] w12 fun e13 w15=>∃s8:ByteArray,(e13=.returned (.string s8))/\ao [k3,k2,k1] w12 w15/\(({data:=#[80]}++s1++{data:=#[10]}++s6).size+1<=4611686018427387904)/\(({data:=#[80]}++s1++{data:=#[10]}++s6++{data:=#[32]}).size+s8.size<=4611686018427387904)/\(({data:=#[80]}++s1++{data:=#[10]}++s6++{data:=#[32]}++s8).size+1<=4611686018427387904)/\G_ P 48 #[.pointer (aH k4),.string ({data:=#[80]}++s1++{data:=#[10]}++s6++{data:=#[32]}++s8++{data:=#[10]})] w15 fun e14 w16=>∃n6 v5,(e14=.returned (.tuple #[aa n6,v5]))/\ao [k3,k2,k1] w15 w16/\I1 [] w16)/\G_ P 49 #[aa x2] w12 fun e15 w17=>∃s9:ByteArray,(e15=.returned (.string s9))/\ao [k3,k2,k1] w12 w17/\(({data:=#[80]}++s1++{data:=#[10]}).size+s6.size<=4611686018427387904)/\(({data:=#[80]}++s1++{data:=#[10]}++s6).size+1<=4611686018427387904)/\(({data:=#[80]}++s1++{data:=#[10]}++s6++{data:=#[32]}).size+s9.size<=4611686018427387904)/\(({data:=#[80]}++s1++{data:=#[10]}++s6++{data:=#[32]}++s9).size+1<=4611686018427387904)/\G_ P 48 #[.pointer (aH k4),.string ({data:=#[80]}++s1++{data:=#[10]}++s6++{data:=#[32]}++s9++{data:=#[10]})] w17 fun e16 w18=>∃n7 v6,(e16=.returned (.tuple #[aa n7,v6]))/\ao [k3,k2,k1] w17 w18/\I1 [] w18)/\G_ P 49 #[aa x2] w12 fun e17 w19=>∃s10:ByteArray,(e17=.returned (.string s10))/\ao [k3,k2,k1] w12 w19/\(({data:=#[80]}++s1).size+1<=4611686018427387904)/\(({data:=#[80]}++s1++{data:=#[10]}).size+s6.size<=4611686018427387904)/\(({data:=#[80]}++s1++{data:=#[10]}++s6).size+1<=4611686018427387904)/\(({data:=#[80]}++s1++{data:=#[10]}++s6++{data:=#[32]}).size+s10.size<=4611686018427387904)/\(({data:=#[80]}++s1++{data:=#[10]}++s6++{data:=#[32]}++s10).size+1<=4611686018427387904)/\G_ P 48 #[.pointer (aH k4),.string ({data:=#[80]}++s1++{data:=#[10]}++s6++{data:=#[32]}++s10++{data:=#[10]})] w19 fun e18 w20=>∃n8 v7,(e18=.returned (.tuple #[aa n8,v7]))/\ao [k3,k2,k1] w19 w20/\I1 [] w20)/\G_ P 49 #[aa x1] w4 fun e19 w21=>∃s11:ByteArray,(e19=.returned (.string s11))/\ao [k3,k2,k1] w4 w21/\((1+s1.size<=4611686018427387904)/\((({data:=#[80]}++s1).size+1<=4611686018427387904)/\((({data:=#[80]}++s1++{data:=#[10]}).size+s11.size<=4611686018427387904)/\((({data:=#[80]}++s1++{data:=#[10]}++s11).size+1<=4611686018427387904)/\G_ P 49 #[aa x2] w21 fun e20 w22=>∃s12:ByteArray,(e20=.returned (.string s12))/\ao [k3,k2,k1] w21 w22/\(({data:=#[80]}++s1++{data:=#[10]}++s11++{data:=#[32]}).size+s12.size<=4611686018427387904)/\(({data:=#[80]}++s1++{data:=#[10]}++s11++{data:=#[32]}++s12).size+1<=4611686018427387904)/\G_ P 48 #[.pointer (aH k4),.string ({data:=#[80]}++s1++{data:=#[10]}++s11++{data:=#[32]}++s12++{data:=#[10]})] w22 fun e21 w23=>∃n9 v8,(e21=.returned (.tuple #[aa n9,v8]))/\ao [k3,k2,k1] w22 w23/\I1 [] w23)/\G_ P 49 #[aa x2] w21 fun e22 w24=>∃s13:ByteArray,(e22=.returned (.string s13))/\ao [k3,k2,k1] w21 w24/\(({data:=#[80]}++s1++{data:=#[10]}++s11).size+1<=4611686018427387904)/\(({data:=#[80]}++s1++{data:=#[10]}++s11++{data:=#[32]}).size+s13.size<=4611686018427387904)/\(({data:=#[80]}++s1++{data:=#[10]}++s11++{data:=#[32]}++s13).size+1<=4611686018427387904)/\G_ P 48 #[.pointer (aH k4),.string ({data:=#[80]}++s1++{data:=#[10]}++s11++{data:=#[32]}++s13++{data:=#[10]})] w24 fun e23 w25=>∃n10 v9,(e23=.returned (.tuple #[aa n10,v9]))/\ao [k3,k2,k1] w24 w25/\I1 [] w25)/\G_ P 49 #[aa x2] w21 fun e24 w26=>∃s14:ByteArray,(e24=.returned (.string s14))/\ao [k3,k2,k1] w21 w26/\(({data:=#[80]}++s1++{data:=#[10]}).size+s11.size<=4611686018427387904)/\(({data:=#[80]}++s1++{data:=#[10]}++s11).size+1<=4611686018427387904)/\(({data:=#[80]}++s1++{data:=#[10]}++s11++{data:=#[32]}).size+s14.size<=4611686018427387904)/\(({data:=#[80]}++s1++{data:=#[10]}++s11++{data:=#[32]}++s14).size+1<=4611686018427387904)/\G_ P 48 #[.pointer (aH k4),.string ({data:=#[80]}++s1++{data:=#[10]}++s11++{data:=#[32]}++s14++{data:=#[10]})] w26 fun e25 w27=>∃n11 v10,(e25=.returned (.tuple #[aa n11,v10]))/\ao [k3,k2,k1] w26 w27/\I1 [] w27)/\G_ P 49 #[aa x2] w21 fun e26 w28=>∃s15:ByteArray,(e26=.returned (.string s15))/\ao [k3,k2,k1] w21 w28/\(({data:=#[80]}++s1).size+1<=4611686018427387904)/\(({data:=#[80]}++s1++{data:=#[10]}).size+s11.size<=4611686018427387904)/\(({data:=#[80]}++s1++{data:=#[10]}++s11).size+1<=4611686018427387904)/\(({data:=#[80]}++s1++{data:=#[10]}++s11++{data:=#[32]}).size+s15.size<=4611686018427387904)/\(({data:=#[80]}++s1++{data:=#[10]}++s11++{data:=#[32]}++s15).size+1<=4611686018427387904)/\G_ P 48 #[.pointer (aH k4),.string ({data:=#[80]}++s1++{data:=#[10]}++s11++{data:=#[32]}++s15++{data:=#[10]})] w28 fun e27 w29=>∃n12 v11,(e27=.returned (.tuple #[aa n12,v11]))/\ao [k3,k2,k1] w28 w29/\I1 [] w29)/\G_ P 49 #[aa x2] w21 fun e28 w30=>∃s16:ByteArray,(e28=.returned (.string s16))/\ao [k3,k2,k1] w21 w30/\(1+s1.size<=4611686018427387904)/\(({data:=#[80]}++s1).size+1<=4611686018427387904)/\(({data:=#[80]}++s1++{data:=#[10]}).size+s11.size<=4611686018427387904)/\(({data:=#[80]}++s1++{data:=#[10]}++s11).size+1<=4611686018427387904)/\(({data:=#[80]}++s1++{data:=#[10]}++s11++{data:=#[32]}).size+s16.size<=4611686018427387904)/\(({data:=#[80]}++s1++{data:=#[10]}++s11++{data:=#[32]}++s16).size+1<=4611686018427387904)/\G_ P 48 #[.pointer (aH k4),.string ({data:=#[80]}++s1++{data:=#[10]}++s11++{data:=#[32]}++s16++{data:=#[10]})] w30 fun e29 w31=>∃n13 v12,(e29=.returned (.tuple #[aa n13,v12]))/\ao [k3,k2,k1] w30 w31/\I1 [] w31)/\∀w32,(I1 [] w32)->∃I2:aw,(ae (ad .rem .i64 x3 3 !=1) (G_ P 49 #[aa x4] w32 fun e30 w33=>∃s17:ByteArray,(e30=.returned (.string s17))/\ao [k3,k2,k1] w32 w33/\(s17.size+1<=4611686018427387904)/\G_ P 48 #[.pointer (aH k4),.string (s17++{data:=#[10]})] w33 fun e31 w34=>∃n14 v13,(e31=.returned (.tuple #[aa n14,v13]))/\ao [k3,k2,k1] w33 w34/\I2 [] w34) (I2 [] w32))/\∀w35,(I2 [] w35)->G_ P 50 #[.pointer p1] w35 fun e32 w36=>∃(y1:FuncId) (y2 y3:Array D_),(e32=.returned (.func (Fn.func y1) y2 y3))/\ao [k3,k2,k1] w35 w36/\∀k5 w37,(Rf w36 w37 k5)->∀(I3:aw) (Z1:Exit->aw),(∀l1:List D_,∀w38 w39:C_,(I3 l1 w38)->(ao ([k5,w36.heap.size,k3,k2,k1]) w38 w39)->I3 l1 w39)->(∀y4:Exit,∀(l2:List D_) (w40 w41:C_),(Z1 y4 l2 w40)->(ao ([k5,w36.heap.size,k3,k2,k1]) w40 w41)->Z1 y4 l2 w41)->(I3 [] w37)->(∀n15:Int,∀(p2:aj) (k6 k7:Nat) (w42:C_) (I4:bV),(I3 [] w42)->(∀y5:Obj,∀(y6:Obj) (w43:C_),(dP k5 w42 w43)->∃(I5:aw) (m1:List D_->C_->Nat),(I5 [.slice none 0 0,aa 0] w43)/\∀p3 k8 k9 n16 w44,(I5 [.slice p3 k8 k9,aa n16] w44)->ae (decide (n16<(k6:Int))) (aq (p2) (k6) (n16) (4) fun a1=>∃n17 n18 n19 n20:Int,(w44.cell? a1=some (au n17))/\(w44.cell? (a1.add 1)=some (au n18))/\(w44.cell? (a1.add 2)=some (au n19))/\(w44.cell? (a1.add 3)=some (au n20))/\∀k10,w44.heap.size<=k10->∀w45,Locl [k10,k3,k2,k1] w44 w45->G_ P 51 #[.agg #[au n17,au n18,au n19,au n20],aa x3,aa x4] w45 fun e33 w46=>∃p4 k11 k12,(e33=.returned (.slice p4 k11 k12))/\ao [k5,w36.heap.size,k10,k3,k2,k1] w45 w46/\∃l3:List D_,(l3.length=k11*1)/\(aN l3=true)/\(aV w46 p4 l3)/\ay (w46) ([(15,k10,[au n17,au n18,au n19,au n20]),(5,k3,[aa x4]),(4,k2,[aa x3]),(3,k1,[aa x1,aa x2,.slice sa1 sl1 sc1])]) (p3) (k8) (k9) (k11) (1) (8) (3) ([aa 0]) (l3) fun p5 k13 k14 w47=>(I5 [.slice p5 k13 k14,aa (A_.wrap (n16+1))] w47)/\m1 [.slice p5 k13 k14,aa (A_.wrap (n16+1))] w47<m1 [.slice p3 k8 k9,aa n16] w44) (G_ P 52 #[.pointer (aH k4),.slice p3 k8 k9,aa x3,aa x4] w44 fun e34 w48=>(e34=.returned (.tuple #[]))/\ao [k5,w36.heap.size,k3,k2,k1] w44 w48/\∀w49,(dP k5 w48 w49)->(I3 [] w49)->I4 (.returned (.bool true)) w49))->YieldAt Fence.wide 0 P (k5) #[aa n15,.slice p2 k6 k7] (w42) I4)->rC P (.func (Fn.func y1) y2 y3) [.func (Fn.yield k5) #[] #[]] w37 fun e35 w50=>∃v14,(e35=.returned v14)/\(((I3 [] w50)/\∀w51,(dP k5 w50 w51)->G_ P 53 #[.pointer (aH k4)] w51 fun e36 w52=>∃p6 k15 k16,(e36=.returned (.slice p6 k15 k16))/\ao [w36.heap.size,k3,k2,k1] w51 w52/\∀w53,(dP (w36.heap.size) w52 w53)->R (aM #[.slice p6 k15 k16,aa 0]) w53)\/(False))))
theorem AM(x1 x2:Int)(sa1:aj)(sl1 sc1:Nat)(x3 x4:Int)(w:C_)(R:bV)(h:FS x1 x2 sa1 sl1 sc1 x3 x4 w R):G_ P 14 #[.agg #[aa x1,aa x2,.slice sa1 sl1 sc1],aa x3,aa x4] w R:=
  aF (ac:=FR) Tryz.func14 h
open Go.RowKit Go.Qn
theorem Hj{W H:Int}{c:Co}
 (hR:∀p' l' c' w',Fg [] w w' 1 p' l' c' (px (ue W H c).2.2.1)->R (.returned (.tuple #[.agg #[aa (ue W H c).1,aa (ue W H c).2.1,.slice p' l' c'],aa (ue W H c).2.2.2])) w'):
  G_ P 13 #[aa W,aa H,.agg (co c).toArray] w R:=by
 obtain⟨c1,c2,c3,c4⟩:=c;refine Ap _ _ _ _ _ _ _ _ ?_;intro k1 hk1 k2 hk2 w1 hL1;have hE1:Ext w w1:=hL1.ext (by simp;omega)
 refine EU ⟨_,rfl,(Ext.refl _).keep _,?_⟩;refine ak (fun hb w3 hL3=>?_) (fun hb k3 hk3=>?_)
 ·have hb:fQ W H=false:=by simpa using hb
  rw[ue,if_neg (by simp[hb])]at hR
  exact hR none 0 0 w3 (Fg.nil (hE1.step hL3.chg (by simp;omega)) 1)
 have hb:fQ W H=true:=by simpa using hb
 rw[ue,if_pos hb]at hR;obtain⟨h1,h2,h3,h4,h5⟩:=eK.1 hb;have hwm:=yT h1 h2 h3 h4;have hpos:0<=W*H:=Int.mul_nonneg (by omega) (by omega)
 have hbs:∀b,b∈[k3,k2,k1]->w.heap.size<=b:=by have:=hE1.size;simp;omega
 refine⟨fun vs u=>match vs with|[.int _ n,.int _ a,.int _ b,.slice p len cap]=>0<=n/\n<=W*H/\a=W/\b=H/\len=4*n.toNat/\Fg [k3,k2,k1] w u 1 p len cap (px (CG n.toNat (c1,c2,c3,c4)))|_=>False,
  fun vs _=>match vs with|[.int _ n,_,_,_]=>(W*H-n).toNat|_=>0,fun w4 hL4=>⟨Int.le_refl _,hpos,rfl,rfl,rfl,?_⟩,fun n a b p len cap w5 hI=>?_⟩
 ·exact Fg.nil' hE1 hL4 hbs 1
 obtain⟨n0,n1,rfl,rfl,hlen,hf⟩:=hI;rw[hwm];refine ak (fun hlt=>?_) (fun hge w8 hL8=>?_)
 ·have hlt:n<a*b:=by simpa using hlt
  refine Mm hf (by omega) fun p' c' w6 hf6 hk6=>⟨_,_,_,_,_,rfl,hk6,fun w7 hL7=>?_⟩
  rw[ai (x:=n+1)];have hf7:=hf6.locl hL7 fun b hb=>.inl hb;rw[<-Km,show n.toNat+1=(n+1).toNat by omega]at hf7
  refine⟨⟨by omega,by omega,rfl,rfl,by omega,hf7⟩,?_⟩
  show(a*b-(n+1)).toNat<(a*b-n).toNat;omega
 ·have hge:n=a*b:=by simp at hge;omega
  subst hge;exact hR p len cap w8 ((hf.locl hL8 fun b hb=>.inl hb).weak)
theorem Jt{fr:E_}{yl gb cb:Nat}{c:Co}{J:C_->Prop}
 (hf:w.cell? fr=some (.pointer (some ⟨gb,0,none⟩)))(hG:fB w (some ⟨gb,0,none⟩) gb cb 1 1 [c])
 (hy:∀p c' w',Ext w w'->Ow w.heap.size w'.heap.size w' p 1 c' 4 (jW [c])->YieldAt Fence.wide 0 P yl #[aa 0,.slice p 1 c'] w' fun e u=>e=.returned (.bool true)/\J u)
 (hJ:∀u,J u->R (.returned (.tuple #[])) u):
  G_ P 101 #[.func (.yield yl) #[] #[],.pointer (some fr)] w R:=by
 refine jR _ _ _ _ ⟨_,hf,NY hG ⟨_,rfl,fun vs u=>(vs=[aa 0]/\u=w)\/(vs=[aa 1]/\J u),fun vs _=>match vs with|[.int _ n]=>(1-n).toNat|_=>0,.inl ⟨rfl,rfl⟩,fun n w2 hI=>?_⟩⟩
 rcases hI with⟨hv,rfl⟩|⟨hv,hj⟩
 ·simp only[L_,M_,true_and,and_true]at hv
  subst hv;have hsl:=hG.sl;obtain⟨rest,c0,h3,h5,h4⟩:=hG.cells;refine aY rfl ⟨_,hf,ap rfl ⟨_,_,_,h3.drew.cell (i:=2) rfl,_,hf,ap rfl ⟨_,h3.drew.cell (i:=0) rfl,_,hf,ap rfl ⟨_,h3.drew.cell (i:=0) rfl,by decide,by decide,?_,?_⟩⟩⟩⟩
  ·have:A_.wrap (A_.wrap (0+1)*1)=1:=by decide
   rw[this];have:([c]:List Co).length=1:=rfl;omega
  have e1:(A_.wrap (0*1)).toNat=0:=by decide
  have e2:(A_.wrap (A_.wrap (0+1)*1)).toNat=1:=by decide
  rw[e1,e2];have e3:aX (some ⟨cb,0,none⟩) 0 c0 4=some ⟨cb,0,none⟩:=fP;rw[e3];refine Ab (hsl.drew).up rfl (by decide) fun p k w3 hE3 ho=>⟨_,_,_,rfl,?_⟩
  refine CN (hy p k w3 ((Ext.refl w2).drew.trans hE3) ho) fun e u he=>?_;obtain⟨rfl,he⟩:=he;exact⟨_,rfl,al rfl ⟨.inr ⟨rfl,he⟩,by show(1-A_.wrap (0+1)).toNat<(1-(0:Int)).toNat;decide⟩⟩
 ·simp only[L_,M_,true_and,and_true]at hv
  subst hv;exact al rfl (hJ w2 hj)
theorem Md(hR:∀k w',Ext w w'->w.heap.size<=k->Cs w' k [.pointer q]->R (.returned (.func (.func 101) #[] #[.pointer (some ⟨k,0,none⟩)])) w'):
  G_ P 50 #[.pointer q] w R:=by
 refine lh _ _ _ fun k1 w1 hn=>?_;exact hR k1 w1 hn.ext (Nat.le_of_eq hn.1.symm) hn.cs
theorem DT{fr:E_}(h:w.cell? fr=some (aa 255))(hR:R (.returned (aa (ad .quo .i64 (A_.wrap (A_.wrap (A_.wrap x*255)+32767)) 65535))) w):
  G_ P 104 #[au x,.pointer (some fr)] w R:=by
 refine tv _ _ _ _ ⟨_,h,qm _ _ _ _ (al rfl ⟨_,_,rfl,hR⟩)⟩
theorem LD(hR:∀k w',Ext w w'->w.heap.size<=k->Cs w' k [aa 255,aa 0,aa 0]->R (.returned (.slice (some ⟨k,0,none⟩) 3 3)) w'):
  G_ P 51 #[.agg #[au 65535,au 0,au 0,au 65535],aa 6,aa 255] w R:=by
 refine zD _ _ _ _ _ _ _ _ fun k1 hk1 w1 hL1 k2 w2 hn=>⟨fun _ _=>False,⟨fun _ _=>False,?_,fun w7 h=>h.elim⟩,fun w11 h=>h.elim⟩;have hE1:Ext w w1:=hL1.ext (by simpa using hk1)
 have hE2:=hE1.trans hn.ext;have c2:Cs w2.drew k2 [aa 255]:=(aK.cs hn).drew;refine al rfl (al rfl (al rfl (al rfl (DT (c2.cell (i:=0) rfl) ⟨255,rfl,(Ext.refl _).keep _,aU.refl _,DT (c2.cell (i:=0) rfl) ⟨0,rfl,(Ext.refl _).keep _,aU.refl _,DT (c2.cell (i:=0) rfl) ⟨0,rfl,(Ext.refl _).keep _,fun k3 w6 hn6=>?_⟩⟩⟩))));have hE6:=hE2.drew.trans hn6.ext;refine hR k3 w6 hE6 ?_ (aK.cs hn6);have:=hE2.drew.size;rw[hn6.1];exact this
theorem OZ{kb:Nat}{cap:Nat}(hB:dX w k kb bs)(hl:bs.length+3<=64)(hS:aD (fun b=>b≠k/\b≠kb) w p [aa 255,aa 0,aa 0])
 (hR:∀w',dX w' k kb (bs++[255,0,0])->Chg (fun b=>b=k\/b=kb) w w'->R (.returned (.tuple #[])) w'):
  G_ P 52 #[.pointer (some ⟨k,0,none⟩),.slice p 3 cap,aa 6,aa 255] w R:=by
 refine DV _ _ _ _ _ _ _ _ ⟨fun vs u=>match vs with|[.int _ e,.int _ n]=>0<=n/\n<=3/\dX u k kb (bs++([255,0,0]:List Int).take n.toNat)/\Chg (fun b=>b=k\/b=kb) w u|_=>False,
  fun vs _=>match vs with|[_,.int _ n]=>(3-n).toNat|_=>0,⟨by decide,by decide,by simpa using hB,Chg.refl _ _⟩,fun n1 n2 w1 hI=>?_⟩
 obtain⟨h0,h3,hb,hc⟩:=hI;refine ak (fun hlt=>?_) (fun hge=>?_)
 ·have hlt:n2<3:=by simpa using hlt
  have hs1:=hS.chg hc fun b hb _ ht=>by rcases ht with ht|ht;exact hb.1 ht;exact hb.2 ht
  have hcase:n2=0\/n2=1\/n2=2:=by omega
  obtain⟨v,hv,v0,v1⟩:∃v:Int,([255,0,0]:List Int)[n2.toNat]?=some v/\0<=v/\v<256:=by
   rcases hcase with rfl|rfl|rfl
   ·exact⟨255,rfl,by decide,by decide⟩
   ·exact⟨0,rfl,by decide,by decide⟩
   ·exact⟨0,rfl,by decide,by decide⟩
  have hv':([aa 255,aa 0,aa 0]:List D_)[n2.toNat]?=some (aa v):=by
   have:=congrArg (R_ aa) hv;rw[<-S_]at this;exact this
  refine hs1.sl.get h0 rfl hv' fun a ha=>⟨v,ha,fun vs u=>∃e:Int,vs=[.int .u8 e]/\dX u k kb (bs++([255,0,0]:List Int).take (n2+1).toNat)/\Chg (fun b=>b=k\/b=kb) w u,al rfl (al rfl (al rfl ?_)),fun n6 w11 hI=>?_⟩
  ·rw[Pk v0 v1]
   have hlen:(([255,0,0]:List Int).take n2.toNat).length<=2:=by rw[W_];omega
   refine Ju hb (by rw[J_];omega) fun w' hb' hc'=>⟨_,rfl,n1,rfl,?_,hc.trans hc' fun b hb _=>hb⟩
   rw[show(n2+1).toNat=n2.toNat+1 by omega,List.take_add_one,hv,<-List.append_assoc]
   exact hb'
  ·obtain⟨e,he,q1,q2⟩:=hI
   rw[ai (x:=n2+1)];exact⟨⟨by omega,by omega,q1,q2⟩,by show(3-(n2+1)).toNat<(3-n2).toNat;omega⟩
 ·have hge:n2=3:=by simp at hge;omega
  subst hge;exact al rfl (hR w1 hb hc)
def Nd:List Int:=[80,54,10,49,32,49,10]
def O0:List Int:=[80,54,10,49,32,49,10,50,53,53,10]
def Kx:List Int:=[80,54,10,49,32,49,10,50,53,53,10,255,0,0]
structure Ki(w u:C_)(gb cb k m:Nat)(bs:List Int):Prop where
 ext:Ext w u
 buf:∃kb,m<=kb/\dX u k kb bs
 grid:fB u (some ⟨gb,0,none⟩) gb cb 1 1 [(65535,0,0,65535)]
 size:m<=u.heap.size
theorem JN{kb:Nat}(h:dX w k kb bs)(hl:bs.length<=64)(hR:R (.returned (.slice (some ⟨kb,0,none⟩) bs.length 64)) w.drew):
  G_ P 53 #[.pointer (some ⟨k,0,none⟩)] w R:=by
 refine pz _ _ _ (ap rfl ⟨_,_,_,h.cells.drew.cell (i:=0) rfl,ap rfl ⟨_,h.cells.drew.cell (i:=1) rfl,by omega,by omega,by omega,?_⟩⟩)
 have e:((bs.length:Nat):Int).toNat-(0:Int).toNat=bs.length:=by rw[T_];rfl
 have e3:aX (some ⟨kb,0,none⟩) (0:Int).toNat 64 1=some ⟨kb,0,none⟩:=fP;rw[e,e3];exact hR
theorem KL{len cap:Nat}(hI:nm w p len [65535,0,0,65535])(hc:len<=cap)(hT:zU w)
 (hR:∀kb rest w',Ext w w'->w.heap.size<=kb->Cs w' kb (bytes Kx++rest)->R (.returned (.tuple #[.slice (some ⟨kb,0,none⟩) 14 64,aa 0])) w'):
  G_ P 14 #[.agg #[aa 1,aa 1,.slice p len cap],aa 6,aa 255] w R:=by
 refine AM _ _ _ _ _ _ _ _ _ fun k1 hk1 k2 hk2 k3 hk3 w1 hL1=>?_;have hE1:Ext w w1:=hL1.ext (by simp;omega)
 have hI1:nm w1 p len [65535,0,0,65535]:=hI.ext hE1;refine Ee hI1 hc (fun hb=>absurd hb (by decide)) fun _ gb cb w2 hE2 hgb hcb hG=>?_
 have hcol:gp [65535,0,0,65535] ((1:Int)*1).toNat=[(65535,0,0,65535)]:=by decide
 rw[hcol]at hG;have hk1s:=hL1.there k1 (by simp)
 have hk2s:=hL1.there k2 (by simp)
 have hk3s:=hL1.there k3 (by simp)
 refine⟨_,_,rfl,hE2.keep _,al rfl (al rfl fun k4 w3 hn=>?_)⟩;have hE12:=hE1.trans hE2;have hE3:=hE12.trans hn.ext;have e4:=hn.1;have s2:=hE2.size;have s1:=hE1.size;have sz3:=hn.size;have hC4:Cs w3 k4 [.slice none 0 0,aa 0,.int .i8 0]:=aK.cs hn;have hG3:=hG.ext hn.ext;have hGl:=hG.lt;refine⟨fun vs u=>Ki w u gb cb k4 w3.heap.size Nd,?_,fun w32 hS=>?_⟩
 ·have leaf:∀(st:ByteArray) (R':Ending->C_->Prop),st=ByteArray.mk #[80,54,10,49,32,49,10]->(∀u v,Ki w u gb cb k4 w3.heap.size Nd->ao [k3,k2,k1] w3.drew u->R' (.returned (.tuple #[aa v,.nilIface])) u)->G_ P 48 #[.pointer (some ⟨k4,0,none⟩),.string st] w3.drew R':=by
   intro st R' hst hR';subst hst;refine Jr hC4.drew (bs:=Nd) rfl (by decide) (by decide) (by rfl) fun kb u v hkb hB hch=>hR' u v ⟨hE3.drew.step hch fun b hb=>by have hb:b=k4:=hb;omega,⟨kb,hkb,hB⟩,hG3.chg (w:=w3) (S:=(·=k4)) ((Ext.refl w3).drew.chg.trans hch fun b hb _=>hb) (by show¬gb=k4;omega) (by show¬cb=k4;omega),?_⟩ (hch.keep fun b hb=>?_)
   ·exact Nat.le_trans (Nat.le_refl w3.heap.size) hch.size
   ·simp only[I_,H_,or_false]at hb
    show¬b=k4;omega
  refine OK ⟨_,rfl,(Ext.refl _).keep _,?_⟩
  repeat' first
   |(refine OG ⟨_,rfl,(Ext.refl _).keep _,?_⟩)
   |(refine leaf _ _ (by decide+kernel) fun u v hS hK=>⟨_,_,rfl,hK,hS⟩)
   |(refine And.intro ?_ ?_)
   |(decide+kernel)
 obtain⟨hEw,⟨kb,hkb,hB⟩,hGw,hsw⟩:=hS;refine⟨fun vs u=>Ki w u gb cb k4 w3.heap.size O0,aY rfl (ME (hT.ext hEw) fun w33 hE33=>⟨_,rfl,hE33.keep _,by decide+kernel,?_⟩),fun w35 hS=>?_⟩
 ·refine L6 (hB.ext hE33) (xs:=[50,53,53,10]) (by decide+kernel) (by decide) (by decide) (by rfl) fun u v hB' hch=>⟨_,_,rfl,hch.keep fun b hb=>?_,hEw.trans hE33 |>.step hch fun b hb=>?_,⟨kb,hkb,hB'⟩,(hGw.ext hE33).chg hch ?_ ?_,?_⟩
  ·simp only[I_,H_,or_false]at hb
   omega
  ·omega
  ·omega
  ·omega
  ·have:=hch.size
   have:=hE33.size;omega
 clear hEw hB hGw hsw hkb;obtain⟨hEw,⟨kb,hkb,hB⟩,hGw,hsw⟩:=hS;have hkk:k4<w3.heap.size:=by omega
 refine Md fun fk w36 hE36 hfk hCf=>⟨_,_,_,rfl,hE36.keep _,fun k5 w37 hrf I3 Z1 stI stZ hI0 rule=>?_⟩;have s36:=hE36.size;have e5:=hrf.eq;have s37:=hrf.size;have hE37:=hrf.ext;have hB37:=(hB.ext hE36).ext hE37;have hlB:=hB37.cells.lt;have hEw37:=(hEw.trans hE36).trans hE37;have hkbl:kb<w35.heap.size:=by obtain⟨_,d,_⟩:=hB.data;exact d.lt
 refine IH (by kernel_rfl) ?_
 refine Jt (J:=fun u=>I3 [] u/\Ext w u/\dX u k4 kb Kx) ((hCf.ext hE37).cell (i:=0) rfl) ((hGw.ext hE36).ext hE37) (fun p2 c2 w42 hE42 ho=>?_) fun u ⟨j1,j2,j3⟩=>⟨_,rfl,.inl ⟨j1,fun w51 hP51=>?_⟩⟩
 ·refine rule _ _ _ _ _ _ (stI _ _ _ hI0 (hE42.keep _)) fun y5 y6 w43 hP43=>?_
  have s42:=hE42.size;have s43:=hP43.size;have hB43:=(hB37.ext hE42).chg hP43.chg (show¬k4=k5 by omega) (show¬kb=k5 by omega)
  have hEw43:Ext w w43:=(hEw37.trans hE42).step hP43.chg fun b hb=>by have hb:b=k5:=hb;have:=hEw37.size;have:=hEw.size;omega
  have ho43:=ho.chg hP43.chg fun b hb _ he=>by have he:b=k5:=he;omega
  refine⟨fun vs u=>match vs with|[.slice q ln cp,.int _ n]=>(n=0/\q=none/\ln=0/\cp=0/\u=w43)\/(n=1/\ln=3/\aD (fun b=>b≠k4/\b≠kb) u q [aa 255,aa 0,aa 0]/\dX u k4 kb O0/\Ext w u)|_=>False,
   fun vs _=>match vs with|[_,.int _ n]=>(1-n).toNat|_=>0,.inl ⟨rfl,rfl,rfl,rfl,rfl⟩,fun q ln cp n w44 hI=>?_⟩
  rcases hI with⟨rfl,rfl,rfl,rfl,rfl⟩|⟨rfl,rfl,hS,hB44,hE44⟩
  ·refine aY rfl (HR (l:=[(65535,0,0,65535)]) ho43.sl rfl (by decide) (by decide) fun a h1 h2 h3 h4=>⟨_,_,_,_,h1,h2,h3,h4,fun k10 hk10 w45 hL45=>?_⟩)
   have s45:=hL45.size;have t10:=hL45.there k10 (by simp)
   have hE45:Ext w w45:=hEw43.step hL45.chg fun b hb=>by
    simp only[I_,H_,or_false]at hb;have:=hEw43.size;omega
   have hB45:=hB43.chg hL45.chg (S:=(·∈[k10,k3,k2,k1])) (by simp;omega) (by simp;omega)
   refine LD fun k11 w46 hE46 hk11 hC11=>⟨_,_,_,rfl,hE46.keep _,[aa 255,aa 0,aa 0],rfl,rfl,(Cs.slS hC11 (S:=fun _=>True) trivial).sl.cells,?_⟩;have hf:Fg [k10,k3,k2,k1,k4,kb] w w46 1 none 0 0 []:=⟨hE45.trans hE46,⟨fun _=>False,fun _ h=>h.elim,fun _ _=>id,dA.nil _ _ _⟩,fun b hb=>by
    have:=hE46.size;have:=hE3.size;simp only[I_,H_,or_false]at hb;omega⟩
   refine hf.app' (by simp[am]) rfl rfl (by decide) (by decide) fun q' c' w47 hf47 hk47 hs47=>?_
   have hn1:A_.wrap (0+1)=1:=by decide
   rw[hn1];have hB47:=(hB45.ext hE46);obtain⟨rest,d1,d2⟩:=hB47.data;refine⟨.inr ⟨rfl,rfl,?_,⟨hB47.cells.keep hk47 (by simp),⟨rest,d1.keep hk47 (by simp),d2⟩,hB47.ne⟩,hf47.ext⟩,by show(1-(1:Int)).toNat<(1-(0:Int)).toNat;decide⟩
   exact(Fg.toS2 hf47).mono fun b hb _=>⟨fun e=>hb.2 (by simp[e]),fun e=>hb.2 (by simp[e])⟩
  ·refine al rfl (OZ hB44 (by decide) hS fun w48 hB48 hc48=>⟨rfl,hc48.keep fun b hb=>?_,fun w49 hP49 hI49=>⟨rfl,hI49,?_,?_⟩⟩)
   ·simp only[I_,H_,or_false]at hb
    omega
   ·refine(hE44.step hc48 fun b hb=>?_).step hP49.chg fun b hb=>?_
    ·have:=hE3.size
     rcases hb with hb|hb<;>omega
    ·have hb:b=k5:=hb
     have:=hEw37.size;have:=hEw.size;omega
   ·exact hB48.chg hP49.chg (show¬k4=k5 by omega) (show¬kb=k5 by omega)
 ·have hk5:¬k4=k5:=by omega
  have hB51:=j3.chg hP51.chg hk5 (show¬kb=k5 by omega)
  have hE51:Ext w w51:=j2.step hP51.chg fun b hb=>by
   have hb:b=k5:=hb;have:=hEw.size;omega
  refine JN hB51 (by decide) ⟨_,_,_,rfl,(Ext.refl w51).drew.keep _,fun w53 hP53=>?_⟩
  obtain⟨rest,d1,d2⟩:=hB51.data;refine hR kb rest w53 (hE51.drew.step hP53.chg fun b hb=>?_) (by have:=hE3.size;omega) (d1.drew.put hP53 (by omega))
  have hb:b=w36.heap.size:=hb;have:=hEw.size;omega
theorem NE{D:Nat}{base:Option E_}(h:Mk D w w')(hs:Sl N w base vs):Sl N w' base vs:=by
 intro j v hj;obtain⟨a,h1,h2,h3⟩:=hs j v hj;exact⟨a,h1,h2,by rw[h.cell];exact h3⟩
theorem IQ{st:ByteArray}{ds:List Int}{f:Nat->Int}(hsz:st.size=ds.length)(h1:1<=ds.length)(h9:ds.length<10)(hst:bG st st.size=bytes ds)
 (h0:((dY st 0==45)=false)/\((dY st 0==43)=false))(f0:f 0=0)(hd:∀(n:Nat) v,ds[n]?=some v->48<=v/\v<=57/\f (n+1)=f n*10+(v-48)/\0<=f n/\f n<=100000000)
 (hR:∀w',Ext w w'->R (.returned (.tuple #[aa (f ds.length),.nilIface])) w'):
  G_ P 170 #[.string st] w R:=by
 refine wW _ _ _ (nl _ _ _ ⟨fun _ _=>False,?_,fun _ _ h=>h.elim⟩);refine aY (by simp;omega) (aY (by simp;omega) ⟨fun vs u=>vs=[.string st]/\u=w,⟨by decide,by omega,al h0.1 ⟨by decide,by omega,al h0.2 ⟨rfl,rfl⟩⟩⟩,fun s1 w1 hI k1 k2 w2 w3 hk hn hM=>?_⟩)
 obtain⟨hv,rfl⟩:=hI;simp only[L_,D_.string.injEq,and_true]at hv;obtain rfl:st=s1:=hv.symm;have hE2:=(Ext.refl w1).drew.trans hn.ext;have e2:=hn.1;have hE3:Ext w1 w3:=hE2.step hM.put.chg fun b hb=>by
  have hb:b=k2:=hb;have:w1.drew.heap.size=w1.heap.size:=rfl;omega
 have hsl:Sl w2.heap.size w2 (some ⟨k2,0,none⟩) (bytes ds):=by
  rw[<-hst];exact(aK.cs hn).sl (X_ _ _) hn.size
 have hs3:=NE hM hsl;refine⟨fun vs u=>match vs with|[.int _ a,.int _ n]=>0<=n/\n<=ds.length/\a=f n.toNat/\u=w3|_=>False,fun vs _=>match vs with|[_,.int _ n]=>(ds.length-n).toNat|_=>0,⟨by decide,by omega,f0.symm,rfl⟩,fun a n w4 hI=>?_⟩
 obtain⟨n0,n1,rfl,rfl⟩:=hI;refine ak (fun hlt=>?_) (fun hge=>?_)
 ·have hlt:n.toNat<ds.length:=by have:n<st.size:=(by simpa using hlt);omega
  have hv:=List.getElem?_eq_getElem hlt;obtain⟨d1,d2,d3,d4,d5⟩:=hd _ _ hv;generalize ds[n.toNat]=v at hv d1 d2 d3;have hv':(bytes ds)[n.toNat]?=some (u8 v):=by
   have:=congrArg (R_ u8) hv;rw[<-S_]at this;exact this
  refine hs3.get n0 (by rw[ar,hsz]) hv' fun a ha=>⟨v,ha,?_⟩
  rw[Pk (x:=v-48) (by omega) (by omega),ai (x:=v-48),ai (x:=f n.toNat*10),ai (x:=f n.toNat*10+(v-48)),ai (x:=n+1)]
  refine al (by simp;omega) ⟨⟨by omega,by omega,?_,rfl⟩,by show(ds.length-(n+1)).toNat<(ds.length-n).toNat;omega⟩
  rw[show(n+1).toNat=n.toNat+1 by omega,d3]
 ·have hge:n.toNat=ds.length:=by
   have:¬n<st.size:=by simpa using hge
   omega
  rw[hge];exact⟨by decide,by omega,al h0.1 ⟨_,_,rfl,rfl,al rfl (hR w4 hE3)⟩⟩
theorem Lw(hR:∀w',Ext w w'->R (.returned (.tuple #[aa 1,.nilIface])) w'):G_ P 170 #[.string (iD [49])] w R:=by
 refine IQ (ds:=[49]) (f:=fun n=>([0,1]:List Int).getD n 0) (by decide+kernel) (by decide) (by decide) (by rfl) (by decide+kernel) rfl (fun n v hv=>?_) hR
 rcases n with _|n
 ·cases hv;decide
 ·cases hv
theorem M8(hR:∀w',Ext w w'->R (.returned (.tuple #[aa 255,.nilIface])) w'):G_ P 170 #[.string (iD [50,53,53])] w R:=by
 refine IQ (ds:=[50,53,53]) (f:=fun n=>([0,2,25,255]:List Int).getD n 0) (by decide+kernel) (by decide) (by decide) (by rfl) (by decide+kernel) rfl (fun n v hv=>?_) hR
 rcases n with _|_|_|n
 ·cases hv;decide
 ·cases hv;decide
 ·cases hv;decide
 ·cases hv
def rB:List Int:=[80,53,32,49,32,49,32,50,53,53,32,255]
def Rd(u:C_)(k:Nat)(p:Option E_)(at_ kind w h top:Int):Prop:=Cs u k [.slice p 12 12,aa at_,aa kind,aa w,aa h,aa top]/\aD (fun b=>b≠k) u p (bytes rB)
section
variable {u : C_} {k : Nat} {p : Option E_} {a kd w h tp : Int}
theorem Rd.chg{S:Nat->Prop}(hr:Rd u k p a kd w h tp)(hc:Chg S u u')(h1:¬S k)(h2:∀b,S b->u.heap.size<=b\/b=k):Rd u' k p a kd w h tp:=
 ⟨hr.1.chg hc h1,hr.2.chg hc fun b hb hlt ht=>by rcases h2 b ht with h2|h2;omega;exact hb h2⟩
theorem Rd.ext(hr:Rd u k p a kd w h tp)(hE:Ext u u'):Rd u' k p a kd w h tp:=hr.chg (S:=fun _=>False) hE.chg id fun _ h=>h.elim
theorem Rd.at(hr:Rd u k p a kd w h tp)(a':Int):Rd (ab u ⟨k,1,none⟩ [aa a'] 0) k p a' kd w h tp:=
 ⟨hr.1.set1 (off:=1) (v:=aa a') (by simp),hr.2.chg (Chg.setCells u ⟨k,1,none⟩ [aa a'] 0) fun b hb _ e=>hb e⟩
theorem Rd.get{R:E_->Prop}(hr:Rd u k p a kd w h tp){i v:Int}(h0:0<=i)(hv:rB[i.toNat]?=some v)(hR:∀b:E_,u.cell? b=some (u8 v)->R b):aq p 12 i 1 R:=by
 have hv':(bytes rB)[i.toNat]?=some (u8 v):=by
  have:=congrArg (R_ u8) hv;rw[<-S_]at this;exact this
 exact hr.2.sl.get h0 rfl hv' hR
theorem Pt{d:Int}(hr:Rd u k p a kd w h tp)(a0:0<=a)(a1:a<11)(h1:rB[a.toNat]?=some 32)(h2:rB[a.toNat+1]?=some d)(d1:48<=d)
 (hR:∀u',Rd u' k p (a+1) kd w h tp->Chg (·=k) u u'->R (.returned (aa 1)) u'):G_ P 142 #[.pointer (some ⟨k,0,none⟩)] u R:=by
 refine tJ _ _ _ (ap rfl ⟨a,hr.1.cell (i:=1) rfl,fun vs v=>Chg (·=k) u v/\(Rd v k p a kd w h tp\/Rd v k p (a+1) kd w h tp),fun _ v=>match v.cell? ⟨k,1,none⟩with|some (.int _ n)=>(12-n).toNat|_=>0,⟨Chg.refl _ _,.inl hr⟩,fun w1 hI=>?_⟩)
 obtain⟨hc,hI⟩:=hI;rcases hI with hI|hI
 ·have hc1:=hI.1.drew.drew
  refine ap rfl ⟨_,hI.1.drew.cell (i:=1) rfl,ap rfl ⟨_,_,_,hI.1.drew.cell (i:=0) rfl,aY (by simp;omega) (ap rfl ⟨_,_,_,hc1.cell (i:=0) rfl,ap rfl ⟨_,hc1.cell (i:=1) rfl,?_⟩⟩)⟩⟩
  have hd:Rd w1.drew.drew k p a kd w h tp:=hI.ext (Ext.refl w1).drew.drew;refine hd.get a0 h1 fun b hb=>⟨32,hb,fun vs v=>Chg (·=k) u v/\Rd v k p (a+1) kd w h tp,li _ _ _ (aY rfl ⟨true,rfl,aY rfl (ap rfl ⟨a,hc1.cell (i:=1) rfl,ap rfl ⟨⟨_,hc1.cell (i:=1) rfl⟩,hc1.frozen _,?_⟩⟩)⟩),fun w4 hI4=>?_⟩
  ·rw[ai (x:=a+1)]
   exact⟨(hc.trans ((Ext.refl w1).drew.drew.chg) fun b hb _=>hb).trans (Chg.setCells _ ⟨k,1,none⟩ _ 0) fun b hb _=>hb,hd.at (a+1)⟩
  ·refine⟨⟨hI4.1,.inr hI4.2⟩,?_⟩
   have e1:=hI4.2.1.cell (i:=1) rfl;have e2:=hI.1.cell (i:=1) rfl;show(match w4.cell? ⟨k,1,none⟩with|some (.int _ n)=>(12-n).toNat|_=>0)<(match w1.cell? ⟨k,1,none⟩with|some (.int _ n)=>(12-n).toNat|_=>0)
   rw[e1,e2];show(12-(a+1)).toNat<(12-a).toNat;omega
 ·have hc1:=hI.1.drew.drew
  refine ap rfl ⟨_,hI.1.drew.cell (i:=1) rfl,ap rfl ⟨_,_,_,hI.1.drew.cell (i:=0) rfl,aY (by simp;omega) (ap rfl ⟨_,_,_,hc1.cell (i:=0) rfl,ap rfl ⟨_,hc1.cell (i:=1) rfl,?_⟩⟩)⟩⟩
  have hd:Rd w1.drew.drew k p (a+1) kd w h tp:=hI.ext (Ext.refl w1).drew.drew;have h2':rB[(a+1).toNat]?=some d:=by rw[show(a+1).toNat=a.toNat+1 by omega];exact h2
  refine hd.get (by omega) h2' fun b hb=>⟨d,hb,fun _ _=>False,li _ _ _ (al (by simp;omega) (aY (by simp;omega) ⟨_,rfl,al (by simp;omega) (al (by simp;omega) (ap rfl ⟨a+1,hc1.cell (i:=1) rfl,?_⟩))⟩)),fun _ h=>h.elim⟩
  rw[ai (x:=a+1-a),show a+1-a=1 by omega]
  exact hR _ hd (hc.trans ((Ext.refl w1).drew.drew.chg) fun b hb _=>hb)
theorem Ot{lo hi v:Int}(hr:Rd u k p a kd w h tp)(a0:0<=a)(a1:a+n<12)(n1:1<=n)(n9:n<=9)(hd:∀j,j<n->∃d,rB[a.toNat+j]?=some d/\48<=d/\d<=57)(hs:∃d,rB[a.toNat+n]?=some d/\d<48)
 (hA:∀(u':C_) (R':Ending->C_->Prop),(∀w',Ext u' w'->R' (.returned (.tuple #[aa v,.nilIface])) w')->G_ P 170 #[.string (iD ((rB.drop a.toNat).take n))] u' R')
 (hv:lo<=v/\v<=hi)
 (hR:∀u',Rd u' k p (a+n) kd w h tp->Chg (·=k) u u'->R (.returned (.tuple #[aa v,.bool true])) u'):G_ P 143 #[.pointer (some ⟨k,0,none⟩),aa lo,aa hi] u R:=by
 refine qw _ _ _ _ _ ⟨fun vs v=>vs=[aa (n:Nat)]/\Ext u v,⟨fun vs v=>match vs with|[.int _ m]=>0<=m/\m<=n/\Ext u v|_=>False,fun vs _=>match vs with|[.int _ m]=>(n-m).toNat|_=>0,⟨by decide,by omega,Ext.refl u⟩,fun m w1 hI=>?_⟩,fun n7 w2 hI=>?_⟩
 ·obtain⟨m0,m1,hE⟩:=hI
  have hr1:Rd w1.drew k p a kd w h tp:=hr.ext hE.drew;refine ap rfl ⟨_,hr1.1.cell (i:=1) rfl,ap rfl ⟨_,_,_,hr1.1.cell (i:=0) rfl,?_⟩⟩;rw[ai (x:=a+m)];refine aY (by simp;omega) (ap rfl ⟨_,_,_,hr1.1.cell (i:=0) rfl,ap rfl ⟨_,hr1.1.cell (i:=1) rfl,?_⟩⟩)
  rw[ai (x:=a+m)];rcases(show m<n\/m=n by omega)with hm|hm
  ·obtain⟨d,e1,e2,e3⟩:=hd m.toNat (by omega)
   have e1':rB[(a+m).toNat]?=some d:=by rw[show(a+m).toNat=a.toNat+m.toNat by omega];exact e1
   refine hr1.get (by omega) e1' fun b hb=>⟨d,hb,aY (by simp;omega) (ap rfl ⟨_,_,_,hr1.1.cell (i:=0) rfl,ap rfl ⟨_,hr1.1.cell (i:=1) rfl,?_⟩⟩)⟩
   rw[ai (x:=a+m)];refine hr1.get (by omega) e1' fun b hb=>⟨d,hb,aY (by simp;omega) ?_⟩
   rw[ai (x:=m+1)];exact⟨⟨by omega,by omega,hE.drew⟩,by show(n-(m+1)).toNat<(n-m).toNat;omega⟩
  ·subst hm
   obtain⟨d,e1,e2⟩:=hs;have e1':rB[(a+(n:Nat)).toNat]?=some d:=by rw[show(a+(n:Nat)).toNat=a.toNat+n by omega];exact e1
   exact hr1.get (by omega) e1' fun b hb=>⟨d,hb,al (by simp;omega) ⟨rfl,hE.drew⟩⟩
 ·obtain⟨hv7,hE⟩:=hI
  simp only[L_,M_,true_and,and_true]at hv7;subst hv7;have hr1:Rd w2.drew k p a kd w h tp:=hr.ext hE.drew;refine al (by simp;omega) (ap rfl ⟨_,_,_,hr1.1.cell (i:=0) rfl,ap rfl ⟨_,hr1.1.cell (i:=1) rfl,ap rfl ⟨_,hr1.1.cell (i:=1) rfl,?_⟩⟩⟩)
  rw[ai (x:=a+(n:Nat))];refine⟨a0,by omega,by omega,(rB.drop a.toNat).take n,?_,?_,hA _ _ fun w3 hE3=>⟨_,_,rfl,?_⟩⟩
  ·have:rB.length=12:=rfl
   rw[W_,Y_];omega
  ·have hp:=(hr1.2.from (k:=a.toNat) (cap:=12) (by decide)).pre (us:=(bytes rB).drop a.toNat |>.take n) (List.take_prefix _ _)
   have:=hp.sl.cells;rw[bytes,<-List.map_drop,<-List.map_take]at this;exact this
  ·have hr3:=hr1.ext hE3
   refine ap rfl ⟨_,hr3.1.cell (i:=1) rfl,ap rfl ⟨⟨_,hr3.1.cell (i:=1) rfl⟩,hr3.1.frozen _,?_⟩⟩;rw[ai (x:=a+(n:Nat)),decide_eq_true (show v>=lo from hv.1),decide_eq_true hv.2]
   exact hR _ (hr3.at (a+(n:Nat))) ((hE.drew.trans hE3).chg.trans (Chg.setCells _ ⟨k,1,none⟩ _ 0) fun b hb _=>hb)
theorem Db{lo hi v:Int}(hr:Rd u k p a kd w h tp)(a0:0<=a)(a1:a+1+n<12)(h1:rB[a.toNat]?=some 32)(n1:1<=n)(n9:n<=9)(hd:∀j,j<n->∃d,rB[(a+1).toNat+j]?=some d/\48<=d/\d<=57)(hs:∃d,rB[(a+1).toNat+n]?=some d/\d<48)
 (hA:∀(u':C_) (R':Ending->C_->Prop),(∀w',Ext u' w'->R' (.returned (.tuple #[aa v,.nilIface])) w')->G_ P 170 #[.string (iD ((rB.drop (a+1).toNat).take n))] u' R')
 (hv:lo<=v/\v<=hi)
 (hR:∀u',Rd u' k p (a+1+n) kd w h tp->Chg (·=k) u u'->R (.returned (.tuple #[aa v,.bool true])) u'):G_ P 108 #[.pointer (some ⟨k,0,none⟩),aa lo,aa hi] u R:=by
 obtain⟨d,e1,e2,e3⟩:=hd 0 (by omega)
 refine qq _ _ _ _ _ (Pt (d:=d) hr a0 (by omega) h1 (by rw[show(a+1).toNat=a.toNat+1 by omega]at e1;exact e1) e2 fun u1 hr1 hc1=>⟨_,rfl,al rfl (Ot hr1 (by omega) (by omega) n1 n9 hd hs hA hv fun u2 hr2 hc2=>⟨_,_,rfl,?_⟩)⟩)
 exact hR u2 hr2 (hc1.trans hc2 fun b hb _=>hb)
end
def xO(q1:aj)(w:C_)(R:bV):Prop:=
 nn (q1) fun a1=>∃p1 k1 k2,(w.cell? a1=some (.slice p1 k1 k2))/\ae (decide ((k1:Int)<2)) (R (.returned (.bool false)) w) (nn (q1) fun a2=>∃p2 k3 k4,(w.cell? a2=some (.slice p2 k3 k4))/\aq (p2) (k3) (0) (1) fun a3=>∃n1,(w.cell? a3=some (u8 n1))/\ae (n1 !=80) (R (.returned (.bool false)) w) (nn (q1) fun a4=>∃p3 k5 k6,(w.cell? a4=some (.slice p3 k5 k6))/\aq (p3) (k5) (1) (1) fun a5=>∃n2,(w.cell? a5=some (u8 n2))/\ae (decide (n2<49)) (R (.returned (.bool false)) w) (nn (q1) fun a6=>∃p4 k7 k8,(w.cell? a6=some (.slice p4 k7 k8))/\aq (p4) (k7) (1) (1) fun a7=>∃n3,(w.cell? a7=some (u8 n3))/\ae (decide (n3>54)) (R (.returned (.bool false)) w) (nn (q1) fun a8=>∃p5 k9 k10,(w.cell? a8=some (.slice p5 k9 k10))/\aq (p5) (k9) (1) (1) fun a9=>∃n4,(w.cell? a9=some (u8 n4))/\nn (q1) fun a10=>aI w (a10.add 2) [aa (A_.wrap (B_.wrap (n4-48)))] fun u1=>nn (q1) fun a11=>aI u1 (a11.add 1) [aa 2] fun u2=>nn (q1) fun a12=>aI u2 (a12.add 5) [aa 1] fun u3=>G_ P 108 #[.pointer q1,aa 1,aa 999999999] u3 fun e1 w1=>∃n5 c1,(e1=.returned (.tuple #[aa n5,.bool c1]))/\nn (q1) fun a13=>aI w1 (a13.add 3) [aa n5] fun u4=>ae (!c1) (R (.returned (.bool false)) u4) (G_ P 108 #[.pointer q1,aa 1,aa 999999999] u4 fun e2 w2=>∃n6 c2,(e2=.returned (.tuple #[aa n6,.bool c2]))/\nn (q1) fun a14=>aI w2 (a14.add 4) [aa n6] fun u5=>ae (!c2) (R (.returned (.bool false)) u5) (nn (q1) fun a15=>∃n7,(u5.cell? (a15.add 2)=some (aa n7))/\ae (ad .rem .i64 n7 3 !=1) (G_ P 108 #[.pointer q1,aa 1,aa 65535] u5 fun e3 w3=>∃n8 c3,(e3=.returned (.tuple #[aa n8,.bool c3]))/\nn (q1) fun a16=>aI w3 (a16.add 5) [aa n8] fun u6=>R (.returned (.bool c3)) u6) (R (.returned (.bool c2)) u5)))))))
theorem sS(q1:aj)(w:C_)(R:bV)(h:xO q1 w R):G_ P 54 #[.pointer q1] w R:=
  aF (ac:=ya) Tryz.func54 h
def tl(q1:aj)(x1:Int)(w:C_)(R:bV):Prop:=
 ((0:Int)<=0)/\(0<=x1)/\(x1*8<=281474976710656)/\(x1<4611686018427387904)/\∀k1 w1,(aK w (K_ (bg [aa 0] x1.toNat) 3) k1 w1)->nn (q1) fun a1=>∃n1,(w1.cell? (a1.add 2)=some (aa n1))/\∃I1:aw,(ae (n1==1) (I1 [.bool (n1==1)] w1) (ae (n1==2) (I1 [.bool (n1==2)] w1) (I1 [.bool (n1==3)] w1)))/\∀c1 w2,(I1 [.bool c1] w2)->ae (c1) (∃I2:aw,∃m1:List D_->C_->Nat,(I2 [.slice (aH k1) 0 x1.toNat] w2)/\∀p1 k2 k3 w3,(I2 [.slice p1 k2 k3] w3)->ae (decide ((k2:Int)<x1)) (G_ P 109 #[.pointer q1,.bool ((k2:Int)==0)] w3 fun e1 w4=>∃n2 c2,(e1=.returned (.tuple #[aa n2,.bool c2]))/\ae (!c2) (R (aM #[.slice none 0 0,.bool false]) w4) (∀k4,w4.heap.size<=k4->∀w5,Locl [k4] w4 w5->ay (w5) ([(42,k4,[aa n2])]) (p1) (k2) (k3) (1) (1) (8) (3) ([aa 0]) ([aa n2]) fun p2 k5 k6 w6=>(I2 [.slice p2 k5 k6] w6)/\m1 [.slice p2 k5 k6] w6<m1 [.slice p1 k2 k3] w3)) (R (aM #[.slice p1 k2 k3,.bool true]) w3)) (nn (q1) fun a2=>∃n3,(w2.drew.cell? (a2.add 1)=some (aa n3))/\nn (q1) fun a3=>∃p3 k7 k8,(w2.drew.cell? a3=some (.slice p3 k7 k8))/\ae (n3==(k7:Int)) (R (aM #[.slice none 0 0,.bool false]) w2.drew) (nn (q1) fun a4=>∃p4 k9 k10,(w2.drew.cell? a4=some (.slice p4 k9 k10))/\nn (q1) fun a5=>∃n4,(w2.drew.cell? (a5.add 1)=some (aa n4))/\aq (p4) (k9) (n4) (1) fun a6=>∃n5,(w2.drew.cell? a6=some (u8 n5))/\G_ P 110 #[u8 n5] (w2.drew) fun e2 w7=>∃c3,(e2=.returned (.bool c3))/\ae (!c3) (R (aM #[.slice none 0 0,.bool false]) w7) (nn (q1) fun a7=>∃p5 k11 k12,(w7.drew.cell? a7=some (.slice p5 k11 k12))/\nn (q1) fun a8=>∃n6,(w7.drew.cell? (a8.add 1)=some (aa n6))/\cO (p5) (k12) (A_.wrap (n6+1)) ((k11:Int)) (1) fun p6 k13 k14=>nn (q1) fun a9=>∃n7,(w7.drew.cell? (a9.add 2)=some (aa n7))/\ae (n7==4) (nn (q1) fun a10=>∃n8,(w7.drew.cell? (a10.add 3)=some (aa n8))/\nn (q1) fun a11=>∃n9,(w7.drew.cell? (a11.add 4)=some (aa n9))/\ae (decide ((k13:Int)<A_.wrap (ad .quo .i64 (A_.wrap (n8+7)) 8*n9))) (R (aM #[.slice none 0 0,.bool false]) w7.drew) (∃I3:aw,∃m2:List D_->C_->Nat,(I3 [.slice (aH k1) 0 x1.toNat,aa 0] w7.drew)/\∀p7 k15 k16 n10 w8,(I3 [.slice p7 k15 k16,aa n10] w8)->ae (decide (n10<x1)) (nn (q1) fun a12=>∃n11,(w8.cell? (a12.add 3)=some (aa n11))/\(n11≠0)/\nn (q1) fun a13=>∃n12,(w8.cell? (a13.add 3)=some (aa n12))/\(n12≠0)/\aq (p6) (k13) (A_.wrap (A_.wrap (ad .quo .i64 n10 n12*ad .quo .i64 (A_.wrap (n8+7)) 8)+ad .quo .i64 (ad .rem .i64 n10 n11) 8)) (1) fun a14=>∃n13,(w8.cell? a14=some (u8 n13))/\(0<=A_.wrap (7-ad .rem .i64 (ad .rem .i64 n10 n11) 8))/\∀k17,w8.heap.size<=k17->∀w9,Locl [k17] w8 w9->ay (w9) ([(130,k17,[aa (A_.wrap (B_.wrap (aR .and .u8 (an .shr .u8 n13 (A_.wrap (7-ad .rem .i64 (ad .rem .i64 n10 n11) 8))) 1)))])]) (p7) (k15) (k16) (1) (1) (8) (3) ([aa 0]) ([aa (A_.wrap (B_.wrap (aR .and .u8 (an .shr .u8 n13 (A_.wrap (7-ad .rem .i64 (ad .rem .i64 n10 n11) 8))) 1)))]) fun p8 k18 k19 w10=>(I3 [.slice p8 k18 k19,aa (A_.wrap (n10+1))] w10)/\m2 [.slice p8 k18 k19,aa (A_.wrap (n10+1))] w10<m2 [.slice p7 k15 k16,aa n10] w8) (R (aM #[.slice p7 k15 k16,.bool true]) w8))) (∃I4:aw,(nn (q1) fun a15=>∃n14,(w7.drew.cell? (a15.add 5)=some (aa n14))/\ae (decide (n14>255)) (I4 [aa 2] w7.drew) (I4 [aa 1] w7.drew))/\∀n15 w11,(I4 [aa n15] w11)->ae (decide ((k13:Int)<A_.wrap (n15*x1))) (R (aM #[.slice none 0 0,.bool false]) w11) (∃I5:aw,∃m3:List D_->C_->Nat,(I5 [.slice (aH k1) 0 x1.toNat,aa 0] w11)/\∀p9 k20 k21 n16 w12,(I5 [.slice p9 k20 k21,aa n16] w12)->ae (decide (n16<x1)) (aq (p6) (k13) (A_.wrap (n15*n16)) (1) fun a16=>∃n17,(w12.cell? a16=some (u8 n17))/\∃I6:aw,(ae (n15==2) (aq (p6) (k13) (A_.wrap (A_.wrap (2*n16)+1)) (1) fun a17=>∃n18,(w12.cell? a17=some (u8 n18))/\I6 [aa (A_.wrap (aR .or .i64 (an .shl .i64 (A_.wrap n17) 8) (A_.wrap n18)))] w12) (I6 [aa (A_.wrap n17)] w12))/\∀n19 w13,(I6 [aa n19] w13)->nn (q1) fun a18=>∃n20,(w13.cell? (a18.add 5)=some (aa n20))/\ae (decide (n19>n20)) (R (aM #[.slice none 0 0,.bool false]) w13) (∀k22,w13.heap.size<=k22->∀w14,Locl [k22] w13 w14->ay (w14) ([(176,k22,[aa n19])]) (p9) (k20) (k21) (1) (1) (8) (3) ([aa 0]) ([aa n19]) fun p10 k23 k24 w15=>(I5 [.slice p10 k23 k24,aa (A_.wrap (n16+1))] w15)/\m3 [.slice p10 k23 k24,aa (A_.wrap (n16+1))] w15<m3 [.slice p9 k20 k21,aa n16] w12)) (R (aM #[.slice p9 k20 k21,.bool true]) w12))))))
theorem pT(q1:aj)(x1:Int)(w:C_)(R:bV)(h:tl q1 x1 w R):G_ P 56 #[.pointer q1,aa x1] w R:=
  aF (ac:=ta) Tryz.func56 h
section
variable {u : C_} {k : Nat} {p : Option E_} {a kd w h tp : Int}
theorem Rd.setI(hr:Rd u k p a kd w h tp)(i:Nat)(x:Int)(hi:i<6)(hv:vs=([.slice p 12 12,aa a,aa kd,aa w,aa h,aa tp]:List D_).set i (aa x)):Cs (ab u ⟨k,i,none⟩ [aa x] 0) k vs/\aD (fun b=>b≠k) (ab u ⟨k,i,none⟩ [aa x] 0) p (bytes rB):=
 ⟨by subst hv;exact hr.1.set1 (off:=i) (v:=aa x) (by simpa using hi),hr.2.chg (Chg.setCells u ⟨k,i,none⟩ [aa x] 0) fun b hb _ e=>hb e⟩
theorem O8(hr:Rd u k p 0 0 0 0 0)(hR:∀u',Rd u' k p 10 5 1 1 255->Chg (·=k) u u'->R (.returned (.bool true)) u'):G_ P 54 #[.pointer (some ⟨k,0,none⟩)] u R:=by
 refine sS _ _ _ (ap rfl ⟨_,_,_,hr.1.cell (i:=0) rfl,al rfl (ap rfl ⟨_,_,_,hr.1.cell (i:=0) rfl,hr.get (by decide) (v:=80) rfl fun b1 h1=>⟨_,h1,al rfl (ap rfl ⟨_,_,_,hr.1.cell (i:=0) rfl,hr.get (by decide) (v:=53) rfl fun b2 h2=>⟨_,h2,al rfl (ap rfl ⟨_,_,_,hr.1.cell (i:=0) rfl,hr.get (by decide) (v:=53) rfl fun b3 h3=>⟨_,h3,al rfl (ap rfl ⟨_,_,_,hr.1.cell (i:=0) rfl,hr.get (by decide) (v:=53) rfl fun b4 h4=>⟨_,h4,ap rfl ⟨⟨_,hr.1.cell (i:=2) rfl⟩,hr.1.frozen _,?_⟩⟩⟩)⟩⟩)⟩⟩)⟩⟩)⟩)
 have q1:Rd (ab u ⟨k,2,none⟩ [aa 5] 0) k p 0 5 0 0 0:=hr.setI 2 5 (by decide) rfl
 have ev:A_.wrap (B_.wrap (53-48))=5:=by decide
 rw[ev];refine ap rfl ⟨⟨_,q1.1.cell (i:=1) rfl⟩,q1.1.frozen _,?_⟩;have q2:Rd (ab (ab u ⟨k,2,none⟩ [aa 5] 0) ⟨k,1,none⟩ [aa 2] 0) k p 2 5 0 0 0:=q1.setI 1 2 (by decide) rfl
 refine ap rfl ⟨⟨_,q2.1.cell (i:=5) rfl⟩,q2.1.frozen _,?_⟩;have q3:Rd (ab (ab (ab u ⟨k,2,none⟩ [aa 5] 0) ⟨k,1,none⟩ [aa 2] 0) ⟨k,5,none⟩ [aa 1] 0) k p 2 5 0 0 1:=q2.setI 5 1 (by decide) rfl
 have c1:=Chg.setCells u ⟨k,2,none⟩ [aa 5] 0;have c2:=Chg.setCells (ab u ⟨k,2,none⟩ [aa 5] 0) ⟨k,1,none⟩ [aa 2] 0;have c3:=Chg.setCells (ab (ab u ⟨k,2,none⟩ [aa 5] 0) ⟨k,1,none⟩ [aa 2] 0) ⟨k,5,none⟩ [aa 1] 0;have d3:Chg (·=k) u _:=(c1.trans c2 fun b hb _=>hb).trans c3 fun b hb _=>hb;refine Db (n:=1) (v:=1) q3 (by decide) (by decide) rfl (by decide) (by decide) (fun j hj=>?_) ⟨32,rfl,by decide⟩ (fun _ _ hA=>Lw hA) (by decide) fun w1 r1 e1=>⟨_,_,rfl,ap rfl ⟨⟨_,r1.1.cell (i:=3) rfl⟩,r1.1.frozen _,al rfl ?_⟩⟩
 ·obtain rfl:j=0:=by omega
  exact⟨49,rfl,by decide,by decide⟩
 have q4:Rd (ab w1 ⟨k,3,none⟩ [aa 1] 0) k p 4 5 1 0 1:=r1.setI 3 1 (by decide) rfl
 have c4:=Chg.setCells w1 ⟨k,3,none⟩ [aa 1] 0;refine Db (n:=1) (v:=1) q4 (by decide) (by decide) rfl (by decide) (by decide) (fun j hj=>?_) ⟨32,rfl,by decide⟩ (fun _ _ hA=>Lw hA) (by decide) fun w2 r2 e2=>⟨_,_,rfl,ap rfl ⟨⟨_,r2.1.cell (i:=4) rfl⟩,r2.1.frozen _,al rfl ?_⟩⟩
 ·obtain rfl:j=0:=by omega
  exact⟨49,rfl,by decide,by decide⟩
 have q5:Rd (ab w2 ⟨k,4,none⟩ [aa 1] 0) k p 6 5 1 1 1:=r2.setI 4 1 (by decide) rfl
 have c5:=Chg.setCells w2 ⟨k,4,none⟩ [aa 1] 0;refine ap rfl ⟨_,q5.1.cell (i:=2) rfl,aY (by decide) (Db (n:=3) (v:=255) q5 (by decide) (by decide) rfl (by decide) (by decide) (fun j hj=>?_) ⟨32,rfl,by decide⟩ (fun _ _ hA=>M8 hA) (by decide) fun w3 r3 e3=>⟨_,_,rfl,ap rfl ⟨⟨_,r3.1.cell (i:=5) rfl⟩,r3.1.frozen _,?_⟩⟩)⟩
 ·rcases(show j=0\/j=1\/j=2 by omega)with rfl|rfl|rfl
  ·exact⟨50,rfl,by decide,by decide⟩
  ·exact⟨53,rfl,by decide,by decide⟩
  ·exact⟨53,rfl,by decide,by decide⟩
 have c6:=Chg.setCells w3 ⟨k,5,none⟩ [aa 255] 0;refine hR _ (r3.setI 5 255 (by decide) rfl) ?_
 refine(((((d3.trans e1 fun b hb _=>hb).trans c4 fun b hb _=>hb).trans e2 fun b hb _=>hb).trans c5 fun b hb _=>hb).trans e3 fun b hb _=>hb).trans c6 fun b hb _=>hb
theorem MN(hr:Rd u k p 10 5 1 1 255)(hR:∀q c u',Ext u u'->Fg [] u u' 1 q 1 c [aa 255]->R (.returned (.tuple #[.slice q 1 c,.bool true])) u'):G_ P 56 #[.pointer (some ⟨k,0,none⟩),aa 1] u R:=by
 refine pT _ _ _ _ ⟨by decide,by decide,by decide,by decide,fun k1 w1 hn=>?_⟩
 have e1:=hn.1;have r1:=hr.ext hn.ext;refine ap rfl ⟨_,r1.1.cell (i:=2) rfl,fun vs v=>vs=[.bool false]/\v=w1,al rfl (al rfl ⟨rfl,rfl⟩),fun c1 w2 hI=>?_⟩;obtain⟨hv,rfl⟩:=hI;simp only[L_,D_.bool.injEq,and_true]at hv;subst hv;have r2:Rd w2.drew k p 10 5 1 1 255:=r1.ext (Ext.refl w2).drew;refine al rfl (ap rfl ⟨_,r2.1.cell (i:=1) rfl,ap rfl ⟨_,_,_,r2.1.cell (i:=0) rfl,al rfl (ap rfl ⟨_,_,_,r2.1.cell (i:=0) rfl,ap rfl ⟨_,r2.1.cell (i:=1) rfl,r2.get (by decide) (v:=32) rfl fun b hb=>⟨_,hb,li _ _ _ (aY rfl ⟨true,rfl,al rfl (ap rfl ⟨_,_,_,r2.1.drew.cell (i:=0) rfl,ap rfl ⟨_,r2.1.drew.cell (i:=1) rfl,by decide,by decide,by decide,ap rfl ⟨_,r2.1.drew.cell (i:=2) rfl,al rfl ⟨fun vs v=>vs=[aa 1]/\v=w2.drew.drew,ap rfl ⟨_,r2.1.drew.cell (i:=5) rfl,al rfl ⟨rfl,rfl⟩⟩,fun n15 w11 hI=>?_⟩⟩⟩⟩)⟩)⟩⟩⟩)⟩⟩)
 obtain⟨hv,rfl⟩:=hI;simp only[L_,M_,true_and,and_true]at hv;subst hv;have hE2:Ext u w2.drew.drew:=hn.ext.drew.drew;have r3:Rd w2.drew.drew k p 10 5 1 1 255:=r2.ext (Ext.refl _).drew;have hf0:Fg [] u w2.drew.drew 1 (some ⟨k1,0,none⟩) 0 1 []:=by
  have:=hn.own (N:=k1) (M:=k1+1) (vs:=[]) (len:=0) (cap:=1) (sz:=1) (by simp) (by simp) (by rw[eO];simp) (by omega) (by omega) (by rw[hn.2,e1];simp)
  have:=(this.ext ((Ext.refl w2).drew.drew)).owB (by have:=hn.size;show k1+1<=w2.heap.size;omega)
  exact Fg.of_owB hE2 this (fun i hi=>by have:=hi.1;omega) (by simp) (by simp)
 have e11:(A_.wrap (10+1)).toNat=11:=by decide
 have e12:((12:Nat):Int).toNat-(A_.wrap (10+1)).toNat=1:=by decide
 rw[e12,e11];refine al (by decide) ⟨fun vs v=>match vs with|[.slice q ln cp,.int _ n]=>(n=0/\ln=0/\Fg [] u v 1 q 0 cp [])\/(n=1/\ln=1/\Fg [] u v 1 q 1 cp [aa 255])|_=>False,
  fun vs _=>match vs with|[_,.int _ n]=>(1-n).toNat|_=>0,.inl ⟨rfl,rfl,hf0⟩,fun q ln cp n w12 hI=>?_⟩
 rcases hI with⟨rfl,rfl,hf⟩|⟨rfl,rfl,hf⟩
 ·have r4:Rd w12 k p 10 5 1 1 255:=hr.ext hf.ext
  have hp:=r4.2.from (k:=11) (cap:=12) (by decide)
  refine aY rfl (hp.sl.get (i:=A_.wrap (1*0)) (by decide) rfl (v:=u8 255) rfl fun b hb=>⟨255,hb,fun vs v=>vs=[aa 255]/\v=w12,al rfl ⟨rfl,rfl⟩,fun n19 w13 hI=>?_⟩)
  obtain⟨hv,rfl⟩:=hI;simp only[L_,M_,true_and,and_true]at hv;subst hv;refine ap rfl ⟨_,r4.1.cell (i:=5) rfl,al rfl fun k22 hk w14 hL=>?_⟩;refine hf.app hL (fun b hb=>.inr (by simp at hb;omega)) (by simp[am]) rfl rfl (by decide) (by decide) fun q' c' w15 hf'=>?_
  have hn1:A_.wrap (0+1)=1:=by decide
  rw[hn1];exact⟨.inr ⟨rfl,rfl,hf'.weak⟩,by show(1-(1:Int)).toNat<(1-(0:Int)).toNat;decide⟩
 ·exact al rfl (hR q cp w12 hf.ext hf)
end
def Fd(sa1:aj)(sl1 sc1:Nat)(x1:Int)(w:C_)(R:bV):Prop:=
 ∀k1,w.heap.size<=k1->ae (decide ((sl1:Int)>4194304)) (∀w1,Locl [k1] w w1->R (aM #[.agg #[aa 0,aa 0,.slice none 0 0],aa 11]) w1) (∀w2,Locl [k1] w w2->∀k2 w3,(aK w2 (K_ #[.slice sa1 sl1 sc1,aa 0,aa 0,aa 0,aa 0,aa 0] 124) k2 w3)->G_ P 54 #[.pointer (aH k2)] w3 fun e1 w4=>∃c1,(e1=.returned (.bool c1))/\ao [k1] w3 w4/\ae (!c1) (∀w5,Locl [k1] w4 w5->R (aM #[.agg #[aa 0,aa 0,.slice none 0 0],aa 9]) w5) (∃n1,(w4.drew.cell? {block:=k2,off:=3}=some (aa n1))/\∃n2,(w4.drew.cell? {block:=k2,off:=4}=some (aa n2))/\G_ P 55 #[aa n1,aa n2,aa x1] (w4.drew) fun e2 w6=>∃c2,(e2=.returned (.bool c2))/\(ao ([k1]) (w4.drew) w6)/\ae (c2) (∀w7,Locl [k1] w6 w7->R (aM #[.agg #[aa 0,aa 0,.slice none 0 0],aa 11]) w7) (∃I1:aw,(∃n3,(w6.cell? {block:=k2,off:=2}=some (aa n3))/\ae (ad .rem .i64 n3 3==0) (I1 [aa 3] w6) (I1 [aa 1] w6))/\∀n4 w8,(I1 [aa n4] w8)->∃n5,(w8.drew.cell? {block:=k2,off:=3}=some (aa n5))/\∃n6,(w8.drew.cell? {block:=k2,off:=4}=some (aa n6))/\G_ P 56 #[.pointer (aH k2),aa (A_.wrap (A_.wrap (n4*n5)*n6))] (w8.drew) fun e3 w9=>∃p1 k3 k4 c3,(e3=.returned (.tuple #[.slice p1 k3 k4,.bool c3]))/\(ao ([k1]) (w8.drew) w9)/\ae (!c3) (∀w10,Locl [k1] w9 w10->R (aM #[.agg #[aa 0,aa 0,.slice none 0 0],aa 9]) w10) (∃n7,(w9.drew.cell? {block:=k2,off:=3}=some (aa n7))/\∃n8,(w9.drew.cell? {block:=k2,off:=4}=some (aa n8))/\∀k5,(w9.drew.heap.size<=k5)->∀w11:C_,(Locl ([k5,k1]) (w9.drew) w11)->∃n9,(w11.cell? {block:=k2,off:=3}=some (aa n9))/\∃n10,(w11.cell? {block:=k2,off:=4}=some (aa n10))/\∃(I2:aw) (m1:List D_->C_->Nat),(I2 [aa 0,aa n7,aa n8,.slice none 0 0] w11)/\∀n11 n12 n13 p2 k6 k7 w12,(I2 [aa n11,aa n12,aa n13,.slice p2 k6 k7] w12)->ae (decide (n11<A_.wrap (n9*n10))) (∃I3:aw,∃m2:List D_->C_->Nat,(I3 [aa 0,aa n12,aa n13,.slice p2 k6 k7] w12)/\∀n14 n15 n16 p3 k8 k9 w13,(I3 [aa n14,aa n15,aa n16,.slice p3 k8 k9] w13)->ae (decide (n14<3)) ((n4≠0)/\aq (p1) (k3) (A_.wrap (A_.wrap (n4*n11)+ad .rem .i64 n14 n4)) (1) fun a1=>∃n17,(w13.cell? a1=some (aa n17))/\∃I4:aw,(∃n18,(w13.cell? {block:=k2,off:=2}=some (aa n18))/\ae (ad .rem .i64 n18 3==1) (I4 [aa (A_.wrap (1-n17))] w13) (I4 [aa n17] w13))/\∀n19 w14,(I4 [aa n19] w14)->∃n20,(w14.cell? {block:=k2,off:=5}=some (aa n20))/\G_ P 57 #[aa n19,aa n20] w14 fun e4 w15=>∃n21 n22,(e4=.returned (.tuple #[au n21,aa n22]))/\ao [k5,k1] w14 w15/\∀k10,w15.heap.size<=k10->∀w16,Locl [k10,k5,k1] w15 w16->ay (w16) ([(117,k10,[au n21]),(10,k5,[aa n15,aa n16,.slice p3 k8 k9]),(4,k1,[aa 0,aa 0,.slice none 0 0])]) (p3) (k8) (k9) (1) (1) (2) (45) ([au 0]) ([au n21]) fun p4 k11 k12 w17=>∀w18,Locl [k10,k5,k1] w17 w18->(I3 [aa (A_.wrap (n14+1)),aa n15,aa n16,.slice p4 k11 k12] w18)/\m2 [aa (A_.wrap (n14+1)),aa n15,aa n16,.slice p4 k11 k12] w18<m2 [aa n14,aa n15,aa n16,.slice p3 k8 k9] w13) (∀k13,w13.heap.size<=k13->∀w19,Locl [k13,k5,k1] w13 w19->ay (w19) ([(123,k13,[au 65535]),(10,k5,[aa n15,aa n16,.slice p3 k8 k9]),(4,k1,[aa 0,aa 0,.slice none 0 0])]) (p3) (k8) (k9) (1) (1) (2) (45) ([au 0]) ([au 65535]) fun p5 k14 k15 w20=>∀w21,Locl [k13,k5,k1] w20 w21->(I2 [aa (A_.wrap (n11+1)),aa n15,aa n16,.slice p5 k14 k15] w21)/\m1 [aa (A_.wrap (n11+1)),aa n15,aa n16,.slice p5 k14 k15] w21<m1 [aa n11,aa n12,aa n13,.slice p2 k6 k7] w12)) (∀w22,Locl [k5,k1] w12 w22->R (aM #[.agg #[aa n12,aa n13,.slice p2 k6 k7],aa 0]) w22)))))
theorem AU(sa1:aj)(sl1 sc1:Nat)(x1:Int)(w:C_)(R:bV)(h:Fd sa1 sl1 sc1 x1 w R):G_ P 15 #[.slice sa1 sl1 sc1,aa x1] w R:=
  aF (ac:=Fb) Tryz.func15 h
theorem Oz(a b:List Int):px (a++b)=px a++px b:=by simp[px]
theorem KH{k6:Nat}(hB:Sl w.heap.size w (some ⟨k6,0,none⟩) (bytes rB))
 (hR:∀q c w',Ext w w'->Fg [] w w' 1 q 4 c (px [65535,65535,65535,65535])->R (.returned (.tuple #[.agg #[aa 1,aa 1,.slice q 4 c],aa 0])) w'):
  G_ P 15 #[.slice (some ⟨k6,0,none⟩) 12 12,aa 1] w R:=by
 refine AU _ _ _ _ _ _ fun k1 hk1=>al (by decide) fun w2 hL2 k2 w3 hn=>?_
 have hE2:Ext w w2:=hL2.ext (by simpa using hk1)
 have e2:=hn.1;have hE3:=hE2.trans hn.ext;have s3:=hn.size;have s2:=hE2.size;have t1:=hL2.there k1 (by simp)
 have hC3:Cs w3 k2 [.slice (some ⟨k6,0,none⟩) 12 12,aa 0,aa 0,aa 0,aa 0,aa 0]:=aK.cs hn;have hS3:aD (fun b=>b≠k2) w3 (some ⟨k6,0,none⟩) (bytes rB):=fun j v hj=>by
  obtain⟨a,h1,h2,h3⟩:=(hB.ext hE3) j v hj;exact⟨a,h1,by omega,h3⟩
 have hr3:Rd w3 k2 (some ⟨k6,0,none⟩) 0 0 0 0 0:=⟨hC3,hS3⟩;refine O8 hr3 fun w4 hr4 hc4=>⟨_,rfl,hc4.keep fun b hb=>?_,al rfl ⟨_,hr4.1.drew.cell (i:=3) rfl,_,hr4.1.drew.cell (i:=4) rfl,BW _ _ _ _ _ ⟨_,rfl,(Ext.refl _).keep _,al (by decide) ⟨fun vs u=>vs=[aa 1]/\u=w4.drew,⟨_,hr4.1.drew.cell (i:=2) rfl,al (by decide) ⟨rfl,rfl⟩⟩,fun n4 w8 hI=>?_⟩⟩⟩⟩
 ·simp only[I_,H_,or_false]at hb
  omega
 obtain⟨hv,rfl⟩:=hI;simp only[L_,M_,true_and,and_true]at hv;subst hv;have hE4:Ext w w4:=hE3.step hc4 fun b hb=>by have hb:b=k2:=hb;omega
 have s4:=hc4.size;have hr5:Rd w4.drew.drew k2 (some ⟨k6,0,none⟩) 10 5 1 1 255:=hr4.ext (Ext.refl w4).drew.drew;have hE5:Ext w w4.drew.drew:=hE4.drew.drew;have s5:w4.drew.drew.heap.size=w4.heap.size:=rfl;refine⟨_,hr5.1.cell (i:=3) rfl,_,hr5.1.cell (i:=4) rfl,MN hr5 fun q c w9 hE9 hf9=>⟨_,_,_,_,rfl,hE9.keep _,al rfl ⟨_,(hr5.1.ext hE9).drew.cell (i:=3) rfl,_,(hr5.1.ext hE9).drew.cell (i:=4) rfl,fun k5 hk5 w11 hL11=>?_⟩⟩⟩;have s9:=hE9.size;have s9':w9.drew.heap.size=w9.heap.size:=rfl;obtain⟨S,g1,g2,g3⟩:=hf9.own;obtain⟨bq,rest,b1,rfl,b3⟩:=dA.block g3 (by decide)
 have b4:=g1 bq b1;have b5:bq<w9.heap.size:=b3.lt;have hC9:Cs w9.drew k2 [.slice (some ⟨k6,0,none⟩) 12 12,aa 10,aa 5,aa 1,aa 1,aa 255]:=(hr5.1.ext hE9).drew;have hC11:=hC9.locl hL11 (by simp;omega)
 have hQ11:=b3.drew.locl hL11 (by simp;omega)
 have hE9':Ext w w9.drew:=(hE5.trans hE9).drew;have hE11:Ext w w11:=hE9'.step hL11.chg fun b hb=>by
  simp only[I_,H_,or_false]at hb;omega
 have s11:=hL11.size;have t5:=hL11.there k5 (by simp)
 generalize hcl:([.slice (some ⟨k6,0,none⟩) 12 12,aa 10,aa 5,aa 1,aa 1,aa 255]:List D_)=fields at hC11;have hf11:Fg [k5,k1,k2,bq] w w11 1 none 0 0 []:=⟨hE11,⟨fun _=>False,fun _ h=>h.elim,fun _ _=>id,dA.nil _ _ _⟩,fun b hb=>by
  simp only[I_,H_,or_false]at hb;omega⟩
 have step:∀(u u1:C_) (q':Option E_) (ln cp kx tx ty:Nat) (xs:List Int) (vs0 vs1 vs2:List D_) (G:Option E_->Nat->Nat->C_->Prop),Fg [k5,k1,k2,bq] w u 1 q' ln cp (px xs)->Cs u k2 fields->Cs u bq ([aa 255]++rest)->u.heap.size<=kx->Locl [kx,k5,k1] u u1->ln<=10->
   (∀q'' c'' u2 u3,Fg [k5,k1,k2,bq] w u3 1 q'' (ln+1) c'' (px (xs++[65535]))->Cs u3 k2 fields->Cs u3 bq ([aa 255]++rest)->Locl [kx,k5,k1] u2 u3->G q'' (ln+1) c'' u3)->
   ay u1 [(tx,kx,vs0),(ty,k5,vs1),(4,k1,vs2)] q' ln cp 1 1 2 45 [au 0] [au 65535] fun q'' n'' c'' u2=>∀u3,Locl [kx,k5,k1] u2 u3->G q'' n'' c'' u3:=by
  intro u u1 q' ln cp kx tx ty xs vs0 vs1 vs2 G hf hC hQ hkx hL hln hG;have hav:=hf.avs;have v1:=hav k5 (by simp)
  have v2:=hav k1 (by simp)
  have v3:=hav k2 (by simp)
  have v4:=hav bq (by simp)
  have hf1:=hf.push hL (by simp;omega)
  have hC1:=hC.locl hL (by simp;omega)
  have hQ1:=hQ.locl hL (by simp;omega)
  refine hf1.app' (by simp[am]) rfl rfl (by omega) (by omega) fun q'' c'' u2 hf2 hk2 hs2 u3 hL3=>?_
  have hC2:=hC1.keep hk2 (by simp)
  have hQ2:=hQ1.keep hk2 (by simp)
  have hf3:=hf2.push hL3 (by simp)
  have hC3:=hC2.locl hL3 (by simp;omega)
  have hQ3:=hQ2.locl hL3 (by simp;omega)
  refine hG q'' c'' u2 u3 ?_ hC3 hQ3 hL3;have:=hf3.mono (bs:=[k5,k1,k2,bq]) (by simp)
  rw[Oz];exact this
 subst hcl;refine⟨_,hC11.cell (i:=3) rfl,_,hC11.cell (i:=4) rfl,fun vs u=>match vs with
  |[.int _ n,.int _ a,.int _ b,.slice q' ln cp]=>a=1/\b=1/\Cs u k2 [.slice (some ⟨k6,0,none⟩) 12 12,aa 10,aa 5,aa 1,aa 1,aa 255]/\Cs u bq ([aa 255]++rest)/\((n=0/\ln=0/\Fg [k5,k1,k2,bq] w u 1 q' 0 cp (px []))\/(n=1/\ln=4/\Fg [k5,k1,k2,bq] w u 1 q' 4 cp (px [65535,65535,65535,65535])))
  |_=>False,fun vs _=>match vs with|[.int _ n,_,_,_]=>(1-n).toNat|_=>0,⟨rfl,rfl,hC11,hQ11,.inl ⟨rfl,rfl,hf11⟩⟩,fun n a b p2 l6 c7 w12 hI=>?_⟩
 obtain⟨rfl,rfl,hC,hQ,hI⟩:=hI;rcases hI with⟨rfl,rfl,hf⟩|⟨rfl,rfl,hf⟩
 ·refine aY (by decide) ⟨fun vs u=>match vs with
  |[.int _ n,.int _ a,.int _ b,.slice q' ln cp]=>a=1/\b=1/\Cs u k2 [.slice (some ⟨k6,0,none⟩) 12 12,aa 10,aa 5,aa 1,aa 1,aa 255]/\Cs u bq ([aa 255]++rest)/\0<=n/\n<=3/\ln=n.toNat/\Fg [k5,k1,k2,bq] w u 1 q' ln cp (px (N_ n.toNat 65535))
  |_=>False,fun vs _=>match vs with|[.int _ n,_,_,_]=>(3-n).toNat|_=>0,⟨rfl,rfl,hC,hQ,by decide,by decide,rfl,hf⟩,fun n a b p3 l8 c9 w13 hI=>?_⟩
  obtain⟨rfl,rfl,hC,hQ,n0,n3,hl8,hf⟩:=hI;refine ak (fun hlt=>?_) (fun hge=>?_)
  ·have hlt:n<3:=by simpa using hlt
   refine⟨by decide,?_⟩
   have ei:A_.wrap (A_.wrap (1*0)+ad .rem .i64 n 1)=0:=by
    have:ad .rem .i64 n 1=0:=by simp only[ad];exact Int.tmod_one n
    rw[this];decide
   rw[ei];refine bo (by decide) (by decide) rfl ⟨_,hQ.cell (i:=0) rfl,fun vs u=>vs=[aa 255]/\u=w13,⟨_,hC.cell (i:=2) rfl,al (by decide) ⟨rfl,rfl⟩⟩,fun n19 w14 hI=>?_⟩
   obtain⟨hv,rfl⟩:=hI;simp only[L_,M_,true_and,and_true]at hv;subst hv;refine⟨_,hC.cell (i:=5) rfl,Dx _ _ _ _ (al (by decide) ⟨by decide,65535,0,rfl,(Ext.refl _).keep _,fun k10 hk10 w16 hL16=>?_⟩)⟩
   refine step w14 w16 p3 l8 c9 k10 _ _ _ _ _ _ _ hf hC hQ hk10 hL16 (by omega) fun q'' c'' u2 u3 hf3 hC3 hQ3 hL3=>?_
   rw[ai (x:=n+1)];refine⟨⟨rfl,rfl,hC3,hQ3,by omega,by omega,by omega,?_⟩,by show(3-(n+1)).toNat<(3-n).toNat;omega⟩
   rw[show(n+1).toNat=n.toNat+1 by omega,List.replicate_succ']
   exact hf3
  ·have hge:n=3:=by simp at hge;omega
   subst hge;subst hl8;intro k13 hk13 w19 hL19;refine step w13 w19 p3 _ c9 k13 _ _ _ _ _ _ _ hf hC hQ hk13 hL19 (by decide) fun q'' c'' u2 u3 hf3 hC3 hQ3 hL3=>?_
   have hn1:A_.wrap (0+1)=1:=by decide
   rw[hn1];exact⟨⟨rfl,rfl,hC3,hQ3,.inr ⟨rfl,rfl,hf3⟩⟩,by show(1-(1:Int)).toNat<(1-(0:Int)).toNat;decide⟩
 ·refine al (by decide) fun w22 hL22=>?_
  have hf22:=hf.push hL22 (by simp)
  exact hR p2 c7 w22 hf22.ext hf22.weak
theorem Ni(hT:zU w)(hR:∀w',Ext w w'->R (.returned (.bool true)) w'):G_ P 4 #[] w R:=by
 have hfl:ue 1 1 (65535,0,0,65535)=(1,1,[65535,0,0,65535],0):=by decide
 refine FM _ _ (Hj (c:=(65535,0,0,65535)) fun p1 l1 c1 w1 hf1=>?_);rw[hfl]at hf1⊢;have hl1:l1=4:=hf1.len;subst hl1;refine⟨_,_,_,_,_,_,rfl,fun k3 hk3 w2 hL2=>?_⟩;have hE1:=hf1.ext;have s1:=hE1.size;have hf2:=hf1.push hL2 (by simpa using hk3)
 have t3:=hL2.there k3 (by simp)
 refine KL ⟨hf2.sl,rfl⟩ (Fg.cap hf2) (hT.ext hf2.ext) fun kb rest w3 hE3 hkb hC3=>⟨_,_,_,_,rfl,hE3.keep _,fun k6 w4 hn=>?_⟩;obtain⟨t6,ht6⟩:=aK.cs hn;refine⟨_,t6,ht6,?_,fun w5 hM=>?_⟩
 ·have:=hn.1
  have:=hE3.size;simp;omega
 have e6:=hn.1;have s3:=hE3.size;have hE23:=hf2.ext.trans hE3;have hE4:=hE23.trans hn.ext;have hE5:Ext w w5:=hE4.step hM.put.chg fun b hb=>by
  have hb:b=k6:=hb;have:=hE23.size;omega
 have s5:w5.heap.size=w4.heap.size:=hM.put.size;have s4:=hn.size;have lt3:=hC3.lt;have hs4:Sl w4.heap.size w4 (some ⟨k6,0,none⟩) (bytes rB):=(aK.cs hn).sl (O_ _) hn.size;have hs5:=(NE hM hs4).up;have hC5:Cs w5 kb (bytes Kx++rest):=(hC3.ext hn.ext).put hM.put (by omega)
 refine KH hs5 fun q c w6 hE6 hf6=>⟨_,_,_,_,_,_,rfl,hE6.keep _,fun k9 hk9=>aY rfl fun w7 hL7=>?_⟩;have s6:=hE6.size;have hC7:=(hC5.ext hE6).locl hL7 (by simp;omega)
 have hf7:=(hf6.from hE5 (bs:=[k3]) (by simp;omega)).push hL7 (by simp;omega)
 refine⟨Kx,rfl,(hC7.sl (X_ _ _) hC7.lt).cells,?_⟩;exact aY (by decide+kernel) (hf7.sl.get (by decide) rfl (v:=au 65535) rfl fun a ha=>⟨65535,ha,hR w7 hf7.ext⟩)
def BR(x1 x2 x3:Int)(sa1:aj)(sl1 sc1:Nat)(w:C_)(R:bV):Prop:=
 ∀k1,w.heap.size<=k1->∀w1,Locl [k1] w w1->G_ P 31 #[.agg #[aa x1,aa x2,aa x3,.slice sa1 sl1 sc1]] w1 fun e1 w2=>∃c1,(e1=.returned (.bool c1))/\ao [k1] w1 w2/\ae (!c1) (R (aM #[.slice none 0 0,aa 170]) w2) (ae (decide (max x1 x2>4096)||decide (A_.wrap (x1*x2)>65536)) (R (aM #[.slice none 0 0,aa 11]) w2) (∀k2:Nat,∀w3,(aK w2 (K_ #[u8 255,u8 216] 5) k2 w3)->∀k3 w4,(aK w3 (K_ #[.slice none 0 0] 26) k3 w4)->(∃v1,w4.cell? {block:=k3,off:=0}=some v1)/\(w4.frozen? {block:=k3,off:=0}=false)/\(¬k3∈[k1])/\∀k4 w5,(aK (ab w4 {block:=k3,off:=0} [.slice (some {block:=k2,off:=0}) 2 2] 0) (K_ #[u8 8,u8 (B_.wrap (an .shr .i64 x2 8)),u8 (B_.wrap x2),u8 (B_.wrap (an .shr .i64 x1 8)),u8 (B_.wrap x1),u8 (B_.wrap (sl1:Int))] 5) k4 w5)->∀k5 w6,(aK w5 (K_ #[u8 (B_.wrap (sl1:Int))] 5) k5 w6)->G_ P 32 #[] w6 fun e2 w7=>∃p1 k6 k7,(e2=.returned (.slice p1 k6 k7))/\ao [k1] w6 w7/\∃(I1:aw) (m1:List D_->C_->Nat),(I1 [.slice (some {block:=k4,off:=0}) 6 6,.slice (some {block:=k5,off:=0}) 1 1,aa 0] w7)/\∀p2 k8 k9 p3 k10 k11 n1 w8,(I1 [.slice p2 k8 k9,.slice p3 k10 k11,aa n1] w8)->ae (decide (n1<(sl1:Int))) (aq (sa1) (sl1) (n1) (4) fun a1=>∃(n2 n3:Int) (p4:aj) (k12 k13:Nat) (p5:aj) (k14 k15:Nat),(w8.cell? a1=some (aa n2))/\(w8.cell? (a1.add 1)=some (aa n3))/\(w8.cell? (a1.add 2)=some (.slice p4 k12 k13))/\(w8.cell? (a1.add 3)=some (.slice p5 k14 k15))/\∀k16,w8.heap.size<=k16->∀w9,Locl [k16,k1] w8 w9->∀k17 w10,(aK w9 (K_ #[u8 (B_.wrap n1)] 5) k17 w10)->∃(I2:aw) (m2:List D_->C_->Nat),(I2 [.slice (some {block:=k17,off:=0}) 1 1,aa 0] w10)/\∀p6 k18 k19 n4 w11,(I2 [.slice p6 k18 k19,aa n4] w11)->ae (decide (n4<(k6:Int))) (aq (p1) (k6) (n4) (1) fun a2=>∃n5,(w11.cell? a2=some (aa n5))/\aq (p4) (k12) (n5) (1) fun a3=>∃n6,(w11.cell? a3=some (aa n6))/\∀k20,w11.heap.size<=k20->∀w12,Locl [k20,k16,k1] w11 w12->ay (w12) ([(83,k20,[u8 (B_.wrap n6)]),(9,k16,[aa n2,aa n3,.slice p4 k12 k13,.slice p5 k14 k15]),(1,k1,[aa x1,aa x2,aa x3,.slice sa1 sl1 sc1])]) (p6) (k18) (k19) (1) (1) (1) (5) ([u8 0]) ([u8 (B_.wrap n6)]) fun p7 k21 k22 w13=>(I2 [.slice p7 k21 k22,aa (A_.wrap (n4+1))] w13)/\m2 [.slice p7 k21 k22,aa (A_.wrap (n4+1))] w13<m2 [.slice p6 k18 k19,aa n4] w11) (∃I3:aw,((∃p8:aj,∃k23 k24,(w11.drew.cell? {block:=k3,off:=0}=some (.slice p8 k23 k24))/\G_ P 33 #[u8 219,.slice p6 k18 k19] (w11.drew) fun e3 w14=>∃p9 k25 k26,(e3=.returned (.slice p9 k25 k26))/\(ao ([k16,k1]) (w11.drew) w14)/\∃l1:List D_,(l1.length=k25*1)/\(aN l1=true)/\(aV w14 p9 l1)/\ay (w14) ([(9,k16,[aa n2,aa n3,.slice p4 k12 k13,.slice p5 k14 k15]),(1,k1,[aa x1,aa x2,aa x3,.slice sa1 sl1 sc1])]) (p8) (k23) (k24) (k25) (1) (1) (5) ([u8 0]) (l1) fun p10 k27 k28 w15=>(∃v2,w15.cell? {block:=k3,off:=0}=some v2)/\(w15.frozen? {block:=k3,off:=0}=false)/\(¬k3∈[k16,k1])/\I3 [] (ab w15 {block:=k3,off:=0} [.slice p10 k27 k28] 0))/\G_ P 33 #[u8 219,.slice p6 k18 k19] (w11.drew) fun e4 w16=>∃p11 k29 k30,(e4=.returned (.slice p11 k29 k30))/\(ao ([k16,k1]) (w11.drew) w16)/\∃p12 k31 k32,(w16.cell? {block:=k3,off:=0}=some (.slice p12 k31 k32))/\∃l2:List D_,(l2.length=k29*1)/\(aN l2=true)/\(aV w16 p11 l2)/\ay (w16) ([(9,k16,[aa n2,aa n3,.slice p4 k12 k13,.slice p5 k14 k15]),(1,k1,[aa x1,aa x2,aa x3,.slice sa1 sl1 sc1])]) (p12) (k31) (k32) (k29) (1) (1) (5) ([u8 0]) (l2) fun p13 k33 k34 w17=>(∃v3,w17.cell? {block:=k3,off:=0}=some v3)/\(w17.frozen? {block:=k3,off:=0}=false)/\(¬k3∈[k16,k1])/\I3 [] (ab w17 {block:=k3,off:=0} [.slice p13 k33 k34] 0))/\∀w18,(I3 [] w18)->∀k35,w18.heap.size<=k35->∀w19,Locl [k35,k16,k1] w18 w19->ay (w19) ([(103,k35,[u8 (B_.wrap (A_.wrap (n1+1))),u8 (B_.wrap (A_.wrap (aR .or .i64 (an .shl .i64 n2 4) n3))),u8 (B_.wrap n1)]),(9,k16,[aa n2,aa n3,.slice p4 k12 k13,.slice p5 k14 k15]),(1,k1,[aa x1,aa x2,aa x3,.slice sa1 sl1 sc1])]) (p2) (k8) (k9) (3) (1) (1) (5) ([u8 0]) ([u8 (B_.wrap (A_.wrap (n1+1))),u8 (B_.wrap (A_.wrap (aR .or .i64 (an .shl .i64 n2 4) n3))),u8 (B_.wrap n1)]) fun p14 k36 k37 w20=>∀k38,w20.heap.size<=k38->∀w21,Locl [k38,k35,k16,k1] w20 w21->ay (w21) ([(109,k38,[u8 (B_.wrap (A_.wrap (n1+1))),u8 0]),(103,k35,[u8 (B_.wrap (A_.wrap (n1+1))),u8 (B_.wrap (A_.wrap (aR .or .i64 (an .shl .i64 n2 4) n3))),u8 (B_.wrap n1)]),(9,k16,[aa n2,aa n3,.slice p4 k12 k13,.slice p5 k14 k15]),(1,k1,[aa x1,aa x2,aa x3,.slice sa1 sl1 sc1])]) (p3) (k10) (k11) (2) (1) (1) (5) ([u8 0]) ([u8 (B_.wrap (A_.wrap (n1+1))),u8 0]) fun p15 k39 k40 w22=>(I1 [.slice p14 k36 k37,.slice p15 k39 k40,aa (A_.wrap (n1+1))] w22)/\m1 [.slice p14 k36 k37,.slice p15 k39 k40,aa (A_.wrap (n1+1))] w22<m1 [.slice p2 k8 k9,.slice p3 k10 k11,aa n1] w8)) (∃I4:aw,((∃p16:aj,∃k41 k42,(w8.drew.cell? {block:=k3,off:=0}=some (.slice p16 k41 k42))/\G_ P 33 #[u8 192,.slice p2 k8 k9] (w8.drew) fun e5 w23=>∃p17 k43 k44,(e5=.returned (.slice p17 k43 k44))/\(ao ([k1]) (w8.drew) w23)/\∃l3:List D_,(l3.length=k43*1)/\(aN l3=true)/\(aV w23 p17 l3)/\ay (w23) ([(1,k1,[aa x1,aa x2,aa x3,.slice sa1 sl1 sc1])]) (p16) (k41) (k42) (k43) (1) (1) (5) ([u8 0]) (l3) fun p18 k45 k46 w24=>(∃v4,w24.cell? {block:=k3,off:=0}=some v4)/\(w24.frozen? {block:=k3,off:=0}=false)/\(¬k3∈[k1])/\I4 [] (ab w24 {block:=k3,off:=0} [.slice p18 k45 k46] 0))/\G_ P 33 #[u8 192,.slice p2 k8 k9] (w8.drew) fun e6 w25=>∃p19 k47 k48,(e6=.returned (.slice p19 k47 k48))/\(ao ([k1]) (w8.drew) w25)/\∃p20 k49 k50,(w25.cell? {block:=k3,off:=0}=some (.slice p20 k49 k50))/\∃l4:List D_,(l4.length=k47*1)/\(aN l4=true)/\(aV w25 p19 l4)/\ay (w25) ([(1,k1,[aa x1,aa x2,aa x3,.slice sa1 sl1 sc1])]) (p20) (k49) (k50) (k47) (1) (1) (5) ([u8 0]) (l4) fun p21 k51 k52 w26=>(∃v5,w26.cell? {block:=k3,off:=0}=some v5)/\(w26.frozen? {block:=k3,off:=0}=false)/\(¬k3∈[k1])/\I4 [] (ab w26 {block:=k3,off:=0} [.slice p21 k51 k52] 0))/\∀w27,(I4 [] w27)->∃I5:aw,(ae (decide (x3>0)) ((∃p22:aj,∃k53 k54,(w27.drew.cell? {block:=k3,off:=0}=some (.slice p22 k53 k54))/\∀k55 w28,(aK (w27.drew) (K_ #[u8 (B_.wrap (an .shr .i64 x3 8)),u8 (B_.wrap x3)] 5) k55 w28)->G_ P 33 #[u8 221,.slice (some {block:=k55,off:=0}) 2 2] w28 fun e7 w29=>∃p23 k56 k57,(e7=.returned (.slice p23 k56 k57))/\ao [k1] w28 w29/\∃l5:List D_,(l5.length=k56*1)/\(aN l5=true)/\(aV w29 p23 l5)/\ay (w29) ([(1,k1,[aa x1,aa x2,aa x3,.slice sa1 sl1 sc1])]) (p22) (k53) (k54) (k56) (1) (1) (5) ([u8 0]) (l5) fun p24 k58 k59 w30=>(∃v6,w30.cell? {block:=k3,off:=0}=some v6)/\(w30.frozen? {block:=k3,off:=0}=false)/\(¬k3∈[k1])/\I5 [] (ab w30 {block:=k3,off:=0} [.slice p24 k58 k59] 0))/\∀k60 w31,(aK (w27.drew) (K_ #[u8 (B_.wrap (an .shr .i64 x3 8)),u8 (B_.wrap x3)] 5) k60 w31)->(∃p25:aj,∃k61 k62,(w31.cell? {block:=k3,off:=0}=some (.slice p25 k61 k62))/\G_ P 33 #[u8 221,.slice (some {block:=k60,off:=0}) 2 2] w31 fun e8 w32=>∃p26 k63 k64,(e8=.returned (.slice p26 k63 k64))/\ao [k1] w31 w32/\∃l6:List D_,(l6.length=k63*1)/\(aN l6=true)/\(aV w32 p26 l6)/\ay (w32) ([(1,k1,[aa x1,aa x2,aa x3,.slice sa1 sl1 sc1])]) (p25) (k61) (k62) (k63) (1) (1) (5) ([u8 0]) (l6) fun p27 k65 k66 w33=>(∃v7,w33.cell? {block:=k3,off:=0}=some v7)/\(w33.frozen? {block:=k3,off:=0}=false)/\(¬k3∈[k1])/\I5 [] (ab w33 {block:=k3,off:=0} [.slice p27 k65 k66] 0))/\G_ P 33 #[u8 221,.slice (some {block:=k60,off:=0}) 2 2] w31 fun e9 w34=>∃p28 k67 k68,(e9=.returned (.slice p28 k67 k68))/\ao [k1] w31 w34/\∃p29 k69 k70,(w34.cell? {block:=k3,off:=0}=some (.slice p29 k69 k70))/\∃l7:List D_,(l7.length=k67*1)/\(aN l7=true)/\(aV w34 p28 l7)/\ay (w34) ([(1,k1,[aa x1,aa x2,aa x3,.slice sa1 sl1 sc1])]) (p29) (k69) (k70) (k67) (1) (1) (5) ([u8 0]) (l7) fun p30 k71 k72 w35=>(∃v8,w35.cell? {block:=k3,off:=0}=some v8)/\(w35.frozen? {block:=k3,off:=0}=false)/\(¬k3∈[k1])/\I5 [] (ab w35 {block:=k3,off:=0} [.slice p30 k71 k72] 0)) (I5 [] w27))/\∀w36,(I5 [] w36)->∀(k73:Nat) (w37:C_),(aK w36 (K_ #[aa 0,aa 0,aa 0,aa 0,aa 0,aa 0,aa 0,aa 0,aa 0,aa 0,aa 0,aa 0,aa 0,aa 0,aa 0,aa 0,aa 0,aa 0,aa 0,aa 0,aa 0,aa 0,aa 0,aa 0,aa 0,aa 0,aa 0,aa 0,aa 0,aa 0,aa 0,aa 0,aa 0,aa 0,aa 0,aa 0,aa 0,aa 0,aa 0,aa 0,aa 0,aa 0,aa 0,aa 0,aa 0,aa 0,aa 0,aa 0,aa 0,aa 0,aa 0,aa 0,aa 0,aa 0,aa 0,aa 0,aa 0,aa 0,aa 0,aa 0,aa 0,aa 0,aa 0,aa 0,aa 0,aa 0,aa 0,aa 0,aa 0,aa 0,aa 0,aa 0,aa 0,aa 0,aa 0,aa 0,aa 0,aa 0,aa 0,aa 0,aa 0,aa 0,aa 0,aa 0,aa 0,aa 0,aa 0,aa 0,aa 0,aa 0,aa 0,aa 0,aa 0,aa 0,aa 0,aa 0,aa 0,aa 0,aa 0,aa 0,aa 0,aa 0,aa 0,aa 0,aa 0,aa 0,aa 0,aa 0,aa 0,aa 0,aa 0,aa 0,aa 0,aa 0,aa 0,aa 0,aa 0,aa 0,aa 0,aa 0,aa 0,aa 0,aa 0,aa 0,aa 0,aa 0,aa 0,aa 0,aa 0,aa 0,aa 0,aa 0,aa 0,aa 0,aa 0,aa 0,aa 0,aa 0,aa 0,aa 0,aa 0,aa 0,aa 0,aa 0,aa 0,aa 0,aa 0,aa 0,aa 0,aa 0,aa 0,aa 0,aa 0,aa 0,aa 0,aa 0,aa 0,aa 0,aa 0,aa 0,aa 0,aa 0,aa 0,aa 0,aa 0,aa 0,aa 0,aa 0,aa 0,aa 0,aa 0,aa 0,aa 0,aa 0,aa 0,aa 0,aa 0,aa 0,aa 0,aa 0,aa 0,aa 0,aa 0,aa 0,aa 0,aa 0,aa 0,aa 0,aa 0,aa 0,aa 0,aa 0,aa 0,aa 0,aa 0,aa 0,aa 0,aa 0,aa 0,aa 0,aa 0,aa 0,aa 0,aa 0,aa 0,aa 0,aa 0,aa 0,aa 0,aa 0,aa 0,aa 0,aa 0,aa 0,aa 0,aa 0,aa 0,aa 0,aa 0,aa 0,aa 0,aa 0,aa 0,aa 0,aa 0,aa 0,aa 0,aa 0,aa 0,aa 0,aa 0,aa 0,aa 0,aa 0,aa 0,aa 0,aa 0,aa 0,aa 0,aa 0,aa 0,aa 0,aa 0,aa 0,aa 0,aa 0,aa 0,aa 0,aa 0,aa 0,aa 0,aa 0,aa 0,aa 0,aa 0,aa 0,aa 0,aa 0,aa 0,aa 0,aa 0,aa 0,aa 0,aa 0,aa 0,aa 0,aa 0,aa 0,aa 0,aa 0,aa 0,aa 0,aa 0,aa 0,aa 0,aa 0,aa 0,aa 0,aa 0,aa 0,aa 0,aa 0,aa 0,aa 0,aa 0,aa 0,aa 0,aa 0,aa 0,aa 0,aa 0,aa 0,aa 0,aa 0,aa 0,aa 0,aa 0,aa 0,aa 0,aa 0,aa 0,aa 0,aa 0,aa 0,aa 0,aa 0,aa 0,aa 0,aa 0,aa 0,aa 0,aa 0,aa 0,aa 0,aa 0,aa 0,aa 0,aa 0,aa 0,aa 0,aa 0,aa 0,aa 0,aa 0,aa 0,aa 0,aa 0,aa 0,aa 0,aa 0,aa 0,aa 0,aa 0,aa 0,aa 0,aa 0,aa 0,aa 0,aa 0,aa 0,aa 0,aa 0,aa 0,aa 0,aa 0,aa 0,aa 0,aa 0,aa 0,aa 0,aa 0,aa 0,aa 0,aa 0,aa 0,aa 0,aa 0,aa 0,aa 0,aa 0,aa 0,aa 0,aa 0,aa 0,aa 0,aa 0,aa 0,aa 0,aa 0,aa 0,aa 0,aa 0,aa 0,aa 0,aa 0,aa 0,aa 0,aa 0,aa 0,aa 0,aa 0,aa 0,aa 0,aa 0,aa 0,aa 0,aa 0,aa 0,aa 0,aa 0,aa 0,aa 0,aa 0,aa 0,aa 0,aa 0,aa 0,aa 0,aa 0,aa 0,aa 0,aa 0,aa 0,aa 0,aa 0,aa 0,aa 0,aa 0,aa 0,aa 0,aa 0,aa 0,aa 0,aa 0,aa 0,aa 0,aa 0,aa 0,aa 0,aa 0,aa 0,aa 0,aa 0,aa 0,aa 0,aa 0,aa 0,aa 0,aa 0,aa 0,aa 0,aa 0,aa 0,aa 0,aa 0,aa 0,aa 0,aa 0,aa 0,aa 0,aa 0,aa 0,aa 0,aa 0,aa 0,aa 0,aa 0,aa 0,aa 0,aa 0,aa 0,aa 0,aa 0,aa 0,aa 0,aa 0,aa 0,aa 0,aa 0,aa 0,aa 0,aa 0,aa 0,aa 0,aa 0,aa 0,aa 0,aa 0,aa 0,aa 0,aa 0,aa 0,aa 0,aa 0,aa 0,aa 0,aa 0,aa 0,aa 0,aa 0,aa 0,aa 0,aa 0,aa 0,aa 0,aa 0,aa 0,aa 0,aa 0,aa 0,aa 0,aa 0,aa 0,aa 0,aa 0,aa 0,aa 0,aa 0,aa 0,aa 0,aa 0,aa 0,aa 0,aa 0,aa 0,aa 0,aa 0,aa 0,aa 0,aa 0,aa 0,aa 0,.slice none 0 0,.slice none 0 0,.slice none 0 0,.slice none 0 0,.pointer none] 92) k73 w37)->∀k74 w38,(aK w37 (K_ #[.pointer none] 84) k74 w38)->(∃v9,w38.cell? {block:=k74,off:=0}=some v9)/\(w38.frozen? {block:=k74,off:=0}=false)/\(¬k74∈[k1])/\∃p31:aj,((ab w38 {block:=k74,off:=0} [.pointer (some {block:=k73,off:=0})] 0).cell? {block:=k74,off:=0}=some (.pointer p31))/\G_ P 34 #[.pointer p31,.agg #[aa x1,aa x2,aa x3,.slice sa1 sl1 sc1],.func (Fn.func 35) #[] #[]] (ab w38 {block:=k74,off:=0} [.pointer (some {block:=k73,off:=0})] 0) fun e10 w39=>(e10=.returned (.tuple #[]))/\(ao ([k1]) (ab w38 {block:=k74,off:=0} [.pointer (some {block:=k73,off:=0})] 0) w39)/\∃(I6:aw) (m3:List D_->C_->Nat),(I6 [aa 0] w39)/\∀n7 w40,(I6 [aa n7] w40)->ae (decide (n7<2)) (∃I7:aw,(∃p32,(w40.drew.cell? {block:=k74,off:=0}=some (.pointer p32))/\(∃p33:aj,∃k75 k76,(w40.drew.cell? {block:=k3,off:=0}=some (.slice p33 k75 k76))/\G_ P 36 #[.pointer p32,aa n7] (w40.drew) fun e11 w41=>∃p34 k77 k78,(e11=.returned (.slice p34 k77 k78))/\(ao ([k1]) (w40.drew) w41)/\G_ P 33 #[u8 196,.slice p34 k77 k78] w41 fun e12 w42=>∃p35 k79 k80,(e12=.returned (.slice p35 k79 k80))/\ao [k1] w41 w42/\∃l8:List D_,(l8.length=k79*1)/\(aN l8=true)/\(aV w42 p35 l8)/\ay (w42) ([(1,k1,[aa x1,aa x2,aa x3,.slice sa1 sl1 sc1])]) (p33) (k75) (k76) (k79) (1) (1) (5) ([u8 0]) (l8) fun p36 k81 k82 w43=>(∃v10,w43.cell? {block:=k3,off:=0}=some v10)/\(w43.frozen? {block:=k3,off:=0}=false)/\(¬k3∈[k1])/\I7 [] (ab w43 {block:=k3,off:=0} [.slice p36 k81 k82] 0))/\G_ P 36 #[.pointer p32,aa n7] (w40.drew) fun e13 w44=>∃p37 k83 k84,(e13=.returned (.slice p37 k83 k84))/\(ao ([k1]) (w40.drew) w44)/\(∃p38:aj,∃k85 k86,(w44.cell? {block:=k3,off:=0}=some (.slice p38 k85 k86))/\G_ P 33 #[u8 196,.slice p37 k83 k84] w44 fun e14 w45=>∃p39 k87 k88,(e14=.returned (.slice p39 k87 k88))/\ao [k1] w44 w45/\∃l9:List D_,(l9.length=k87*1)/\(aN l9=true)/\(aV w45 p39 l9)/\ay (w45) ([(1,k1,[aa x1,aa x2,aa x3,.slice sa1 sl1 sc1])]) (p38) (k85) (k86) (k87) (1) (1) (5) ([u8 0]) (l9) fun p40 k89 k90 w46=>(∃v11,w46.cell? {block:=k3,off:=0}=some v11)/\(w46.frozen? {block:=k3,off:=0}=false)/\(¬k3∈[k1])/\I7 [] (ab w46 {block:=k3,off:=0} [.slice p40 k89 k90] 0))/\G_ P 33 #[u8 196,.slice p37 k83 k84] w44 fun e15 w47=>∃p41 k91 k92,(e15=.returned (.slice p41 k91 k92))/\ao [k1] w44 w47/\∃p42 k93 k94,(w47.cell? {block:=k3,off:=0}=some (.slice p42 k93 k94))/\∃l10:List D_,(l10.length=k91*1)/\(aN l10=true)/\(aV w47 p41 l10)/\ay (w47) ([(1,k1,[aa x1,aa x2,aa x3,.slice sa1 sl1 sc1])]) (p42) (k93) (k94) (k91) (1) (1) (5) ([u8 0]) (l10) fun p43 k95 k96 w48=>(∃v12,w48.cell? {block:=k3,off:=0}=some v12)/\(w48.frozen? {block:=k3,off:=0}=false)/\(¬k3∈[k1])/\I7 [] (ab w48 {block:=k3,off:=0} [.slice p43 k95 k96] 0))/\∀w49,(I7 [] w49)->(I6 [aa (A_.wrap (n7+1))] w49)/\m3 [aa (A_.wrap (n7+1))] w49<m3 [aa n7] w40) (∃I8:aw,((∃p44:aj,∃k97 k98,(w40.drew.cell? {block:=k3,off:=0}=some (.slice p44 k97 k98))/\∀k99,(w40.drew.heap.size<=k99)->∀w50:C_,(Locl ([k99,k1]) (w40.drew) w50)->ay (w50) ([(147,k99,[u8 0,u8 63,u8 0]),(1,k1,[aa x1,aa x2,aa x3,.slice sa1 sl1 sc1])]) (p3) (k10) (k11) (3) (1) (1) (5) ([u8 0]) ([u8 0,u8 63,u8 0]) fun p45 k100 k101 w51=>G_ P 33 #[u8 218,.slice p45 k100 k101] w51 fun e16 w52=>∃p46 k102 k103,(e16=.returned (.slice p46 k102 k103))/\ao [k99,k1] w51 w52/\∃l11:List D_,(l11.length=k102*1)/\(aN l11=true)/\(aV w52 p46 l11)/\ay (w52) ([(147,k99,[u8 0,u8 63,u8 0]),(1,k1,[aa x1,aa x2,aa x3,.slice sa1 sl1 sc1])]) (p44) (k97) (k98) (k102) (1) (1) (5) ([u8 0]) (l11) fun p47 k104 k105 w53=>(∃v13,w53.cell? {block:=k3,off:=0}=some v13)/\(w53.frozen? {block:=k3,off:=0}=false)/\(¬k3∈[k99,k1])/\I8 [] (ab w53 {block:=k3,off:=0} [.slice p47 k104 k105] 0))/\∀k106,(w40.drew.heap.size<=k106)->(∀w54:C_,(Locl ([k106,k1]) (w40.drew) w54)->∃p48 k107 k108,(w54.cell? {block:=k3,off:=0}=some (.slice p48 k107 k108))/\ay (w54) ([(147,k106,[u8 0,u8 63,u8 0]),(1,k1,[aa x1,aa x2,aa x3,.slice sa1 sl1 sc1])]) (p3) (k10) (k11) (3) (1) (1) (5) ([u8 0]) ([u8 0,u8 63,u8 0]) fun p49 k109 k110 w55=>G_ P 33 #[u8 218,.slice p49 k109 k110] w55 fun e17 w56=>∃p50 k111 k112,(e17=.returned (.slice p50 k111 k112))/\ao [k106,k1] w55 w56/\∃l12:List D_,(l12.length=k111*1)/\(aN l12=true)/\(aV w56 p50 l12)/\ay (w56) ([(147,k106,[u8 0,u8 63,u8 0]),(1,k1,[aa x1,aa x2,aa x3,.slice sa1 sl1 sc1])]) (p48) (k107) (k108) (k111) (1) (1) (5) ([u8 0]) (l12) fun p51 k113 k114 w57=>(∃v14,w57.cell? {block:=k3,off:=0}=some v14)/\(w57.frozen? {block:=k3,off:=0}=false)/\(¬k3∈[k106,k1])/\I8 [] (ab w57 {block:=k3,off:=0} [.slice p51 k113 k114] 0))/\∀w58:C_,(Locl ([k106,k1]) (w40.drew) w58)->ay (w58) ([(147,k106,[u8 0,u8 63,u8 0]),(1,k1,[aa x1,aa x2,aa x3,.slice sa1 sl1 sc1])]) (p3) (k10) (k11) (3) (1) (1) (5) ([u8 0]) ([u8 0,u8 63,u8 0]) fun p52 k115 k116 w59=>(∃p53:aj,∃k117 k118,(w59.cell? {block:=k3,off:=0}=some (.slice p53 k117 k118))/\G_ P 33 #[u8 218,.slice p52 k115 k116] w59 fun e18 w60=>∃p54 k119 k120,(e18=.returned (.slice p54 k119 k120))/\ao [k106,k1] w59 w60/\∃l13:List D_,(l13.length=k119*1)/\(aN l13=true)/\(aV w60 p54 l13)/\ay (w60) ([(147,k106,[u8 0,u8 63,u8 0]),(1,k1,[aa x1,aa x2,aa x3,.slice sa1 sl1 sc1])]) (p53) (k117) (k118) (k119) (1) (1) (5) ([u8 0]) (l13) fun p55 k121 k122 w61=>(∃v15,w61.cell? {block:=k3,off:=0}=some v15)/\(w61.frozen? {block:=k3,off:=0}=false)/\(¬k3∈[k106,k1])/\I8 [] (ab w61 {block:=k3,off:=0} [.slice p55 k121 k122] 0))/\G_ P 33 #[u8 218,.slice p52 k115 k116] w59 fun e19 w62=>∃p56 k123 k124,(e19=.returned (.slice p56 k123 k124))/\ao [k106,k1] w59 w62/\∃p57 k125 k126,(w62.cell? {block:=k3,off:=0}=some (.slice p57 k125 k126))/\∃l14:List D_,(l14.length=k123*1)/\(aN l14=true)/\(aV w62 p56 l14)/\ay (w62) ([(147,k106,[u8 0,u8 63,u8 0]),(1,k1,[aa x1,aa x2,aa x3,.slice sa1 sl1 sc1])]) (p57) (k125) (k126) (k123) (1) (1) (5) ([u8 0]) (l14) fun p58 k127 k128 w63=>(∃v16,w63.cell? {block:=k3,off:=0}=some v16)/\(w63.frozen? {block:=k3,off:=0}=false)/\(¬k3∈[k106,k1])/\I8 [] (ab w63 {block:=k3,off:=0} [.slice p58 k127 k128] 0))/\∀ai,(I8 [] ai)->∃I9:aw,((∃p59,(ai.drew.cell? {block:=k74,off:=0}=some (.pointer p59))/\G_ P 37 #[.bool true] (ai.drew) fun e20 w65=>∃p60,(e20=.returned (.pointer p60))/\(ao ([k1]) (ai.drew) w65)/\nn (p59) fun a4=>(∃v17,w65.cell? (a4.add 516)=some v17)/\(w65.frozen? (a4.add 516)=false)/\(¬(a4.add 516).block∈[k1])/\I9 [] (ab w65 (a4.add 516) [.pointer p60] 0))/\G_ P 37 #[.bool true] (ai.drew) fun e21 w66=>∃p61,(e21=.returned (.pointer p61))/\(ao ([k1]) (ai.drew) w66)/\∃p62,(w66.cell? {block:=k74,off:=0}=some (.pointer p62))/\nn (p62) fun a5=>(∃v18,w66.cell? (a5.add 516)=some v18)/\(w66.frozen? (a5.add 516)=false)/\(¬(a5.add 516).block∈[k1])/\I9 [] (ab w66 (a5.add 516) [.pointer p61] 0))/\∀w67,(I9 [] w67)->∀k129 w68,(aK w67 (K_ #[D_.nilFunc] 1) k129 w68)->(∃v19,w68.cell? {block:=k129,off:=0}=some v19)/\(w68.frozen? {block:=k129,off:=0}=false)/\(¬k129∈[k1])/\∃p63:aj,((ab w68 {block:=k129,off:=0} [.func (Fn.func 38) #[] #[.pointer (some {block:=k74,off:=0}),.pointer (some {block:=k3,off:=0})]] 0).cell? {block:=k74,off:=0}=some (.pointer p63))/\G_ P 34 #[.pointer p63,.agg #[aa x1,aa x2,aa x3,.slice sa1 sl1 sc1],.func (Fn.func 43) #[] #[.pointer (some {block:=k129,off:=0}),.pointer (some {block:=k3,off:=0})]] (ab w68 {block:=k129,off:=0} [.func (Fn.func 38) #[] #[.pointer (some {block:=k74,off:=0}),.pointer (some {block:=k3,off:=0})]] 0) fun e22 w69=>(e22=.returned (.tuple #[]))/\(ao ([k1]) (ab w68 {block:=k129,off:=0} [.func (Fn.func 38) #[] #[.pointer (some {block:=k74,off:=0}),.pointer (some {block:=k3,off:=0})]] 0) w69)/\∃(y1:FuncId) (y2 y3:Array D_),(w69.cell? {block:=k129,off:=0}=some (.func (Fn.func y1) y2 y3))/\dO P (.func (Fn.func y1) y2 y3) [] w69 fun e23 w70=>(e23=.returned (.tuple #[]))/\ao [k1] w69 w70/\∃p64 k130 k131,(w70.cell? {block:=k3,off:=0}=some (.slice p64 k130 k131))/\∀k132,w70.heap.size<=k132->∀w71,Locl [k132,k1] w70 w71->ay (w71) ([(163,k132,[u8 255,u8 217]),(1,k1,[aa x1,aa x2,aa x3,.slice sa1 sl1 sc1])]) (p64) (k130) (k131) (2) (1) (1) (5) ([u8 0]) ([u8 255,u8 217]) fun p65 k133 k134 w72=>R (aM #[.slice p65 k133 k134,aa 0]) w72))))
theorem xK(x1 x2 x3:Int)(sa1:aj)(sl1 sc1:Nat)(w:C_)(R:bV)(h:BR x1 x2 x3 sa1 sl1 sc1 w R):G_ P 10 #[.agg #[aa x1,aa x2,aa x3,.slice sa1 sl1 sc1]] w R:=
  aF (ac:=Cb) Tryz.func10 h
theorem KY:∀(l:List Int) (run:Nat),l≠[]\/0<run->cJ l run≠[]
 |[],run,h=>by
  unfold cJ;rcases h with h|h
  ·exact(h rfl).elim
  ·rw[if_pos h];simp
 |x::r,run,_=>by
  unfold cJ
  split
  ·exact KY r (run+1) (.inr (by omega))
  ·simp
theorem M5{bl:Nat->Nat->List Int}(h:C8 bl){ah:List Int}{Ss:List (Nat×Nat)}(hne:Ss≠[]):(∃x,x∈(bh bl ah Ss).1/\x.1=0)/\∃x,x∈(bh bl ah Ss).1/\x.1=1:=by
 cases Ss with
 |nil=>exact(hne rfl).elim
 |cons y Ss=>
  have e:(bh bl ah (y::Ss)).1=kD bl ah y++(bh bl (ah.set y.1 ((bl y.1 y.2).getD 0 0)) Ss).1:=rfl;rw[e];refine⟨⟨(0,(fw (ah.getD y.1 0) (bl y.1 y.2)).1),Z_ _ (by unfold kD;simp),rfl⟩,?_⟩
  have hl:=h.len y.1 y.2;have hn:=KY ((bl y.1 y.2).drop 1) 0 (.inl fun e=>by
   have:=congrArg List.length e;rw[Y_,hl]at this;simp at this)
  have hb2:(fw (ah.getD y.1 0) (bl y.1 y.2)).2=cJ ((bl y.1 y.2).drop 1) 0:=rfl;cases hS:cJ ((bl y.1 y.2).drop 1) 0 with
  |nil=>exact(hn hS).elim
  |cons z t=>
   refine⟨(1,z),Z_ _ ?_,rfl⟩;unfold kD;rw[hb2,hS];simp
theorem IP(h:n<256):B_.wrap ((n:Nat):Int)=n:=dj (k:=.u8) rfl (by omega) (by simp[F_.bits];omega)
theorem Py(h0:1<=x)(h:x<=255):B_.wrap x=x:=dj (k:=.u8) rfl (by omega) (by simp[F_.bits];omega)
theorem Pi{x:Nat}(h:x<=4096):B_.wrap (an .shr .i64 ((x:Nat):Int) 8)=((x/256:Nat):Int):=by
 rw[gm (by omega) (by omega) (by simp[F_.bits]),show(2:Int)^(Int.toNat 8)=256 from rfl]
 have:((x:Nat):Int)/256=((x/256:Nat):Int):=rfl;rw[this,IP (by omega)]
theorem Pj{x:Nat}(h:x<=4096):B_.wrap ((x:Nat):Int)=((x%256:Nat):Int):=by
 show((x:Nat):Int)%256=_
 rfl
theorem PA{h:Nat}(hh:h=1\/h=2):B_.wrap (A_.wrap (aR .or .i64 (an .shl .i64 ((h:Nat):Int) 4) ((h:Nat):Int)))=((17*h:Nat):Int):=by
 rcases hh with rfl|rfl<;>decide
def gJ(SE:List (Nat×bb))(wb:Option E_)(f:Nat->Nat)(u:C_):Nat->List D_->Prop
 |0,T=>T=[.slice none 0 0,.slice none 0 0,.slice none 0 0,.slice none 0 0,.pointer wb]
 |1,T=>∃l0 n0 c0 n2,T=[.slice l0 256 n0,.slice none 0 0,.slice c0 256 n2,.slice none 0 0,.pointer wb]/\aD (fun b=>f b=7) u l0 (ni (bw SE 0))/\aD (fun b=>f b=7) u c0 (uu (kG (bw SE 0)))
 |_,T=>∃l0 n0 c0 n2 l1 n1 c1 n3,T=[.slice l0 256 n0,.slice l1 256 n1,.slice c0 256 n2,.slice c1 256 n3,.pointer wb]/\aD (fun b=>f b=7) u l0 (ni (bw SE 0))/\aD (fun b=>f b=7) u c0 (uu (kG (bw SE 0)))/\aD (fun b=>f b=7) u l1 (ni (bw SE 1))/\aD (fun b=>f b=7) u c1 (uu (kG (bw SE 1)))
theorem gJ.kp{SE:List (Nat×bb)}{wb:Option E_}{f':Nat->Nat}{t:Nat}(h:gJ SE wb f u t T)(ht:t<=2)(k:fe f f' u u' 7):gJ SE wb f' u' t T:=by
 match t,ht with
 |0,_=>exact h
 |1,_=>
  obtain⟨l0,n0,c0,n2,e,h1,h2⟩:=h;exact⟨l0,n0,c0,n2,e,k _ _ h1,k _ _ h2⟩
 |2,_=>
  obtain⟨l0,n0,c0,n2,l1,n1,c1,n3,e,h1,h2,h3,h4⟩:=h;exact⟨l0,n0,c0,n2,l1,n1,c1,n3,e,k _ _ h1,k _ _ h2,k _ _ h3,k _ _ h4⟩
theorem gJ.len{SE:List (Nat×bb)}{wb:Option E_}{t:Nat}(h:gJ SE wb f u t T)(ht:t<=2):T.length=5:=by
 match t,ht with
 |0,_=>rw[show T=_ from h];rfl
 |1,_=>obtain⟨l0,n0,c0,n2,e,h1,h2⟩:=h;rw[e];rfl
 |2,_=>obtain⟨l0,n0,c0,n2,l1,n1,c1,n3,e,h1⟩:=h;rw[e];rfl
theorem gJ.more{SE:List (Nat×bb)}{wb:Option E_}{t:Nat}{b1 b2:Option E_}{c1 c2:Nat}(h:gJ SE wb f u t T)(ht:t<2)(h1:aD (fun b=>f b=7) u b1 (uu (kG (bw SE t))))(h2:aD (fun b=>f b=7) u b2 (ni (bw SE t))):
  gJ SE wb f u (t+1) ((T.set (2+t) (.slice b1 256 c1)).set t (.slice b2 256 c2)):=by
 have:t=0\/t=1:=by omega
 rcases this with e|e
 ·subst e
  unfold gJ at h;subst h;have e:∀a b c d x y z:D_,([a,b,c,d,z].set (2+0) x).set 0 y=[y,b,x,d,z]:=fun _ _ _ _ _ _ _=>rfl;rw[e];unfold gJ;exact⟨b2,c2,b1,c1,rfl,h2,h1⟩
 ·subst e
  unfold gJ at h;obtain⟨l0,n0,c0,n2,e,g1,g2⟩:=h;subst e;have e:∀a b c d x y z:D_,([a,b,c,d,z].set (2+1) x).set 1 y=[a,y,c,x,z]:=fun _ _ _ _ _ _ _=>rfl;rw[e];unfold gJ;exact⟨l0,n0,c0,n2,b2,c2,b1,c1,rfl,g1,g2,h2,h1⟩
def lk(SE:List (Nat×bb))(l0 l1 c0 c1:Option E_)(f:Nat->Nat)(u:C_):Prop:=aD (fun b=>f b=7) u l0 (ni (bw SE 0))/\aD (fun b=>f b=7) u c0 (uu (kG (bw SE 0)))/\aD (fun b=>f b=7) u l1 (ni (bw SE 1))/\aD (fun b=>f b=7) u c1 (uu (kG (bw SE 1)))
theorem lk.kp{SE:List (Nat×bb)}{l0 l1 c0 c1:Option E_}{f':Nat->Nat}(h:lk SE l0 l1 c0 c1 f u)(k:fe f f' u u' 7):lk SE l0 l1 c0 c1 f' u':=⟨k _ _ h.1,k _ _ h.2.1,k _ _ h.2.2.1,k _ _ h.2.2.2⟩
theorem bP.loclK{bs:List Nat}{k3:Nat}{op:Option E_}{oc:Nat}{ovs:List Int}{rest:List Tg}(h:bP w u f L k3 op oc ovs rest)(hL:Locl bs u u')(hb:∀b,b∈bs->b∈L\/u.heap.size<=b)(hi:i≠0):fe f (dz f u.heap.size 0) u u' i:=fe.of hL.chg fun b hb' hf hm=>by
 rcases hb b hm with h1|h1
 ·have:=(h.ths.pal.av b h1).2.2
  exact hi (hf.symm.trans this)
 ·omega
def lG(O2:List Int)(SE:List (Nat×bb))(t:Nat):List Int:=O2++(List.range t).flatMap fun t=>b9 196 (dL t (bw SE t))
theorem il(O2:List Int)(SE:List (Nat×bb))(t:Nat):lG O2 SE (t+1)=lG O2 SE t++b9 196 (dL t (bw SE t)):=by simp[lG,a_]
theorem mD{k3 k1:Nat}(h:k3∉L)(h1:k1∈L):¬k3∈[k1]:=fun hm=>by
 have hm:k3=k1:=by simpa using hm
 exact h (by rw[hm];exact h1)
theorem DA{k3 k1 k2:Nat}(h:k3∉L)(h2:k2∈L)(h1:k1∈L):¬k3∈[k2,k1]:=fun hm=>by
 have hm:k3=k2\/k3=k1:=by simpa using hm
 rcases hm with hm|hm
 ·exact h (by rw[hm];exact h2)
 ·exact h (by rw[hm];exact h1)
theorem Eo{c sub:Nat}{qf:Nat->List Int}{bf:Nat->Nat->List Int}(hJ:gD W H sub qf bf)(h:mi w p (iB W H sub qf bf))
 (hR:∀p' n c' w' L0 L1,Ext w w'->bM L0->bM L1->(∀x,x∈(bh (fun i k=>zz (bf i k)) (N_ (mU sub) 0) (bJ W sub (aJ W (nU sub)*aJ H (nU sub)))).1->1<=(if x.1=0 then L0 else L1).getD x.2.1 0)->
 aD (fun b=>w.heap.size<=b) w' p' (bytes (ll W H sub qf L0 L1 (bh (fun i k=>zz (bf i k)) (N_ (mU sub) 0) (bJ W sub (aJ W (nU sub)*aJ H (nU sub)))).1))->
 n=(ll W H sub qf L0 L1 (bh (fun i k=>zz (bf i k)) (N_ (mU sub) 0) (bJ W sub (aJ W (nU sub)*aJ H (nU sub)))).1).length->n<=c'->R (.returned (.tuple #[.slice p' n c',aa 0])) w'):
  G_ P 10 #[.agg #[aa (W:Nat),aa (H:Nat),aa 0,.slice p (mU sub) c]] w R:=by
 obtain⟨d1,d2,d3,d4,d5⟩:=hJ.dims;have hsub:=hJ.hsub;have hmU:=dM (sub:=sub);have hl:=iJ W H sub qf bf;refine xK _ _ _ _ _ _ _ _ ?_;intro k1 hk1 w1 hL1;have hE1:Ext w w1:=hL1.ext (by simpa using hk1)
 refine LG hJ (h.ext hE1) fun w2 hE2=>⟨_,rfl,hE2.keep _,al rfl (al ?_ ?_)⟩
 ·have e:A_.wrap (((W:Nat):Int)*((H:Nat):Int))=((W*H:Nat):Int):=by rw[<-Int.natCast_mul,wN]
  rw[e,decide_eq_false (by omega),decide_eq_false (by omega)];rfl
 intro k2 w3 hn3 k3 w4 hn4;have z1:=hL1.size;have t1:=hL1.there k1 (by simp)
 have z2:=hE2.size;have hE02:=hE1.trans hE2;have e3:=hn3.1;have s3:=hn3.size;have e4:=hn4.1;have s4:=hn4.size;refine⟨⟨_,hn4.cs.cell (i:=0) rfl⟩,hn4.cs.frozen 0,by simp;omega,?_⟩
 have T2:fM w w2 (fun _=>0) [k1] []:=⟨⟨hE02,fun b hb=>by
  have hb:b=k1:=by simpa using hb
  subst hb;exact⟨hk1,by omega,rfl⟩⟩,fun t ht=>by cases ht⟩
 have O3:=hn3.own (N:=w2.heap.size) (M:=w3.heap.size) (vs:=bytes [255,216]) (len:=2) (cap:=2) (sz:=1) (O_ _) rfl rfl (by omega) (by omega) (by omega)
 have T3:=T2.new hn3.ext (i:=1) (by omega) O3
 have O4:=hn4.own (N:=w3.heap.size) (M:=w4.heap.size) (vs:=[.slice none 0 0]) (len:=1) (cap:=1) (sz:=1) (O_ _) rfl rfl (by omega) (by omega) (by omega)
 have T4:=T3.new hn4.ext (i:=2) (by omega) O4
 have g4:=hn4.cs.set1 (off:=0) (v:=.slice (some ⟨k2,0,none⟩) 2 2) (by simp)
 have c4:=Chg.setCells w4 ⟨k3,0,none⟩ [.slice (some ⟨k2,0,none⟩) 2 2] 0;generalize hw4s:ab w4 ⟨k3,0,none⟩ [.slice (some ⟨k2,0,none⟩) 2 2] 0=u4 at*;have zu4:u4.heap.size=w4.heap.size:=by rw[<-hw4s];exact(bS _ _ _ _).size
 have hE4:Ext w u4:=(((hE02.trans hn3.ext).trans hn4.ext).step c4 fun b hb=>by have hb:b=k3:=hb;omega)
 have hlow:∀b,b<w.heap.size->dz (dz (fun _=>0) w2.heap.size 1) w3.heap.size 2 b=0:=fun b hb=>by
  have:=hn3.ext.size;rw[dm (by omega),dm (by omega)]
 have hf3:dz (dz (fun _=>0) w2.heap.size 1) w3.heap.size 2 k3=2:=iF (by omega)
 have hf2:dz (dz (fun _=>0) w2.heap.size 1) w3.heap.size 2 k2=1:=by rw[dm (by omega),iF (by omega)]
 have hS4:bP w u4 (dz (dz (fun _=>0) w2.heap.size 1) w3.heap.size 2) [k1] k3 (some ⟨k2,0,none⟩) 2 (jT qf 0) []:=by
  have hk2:Cs u4 k2 (bytes [255,216]):=(hn3.cs.ext hn4.ext).chg c4 (show k2≠k3 by omega)
  refine⟨⟨⟨hE4,fun b hb=>?_⟩,fun t ht=>?_⟩,fun t ht=>(H_ ht).elim,hlow⟩
  ·have hb:b=k1:=by simpa using hb
   have:=hn3.ext.size;have:=hn4.ext.size;rw[hb];exact⟨hk1,by omega,by rw[dm (by omega),dm (by omega)]⟩
  ·simp only[I_,H_,or_false]at ht
   rcases ht with rfl|rfl
   ·exact⟨by show(1:Nat)≠0;omega,Th.ofCs hk2 rfl hf2 (by omega)⟩
   ·exact⟨by show(2:Nat)≠0;omega,Th.ofCs g4 rfl hf3 (by omega)⟩
 generalize dz (dz (fun _=>0) w2.heap.size 1) w3.heap.size 2=f4 at*;clear T2 T3 T4 O3 O4 g4 c4 hf3 hf2 hlow;intro k4 w5 hn5 k5 w6 hn6;have e5:=hn5.1;have s5:=hn5.size;have e6:=hn6.1;have s6:=hn6.size;rw[Pi (x:=H) (by omega),Pj (x:=H) (by omega),Pi (x:=W) (by omega),Pj (x:=W) (by omega),IP (n:=mU sub) (by omega)]at hn5
 rw[IP (n:=mU sub) (by omega)]at hn6
 have O5:=hn5.own (N:=u4.heap.size) (M:=w5.heap.size) (vs:=bytes (bX W H sub 0)) (len:=6) (cap:=6) (sz:=1) (by
  have:bX W H sub 0=[8,((H/256:Nat):Int),((H%256:Nat):Int),((W/256:Nat):Int),((W%256:Nat):Int),((mU sub:Nat):Int)]:=by simp[bX]
  rw[this];exact O_ _) (by rw[ar,jC]) rfl (by omega) (by omega) (by omega)
 have S5:=hS4.new hn5.ext (i:=3) (by omega) O5
 have O6:=hn6.own (N:=w5.heap.size) (M:=w6.heap.size) (vs:=bytes (bH sub 0)) (len:=1) (cap:=1) (sz:=1) (by
  have:bH sub 0=[((mU sub:Nat):Int)]:=by simp[bH]
  rw[this];exact O_ _) (by rw[ar,nG]) rfl (by omega) (by omega) (by omega)
 have S6:=S5.new hn6.ext (i:=4) (by omega) O6
 refine mR fun zp zc w7 hF7=>⟨_,_,_,rfl,hF7.ext.keep _,?_⟩;have S7:=(S6.new hF7.ext (i:=5) (by omega) hF7.ow)
 generalize dz (dz (dz f4 u4.heap.size 3) w5.heap.size 4) w6.heap.size 5=f7 at*;clear O5 S5 O6 S6 hS4;refine⟨fun vs u=>∃(i:Nat) (f:Nat->Nat) (L:List Nat) (op:Option E_) (oc:Nat) (fp:Option E_) (fc:Nat) (hp:Option E_) (hc:Nat),vs=[.slice fp (6+3*i) fc,.slice hp (1+2*i) hc,aa (i:Nat)]/\i<=mU sub/\k1∈L/\
   bP w u f L k3 op oc (jT qf i) [⟨3,fp,6+3*i,fc,1,bytes (bX W H sub i)⟩,⟨4,hp,1+2*i,hc,1,bytes (bH sub i)⟩,⟨5,zp,64,zc,1,ii eG⟩],
  fun vs _=>match vs with|[_,_,.int _ i]=>(mU sub-i:Int).toNat|_=>0,⟨0,f7,[k1],_,_,_,_,_,_,rfl,by omega,by simp,S7.mono (fun _ h=>h) fun t ht=>by simp at ht⊢;rcases ht with e|e|e<;>simp[e]⟩,fun p2 k8 k9 p3 k10 k11 n1 w8 hI=>?_⟩
 clear S7 hF7 hn6 hn5 hn4 hn3 hE2 hL1 hE1 hE02 hE4;obtain⟨i,f,L,op,oc,fp,fc,hp,hc,hv,hi,hk1L,hS8⟩:=hI;simp only[L_,M_,U_.injEq,true_and,and_true]at hv;obtain⟨⟨rfl,rfl,rfl⟩,⟨rfl,rfl,rfl⟩,rfl⟩:=hv;refine ak (fun hlt=>?_) fun hge=>?_
 ·have hlt:i<mU sub:=by have:=of_decide_eq_true hlt;omega
  have hE8:=hS8.ext;refine h.elem (sI hlt) hl.symm fun a qp qc bp bc vs hC=>⟨_,_,_,_,_,_,_,_,(hC.ext hE8).h,(hC.ext hE8).v,(hC.ext hE8).q,(hC.ext hE8).b,?_⟩;intro k16 hk16 w9 hL9 k17 w10 hn10;have e1:(jN W H sub qf bf i).h=(hU sub i:Nat):=rfl;have e2:(jN W H sub qf bf i).v=(hU sub i:Nat):=rfl;have e3:(jN W H sub qf bf i).q=qf i:=rfl;rw[e1,e2];have S9:=hS8.locl hL9 (fun b hb=>by
   have hb:b=k16\/b=k1:=by simpa using hb
   rcases hb with rfl|rfl
   ·exact .inr hk16
   ·exact .inl hk1L)
  rw[IP (n:=i) (by omega)]at hn10
  have e10:=hn10.1;have s10:=hn10.size;have O10:=hn10.own (N:=w9.heap.size) (M:=w10.heap.size) (vs:=bytes [((i:Nat):Int)]) (len:=1) (cap:=1) (sz:=1) (O_ _) rfl rfl (by omega) (by omega) (by omega)
  have S10:=S9.new hn10.ext (i:=8) (by omega) O10
  let D:Nat->List Int:=fun n=>((i:Nat):Int)::((List.range n).map fun k=>(qf i).getD (bD k) 0)
  have hDl:∀n,(D n).length=1+n:=fun n=>by simp only[D,List.length_cons,List.length_map,List.length_range];omega
  refine⟨fun vs u=>∃(n:Nat) (f:Nat->Nat) (L:List Nat) (dp:Option E_) (dc:Nat),vs=[.slice dp (1+n) dc,aa (n:Nat)]/\n<=64/\k1∈L/\k16∈L/\
   bP w u f L k3 op oc (jT qf i) [⟨8,dp,1+n,dc,1,bytes (D n)⟩,⟨3,p2,6+3*i,k9,1,bytes (bX W H sub i)⟩,⟨4,p3,1+2*i,k11,1,bytes (bH sub i)⟩,⟨5,zp,64,zc,1,ii eG⟩],
   fun vs _=>match vs with|[_,.int _ i]=>(64-i:Int).toNat|_=>0,⟨0,_,_,_,_,rfl,by omega,by simp,by simp,S10⟩,fun p6 k18 k19 n4 w11 hI=>?_⟩
  clear S10 S9 hS8;obtain⟨n,f,L,dp,dc,hv,hn,hk1L,hk16L,hS11⟩:=hI;simp only[L_,M_,U_.injEq,true_and,and_true]at hv;obtain⟨⟨rfl,rfl,rfl⟩,rfl⟩:=hv;have hE11:=hS11.ext;refine ak (fun hlt2=>?_) fun hge2=>?_
  ·have hlt2:n<64:=by have:=of_decide_eq_true hlt2;omega
   have hZ:=Th.sl (hS11.get (t:=⟨5,zp,64,zc,1,ii eG⟩) (by simp))
   refine hZ.get (v:=aa (bD n:Nat)) (by omega) (by rw[aG,io]) (by rw[T_,bz (by rw[io];exact hlt2),qi hlt2]) fun a2 ha2=>⟨_,ha2,?_⟩
   have hzn:=o9 hlt2;have hqs:=(hC.ext hE11).qs;rw[e3]at hqs;have hql:=hJ.ql i;refine hqs.sl.get (v:=aa ((qf i).getD (bD n) 0)) (by omega) (by rw[aG,hql]) (by rw[T_,bz (by omega)]) fun a3 ha3=>⟨_,ha3,?_⟩
   intro k20 hk20 w12 hL12;have hqr:=hJ.qr i _ (eX (l:=qf i) (i:=bD n) (by omega))
   rw[Py hqr.1 hqr.2];have S12:=hS11.locl hL12 (fun b hb=>by
    have hb:b=k20\/b=k16\/b=k1:=by simpa using hb
    rcases hb with rfl|rfl|rfl
    ·exact .inr hk20
    ·exact .inl hk16L
    ·exact .inl hk1L)
   refine S12.app (t:=⟨8,p6,1+n,k19,1,bytes (D n)⟩) (fun t ht=>?_) (fun b hb=>?_) rfl rfl (by show(1+n+1)*1<=2^47;omega) (by show 1+n+1<2^62;omega) fun p7 c7 w13 S13 _ _=>?_
   ·simp only[I_,H_,or_false]at ht
    rcases ht with rfl|rfl|rfl<;>simp
   ·have hb:b=k20\/b=k16\/b=k1:=by simpa[am]using hb
    rcases hb with rfl|rfl|rfl<;>simp
   ·have eD:bytes (D (n+1))=bytes (D n)++[u8 ((qf i).getD (bD n) 0)]:=by
     have eD':D (n+1)=D n++[(qf i).getD (bD n) 0]:=by simp only[D,a_,List.map_append,List.map_cons,List.map_nil,List.cons_append]
     rw[eD',bY];rfl
    rw[ai (x:=((n:Nat):Int)+1)];obtain⟨f13,S13⟩:∃f',bP w w13 f' ([k20,k16,k1]++L) k3 op oc (jT qf i) [⟨8,p7,1+(n+1),c7,1,bytes (D (n+1))⟩,⟨3,p2,6+3*i,k9,1,bytes (bX W H sub i)⟩,⟨4,p3,1+2*i,k11,1,bytes (bH sub i)⟩,⟨5,zp,64,zc,1,ii eG⟩]:=⟨_,by rw[eD];exact S13⟩
    exact⟨⟨n+1,f13,[k20,k16,k1]++L,p7,c7,rfl,hlt2,by simp,by simp,S13⟩,by show((64:Int)-((n:Int)+1)).toNat<((64:Int)-n).toNat;omega⟩
  ·have hge2:n=64:=by have:=of_decide_eq_false hge2;omega
   subst hge2;have hD64:D 64=fK qf i:=rfl;rw[hD64]at hS11;have S11:=hS11.dr;have hdsl:=Th.sl (S11.get (t:=⟨8,p6,1+64,k19,1,bytes (fK qf i)⟩) (by simp))
   have hol:=BA qf i;refine⟨fun vs u=>vs=[]/\∃(f:Nat->Nat) (op:Option E_) (oc:Nat),bP w u f L k3 op oc (jT qf (i+1)) [⟨8,p6,1+64,k19,1,bytes (fK qf i)⟩,⟨3,p2,6+3*i,k9,1,bytes (bX W H sub i)⟩,⟨4,p3,1+2*i,k11,1,bytes (bH sub i)⟩,⟨5,zp,64,zc,1,ii eG⟩],⟨⟨_,_,_,S11.cell.1,?_⟩,?_⟩,fun w18 hI=>?_⟩
   ·refine dw (Sl.toS hdsl fun _ _=>trivial) (by rw[de]) (by omega) fun p9 c9 w14 hF14=>⟨_,_,_,rfl,hF14.ext.keep _,bytes (b9 219 (fK qf i)),by rw[ar,ba,de],cj _,hF14.sl.cells,?_⟩
    refine(S11.step hF14.ext 10).put (by rw[ba,de]) (fun b hb=>?_) (by rw[ba,de];omega) fun p10 c10 u1 u2 f1 eu hcl hfz S15 _ _ _=>?_
    ·have hb:b=k16\/b=k1:=by simpa[am]using hb
     rcases hb with rfl|rfl
     ·exact hk16L
     ·exact hk1L
    subst eu;rw[<-wV]at S15;exact⟨hcl,hfz,DA S15.cell.2 hk16L hk1L,rfl,_,_,_,S15⟩
   ·refine dw (Sl.toS hdsl fun _ _=>trivial) (by rw[de]) (by omega) fun p9 c9 w14 hF14=>⟨_,_,_,rfl,hF14.ext.keep _,_,_,_,(S11.step hF14.ext 10).cell.1,bytes (b9 219 (fK qf i)),by rw[ar,ba,de],cj _,hF14.sl.cells,?_⟩
    refine(S11.step hF14.ext 10).put (by rw[ba,de]) (fun b hb=>?_) (by rw[ba,de];omega) fun p10 c10 u1 u2 f1 eu hcl hfz S15 _ _ _=>?_
    ·have hb:b=k16\/b=k1:=by simpa[am]using hb
     rcases hb with rfl|rfl
     ·exact hk16L
     ·exact hk1L
    subst eu;rw[<-wV]at S15;exact⟨hcl,hfz,DA S15.cell.2 hk16L hk1L,rfl,_,_,_,S15⟩
   clear S11 hdsl hol;clear hS11;obtain⟨_,f18,p10,c10,S15⟩:=hI;clear hD64;intro k29 hk29 w16 hL16;have S16:=(S15.mono (rest':=[⟨3,p2,6+3*i,k9,1,bytes (bX W H sub i)⟩,⟨4,p3,1+2*i,k11,1,bytes (bH sub i)⟩,⟨5,zp,64,zc,1,ii eG⟩]) (fun _ h=>h) fun t ht=>List.mem_cons_of_mem _ ht).locl hL16 (fun b hb=>by
    have hb:b=k29\/b=k16\/b=k1:=by simpa using hb
    rcases hb with rfl|rfl|rfl
    ·exact .inr hk29
    ·exact .inl hk16L
    ·exact .inl hk1L)
   have ei1:B_.wrap (A_.wrap (((i:Nat):Int)+1))=((i+1:Nat):Int):=by
    rw[ai (by omega) (by omega)];exact IP (n:=i+1) (by omega)
   rw[ei1,PA (it (i:=i) hsub),IP (n:=i) (by omega)]
   refine bP.app (t:=⟨3,p2,6+3*i,k9,1,bytes (bX W H sub i)⟩) S16 (fun t ht=>?_) (fun b hb=>?_) rfl rfl (by show(6+3*i+3)*1<=2^47;omega) (by show 6+3*i+3<2^62;omega) fun p11 c11 w17 S17 _ _=>?_
   ·simp only[I_,H_,or_false]at ht
    rcases ht with rfl|rfl<;>simp
   ·have hb:b=k29\/b=k16\/b=k1:=by simpa[am]using hb
    rcases hb with rfl|rfl|rfl<;>simp
   intro k32 hk32 w18 hL18;have S18:=(S17.mono (rest':=[⟨4,p3,1+2*i,k11,1,bytes (bH sub i)⟩,⟨3,p11,6+3*i+3,c11,1,bytes (bX W H sub i)++[u8 ((i+1:Nat):Int),u8 ((17*hU sub i:Nat):Int),u8 ((i:Nat):Int)]⟩,⟨5,zp,64,zc,1,ii eG⟩]) (fun _ h=>h) fun t ht=>by simp at ht⊢;rcases ht with e|e|e<;>simp[e]).locl hL18 (fun b hb=>by
    have hb:b=k32\/b=k29\/b=k16\/b=k1:=by simpa using hb
    rcases hb with rfl|rfl|rfl|rfl
    ·exact .inr hk32
    ·exact .inl (by simp)
    ·exact .inl (by simp)
    ·exact .inl (by simp))
   refine bP.app (t:=⟨4,p3,1+2*i,k11,1,bytes (bH sub i)⟩) S18 (fun t ht=>?_) (fun b hb=>?_) rfl rfl (by show(1+2*i+2)*1<=2^47;omega) (by show 1+2*i+2<2^62;omega) fun p12 c12 w19 S19 _ _=>?_
   ·simp only[I_,H_,or_false]at ht
    rcases ht with rfl|rfl<;>simp
   ·have hb:b=k32\/b=k29\/b=k16\/b=k1:=by simpa[am]using hb
    rcases hb with rfl|rfl|rfl|rfl<;>simp
   rw[ai (x:=(i:Int)+1)];have ef:bytes (bX W H sub (i+1))=bytes (bX W H sub i)++[u8 ((i+1:Nat):Int),u8 ((17*hU sub i:Nat):Int),u8 ((i:Nat):Int)]:=by rw[zP,bY];rfl
   have eh:bytes (bH sub (i+1))=bytes (bH sub i)++[u8 ((i+1:Nat):Int),u8 0]:=by rw[C5,bY];rfl
   obtain⟨f19,S19⟩:∃f',bP w w19 f' ([k32,k29,k16,k1]++([k29,k16,k1]++L)) k3 p10 c10 (jT qf (i+1)) [⟨3,p11,6+3*(i+1),c11,1,bytes (bX W H sub (i+1))⟩,⟨4,p12,1+2*(i+1),c12,1,bytes (bH sub (i+1))⟩,⟨5,zp,64,zc,1,ii eG⟩]:=⟨_,by
    rw[ef,eh];refine S19.mono (fun _ h=>h) fun t ht=>?_;simp only[I_,H_,or_false]at ht⊢;rcases ht with e|e|e
    ·exact .inr (.inl e)
    ·exact .inl e
    ·exact .inr (.inr e)⟩
   exact⟨⟨i+1,f19,_,p10,c10,p11,c11,p12,c12,rfl,hlt,by simp,S19⟩,by show((mU sub:Int)-((i:Int)+1)).toNat<((mU sub:Int)-i).toNat;omega⟩
 have hge:i=mU sub:=by have:=of_decide_eq_false hge;omega
 subst hge;have S8:=hS8.dr;have hfsl:=Th.sl (S8.get (t:=⟨3,p2,6+3*mU sub,k9,1,bytes (bX W H sub (mU sub))⟩) (by simp))
 have hfl:=jC W H sub (mU sub);have hhl:=nG sub (mU sub);have hol:=BA qf (mU sub);have hol2:(jT qf (mU sub)++b9 192 (bX W H sub (mU sub))).length<=300:=by rw[J_,ba,hfl,hol];omega
 generalize hO2:jT qf (mU sub)++b9 192 (bX W H sub (mU sub))=O2 at*;refine⟨fun vs u=>vs=[]/\∃(f:Nat->Nat) (op:Option E_) (oc:Nat),bP w u f L k3 op oc O2 [⟨4,p3,1+2*mU sub,k11,1,bytes (bH sub (mU sub))⟩],⟨⟨_,_,_,S8.cell.1,?_⟩,?_⟩,fun w27 hI=>?_⟩
 ·refine dw (Sl.toS hfsl fun _ _=>trivial) hfl.symm (by omega) fun p9 c9 w14 hF14=>⟨_,_,_,rfl,hF14.ext.keep _,bytes (b9 192 (bX W H sub (mU sub))),by rw[ar,ba,hfl];omega,cj _,hF14.sl.cells,?_⟩
  refine(S8.step hF14.ext 10).put (by rw[ba,hfl]) (fun b hb=>?_) (by rw[ba,hfl];omega) fun p10 c10 u1 u2 f1 eu hcl hfz S15 _ _ _=>?_
  ·have hb:b=k1:=by simpa[am]using hb
   rw[hb];exact hk1L
  subst eu;rw[hO2]at S15;exact⟨hcl,hfz,mD S15.cell.2 hk1L,rfl,_,_,_,S15.mono (fun _ h=>h) fun t ht=>by simp at ht⊢;simp[ht]⟩
 ·refine dw (Sl.toS hfsl fun _ _=>trivial) hfl.symm (by omega) fun p9 c9 w14 hF14=>⟨_,_,_,rfl,hF14.ext.keep _,_,_,_,(S8.step hF14.ext 10).cell.1,bytes (b9 192 (bX W H sub (mU sub))),by rw[ar,ba,hfl];omega,cj _,hF14.sl.cells,?_⟩
  refine(S8.step hF14.ext 10).put (by rw[ba,hfl]) (fun b hb=>?_) (by rw[ba,hfl];omega) fun p10 c10 u1 u2 f1 eu hcl hfz S15 _ _ _=>?_
  ·have hb:b=k1:=by simpa[am]using hb
   rw[hb];exact hk1L
  subst eu;rw[hO2]at S15;exact⟨hcl,hfz,mD S15.cell.2 hk1L,rfl,_,_,_,S15.mono (fun _ h=>h) fun t ht=>by simp at ht⊢;simp[ht]⟩
 clear hfsl S8 hS8;obtain⟨_,f,op,oc,S27⟩:=hI;refine⟨fun vs u=>vs=[]/\∃(f:Nat->Nat) (op:Option E_) (oc:Nat),bP w u f L k3 op oc O2 [⟨4,p3,1+2*mU sub,k11,1,bytes (bH sub (mU sub))⟩],al (by decide) ⟨rfl,_,_,_,S27⟩,fun w36 hI=>?_⟩
 clear S27;obtain⟨_,f',op',oc',S25⟩:=hI;intro k48 w26 hn26 k49 w27 hn27;have e26:=hn26.1;have s26:=hn26.size;have e27:=hn27.1;have s27:=hn27.size;have zw36:=S25.ext.size;have hC26:Cs w26 k48 (bN []++[.slice none 0 0,.slice none 0 0,.slice none 0 0,.slice none 0 0,.pointer none]):=Eq.mp (congrArg (Cs w26 k48) (by kernel_rfl)) hn26.cs
 have S26:=(S25.step hn26.ext 6).add (t:=⟨6,some ⟨k48,0,none⟩,517,517,1,bN []++[.slice none 0 0,.slice none 0 0,.slice none 0 0,.slice none 0 0,.pointer none]⟩) (Th.ofCs hC26 (by simp[gF]) (iF (by omega)) (by omega)) (by show 2<6;omega)
 have S27:=(S26.step hn27.ext 9).add (t:=⟨9,some ⟨k49,0,none⟩,1,1,1,[.pointer none]⟩) (Th.ofCs hn27.cs rfl (iF (by omega)) (by omega)) (by show 2<9;omega)
 obtain⟨b,q1,q2,q3,q4,S28,_⟩:=S27.set (fun t ht=>by
  simp only[I_,H_,or_false]at ht;rcases ht with rfl|rfl<;>simp) (k:=0) (us:=[.pointer (some ⟨k48,0,none⟩)]) (by simp) (by show 0<1;omega)
 have hb:b=k49:=by
  simp only[b_,E_.mk.injEq,and_true]at q1;exact q1.symm
 subst hb;have hcs:=q4 0 (by simp)
 rw[eg]at hcs;obtain⟨f28,S28⟩:∃f',bP w (ab w27 ⟨b,0,none⟩ [.pointer (some ⟨k48,0,none⟩)] 0) f' L k3 op' oc' O2 [⟨9,some ⟨b,0,none⟩,1,1,1,[.pointer (some ⟨k48,0,none⟩)]⟩,⟨6,some ⟨k48,0,none⟩,517,517,1,bN []++[.slice none 0 0,.slice none 0 0,.slice none 0 0,.slice none 0 0,.pointer none]⟩,⟨4,p3,1+2*mU sub,k11,1,bytes (bH sub (mU sub))⟩]:=⟨_,S28⟩;generalize ab w27 ⟨b,0,none⟩ [.pointer (some ⟨k48,0,none⟩)] 0=u28 at*;have h9:=Th.cs (S28.get (t:=⟨9,some ⟨b,0,none⟩,1,1,1,[.pointer (some ⟨k48,0,none⟩)]⟩) (by simp)) (show 0<1 by omega)
 have h6:=Th.cs (S28.get (t:=⟨6,some ⟨k48,0,none⟩,517,517,1,bN []++[.slice none 0 0,.slice none 0 0,.slice none 0 0,.slice none 0 0,.pointer none]⟩) (by simp)) (show 0<517 by omega)
 refine⟨hcs.1,hcs.2,mD q2 hk1L,_,h9.1.cell (i:=0) rfl,?_⟩;clear S27 S26 hC26 S25 hn26 hn27 hcs q4;have hk1u:=S28.ths.pal.av k1 hk1L;have hSnk:OY w k48 (fun b=>b<u28.heap.size/\b≠k48) [] u28:=⟨S28.ext,fun b hb=>hb.1,fun hh=>hh.2 rfl,h6.2.2,h6.1⟩;refine EP (Pe w k48) hSnk hJ h (fun _ _=>trivial) fun A' w39 hA hc39 hS39=>⟨rfl,hc39.keep (fun b' hb' hn=>hn ?_),?_⟩
 ·have hb':b'=k1:=by simpa using hb'
  rw[hb'];exact⟨hk1u.2.1,fun e=>by have:=hk1u.2.2;rw[e,h6.2.1]at this;cases this⟩
 have hBl:=hJ.zz;have hblk:=hJ.blocks;have hzero:∀i, -1024<=(N_ (mU sub) (0:Int)).getD i 0/\(N_ (mU sub) (0:Int)).getD i 0<=1023:=fun i=>by
  rw[List.getD_eq_getElem?_getD,List.getElem?_replicate]
  split<;>simp
 obtain⟨hok,hSEl⟩:=pX hBl (N_ (mU sub) 0) (bJ W sub (aJ W (nU sub)*aJ H (nU sub))) hzero;obtain⟨has0,has1⟩:=M5 hBl (ah:=N_ (mU sub) 0) (Ss:=bJ W sub (aJ W (nU sub)*aJ H (nU sub))) (fun e=>by rw[e]at hblk;simp at hblk)
 generalize hSE:(bh (fun i k=>zz (bf i k)) (N_ (mU sub) 0) (bJ W sub (aJ W (nU sub)*aJ H (nU sub)))).1=SE at*;have hSE22:SE.length<=382272:=by omega
 obtain⟨hT0,hcov0,_,_⟩:=D8 hok has0;obtain⟨hT1,hcov1,_,_⟩:=D8 hok has1;have S39:=(S28.mono (rest':=[⟨9,some ⟨b,0,none⟩,1,1,1,[.pointer (some ⟨k48,0,none⟩)]⟩,⟨4,p3,1+2*mU sub,k11,1,bytes (bH sub (mU sub))⟩]) (fun _ h=>h) (fun t ht=>by simp at ht⊢;rcases ht with e|e<;>simp[e])).chg (k:=10) hc39 (fun b' hb' hz=>by
  have e:b'=k48:=by
   rcases P_ b' k48 with h|h
   ·exact(hz ⟨hb',h⟩).elim
   ·exact h
  have h62:f28 k48=6:=h6.2.1;rw[e,h62];refine⟨h6.2.2,by omega,by omega,fun t ht=>?_⟩
  simp only[I_,H_,or_false]at ht;rcases ht with rfl|rfl
  ·show(9:Nat)≠6;omega
  ·show(4:Nat)≠6;omega)
 have hC39:Cs w39 k48 (bN SE++[.slice none 0 0,.slice none 0 0,.slice none 0 0,.slice none 0 0,.pointer none]):=hS39.2.2.2.2;have hf39:dz f28 u28.heap.size 10 k48=6:=by rw[dm h6.1.lt];exact h6.2.1
 obtain⟨f39,S39,hf39⟩:∃f',bP w w39 f' L k3 op' oc' O2 [⟨9,some ⟨b,0,none⟩,1,1,1,[.pointer (some ⟨k48,0,none⟩)]⟩,⟨4,p3,1+2*mU sub,k11,1,bytes (bH sub (mU sub))⟩]/\f' k48=6:=⟨_,S39,hf39⟩;clear hSnk hc39 hS39 S28 h6 h9 hk1u hblk hzero hSEl hA A';have htl:∀t,t<2->(dL t (bw SE t)).length<=17+4096:=fun t ht=>by
  have:t=0\/t=1:=by omega
  rcases this with rfl|rfl
  ·exact F7 hT0
  ·exact F7 hT1
 have hoT:∀t,t<=2->(lG O2 SE t).length<=20000:=fun t ht=>by
  have:t=0\/t=1\/t=2:=by omega
  have a0:=htl 0 (by omega)
  have a1:=htl 1 (by omega)
  rcases this with rfl|rfl|rfl
  ·simp[lG];omega
  ·rw[il,J_,ba];simp[lG];omega
  ·rw[il,il,J_,J_,ba,ba];simp[lG];omega
 refine⟨fun vs u=>∃(t:Nat) (f:Nat->Nat) (op:Option E_) (oc:Nat) (T:List D_),vs=[aa (t:Nat)]/\t<=2/\bP w u f L k3 op oc (lG O2 SE t) [⟨9,some ⟨b,0,none⟩,1,1,1,[.pointer (some ⟨k48,0,none⟩)]⟩,⟨4,p3,1+2*mU sub,k11,1,bytes (bH sub (mU sub))⟩]/\Cs u k48 (bN SE++T)/\f k48=6/\gJ SE none f u t T,
  fun vs _=>match vs with|[.int _ t]=>(2-t:Int).toNat|_=>0,⟨0,f39,op',oc',_,rfl,by omega,by rw[show lG O2 SE 0=O2 by simp[lG]];exact S39,hC39,hf39,rfl⟩,fun n7 w40 hI=>?_⟩
 clear S39 hC39 hf39;obtain⟨t,f,op,oc,T,hv,ht,S40,hC40,hf40,hT40⟩:=hI;obtain rfl:n7=(t:Nat):=by simpa using hv
 have hTl:=hT40.len ht;refine ak (fun hlt=>?_) fun hge=>?_
 ·have hlt:t<2:=by have:=of_decide_eq_true hlt;omega
  have hh01:∃x,x∈SE/\x.1=t:=by
   have:t=0\/t=1:=by omega
   rcases this with rfl|rfl
   ·exact has0
   ·exact has1
  have htt:=htl t hlt;have hoo:=hoT t ht;have S40d:=S40.dr;have h9:=Th.cs (S40d.get (t:=⟨9,some ⟨b,0,none⟩,1,1,1,[.pointer (some ⟨k48,0,none⟩)]⟩) (by simp)) (show 0<1 by omega)
  have zd:w40.drew.heap.size=w40.heap.size:=rfl;have hkw:=S40.ext.size;have hk48w:w.heap.size<=k48:=by omega
  have tab:∀R':Ending->C_->Prop,(∀p22 n22 c22 w41 f41 T',bP w w41 f41 L k3 op oc (lG O2 SE t) [⟨9,some ⟨b,0,none⟩,1,1,1,[.pointer (some ⟨k48,0,none⟩)]⟩,⟨4,p3,1+2*mU sub,k11,1,bytes (bH sub (mU sub))⟩]->Cs w41 k48 (bN SE++T')->f41 k48=6->gJ SE none f41 w41 (t+1) T'->aD d7 w41 p22 (bytes (dL t (bw SE t)))->n22=(dL t (bw SE t)).length->ao [k1] w40.drew w41->R' (.returned (.slice p22 n22 c22)) w41)->
    G_ P 36 #[.pointer (some ⟨k48,0,none⟩),aa (t:Nat)] w40.drew R':=fun R' hR'=>by
   refine Id hC40.drew hTl hlt hok hh01 (by omega) fun p22 n22 c22 b1 c1 b2 c2 w41 hc41 hC41 hs41 hn41 hb1 hb2=>?_
   have hZ:∀b',b'<w40.drew.heap.size->b'=k48->w.heap.size<=b'/\f b'≠1/\f b'≠2/\∀t,t∈[(⟨9,some ⟨b,0,none⟩,1,1,1,[.pointer (some ⟨k48,0,none⟩)]⟩:Tg),⟨4,p3,1+2*mU sub,k11,1,bytes (bH sub (mU sub))⟩]->t.c≠f b':=fun b' _ e=>by
    rw[e,hf40];refine⟨hk48w,by omega,by omega,fun t ht=>?_⟩
    simp only[I_,H_,or_false]at ht;rcases ht with rfl|rfl
    ·show(9:Nat)≠6;omega
    ·show(4:Nat)≠6;omega
   refine hR' p22 n22 c22 w41 _ _ (S40d.chg (k:=7) hc41 hZ) hC41 (by rw[dm (show k48<w40.drew.heap.size from hC40.lt)];exact hf40) ?_ (hs41.mono fun _ _ _=>trivial) hn41 (hc41.keep fun b' hb' e=>?_)
   ·refine((hT40.kp ht fe.drew).kp ht (fe.of hc41 fun b' _ h7 e=>?_)).more hlt (hb1.mono fun b' hb' _=>iF hb') (hb2.mono fun b' hb' _=>iF hb')
    have e:b'=k48:=e;rw[e,hf40]at h7;cases h7
   ·have hb':b'=k1:=by simpa using hb'
    have e:b'=k48:=e;have:=(S40.ths.pal.av k1 hk1L).2.2;rw[<-hb',e,hf40]at this;cases this
  refine⟨fun vs u=>vs=[]/\∃(f:Nat->Nat) (op:Option E_) (oc:Nat) (T:List D_),bP w u f L k3 op oc (lG O2 SE (t+1)) [⟨9,some ⟨b,0,none⟩,1,1,1,[.pointer (some ⟨k48,0,none⟩)]⟩,⟨4,p3,1+2*mU sub,k11,1,bytes (bH sub (mU sub))⟩]/\Cs u k48 (bN SE++T)/\f k48=6/\gJ SE none f u (t+1) T,⟨_,h9.1.cell (i:=0) rfl,⟨_,_,_,S40d.cell.1,?_⟩,?_⟩,fun w49 hI=>?_⟩
  rotate_right
  ·obtain⟨_,f,op,oc,T,S49,hC49,hf49,hT49⟩:=hI
   rw[ai (x:=((t:Nat):Int)+1)];exact⟨⟨t+1,f,op,oc,T,rfl,hlt,S49,hC49,hf49,hT49⟩,by show((2:Int)-((t:Int)+1)).toNat<((2:Int)-t).toNat;omega⟩
  ·refine tab _ fun p22 n22 c22 w41 f41 T' S41 hC41 hf41 hT41 hs41 hn41 hk41=>⟨_,_,_,rfl,hk41,?_⟩
   have hcoder:=(S41.add (t:=⟨6,some ⟨k48,0,none⟩,517,517,1,bN SE++T'⟩) (Th.ofCs hC41 (by rw[J_,gF,hT41.len (by omega)]) hf41 hk48w) (by show 2<6;omega))
   refine dw hs41 hn41 (by omega) fun p9 c9 w42 hF42=>⟨_,_,_,rfl,hF42.ext.keep _,bytes (b9 196 (dL t (bw SE t))),by rw[ar,ba,hn41];omega,cj _,hF42.sl.cells,?_⟩
   refine(hcoder.step hF42.ext 10).put (by rw[ba,hn41]) (fun b hb=>?_) (by rw[ba];omega) fun p10 c10 u1 u2 f1 eu hcl hfz S43 hkp hsame _=>?_
   ·have hb:b=k1:=by simpa[am]using hb
    rw[hb];exact hk1L
   subst eu;rw[<-il]at S43;have h6:=Th.cs (S43.get (t:=⟨6,some ⟨k48,0,none⟩,517,517,1,bN SE++T'⟩) (by simp)) (show 0<517 by omega)
   exact⟨hcl,hfz,mD S43.cell.2 hk1L,rfl,_,_,_,_,S43.mono (fun _ h=>h) (fun t ht=>by simp at ht⊢;rcases ht with e|e<;>simp[e]),h6.1,h6.2.1,(hT41.kp (by omega) (fe.ext hF42.ext)).kp (by omega) (hkp 7 (by omega) (by omega))⟩
  ·refine tab _ fun p22 n22 c22 w41 f41 T' S41 hC41 hf41 hT41 hs41 hn41 hk41=>⟨_,_,_,rfl,hk41,⟨_,_,_,S41.cell.1,?_⟩,?_⟩
   ·have hcoder:=(S41.add (t:=⟨6,some ⟨k48,0,none⟩,517,517,1,bN SE++T'⟩) (Th.ofCs hC41 (by rw[J_,gF,hT41.len (by omega)]) hf41 hk48w) (by show 2<6;omega))
    refine dw hs41 hn41 (by omega) fun p9 c9 w42 hF42=>⟨_,_,_,rfl,hF42.ext.keep _,bytes (b9 196 (dL t (bw SE t))),by rw[ar,ba,hn41];omega,cj _,hF42.sl.cells,?_⟩
    refine(hcoder.step hF42.ext 10).put (by rw[ba,hn41]) (fun b hb=>?_) (by rw[ba];omega) fun p10 c10 u1 u2 f1 eu hcl hfz S43 hkp hsame _=>?_
    ·have hb:b=k1:=by simpa[am]using hb
     rw[hb];exact hk1L
    subst eu;rw[<-il]at S43;have h6:=Th.cs (S43.get (t:=⟨6,some ⟨k48,0,none⟩,517,517,1,bN SE++T'⟩) (by simp)) (show 0<517 by omega)
    exact⟨hcl,hfz,mD S43.cell.2 hk1L,rfl,_,_,_,_,S43.mono (fun _ h=>h) (fun t ht=>by simp at ht⊢;rcases ht with e|e<;>simp[e]),h6.1,h6.2.1,(hT41.kp (by omega) (fe.ext hF42.ext)).kp (by omega) (hkp 7 (by omega) (by omega))⟩
   ·have hcoder:=(S41.add (t:=⟨6,some ⟨k48,0,none⟩,517,517,1,bN SE++T'⟩) (Th.ofCs hC41 (by rw[J_,gF,hT41.len (by omega)]) hf41 hk48w) (by show 2<6;omega))
    refine dw hs41 hn41 (by omega) fun p9 c9 w42 hF42=>⟨_,_,_,rfl,hF42.ext.keep _,_,_,_,(hcoder.step hF42.ext 10).cell.1,bytes (b9 196 (dL t (bw SE t))),by rw[ar,ba,hn41];omega,cj _,hF42.sl.cells,?_⟩
    refine(hcoder.step hF42.ext 10).put (by rw[ba,hn41]) (fun b hb=>?_) (by rw[ba];omega) fun p10 c10 u1 u2 f1 eu hcl hfz S43 hkp hsame _=>?_
    ·have hb:b=k1:=by simpa[am]using hb
     rw[hb];exact hk1L
    subst eu;rw[<-il]at S43;have h6:=Th.cs (S43.get (t:=⟨6,some ⟨k48,0,none⟩,517,517,1,bN SE++T'⟩) (by simp)) (show 0<517 by omega)
    exact⟨hcl,hfz,mD S43.cell.2 hk1L,rfl,_,_,_,_,S43.mono (fun _ h=>h) (fun t ht=>by simp at ht⊢;rcases ht with e|e<;>simp[e]),h6.1,h6.2.1,(hT41.kp (by omega) (fe.ext hF42.ext)).kp (by omega) (hkp 7 (by omega) (by omega))⟩
 have hge:t=2:=by have:=of_decide_eq_false hge;omega
 subst hge;unfold gJ at hT40;obtain⟨l0,n0,c0,n2,l1,n1,c1,n3,hTe,g1,g2,g3,g4⟩:=hT40;have hoT2:=hoT 2 (by omega)
 have hwk48:w.heap.size<=k48:=by have:=S40.ext.size;omega
 have S40c:=(S40.add (t:=⟨6,some ⟨k48,0,none⟩,517,517,1,bN SE++T⟩) (Th.ofCs hC40 (by rw[J_,gF,hTl]) hf40 hwk48) (by show 2<6;omega)).dr
 have hT4:lk SE l0 l1 c0 c1 f w40.drew:=lk.kp ⟨g1,g2,g3,g4⟩ fe.drew;have zd:w40.drew.heap.size=w40.heap.size:=rfl;generalize w40.drew=wa at*;clear g1 g2 g3 g4 S40 hC40 htl hoT zd;generalize hOT:lG O2 SE 2=OT at*
 let H3:List Int:=bH sub (mU sub)++[0,63,0]
 have hH3l:H3.length=1+2*mU sub+3:=by show(bH sub (mU sub)++[0,63,0]).length=_;rw[J_,hhl];rfl
 have hHb:bytes H3=bytes (bH sub (mU sub))++[u8 0,u8 63,u8 0]:=bY _ _;have xz:∀(k:Nat) (w':C_),wa.heap.size<=k->Locl [k,k1] wa w'->∃f',bP w w' f' ([k,k1]++L) k3 op oc OT [⟨4,p3,1+2*mU sub,k11,1,bytes (bH sub (mU sub))⟩,⟨6,some ⟨k48,0,none⟩,517,517,1,bN SE++T⟩,⟨9,some ⟨b,0,none⟩,1,1,1,[.pointer (some ⟨k48,0,none⟩)]⟩]/\lk SE l0 l1 c0 c1 f' w':=fun k w' hk hL=>by
  have hb:∀b',b'∈[k,k1]->b'∈L\/wa.heap.size<=b':=fun b' hb'=>by
   have hb':b'=k\/b'=k1:=by simpa using hb'
   rcases hb' with rfl|rfl
   ·exact .inr hk
   ·exact .inl hk1L
  exact⟨_,(S40c.mono (fun _ h=>h) (fun t ht=>by simp at ht⊢;rcases ht with e|e|e<;>simp[e])).locl hL hb,hT4.kp (S40c.loclK hL hb (by omega))⟩
 have app:∀(k:Nat) (w':C_) (f':Nat->Nat) (x:List (Nat×Nat×List D_)),(∀b',b'∈am x->b'=k\/b'=k1)->bP w w' f' ([k,k1]++L) k3 op oc OT [⟨4,p3,1+2*mU sub,k11,1,bytes (bH sub (mU sub))⟩,⟨6,some ⟨k48,0,none⟩,517,517,1,bN SE++T⟩,⟨9,some ⟨b,0,none⟩,1,1,1,[.pointer (some ⟨k48,0,none⟩)]⟩]->lk SE l0 l1 c0 c1 f' w'->
   ∀F:Option E_->Nat->Nat->C_->Prop,(∀p' c' u' f'',bP w u' f'' ([k,k1]++L) k3 op oc OT [⟨4,p',1+2*mU sub+3,c',1,bytes H3⟩,⟨6,some ⟨k48,0,none⟩,517,517,1,bN SE++T⟩,⟨9,some ⟨b,0,none⟩,1,1,1,[.pointer (some ⟨k48,0,none⟩)]⟩]->lk SE l0 l1 c0 c1 f'' u'->F p' (1+2*mU sub+3) c' u')->
   ay w' x p3 (1+2*mU sub) k11 3 1 1 5 [u8 0] [u8 0,u8 63,u8 0] F:=fun k w' f' x hx hS hT F hF=>by
  refine bP.app (t:=⟨4,p3,1+2*mU sub,k11,1,bytes (bH sub (mU sub))⟩) hS (fun t ht=>?_) (fun b' hb'=>?_) rfl rfl (by show(1+2*mU sub+3)*1<=2^47;omega) (by show 1+2*mU sub+3<2^62;omega) fun p' c' u' hS' hK _=>?_
  ·simp only[I_,H_,or_false]at ht
   rcases ht with rfl|rfl<;>simp
  ·rcases hx b' hb' with rfl|rfl<;>simp
  ·exact hF p' c' u' _ (by rw[hHb];exact hS') (hT.kp (hK 7 (by show(7:Nat)≠4;omega)))
 have put:∀(k:Nat) (w':C_) (f':Nat->Nat) (p':Option E_) (c':Nat) (x:List (Nat×Nat×List D_)),(∀b',b'∈am x->b'=k\/b'=k1)->bP w w' f' ([k,k1]++L) k3 op oc OT [⟨4,p',1+2*mU sub+3,c',1,bytes H3⟩,⟨6,some ⟨k48,0,none⟩,517,517,1,bN SE++T⟩,⟨9,some ⟨b,0,none⟩,1,1,1,[.pointer (some ⟨k48,0,none⟩)]⟩]->lk SE l0 l1 c0 c1 f' w'->
   ∀F:Option E_->Nat->Nat->C_->Prop,(∀pp cc u1 u2 f2,u2=ab u1 ⟨k3,0,none⟩ [.slice pp (OT.length+(4+(1+2*mU sub+3))) cc] 0->(∃v,u1.cell? ⟨k3,0,none⟩=some v)->u1.frozen? ⟨k3,0,none⟩=false->¬k3∈[k,k1]->bP w u2 f2 L k3 pp cc (OT++b9 218 H3) [⟨6,some ⟨k48,0,none⟩,517,517,1,bN SE++T⟩,⟨9,some ⟨b,0,none⟩,1,1,1,[.pointer (some ⟨k48,0,none⟩)]⟩]->lk SE l0 l1 c0 c1 f2 u2->F pp (OT.length+(4+(1+2*mU sub+3))) cc u1)->
   ay w' x op OT.length oc (4+(1+2*mU sub+3)) 1 1 5 [u8 0] (bytes (b9 218 H3)) F:=fun k w' f' p' c' x hx hS hT F hF=>by
  refine hS.put (by rw[ba,hH3l]) (fun b' hb'=>?_) (by rw[ba,hH3l];omega) fun p10 c10 u1 u2 f1 eu hcl hfz S43 hkp _ _=>?_
  ·rcases hx b' hb' with rfl|rfl<;>simp
  ·exact hF p10 c10 u1 u2 f1 eu hcl hfz (DA S43.cell.2 (by simp) (by simp)) (S43.mono (fun _ h=>by simp[h]) (fun t ht=>by simp at ht⊢;rcases ht with e|e<;>simp[e])) (hT.kp (hkp 7 (by omega) (by omega)))
 refine⟨fun vs u=>vs=[]/\∃(f:Nat->Nat) (op:Option E_) (oc:Nat),bP w u f L k3 op oc (OT++b9 218 H3) [⟨6,some ⟨k48,0,none⟩,517,517,1,bN SE++T⟩,⟨9,some ⟨b,0,none⟩,1,1,1,[.pointer (some ⟨k48,0,none⟩)]⟩]/\lk SE l0 l1 c0 c1 f u,⟨⟨_,_,_,S40c.cell.1,fun k hk w50 hL=>?_⟩,fun k hk=>⟨fun w50 hL=>?_,fun w50 hL=>?_⟩⟩,fun ai hI=>?_⟩
 ·obtain⟨f50,S50,T50⟩:=xz k w50 hk hL
  refine app k w50 f50 _ (fun b' hb'=>by simpa[am]using hb') S50 T50 _ fun p' c' w51 f51 S51 T51=>?_
  have hsl:=Th.sl (S51.get (t:=⟨4,p',1+2*mU sub+3,c',1,bytes H3⟩) (by simp))
  refine dw (Sl.toS hsl fun _ _=>trivial) hH3l.symm (by omega) fun p9 c9 w52 hF52=>⟨_,_,_,rfl,hF52.ext.keep _,bytes (b9 218 H3),by rw[ar,ba,hH3l];omega,cj _,hF52.sl.cells,?_⟩
  exact put k w52 _ p' c' _ (fun b' hb'=>by simpa[am]using hb') (S51.step hF52.ext 10) (T51.kp (fe.ext hF52.ext)) _ fun pp cc u1 u2 f2 eu h1 h2 h3 h4 h5=>by
   subst eu;exact⟨h1,h2,h3,rfl,f2,pp,cc,h4,h5⟩
 ·obtain⟨f50,S50,T50⟩:=xz k w50 hk hL
  refine⟨_,_,_,S50.cell.1,?_⟩;refine app k w50 f50 _ (fun b' hb'=>by simpa[am]using hb') S50 T50 _ fun p' c' w51 f51 S51 T51=>?_
  have hsl:=Th.sl (S51.get (t:=⟨4,p',1+2*mU sub+3,c',1,bytes H3⟩) (by simp))
  refine dw (Sl.toS hsl fun _ _=>trivial) hH3l.symm (by omega) fun p9 c9 w52 hF52=>⟨_,_,_,rfl,hF52.ext.keep _,bytes (b9 218 H3),by rw[ar,ba,hH3l];omega,cj _,hF52.sl.cells,?_⟩
  exact put k w52 _ p' c' _ (fun b' hb'=>by simpa[am]using hb') (S51.step hF52.ext 10) (T51.kp (fe.ext hF52.ext)) _ fun pp cc u1 u2 f2 eu h1 h2 h3 h4 h5=>by
   subst eu;exact⟨h1,h2,h3,rfl,f2,pp,cc,h4,h5⟩
 ·obtain⟨f50,S50,T50⟩:=xz k w50 hk hL
  refine app k w50 f50 _ (fun b' hb'=>by simpa[am]using hb') S50 T50 _ fun p' c' w51 f51 S51 T51=>⟨⟨_,_,_,S51.cell.1,?_⟩,?_⟩
  ·have hsl:=Th.sl (S51.get (t:=⟨4,p',1+2*mU sub+3,c',1,bytes H3⟩) (by simp))
   refine dw (Sl.toS hsl fun _ _=>trivial) hH3l.symm (by omega) fun p9 c9 w52 hF52=>⟨_,_,_,rfl,hF52.ext.keep _,bytes (b9 218 H3),by rw[ar,ba,hH3l];omega,cj _,hF52.sl.cells,?_⟩
   exact put k w52 _ p' c' _ (fun b' hb'=>by simpa[am]using hb') (S51.step hF52.ext 10) (T51.kp (fe.ext hF52.ext)) _ fun pp cc u1 u2 f2 eu h1 h2 h3 h4 h5=>by
    subst eu;exact⟨h1,h2,h3,rfl,f2,pp,cc,h4,h5⟩
  ·have hsl:=Th.sl (S51.get (t:=⟨4,p',1+2*mU sub+3,c',1,bytes H3⟩) (by simp))
   refine dw (Sl.toS hsl fun _ _=>trivial) hH3l.symm (by omega) fun p9 c9 w52 hF52=>⟨_,_,_,rfl,hF52.ext.keep _,_,_,_,(S51.step hF52.ext 10).cell.1,bytes (b9 218 H3),by rw[ar,ba,hH3l];omega,cj _,hF52.sl.cells,?_⟩
   exact put k w52 _ p' c' _ (fun b' hb'=>by simpa[am]using hb') (S51.step hF52.ext 10) (T51.kp (fe.ext hF52.ext)) _ fun pp cc u1 u2 f2 eu h1 h2 h3 h4 h5=>by
    subst eu;exact⟨h1,h2,h3,rfl,f2,pp,cc,h4,h5⟩
 clear put app xz S40c hT4 hHb;obtain⟨_,f,op,oc,S64,T64⟩:=hI;have hO5l:(OT++b9 218 H3).length<=21000:=by rw[J_,ba,hH3l];omega
 have hO5:OT++b9 218 H3=jT qf (mU sub)++b9 192 (bX W H sub (mU sub))++b9 196 (dL 0 (bw SE 0))++b9 196 (dL 1 (bw SE 1))++b9 218 (bH sub (mU sub)++[0,63,0]):=by
  rw[<-hOT,il,il,<-hO2];simp[lG];rfl
 generalize hO5e:OT++b9 218 H3=O5 at*;have S64d:=S64.dr;have T64d:=T64.kp (fe.drew);have zd:ai.drew.heap.size=ai.heap.size:=rfl;generalize ai.drew=wb' at*;clear S64 T64;have h9:=Th.cs (S64d.get (t:=⟨9,some ⟨b,0,none⟩,1,1,1,[.pointer (some ⟨k48,0,none⟩)]⟩) (by simp)) (show 0<1 by omega)
 have h6:=Th.cs (S64d.get (t:=⟨6,some ⟨k48,0,none⟩,517,517,1,bN SE++T⟩) (by simp)) (show 0<517 by omega)
 subst hTe;have wrt:∀(wb:Nat) (w':C_),Ext wb' w'->wb'.heap.size<=wb->eP w' (some ⟨wb,0,none⟩) wb (fun _=>False) [] 0 true->(∃v,w'.cell? ⟨k48,516,none⟩=some v)/\w'.frozen? ⟨k48,516,none⟩=false/\¬k48∈[k1]/\∃(f':Nat->Nat),bP w (ab w' ⟨k48,516,none⟩ [.pointer (some ⟨wb,0,none⟩)] 0) f' L k3 op oc O5 [⟨6,some ⟨k48,0,none⟩,517,517,1,bN SE++[.slice l0 256 n0,.slice l1 256 n1,.slice c0 256 n2,.slice c1 256 n3,.pointer (some ⟨wb,0,none⟩)]⟩,⟨9,some ⟨b,0,none⟩,1,1,1,[.pointer (some ⟨k48,0,none⟩)]⟩]/\
   lk SE l0 l1 c0 c1 f' (ab w' ⟨k48,516,none⟩ [.pointer (some ⟨wb,0,none⟩)] 0)/\eP (ab w' ⟨k48,516,none⟩ [.pointer (some ⟨wb,0,none⟩)] 0) (some ⟨wb,0,none⟩) wb (fun _=>False) [] 0 true/\f' wb=10:=fun wb w' hE hwb hw=>by
  have S65:=S64d.step hE 10;obtain⟨b',q1,q2,q3,q4,S66,hK⟩:=S65.set (fun t ht=>by
   simp only[I_,H_,or_false]at ht;rcases ht with rfl;simp) (k:=516) (us:=[.pointer (some ⟨wb,0,none⟩)]) (by show 516+1<=(bN SE++_).length;rw[J_,gF];simp) (by show 0<517;omega)
  have hb':b'=k48:=by
   simp only[b_,E_.mk.injEq,and_true]at q1;exact q1.symm
  subst hb';have hcs:=q4 0 (by simp)
  rw[eg]at hcs;have hkw:=h6.1.lt;refine⟨hcs.1,hcs.2,mD q2 hk1L,_,?_,(T64d.kp (fe.ext hE)).kp (hK 7 (by show(7:Nat)≠6;omega)),hw.chg (Chg.setCells w' ⟨b',516,none⟩ _ 0) (show¬wb=b' by omega) (fun _ h=>h.elim),iF hwb⟩
  have e:(bN SE++[U_ l0 256 n0,.slice l1 256 n1,.slice c0 256 n2,.slice c1 256 n3,.pointer none]).take 516++[.pointer (some ⟨wb,0,none⟩)]++(bN SE++[U_ l0 256 n0,.slice l1 256 n1,.slice c0 256 n2,.slice c1 256 n3,.pointer none]).drop (516+[D_.pointer (some ⟨wb,0,none⟩)].length)=bN SE++[.slice l0 256 n0,.slice l1 256 n1,.slice c0 256 n2,.slice c1 256 n3,.pointer (some ⟨wb,0,none⟩)]:=by
   have hcl:=gF SE;rw[List.take_append,List.take_of_length_le (by omega),List.drop_append,List.drop_eq_nil_of_le (by simp;omega),hcl]
   simp
  rw[<-e];exact S66
 refine⟨fun vs u=>vs=[]/\∃(wb:Nat) (f:Nat->Nat),bP w u f L k3 op oc O5 [⟨6,some ⟨k48,0,none⟩,517,517,1,bN SE++[.slice l0 256 n0,.slice l1 256 n1,.slice c0 256 n2,.slice c1 256 n3,.pointer (some ⟨wb,0,none⟩)]⟩,⟨9,some ⟨b,0,none⟩,1,1,1,[.pointer (some ⟨k48,0,none⟩)]⟩]/\lk SE l0 l1 c0 c1 f u/\eP u (some ⟨wb,0,none⟩) wb (fun _=>False) [] 0 true/\f wb=10,⟨⟨_,h9.1.cell (i:=0) rfl,?_⟩,?_⟩,fun w67 hI=>?_⟩
 ·refine mq fun wb w65 hE65 hwb hw65=>⟨_,rfl,hE65.keep _,ap rfl ?_⟩
  rw[show(⟨k48,0,none⟩:E_).add 516=⟨k48,516,none⟩from af _ _ _]
  obtain⟨r1,r2,r3,f',r4,r5,r6,r7⟩:=wrt wb w65 hE65 hwb hw65;exact⟨r1,r2,r3,rfl,wb,f',r4,r5,r6,r7⟩
 ·refine mq fun wb w65 hE65 hwb hw65=>⟨_,rfl,hE65.keep _,_,(h9.1.ext hE65).cell (i:=0) rfl,ap rfl ?_⟩
  rw[show(⟨k48,0,none⟩:E_).add 516=⟨k48,516,none⟩from af _ _ _]
  obtain⟨r1,r2,r3,f',r4,r5,r6,r7⟩:=wrt wb w65 hE65 hwb hw65;exact⟨r1,r2,r3,rfl,wb,f',r4,r5,r6,r7⟩
 clear wrt h9 h6 S64d T64d;obtain⟨_,wb,f,S67,T67,W67,hfwb⟩:=hI;intro kf w68 hn68;have e68:=hn68.1;have s68:=hn68.size;have hk1u:=S67.ths.pal.av k1 hk1L;have zw67:=S67.ext.size;have hcf:=hn68.cs.set1 (off:=0) (v:=.func (.func 38) #[] #[.pointer (some ⟨b,0,none⟩),.pointer (some ⟨k3,0,none⟩)]) (by simp)
 have cF:=Chg.setCells w68 ⟨kf,0,none⟩ [.func (.func 38) #[] #[.pointer (some ⟨b,0,none⟩),.pointer (some ⟨k3,0,none⟩)]] 0;refine⟨⟨_,hn68.cs.cell (i:=0) rfl⟩,hn68.cs.frozen 0,by simp;omega,?_⟩
 generalize ab w68 ⟨kf,0,none⟩ [.func (.func 38) #[] #[.pointer (some ⟨b,0,none⟩),.pointer (some ⟨k3,0,none⟩)]] 0=u69 at*;have hwb67:=W67.lt;have hc69:Chg (fun _=>False) w67 u69:=(hn68.ext.chg (S:=fun _=>False)).trans cF fun i hi hl=>by
  have hi:i=kf:=hi;omega
 have hE69:Ext w67 u69:=hc69.ext fun _ h=>h.elim;obtain⟨f69,S69,T69,hf69,hfkf⟩:∃f',bP w u69 f' L k3 op oc O5 [⟨6,some ⟨k48,0,none⟩,517,517,1,bN SE++[.slice l0 256 n0,.slice l1 256 n1,.slice c0 256 n2,.slice c1 256 n3,.pointer (some ⟨wb,0,none⟩)]⟩,⟨9,some ⟨b,0,none⟩,1,1,1,[.pointer (some ⟨k48,0,none⟩)]⟩]/\lk SE l0 l1 c0 c1 f' u69/\f' wb=10/\f' kf=11:=
  ⟨_,S67.step hE69 11,T67.kp (fe.ext hE69),by rw[dm hwb67];exact hfwb,iF (by omega)⟩
 have W69:=W67.ext hE69;have hk1u':=S69.ths.pal.av k1 hk1L;have h9:=Th.cs (S69.get (t:=⟨9,some ⟨b,0,none⟩,1,1,1,[.pointer (some ⟨k48,0,none⟩)]⟩) (by simp)) (show 0<1 by omega)
 have h6:=Th.cs (S69.get (t:=⟨6,some ⟨k48,0,none⟩,517,517,1,bN SE++[.slice l0 256 n0,.slice l1 256 n1,.slice c0 256 n2,.slice c1 256 n3,.pointer (some ⟨wb,0,none⟩)]⟩) (by simp)) (show 0<517 by omega)
 have hf48:f69 k48=6:=h6.2.1;have hwbw:w.heap.size<=wb:=by
  rcases V_ wb w.heap.size with g|g
  ·have:=S69.low wb g
   rw[hf69]at this;cases this
  ·exact g
 clear S67 T67 W67 hn68 cF hc69 hk1u hwb67 hfwb;refine⟨_,h9.1.cell (i:=0) rfl,?_⟩;have hD:∀b',f69 b'=7/\b'<u69.heap.size->w.heap.size<=b':=fun b' hb'=>by
  rcases V_ b' w.heap.size with g|g
  ·have:=S69.low b' g
   rw[hb'.1]at this;cases this
  ·exact g
 have hSnk:OE w k48 wb (bw SE 0) (bw SE 1) (fun b'=>f69 b'=7/\b'<u69.heap.size) (fun b'=>b'<u69.heap.size/\b'≠k48/\b'≠wb/\f69 b'≠7) [] u69:=by
  refine⟨S69.ext,fun b' hb'=>⟨hb'.1,hb'.2.1,hb'.2.2.1,fun hd=>hb'.2.2.2 hd.1⟩,hwbw,⟨fun e=>?_,fun hd=>?_⟩,fun b' hd=>hd.2,(fun x hx=>(H_ hx).elim),⟨bN SE,l0,l1,c0,c1,n0,n1,n2,n3,gF SE,h6.1,?_⟩,fun _=>False,(fun _ h=>h.elim),W69⟩
  ·rw[e,hf69]at hf48;cases hf48
  ·have:=hd.1
   rw[hf69]at this;cases this
  ·obtain⟨g1,g2,g3,g4⟩:=T69
   exact⟨by rw[F1];exact g1.mono fun b' hb' hl=>⟨hb',hl⟩,by rw[F1];exact g3.mono fun b' hb' hl=>⟨hb',hl⟩,g2.mono fun b' hb' hl=>⟨hb',hl⟩,g4.mono fun b' hb' hl=>⟨hb',hl⟩⟩
 have hcov:∀x,x∈SE->1<=(if x.1=0 then bw SE 0 else bw SE 1).getD x.2.1 0:=fun x hx=>by
  rcases(hok x hx).tab with e|e
  ·rw[if_pos e];exact hcov0 x hx e
  ·rw[if_neg (by omega)];exact hcov1 x hx e
 refine EP (Pf hT0 hT1) hSnk hJ h (by rw[hSE];exact hcov) fun A' w70 hA hc70 hS70=>⟨rfl,hc70.keep (fun b' hb' hn=>hn ?_),?_⟩
 ·have hb':b'=k1:=by simpa using hb'
  have h0:=hk1u'.2.2;rw[hb'];exact⟨hk1u'.2.1,(fun e=>by rw[e,hf48]at h0;cases h0),(fun e=>by rw[e,hf69]at h0;cases h0),by omega⟩
 rw[hSE]at hS70;have hkfl:=hcf.lt;have hCf70:=hcf.chg hc70 fun hn=>hn ⟨hkfl,(fun e=>by rw[e,hf48]at hfkf;cases hfkf),(fun e=>by rw[e,hf69]at hfkf;cases hfkf),by omega⟩
 refine⟨_,_,_,hCf70.cell (i:=0) rfl,?_⟩;obtain⟨C,m0,m1,d0,d1,r0,r1,r2,r3,hCl,hC70,_⟩:=hS70.obj;obtain⟨S,hSp,hW70⟩:=hS70.wr;have hAA:∀b',b'<u69.heap.size->¬(b'<u69.heap.size/\b'≠k48/\b'≠wb/\f69 b'≠7)->b'=k48\/b'=wb\/f69 b'=7:=fun b' hb' hn=>by
  rcases P_ b' k48 with q1|q1
  ·rcases P_ b' wb with q2|q2
   ·rcases P_ (f69 b') 7 with q3|q3
    ·exact(hn ⟨hb',q1,q2,q3⟩).elim
    ·exact .inr (.inr q3)
   ·exact .inr (.inl q2)
  ·exact .inl q1
 have S70:=((S69.mono (rest':=[⟨9,some ⟨b,0,none⟩,1,1,1,[.pointer (some ⟨k48,0,none⟩)]⟩]) (fun _ h=>h) (fun t ht=>by simp at ht⊢;simp[ht])).chg (k:=10) hc70 (fun b' hb' hz=>by
  have hcol:(f69 b'=6\/f69 b'=10\/f69 b'=7)/\w.heap.size<=b':=by
   rcases hAA b' hb' hz with e|e|e
   ·rw[e];exact⟨.inl hf48,hwk48⟩
   ·rw[e];exact⟨.inr (.inl hf69),hwbw⟩
   ·exact⟨.inr (.inr e),hD b' ⟨e,hb'⟩⟩
  refine⟨hcol.2,by omega,by omega,fun t ht=>?_⟩
  simp only[I_,H_,or_false]at ht;rw[ht];show(9:Nat)≠f69 b';omega)).add (t:=⟨6,some ⟨k48,0,none⟩,517,517,1,C++[.slice m0 256 r0,.slice m1 256 r1,.slice d0 256 r2,.slice d1 256 r3,.pointer (some ⟨wb,0,none⟩)]⟩) (Th.ofCs hC70 (by rw[J_,hCl];rfl) (by rw[dm h6.1.lt];exact hf48) hwk48) (by show 2<6;omega)
 have hwok:=(ny (up:=true) (bn (bw SE 0) (bw SE 1) SE) ([],0) yR).1;have hbits:=mL (up:=true) (bn (bw SE 0) (bw SE 1) SE) ([],0);have hbb:=rE hT0 hT1 SE hok;have hwbl:=W69.lt;have hcolS:∀b',b'=wb\/S b'->w.heap.size<=b'/\dz f69 u69.heap.size 10 b'=10:=fun b' hb'=>by
  rcases hb' with rfl|hb'
  ·exact⟨hwbw,by rw[dm hwbl];exact hf69⟩
  ·obtain⟨q1,q2,q3,q4⟩:=hSp b' hb'
   refine⟨q1,?_⟩;rcases V_ b' u69.heap.size with g|g
   ·rcases hAA b' g (fun ha=>q2 (hA b' ha))with e|e|e
    ·exact(q3 e).elim
    ·rw[e]at hb';exact(hW70.ne hb').elim
    ·exact(q4 ⟨e,g⟩).elim
   ·exact iF g
 have hp516:(C++[U_ m0 256 r0,.slice m1 256 r1,.slice d0 256 r2,.slice d1 256 r3,.pointer (some ⟨wb,0,none⟩)])[516]?=some (.pointer (some ⟨wb,0,none⟩)):=by
  rw[List.getElem?_append_right (by omega),hCl];rfl
 refine IG (by kernel_rfl) (JA S70 (by rw[J_,hCl];rfl) hp516 (fun t ht=>(H_ ht).elim) hW70 hwok hcolS (by rw[hbits];simp only;omega) (by omega) fun f' pp cc w71 S71 hf' hc71=>⟨rfl,hc71.keep (fun b' hb' hz=>?_),?_⟩)
 ·have hb':b'=k1:=by simpa using hb'
  have h0:=(S70.ths.pal.av k1 hk1L).2.2;rw[hb']at hz;rcases hz with hz|hz|hz|hz|hz
  ·have:=(hcolS k1 (.inl hz)).2;omega
  ·have:=(hcolS k1 (.inr hz)).2;omega
  ·omega
  ·omega
  ·have h00:=hk1u'.2.2
   rw[hz,hf48]at h00;cases h00
 have hfin:O5++be (b6 (bw SE 0) (bw SE 1) SE)++[255,217]=ll W H sub qf (bw SE 0) (bw SE 1) SE:=by
  rw[hO5];rfl
 have hpl:=D2 hwok;have hst:=iC (b6 (bw SE 0) (bw SE 1) SE);have hscl:(b6 (bw SE 0) (bw SE 1) SE).length<=2^30:=by
  have h4:=hpl.2.2.2.1;have h5:b6 (bw SE 0) (bw SE 1) SE=iM (cT true (bn (bw SE 0) (bw SE 1) SE) ([],0)):=rfl;rw[h5];omega
 have S71:bP w w71 f' L k3 pp cc (O5++be (b6 (bw SE 0) (bw SE 1) SE)) []:=S71;have hl71:(O5++be (b6 (bw SE 0) (bw SE 1) SE)).length<=2^33:=by rw[J_];omega
 generalize O5++be (b6 (bw SE 0) (bw SE 1) SE)=O6 at*;refine⟨_,_,_,S71.cell.1,?_⟩;intro k132 hk132 w72 hL72;have S72:=S71.locl hL72 (fun b' hb'=>by
  have hb':b'=k132\/b'=k1:=by simpa using hb'
  rcases hb' with rfl|rfl
  ·exact .inr hk132
  ·exact .inl hk1L)
 refine fM.app2 (t:=⟨1,pp,O6.length,cc,1,bytes O6⟩) S72.ths (fun t ht=>?_) (fun b' hb'=>?_) rfl rfl (by show(O6.length+2)*1<=2^47;omega) (by show O6.length+2<2^62;omega) fun p73 c73 u1 T73 _ _ _=>?_
 ·simp only[I_,H_,or_false]at ht
  rw[ht];show(2:Nat)≠1;omega
 ·have hb':b'=k132\/b'=k1:=by simpa[am]using hb'
  rcases hb' with rfl|rfl<;>simp
 have hth:=(T73.th ⟨1,p73,O6.length+2,c73,1,bytes O6++[u8 255,u8 217]⟩ (by simp)).2
 have hE73:=T73.pal.ext;have hfg:=Th.fg hth hE73;have hbb2:bytes O6++[u8 255,u8 217]=bytes (ll W H sub qf (bw SE 0) (bw SE 1) SE):=by rw[<-hfin,bY];rfl
 rw[hbb2]at hfg;refine hR p73 _ c73 u1 (bw SE 0) (bw SE 1) hE73 hT0 hT1 hcov ((Fg.toS hfg).mono fun b' hb' _=>hb'.1) ?_ (Fg.cap hfg);rw[<-hfin,J_];rfl
def DW(x1 x2:Int)(sa1:aj)(sl1 sc1:Nat)(x3 x4:Int)(w:C_)(R:bV):Prop:=
 ∀k1,w.heap.size<=k1->∀k2,w.heap.size<=k2->∀w1,Locl [k2,k1] w w1->G_ P 18 #[.agg #[aa x1,aa x2,.slice sa1 sl1 sc1]] w1 fun e1 w2=>∃c1,(e1=.returned (.bool c1))/\ao [k2,k1] w1 w2/\ae (!c1) (∀w3,Locl [k2,k1] w2 w3->R (aM #[.agg #[aa 0,aa 0,aa 0,.slice none 0 0],aa 6]) w3) (ae (decide (x3<1)||decide (x3>100)||decide (x4<0)||decide (x4>2)) (∀w4,Locl [k2,k1] w2 w4->R (aM #[.agg #[aa 0,aa 0,aa 0,.slice none 0 0],aa 2]) w4) (∀k3:Nat,∀w5,(aK w2 (K_ #[aa 1,aa 1,.slice none 0 0,.slice none 0 0] 55) k3 w5)->∀k4,w5.heap.size<=k4->∃I1:aw,(ae (decide (x4>0)) (∀w6,Locl [k4,k2,k1] w5 w6->∀k5 w7,(aK w6 (K_ #[aa 1,aa 1,.slice none 0 0,.slice none 0 0,aa 1,aa 1,.slice none 0 0,.slice none 0 0,aa 1,aa 1,.slice none 0 0,.slice none 0 0] 55) k5 w7)->∀w8,Locl [k4,k2,k1] w7 w8->I1 [aa x1,aa x2,aa 0,.slice (aH k5) 3 3] w8) (∀w9,Locl [k4,k2,k1] w5 w9->I1 [aa x1,aa x2,aa 0,.slice (aH k3) 1 1] w9))/\∀n1 n2 n3 p1 k6 k7 w10,(I1 [aa n1,aa n2,aa n3,.slice p1 k6 k7] w10)->∃I2:aw,(ae (x4==2) (aq (p1) (k6) (0) (4) fun a1=>aI w10.drew a1 [aa 2] fun u1=>(¬a1.block∈[k4,k2,k1])/\aq (p1) (k6) (0) (4) fun a2=>aI u1 (a2.add 1) [aa 2] fun u2=>(¬(a2.add 1).block∈[k4,k2,k1])/\I2 [] u2) (I2 [] w10))/\∀w11,(I2 [] w11)->G_ P 19 #[.agg #[aa n1,aa n2,aa n3,.slice p1 k6 k7]] w11 fun e2 w12=>∃n4 n5 n6 n7,(e2=.returned (.tuple #[aa n4,aa n5,aa n6,aa n7]))/\ao [k4,k2,k1] w11 w12/\∃(I3:aw) (m1:List D_->C_->Nat),(I3 [aa 0] w12)/\∀n8 w13,(I3 [aa n8] w13)->ae (decide (n8<(k6:Int))) (aq (p1) (k6) (n8) (4) fun a3=>∃(n9 n10:Int) (p2:aj) (k8 k9:Nat) (p3:aj) (k10 k11:Nat),(w13.cell? a3=some (aa n9))/\(w13.cell? (a3.add 1)=some (aa n10))/\(w13.cell? (a3.add 2)=some (.slice p2 k8 k9))/\(w13.cell? (a3.add 3)=some (.slice p3 k10 k11))/\∀k12,w13.heap.size<=k12->∀w14,Locl [k12,k4,k2,k1] w13 w14->G_ P 20 #[aa x3,.bool (decide (n8>0))] w14 fun e3 w15=>∃p4 k13 k14 n11,(e3=.returned (.tuple #[.slice p4 k13 k14,aa n11]))/\ao [k12,k4,k2,k1] w14 w15/\aq (p1) (k6) (n8) (4) fun a4=>aI w15 (a4.add 2) [.slice p4 k13 k14] fun u3=>(¬(a4.add 2).block∈[k12,k4,k2,k1])/\(n9≠0)/\(n10≠0)/\∃(I4:aw) (m2:List D_->C_->Nat),(I4 [aa 0] u3.drew)/\∀n12 w16,(I4 [aa n12] w16)->ae (decide (n12<A_.wrap (A_.wrap (A_.wrap (n6*n9)*n7)*n10))) ((A_.wrap (n6*n9)≠0)/\(A_.wrap (n6*n9)≠0)/\∃(I5:aw) (m3:List D_->C_->Nat),(I5 [.slice none 0 0,aa 0] w16.drew)/\∀p5 k15 k16 n13 w17,(I5 [.slice p5 k15 k16,aa n13] w17)->ae (decide (n13<64)) (∃I6:aw,∃m4:List D_->C_->Nat,(I6 [aa (ad .quo .i64 (A_.wrap (ad .quo .i64 n4 n9*ad .quo .i64 n5 n10)) 2),aa 0] w17)/\∀n14 n15 w18,(I6 [aa n14,aa n15] w18)->ae (decide (n15<A_.wrap (ad .quo .i64 n4 n9*ad .quo .i64 n5 n10))) ((ad .quo .i64 n4 n9≠0)/\(ad .quo .i64 n4 n9≠0)/\G_ P 22 #[.agg #[aa x1,aa x2,.slice sa1 sl1 sc1],aa (A_.wrap (A_.wrap (A_.wrap (A_.wrap (ad .rem .i64 n12 (A_.wrap (n6*n9))*8)+ad .rem .i64 n13 8)*ad .quo .i64 n4 n9)+ad .rem .i64 n15 (ad .quo .i64 n4 n9))),aa (A_.wrap (A_.wrap (A_.wrap (A_.wrap (ad .quo .i64 n12 (A_.wrap (n6*n9))*8)+ad .quo .i64 n13 8)*ad .quo .i64 n5 n10)+ad .quo .i64 n15 (ad .quo .i64 n4 n9)))] (w18.drew) fun e4 w19=>∃n16 n17 n18 n19,(e4=.returned (.agg #[au n16,au n17,au n18,au n19]))/\(ao ([k12,k4,k2,k1]) (w18.drew) w19)/\G_ P 21 #[.agg #[au n16,au n17,au n18,au n19],aa x4] w19 fun e5 w20=>∃n20 n21 n22,(e5=.returned (.agg #[aa n20,aa n21,aa n22]))/\ao [k12,k4,k2,k1] w19 w20/\(0<=n8)/\(n8<3)/\∃n23:Int,([Q_ .i64 n20,Q_ .i64 n21,Q_ .i64 n22][n8.toNat]?=some (Q_ .i64 n23))/\(I6 [aa (A_.wrap (n14+n23)),aa (A_.wrap (n15+1))] w20)/\m4 [aa (A_.wrap (n14+n23)),aa (A_.wrap (n15+1))] w20<m4 [aa n14,aa n15] w18) ((A_.wrap (ad .quo .i64 n4 n9*ad .quo .i64 n5 n10)≠0)/\∀k17,w18.heap.size<=k17->∀w21,Locl [k17,k12,k4,k2,k1] w18 w21->ay (w21) ([(189,k17,[aa (A_.wrap (ad .quo .i64 n14 (A_.wrap (ad .quo .i64 n4 n9*ad .quo .i64 n5 n10))-128))]),(14,k12,[aa n9,aa n10,.slice p2 k8 k9,.slice p3 k10 k11]),(8,k4,[aa n1,aa n2,aa n3,.slice p1 k6 k7]),(6,k2,[aa 0,aa 0,aa 0,.slice none 0 0]),(3,k1,[aa x1,aa x2,.slice sa1 sl1 sc1])]) (p5) (k15) (k16) (1) (1) (8) (3) ([aa 0]) ([aa (A_.wrap (ad .quo .i64 n14 (A_.wrap (ad .quo .i64 n4 n9*ad .quo .i64 n5 n10))-128))]) fun p6 k18 k19 w22=>(I5 [.slice p6 k18 k19,aa (A_.wrap (n13+1))] w22)/\m3 [.slice p6 k18 k19,aa (A_.wrap (n13+1))] w22<m3 [.slice p5 k15 k16,aa n13] w17)) (G_ P 23 #[.slice p5 k15 k16] w17 fun e6 w23=>∃p7 k20 k21 n24,(e6=.returned (.tuple #[.slice p7 k20 k21,aa n24]))/\ao [k12,k4,k2,k1] w17 w23/\G_ P 24 #[.slice p7 k20 k21,.slice p4 k13 k14] w23 fun e7 w24=>∃p8 k22 k23 n25,(e7=.returned (.tuple #[.slice p8 k22 k23,aa n25]))/\ao [k12,k4,k2,k1] w23 w24/\aq (p8) (k22) (0) (1) fun a5=>∃n26,(w24.cell? a5=some (aa n26))/\G_ P 25 #[aa (A_.wrap (n26+1024)),aa 2047] w24 fun e8 w25=>∃n27,(e8=.returned (aa n27))/\ao [k12,k4,k2,k1] w24 w25/\aq (p8) (k22) (0) (1) fun a6=>aI w25 a6 [aa (A_.wrap (n27-1024))] fun u4=>(¬a6.block∈[k12,k4,k2,k1])/\∃(I7:aw) (m5:List D_->C_->Nat),(I7 [aa 1] u4)/\∀n28 w26,(I7 [aa n28] w26)->ae (decide (n28<64)) (aq (p8) (k22) (n28) (1) fun a7=>∃n29,(w26.cell? a7=some (aa n29))/\G_ P 25 #[aa (A_.wrap (n29+1023)),aa 2046] w26 fun e9 w27=>∃n30,(e9=.returned (aa n30))/\ao [k12,k4,k2,k1] w26 w27/\aq (p8) (k22) (n28) (1) fun a8=>aI w27 a8 [aa (A_.wrap (n30-1023))] fun u5=>(¬a8.block∈[k12,k4,k2,k1])/\(I7 [aa (A_.wrap (n28+1))] u5)/\m5 [aa (A_.wrap (n28+1))] u5<m5 [aa n28] w26) (aq (p1) (k6) (n8) (4) fun a9=>∃p9 k24 k25,(w26.drew.cell? (a9.add 3)=some (.slice p9 k24 k25))/\∀k26,(w26.drew.heap.size<=k26)->∀w28:C_,(Locl ([k26,k12,k4,k2,k1]) (w26.drew) w28)->ay (w28) ([(234,k26,[.slice p8 k22 k23]),(14,k12,[aa n9,aa n10,.slice p2 k8 k9,.slice p3 k10 k11]),(8,k4,[aa n1,aa n2,aa n3,.slice p1 k6 k7]),(6,k2,[aa 0,aa 0,aa 0,.slice none 0 0]),(3,k1,[aa x1,aa x2,.slice sa1 sl1 sc1])]) (p9) (k24) (k25) (1) (1) (24) (52) ([.slice none 0 0]) ([.slice p8 k22 k23]) fun p10 k27 k28 w29=>aq (p1) (k6) (n8) (4) fun a10=>aI w29 (a10.add 3) [.slice p10 k27 k28] fun u6=>(¬(a10.add 3).block∈[k26,k12,k4,k2,k1])/\(I4 [aa (A_.wrap (n12+1))] u6)/\m2 [aa (A_.wrap (n12+1))] u6<m2 [aa n12] w16))) ((I3 [aa (A_.wrap (n8+1))] w16)/\m1 [aa (A_.wrap (n8+1))] w16<m1 [aa n8] w13)) (∀w30,Locl [k4,k2,k1] w13 w30->R (aM #[.agg #[aa n1,aa n2,aa n3,.slice p1 k6 k7],aa 0]) w30)))
theorem zK(x1 x2:Int)(sa1:aj)(sl1 sc1:Nat)(x3 x4:Int)(w:C_)(R:bV)(h:DW x1 x2 sa1 sl1 sc1 x3 x4 w R):G_ P 7 #[.agg #[aa x1,aa x2,.slice sa1 sl1 sc1],aa x3,aa x4] w R:=
  aF (ac:=DX) Tryz.func7 h
end Go.Proofs.YtoomejkiagonpaaGreatDoor
