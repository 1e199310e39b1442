import Derived.Test.YtajnhfklchlahaaGreatDoorMAD
import Derived.Test.YtajnhfklchlahaaGreatDoorMAE
import Derived.Great.BuildSlice
set_option linter.all false
set_option maxHeartbeats 6400000
set_option maxRecDepth 100000
namespace Go.Proofs.YtajnhfklchlahaaGreatDoor
open Go.Proofs.Tryz Go.RowKit Go.Shelf
open And renaming intro->κ,intro->W
open Go renaming Addr->JM,Calls->τ,Value->π,World->ν,Calls->Y,Value->S,World->L,binOp->Xc,run_underlying->Xo,Boxed->LP,Ending->He,TypeId->Λ,maxLen->Ie,callFunc->Xa,run_takeDeferred->Xq,info_parts->Xv,callsIn_wide->XC,callsIn_of_wp_marks->XD,underlying->XF,bodyPost_ret->QM,results_tmp3->XJ,Oper->Le,Operand->Kg,wpList->Ji,wpListIn->Xn,results_tmp->Xy,wpList_load_row->XK,cell_of_row->Xe,yielded->Xg,wpList_store_row->Xw,run_loadVar_row->XH,setRow_other->XL,execOp->Xb,Program->Xp
open Go.Ending renaming returned->ι
open Go.IntKind renaming i64->u
open Go.Obj renaming cells->θ,cells->K,deferred->Kc,loop->IK
open Go.Proofs.Tryz renaming prog->γ,prog->N
open Go.Result renaming ok->Je,andThen->Ω
open Go.RowKit renaming Below->ρ,Below->T,Hid->Φ,intOf->QI
open Go.Value renaming iface->Δ,nilIface->ω,pointer->ξ,tuple->χ,int->Z,pointer->V,tuple->f,bool->υ,func->Hl,string->β,bool->z,string->O,oneCell'->φ,ownBlock->Ψ,slice->ο,slice->P,agg->Γ,agg->t,nilFunc->IY
open Option renaming none->ζ,some->δ,none->J,some->M
open _root_ renaming rfl->A,Int->C,Nat->D,ByteArray->B,List->E,UInt8->QO,if_neg->QT,if_pos->QU,Option->QV,Array->Q,ByteArray->QE,beq_eq_false_iff_ne->Xk,Array->QF,False->QZ,and_true->QW,decide_eq_true_eq->XE
open YtajnhfklchlahaaGreatDoor renaming Ga->F,ϑ->G,sm->R,QD->d,Qz->e,dc->r,QC->y,om->H,eS->I
open Bool renaming false->σ,true->ψ,false->X,true->U
open Go.Fn renaming func->Ic
open Go.LoopState renaming ready->NG
open Go.World renaming cell?->Iz,setCell->PZ
open Or renaming inl->Ξ,inr->Θ,inl->o,inr->j
open Decidable renaming decide->LH
open Go.Region renaming wanted->Jb
open List renaming replicate->Jr
variable {w q a i:Nat}{g s l:ν}{k:ByteArray}{v:List ByteArray}{h:Array π}{m:π}{b:List π}{c:Int}{p:Λ}
def ZG (f:S)(j:L):(Go.method 674 458 f "At").run N j=Je (405,f) j:=e
def ZH (f:L)(j:D)(t:C):Prop:=(∃u,f j=G u)/\∃o,f (j,1)=Δ 458 (V (M ⟨o,0,J⟩))/\f ⟨o,1,J⟩=Δ 27 (G t)
def at_any (j:D)(o:C)(f:L)(t:f j=o):Y N 405 #[V j] f λd e=>d=G o/\f=e:=by
 go_enter func405,ntmps405;go_wp2_with fail;go_ret;exact⟨A,A⟩
def Sf (u:D)(J:C)(o:L)(O:As.cC o)(q:ZH o u J):
 Y N 227 #[Δ 458 (V u)] o λk a=>(∃M,k=f #[G M,J])/\T o o a:=by
 obtain⟨⟨M,v⟩,r,w,x⟩:=q;have y:=As.HY u o ω (o.alloc (K #[ω] 461)) (O.aE ((Ge _ o).a d _)) R R;have m:=ZG;have e:=F y;have H0:=F v;have P:=F (W w x);have Z:=F O;go_enter func227,ntmps227;go_wp2_with fail;go_call e.o as k t ⟨rfl,i,g,rfl⟩;have z:T o o (i.setCell o (Δ 458 (V u))):=(((Ge _ o).a d _).t (g.m R)).s d _;have b:(i.setCell o (Δ 458 (V u))) o=Δ 458 (V u):=NJ _ _ _ (by rw[g.cell R];simp);generalize n:i.setCell o (Δ 458 (V u))=t at z b ⊢;have c:=z.ce H0.o;go_wp2_with (first|(with_reducible go_call at_any u M t c as k X ⟨rfl,rfl⟩));have l:=As.wh u r J (t,0) (G 0) (t.alloc (K #[G 0] 27)) ((Z.o.aE z).aE ((Ge _ t).a d _)) R R
  (((Ge _ t).a d _).ce (z.ce P.1)) (((Ge _ t).a d _).ce (z.ce P.2))
 go_call l as k X ⟨rfl,j,h,rfl⟩;have hd:(j.setCell (t,0) (G J)) (t,0)=J:=NJ _ _ _ (by rw[h.cell R];simp);have U:T o o (j.setCell (t,0) (G J)):=((z.a z.z _).t (h.m (by simp;exact Nat.le_succ_of_le z.z))).s z.z _;generalize j.setCell (t,0) (G J)=X at hd U;go_wp2_with fail;go_ret2;exact⟨⟨_,A⟩,U⟩
section
attribute [local go_sem] Jo
namespace Rl
def xa {t:E QO}(f:tm t w=M (q,a)):1<=q:=by
 unfold tm at f;by_cases o:w>55
 .rw[QU o] at f;cases j:qN t (w-54) with
  |none=>rw[j] at f;cases f
  |some h=>
   rw[j] at f;simp[Gd,Hf] at f;omega
 rw[QT o] at f;simp[Gd,Hf] at f;omega
def hy {j:E QO}{o:Bool}(f:fX j=M (o,w,q)):1<=w+q/\w+q<=(j:D):=by
 unfold fX at f;cases j with
 |nil=>cases f
 |cons g k=>
  simp only at f;split at f
  .simp only[Gd,Hf] at f;simp[Gx];omega
  split at f
  .cases f
  rename_i u A t;split at f
  .cases f
  split at f
  .cases f
  simp only[Gd,Hf] at f;obtain⟨-,rfl,rfl⟩:=f;have z:=xa t;omega
def gY:D->B->QV (E B)
 |0,a=>if a.size=0 then M [] else J
 |d+1,a=>if a.size=0 then M [] else
  match fX (bs a) with
  |none=>J
  |some (_,b,c)=>(gY d (a.extract (b+c) a.size)).map (a.extract 0 (b+c):: ·)
def dL (f:B):QV (E B):=gY f.size f
def Ap:∀(b:D) (a:B),a.size<=b->gY b a=gY a.size a:=by
 intro b;induction b using Nat.strongRecOn with
 |ind b e=>
  intro a z;cases b with
  |zero=>rw[(H:a.size=0)]
  |succ b=>
   by_cases f:a.size=0
   .rw[f];unfold gY;rw[QU f,QU f]
   let⟨c,d⟩:∃c,a.size=c+1:=⟨a.size-1,H⟩;rw[d];unfold gY;rw[QT f,QT f];cases t:fX (bs a) with
   |none=>rfl
   |some m=>
    let⟨n,h,l⟩:=m;have o:=hy t;rw[aX] at o;simp only;have j:(a.extract (h+l) a.size).size<=c:=eZ;rw[e b H _ H];by_cases u:c=b
    .subst u;rw[e c H _ j]
    rw[e c H _ j]
def CT (f:k.size=0):dL k=M []:=by
 rw[dL,f];rw[gY,QU f]
def Aq (f:k.size≠0)(j:fX (bs k)=J):dL k=J:=by
 unfold dL;let⟨b,e⟩:∃b,k.size=b+1:=⟨k.size-1,H⟩;rw[e];rw[gY,QT f,j]
def Ar {j:Bool}(o:k.size≠0)(f:fX (bs k)=M (j,w,q)):dL k=(dL (k.extract (w+q) k.size)).map (k.extract 0 (w+q):: ·):=by
 unfold dL;let⟨c,a⟩:∃c,k.size=c+1:=⟨k.size-1,H⟩;have t:=hy f;rw[aX] at t;have u:(k.extract (w+q) k.size).size<=c:=eZ;rw[<-Ap c _ u];rw[a];conv=>lhs;unfold gY
 rw[QT o,f];simp[a]
end Rl
def EB (f:E B->L->Prop)(j:L->Prop):QV (E B)->L->Prop
 |some d,a=>f d a
 |none,a=>j a
def ir:S->D|O a=>a.size|_=>0
def rU (j:S)(f:L):(Xc .neq 110 (Δ 458 j) ω).run N f=Je (z U) f:=by
 have o:∀b:D,(Op.equalIn (b+1) 110 (Δ 458 j) ω).run N f=Je X f:=λb=>by simp[Op.equalIn,Xo IW]
 simp only[Xc];simp[Op.equal,Op.maxDepth,o 9999]
theorem Sg (p Y U:D)(j:B)(o:E B->ν->Prop)(r:ν->Prop)(f:ν)(m:1<=U)(b3:j.size<1099511627776)
 (v:∀b f k,o b f->T f f k->o b k) (I:∀b f,o b f->f Y=j)
 (ak:∀b S f,o b f->(b:D)<j.size->YieldAt Fence.wide (U-1) N p #[O S,ω] f λg k=>g=υ ψ/\o (b++[S]) k)
 (ai:∀b h f,o b f->ZH f h 2->YieldAt Fence.wide (U-1) N p #[O ⟨#[]⟩,Δ 458 (V (δ ⟨h,0,J⟩))] f λg k=>(∃W,g=υ W)/\r k)
 (s:o [] f):
 CallsIn Fence.wide U N 278 #[Hl (.yield p) #[] #[],V Y] f λg k=>(∃W,g=ι W)/\
  EB o r (Rl.dL j) k:=by
 have a7:=I [] f s;refine callsIn_of_wp func278 A tV ?_ A;simp only[ntmps278,GZ,Gx,Hy,Nat.reduceAdd,Nat.reduceSub,Im,Il,IF,Iq,Ho,Hz];gi_wp2;gi_loopw [3] (λl wr=>∃(b:E B) (a:B),l=O a/\(b:D)+a.size<=j.size/\Φ (Rl.dL j=(Rl.dL a).map (b++ ·))/\Φ (o b wr)) (λl _=>ir l)
 case atStart=>exact⟨[],j,A,sm,F sm,F s⟩
 case round=>
  obtain⟨b,a,rfl,b2,X,Z⟩:=hrel;by_cases x:a.size=0
  .have a2:=cj x;gi_wp2;go_end0;have M:=X.o;rw[Rl.CT x] at M;rw[M];exact⟨⟨_,A⟩,by simpa[EB] using Z.o⟩
  have a2:=cp (H:0<a.size);have hcut:=ki a wr H;cases t:Rl.fX (bs a) with
  |none=>
   rw[t] at hcut;have u:=F hcut;have a9:=rU;have b0:1<=U:=m;gi_wp2_with (refine⟨tV,?_⟩;refine(callsIn_wide.2 u.o).m ?_;rintro g P ⟨⟨W,rfl,h,rfl,b1,a6⟩,K⟩;have a8:=(Below.ce K (I _ _ Z.o)));have ab:T wr wr (P.alloc (θ #[G ((j.size:C)-(a.size:C)),Δ 458 (V (δ ⟨h,0,J⟩))] 460)):=K.a K.z _;have aa:(P.alloc (θ #[G ((j.size:C)-(a.size:C)),Δ 458 (V (δ ⟨h,0,J⟩))] 460)) ⟨h,1,J⟩=Δ 27 (G 2):=by
    rw[QR ⟨h,1,J⟩ (bH b1)];exact b1
   let⟨ah,a1,ae,af,i,d⟩:=ai b P.heap.size _ (v _ _ _ Z.o ab) ⟨⟨(j.size:C)-(a.size:C),by simp⟩,h,by simp,aa⟩;rw[i];refine⟨λ_=>m,d.mono ?_⟩;rintro g a3 ⟨⟨W,rfl⟩,y⟩;gi_wp2;refine QS ?_;have M:=X.o;rw[Rl.Aq x t] at M;rw[M];exact⟨⟨_,A⟩,y⟩
  |some a4=>
   let⟨h,c,e⟩:=a4;rw[t] at hcut;have aj:=Rl.hy t;rw[aX] at aj;have u:=QC (τ N 228 #[O a] wr λg a5=>g=χ #[υ h,O (a.extract c (c+e)),O (a.extract (c+e) a.size),ω]/\T wr wr a5) hcut;have am:(a.extract (c+e) a.size).size=a.size-(c+e):=eZ;have L:Rl.dL j=(Rl.dL (a.extract (c+e) a.size)).map ((b++[a.extract 0 (c+e)])++ ·):=by
    rw[X.o,Rl.Ar x t];cases Rl.dL (a.extract (c+e) a.size)<;>simp
   have q:=F L;have al:(0:C)<=(a.size:C)-((a.extract (c+e) a.size).size:C):=H;have ap:(a.size:C)-((a.extract (c+e) a.size).size:C)<=(a.size:C):=H;have a0:((a.size:C)-((a.extract (c+e) a.size).size:C)).toNat=c+e:=H;clear L X t;let⟨n,d⟩:∃n,n=a.extract (c+e) a.size:=⟨_,A⟩;have w:(b++[a.extract 0 (c+e)]:D)+n.size<=j.size/\n.size<a.size:=by rw[d,Gk];simp[KR];omega
   rw[<-d] at q al ap a0 u am;clear d;gi_wp2_with (refine⟨tV,?_⟩;refine(callsIn_wide.2 u.o).m ?_;clear u;rintro g P ⟨rfl,K⟩;have R:=F (v _ _ _ Z.o K));have ag:a.size-(a.size-(c+e))=c+e:=H;rw[ag];let⟨ah,a1,ae,af,i,d⟩:=ak b (a.extract 0 (c+e)) P R.o H;rw[i];refine⟨λ_=>m,d.mono ?_⟩;rintro g a3 ⟨rfl,y⟩;have ao:=F y;clear i d R y;gi_wp2;go_roundw;case rel=>exact⟨b++[a.extract 0 (c+e)],n,A,w.1,q,ao⟩
   case measure=>simp only[ir];exact w.2
end
section
attribute [local go_sem] Jo
def tQ:(N.info? 9).map (λa=>(a.zero,a.size,a.bytes))=M (M I,1,16):=e
def da {base:D}{xs:E B}(z:g.ownsRow base 9 1 m (xs:D) (xs.map O)):bS g m xs:=by
 rcases z.2 with⟨rfl,M⟩|⟨P,K,t,rfl,W,u,V⟩
 .exact o ⟨J,0,A,GH M⟩
 let⟨i,_,q,k⟩:=V;refine j ⟨P,0,K,A,λd p n=>?_,aw u,i⟩;have U:t=t.toList.toArray:=R;rw[U] at u;rw[GU,cd u];have f:(t.toList.take ((xs:D)*1))[d]?=O p:=by rw[k,Ip,n];rfl
 rw[Jt] at f;split at f
 .exact f
 cases f
def km (j:L)(f:S)(o:E B):Prop:=bS j f o/\iZ j f 9
def km.cT {base:D}(f:g.ownsRow base 9 1 m v.length (v.map O)):km g m v:=⟨da f,.cT f⟩
def rS:∀(a:Fn) (first b:Q S) (c:L),(Instr.makeFunc a first b).run N c=Je (Hl a first b) c:=λ_ _ _ _=>rfl
def bW (f:LP g w p m)(j:T g g s):LP s w p m:=j.ke f
def aQ (f:g.ownsRow w q a m i b)(j:T g g s):s.ownsRow w q a m i b:=
 aK f λd c=>by
  rcases f.2 with⟨rfl,_⟩|⟨z,t,u,rfl,_,o,_⟩
  .cases c
  simp only[Ψ,Gd] at c;subst c;exact j.b _ (aw o)
def Si (j:B)(f:L):Y N 226 #[j] f λc d=>c=Hl (Ic 278) #[] #[V f]/\f.alloc (K #[j] 9)=d:=by
 have rS:=rS;go_enter func226,ntmps226;go_wp2_with fail;go_ret;exact⟨A,A⟩
def ow {z:Func}{o J:Tmp}(P:z.results=#[.cell o 33,.cell J 27]){t u:JM}{K:S}(A:h.getD o undef=V (M t))(j:h.getD J undef=V (M u))
 (O:g t=m) (U:g u=K):(results z h).run N g=Je (f #[m,K]) g:=by
 simp only[Kd] at A j;simp only[results,P];simp[IE,Ω,A,j,asAddr,loadVar,isAgg,XF,Jv,KJ,O,U]
def Sj (B:D)(j:He)(u:L):QV (E QE)->Prop
 |some d=>∃t o,j=f #[t,G 0]/\B<=o/\u.ownsRow o 9 1 t d.length (d.map O)
 |none=>j=f #[P J 0 0,G 2]
def Sk (j:He)(t:L):QV (E B)->Prop
 |some d=>∃o,j=f #[o,G 0]/\bS t o d
 |none=>j=f #[P J 0 0,G 2]
def xb (o:B)(a:ν)(j0:o.size<1048577)(y:As.cC a):τ γ 180 #[o] a λak e2=>Sj (a:D) ak e2 (Rl.dL o)/\T a a e2:=by
 apply(XC (n:=9)).1;refine XD func180 A tV ?_ A;simp only[ntmps180,GZ,Gx,Hy,Nat.reduceAdd,Nat.reduceSub,Im,Il,IF,Iq,Ho,Hz];gi_wp2_with (refine⟨tV,?_⟩;apply(callsIn_wide.2 (Si o _)).m;rintro ak af ⟨rfl,rfl⟩);have f4:∀c3 (a:ν),(Xa 278 c3).run γ a=Je (.enter 278 c3) a:=enters_of func278 Qz A;let⟨g3,a1,g0,g1,g2⟩:=Xv tQ;let⟨N,F⟩:∃N,N=(((a.alloc (K #[P J 0 0] 33)).alloc (K #[G 0] 27)).alloc (K #[P J 0 0] 33)).alloc (K #[o] 9):=⟨_,A⟩;have s4:(N:D)=(a:D)+4:=by rw[F];simp
 have e8:LP N (a:D) 33 (P J 0 0):=F▸(((Nc a 33 _).alloc _).alloc _).alloc _;have e5:LP N ((a:D)+1) 27 (G 0):=by rw[F];have:=(((Nc (a.alloc (K #[P J 0 0] 33)) 27 (G 0)).alloc (K #[P J 0 0] 33)).alloc (K #[o] 9));rwa [GG] at this
 have f0:LP N ((a:D)+2) 33 (P J 0 0):=by rw[F];have:=((Nc ((a.alloc (K #[P J 0 0] 33)).alloc (K #[G 0] 27)) 33 (P J 0 0)).alloc (K #[o] 9));rwa [GG,GG] at this
 have f1:LP N ((a:D)+3) 9 (O o):=by rw[F];have:=(Nc (((a.alloc (K #[P J 0 0] 33)).alloc (K #[G 0] 27)).alloc (K #[P J 0 0] 33)) 9 (O o));rwa [GG,GG,GG] at this
 have c7:T a a N:=by rw[F];go_grown
 rw[<-F];clear F;apply gl A dc (gf:=278) (lb:=#[ξ (M ⟨(a:D)+1+1+1,0,J⟩)]) A trivial f4;intro j3 X h1 d2 g9 ae f3 c5 d4;rw[s4] at d2 g9 c5;subst d2;have e9:=Ga y;apply(Sg ((a:D)+4+1) ((a:D)+1+1+1) 8 o
  (λl d=>d.heap[(a:D)+4+1]?=IK (X NG J)/\d.heap[(a:D)+4]?=Kc (M [])/\LP d (a:D) 33 (P J 0 0)/\LP d ((a:D)+1) 27 (G 0)/\
   (∃k,LP d ((a:D)+2) 33 k/\d.ownsRow ((a:D)+6) 9 1 k (l:D) (l.map O))/\LP d ((a:D)+3) 9 (O o)/\T a a d/\(a:D)+6<=(d:D))
  (λd=>d.heap[(a:D)+4+1]?=IK (X .done (M .ret))/\d.heap[(a:D)+4]?=Kc (M [])/\LP d (a:D) 33 (P J 0 0)/\LP d ((a:D)+1) 27 (G 2)/\T a a d)
  h1 dc H ?hJ ?hc ?hY ?hE ?h0).m
 case hJ=>
  rintro l d h3 ⟨i,r,p,w,⟨k,I,q⟩,v,n,aa⟩ j;exact⟨j.ke i,j.ke r,bW p j,bW w j,⟨k,bW I j,aQ q j⟩,bW v j,n.t (j.m n.z),GB aa j.z⟩
 case hc=>rintro l d ⟨_,_,_,_,_,v,_⟩;exact v.cell
 case h0=>exact⟨f3,c5,bW e8 (s4▸s4▸ae),bW e5 (s4▸s4▸ae),⟨_,bW f0 (s4▸s4▸ae),QN⟩,bW f1 (s4▸s4▸ae),c7.t (ae.m c7.z),H⟩
 case hY=>
  rintro l h2 d ⟨i,r,p,w,⟨k,I,q⟩,v,n,aa⟩ i7;refine d4.oj _ _ _ _ A i λe s=>?_;have t:∀b,b≠(a:D)+4+1->e.heap[b]?=d.heap[b]?:=λb h=>s▸Gu h;have a2:e.heap[(a:D)+4+1]?=IK (X .busy J):=s▸Ht (aw i);have S:=(t _ H).t r;have u:LP e (a:D) 33 (P J 0 0):=(t _ H).t p;have z:LP e ((a:D)+1) 27 (G 0):=(t _ H).t w;have a3:LP e ((a:D)+1+1) 33 k:=(t _ H).t I;have g4:LP e ((a:D)+3) 9 (O o):=(t _ H).t v;have ab:e.ownsRow ((a:D)+6) 9 1 k (l:D) (l.map O):=aK q λY y=>t Y (by
   rcases q.2 with⟨rfl,_⟩|⟨Z,a5,aj,rfl,j,_⟩
   .cases y
   simp[Ψ,Gd] at y;omega)
  have W:T a a e:=s▸bP n H _;have g5:(a:D)+6<=(e:D):=by rwa[s,IH]
  have i3:=a3.cell;clear s t i r p w I q v n aa;gi_wp2_with (gi_at_builtin;apply wpListIn_append_own _ A _ _ 33 A ((a:D)+6) 9 g3 eS 1 16 Jv a1 g0 g1 g2 A dc _ _ _ A (ab.alloc _) ⟨(e:D),0,J⟩ 1 1 [O h2] A A (cell_one_new _ _ _) QA (by have:Ie=9223372036854775807:=A;omega) H QB;intro j4 af d3 f5 _;obtain⟨Z,ai,rfl⟩:=ownsRow_succ d3;let⟨d9,f8,d8,f6,c8⟩:=zH a3 ab g5 H d3 f5;have i4:=d9.cell;have i5:=d9.frozen);have i2:=c8.aH;have ah:∀b,b≠(a:D)+1+1->b<(a:D)+6->(af.setCell ⟨(a:D)+1+1,0,J⟩ (P Z ((l:D)+1) ai)).heap[b]?=e.heap[b]?:=λb ag L=>f6 b L ag;have f:∀b,b≠(a:D)+4+1->((af.setCell ⟨(a:D)+1+1,0,J⟩ (P Z ((l:D)+1) ai)).putObj ((a:D)+4+1) (IK (X NG J))).heap[b]?=(af.setCell ⟨(a:D)+1+1,0,J⟩ (P Z ((l:D)+1) ai)).heap[b]?:=λb h=>Gu h;have f7:(a:D)+4+1<(af.setCell ⟨(a:D)+1+1,0,J⟩ (P Z ((l:D)+1) ai)).heap.size:=H;refine⟨(ah _ H H).t a2,A,Ht f7,?_,?_,?_,⟨_,(f _ H).t f8,aK d8 λY y=>f Y ?_⟩,?_,?_,by rw[IH];omega⟩
  .exact(f _ H).t ((ah _ H H).t S)
  .exact(f _ H).t ((ah _ H H).t u)
  .exact(f _ H).t ((ah _ H H).t z)
  .rcases d8.2 with⟨V,_⟩|⟨i1,a5,aj,b2,j,_⟩
   .cases V
   cases b2;simp[Ψ,Gd] at y;omega
  .exact(f _ H).t ((ah _ H H).t g4)
  exact bP (W.t (c8.cE H (λi8 a1=>by rcases a1 with rfl|a1<;>omega))) H _
 case hE=>
  rintro l c4 d ⟨i,r,p,w,⟨k,I,q⟩,v,n,aa⟩ d1;refine d4.oj _ _ _ _ A i λe s=>?_;have t:∀b,b≠(a:D)+4+1->e.heap[b]?=d.heap[b]?:=λb h=>s▸Gu h;have a2:e.heap[(a:D)+4+1]?=IK (X .busy J):=s▸Ht (aw i);have S:=(t _ H).t r;have u:LP e (a:D) 33 (P J 0 0):=(t _ H).t p;have z:LP e ((a:D)+1) 27 (G 0):=(t _ H).t w;have W:T a a e:=s▸bP n H _;have e1:ZH e c4 2:=by
   let⟨⟨a6,f2⟩,c0,ag,L⟩:=d1;have b3:∀{c2:JM} {k:π},d c2=M k->e c2=M k:=fun{c2 k} b4=>by
    rw[s,fY _ (λb2=>?_)]
    .exact b4
    rw[Iz,b2,i] at b4;cases b4
   exact⟨⟨a6,b3 f2⟩,c0,b3 ag,b3 L⟩
  have e0:=Sf c4 2 e (e9.o.aE (by exact W)) e1;have i9:=rU;clear s t i r p w I q v n aa d1 e1;gi_wp2_with (refine⟨tV,?_⟩;apply(JK _ (callsIn_wide.2 e0)).m;clear e0;rintro ak c ⟨⟨a6,rfl⟩,U⟩;have h4:=(bW u U).cell;have h7:=(bW u U).frozen;have h5:=(bW z U).cell;have h8:=(bW z U).frozen);have g6:LP c (a:D) 33 (P J 0 0):=bW u U;have g7:LP c ((a:D)+1) 27 (G 0):=bW z U;have f9:=aw a2;let⟨g,m⟩:∃g,g=(c.setCell a (P J 0 0)).setCell ⟨a+1,0,J⟩ (G 2):=⟨_,A⟩;have b6:LP g (a:D) 33 (P J 0 0):=by
   rw[m];exact(QJ R).t (g6.set _)
  have b7:LP g ((a:D)+1) 27 (G 2):=by
   rw[m];exact Boxed.set (v:=G 0) _ ((QJ R).t g7)
  have b9:T a a g:=by
   rw[m];exact((W.t (U.m W.z)).s QD _).s R _
  have h:∀b,b<(e:D)->b≠(a:D)->b≠(a:D)+1->g.heap[b]?=e.heap[b]?:=λb ag L a8=>by
   rw[m];exact(QJ a8).t ((QJ L).t (U.b b ag))
  have j2:(g:D)=(c:D):=by rw[m];simp[PZ]
  have j1:=U.z;rw[<-m];clear m;have f:∀b,b≠(a:D)+4+1->(g.putObj ((a:D)+4+1) (IK (X .done (M .ret)))).heap[b]?=g.heap[b]?:=λb h=>Gu h;refine⟨(h _ f9 H H).t a2,Ξ A,Ht H,(f _ H).t ((h _ H H H).t S),(f _ H).t b6,(f _ H).t b7,bP b9 H _⟩
 rintro ak a4 ⟨d6,a0⟩;refine⟨d6,?_⟩;clear d6;cases c6:Rl.dL o with
 |none=>
  rw[c6] at a0;let⟨i,r,p,w,n⟩:=a0;refine⟨M .ret,i,?_⟩;let⟨c,x⟩:∃c,c=a4.putObj ((a:D)+4+1) (IK (X .exhausted (M .ret))):=⟨_,A⟩;have f:∀b,b≠(a:D)+4+1->c.heap[b]?=a4.heap[b]?:=λb h=>x▸Gu h;have S:=(f _ H).t r;have u:LP c (a:D) 33 (P J 0 0):=(f _ H).t p;have z:LP c ((a:D)+1) 27 (G 2):=(f _ H).t w;have W:T a a c:=x▸bP n H _;rw[<-x];have e6:=u.cell;have e7:=z.cell;clear x f i r p w n;simp only[mq];gi_wp2;have a9:(c.putObj ((a:D)+4) (Kc J)) a=P J 0 0:=by rwa[fY _ R]
  have b0:(c.putObj ((a:D)+4) (Kc J)) ⟨a+1,0,J⟩=G 2:=by rwa[fY _ R]
  refine⟨R,Ξ ⟨_,_,A,Xq S,?_⟩⟩;exact⟨_,ow A A A a9 b0,A,bP W H _⟩
 |some l=>
  rw[c6] at a0;let⟨i,r,p,w,⟨k,I,q⟩,v,n,aa⟩:=a0;refine⟨J,i,?_⟩;let⟨c,x⟩:∃c,c=a4.putObj ((a:D)+4+1) (IK (X .exhausted J)):=⟨_,A⟩;have f:∀b,b≠(a:D)+4+1->c.heap[b]?=a4.heap[b]?:=λb h=>x▸Gu h;have S:=(f _ H).t r;have u:LP c (a:D) 33 (P J 0 0):=(f _ H).t p;have z:LP c ((a:D)+1) 27 (G 0):=(f _ H).t w;have a3:LP c ((a:D)+1+1) 33 k:=(f _ H).t I;have ab:c.ownsRow ((a:D)+6) 9 1 k (l:D) (l.map O):=aK q λY y=>f Y (by
   rcases q.2 with⟨rfl,_⟩|⟨Z,a5,aj,rfl,j,_⟩
   .cases y
   simp[Ψ,Gd] at y;omega)
  have W:T a a c:=x▸bP n H _;rw[<-x];have e6:=u.cell;have h9:=u.frozen;have e7:=z.cell;have i0:=z.frozen;have h6:=a3.cell;obtain⟨a7,b5,c1,rfl⟩:∃e4 a6 c0,k=P e4 a6 c0:=by
   rcases ab.2 with⟨V,_⟩|⟨Z,a5,aj,V,_⟩
   .exact⟨_,_,_,V⟩
   exact⟨_,_,_,V⟩
  clear x f i r p w I q v n;simp only[mq];gi_wp2;let⟨g,m⟩:∃g,g=(c.setCell a (P a7 b5 c1)).setCell ⟨a+1,0,J⟩ (G 0):=⟨_,A⟩;have b6:LP g (a:D) 33 (P a7 b5 c1):=m▸(QJ R).t (u.set _);have b7:LP g ((a:D)+1) 27 (G 0):=m▸Boxed.set (v:=G 0) _ ((QJ R).t z);have b9:T a a g:=m▸(W.s QD _).s R _;have h:∀b,b≠(a:D)->b≠(a:D)+1->g.heap[b]?=c.heap[b]?:=λb L a8=>m▸(QJ a8).t (QJ L);have g8:=(h _ H H).t S;rw[<-m];clear m;have a9:(g.putObj ((a:D)+4) (Kc J)) a=P a7 b5 c1:=by rw[fY _ R];exact b6.cell
  have b0:(g.putObj ((a:D)+4) (Kc J)) ⟨a+1,0,J⟩=G 0:=by rw[fY _ R];exact b7.cell
  refine⟨R,Ξ ⟨_,_,A,Xq g8,?_⟩⟩;refine⟨_,ow A A A a9 b0,⟨_,(a:D)+6,A,H,?_⟩,bP b9 H _⟩;refine aK ab λY y=>?_;have i6:(a:D)+6<=Y:=by
   rcases ab.2 with⟨V,_⟩|⟨Z,a5,aj,V,j,_⟩
   .cases V;cases y
   cases V;simp[Ψ,Gd] at y;omega
  exact(Gu H).t (h _ H H)
def xc (f:QE)(j:L)(u:f.size<1048577)(t:As.cC j):Y N 180 #[f] j λc e=>Sk c e (Rl.dL f)/\T j j e:=by
 go_call xb f j u t as c e ⟨a,b⟩;refine⟨?_,b⟩;cases o:Rl.dL f with
 |none=>rwa[o] at a
 |some m=>
  rw[o] at a;let⟨l,B,h,_,d⟩:=a;exact⟨l,h,da d⟩
end
def ib (f:E QO):QV (E QO×Bool):=
 match f with
 |[]=>J
 |a::b=>if 3<a.toNat then J else if a.toNat%2=1 then M (b,LH (2<=a.toNat)) else
  match b with
  |[]=>J
  |c::e=>if c.toNat=0 then M (e,LH (2<=a.toNat)) else J
def uj (f:B):QV (E QO×Bool):=ib (Nib.cU (bs f))
def EC (o:B)(t:He):Prop:=
 (uj o=J/\t=f #[I,z X,z X])\/
 ∃j u,uj o=M (bs j,u)/\j.size<=2*o.size/\t=f #[O j,z u,z U]
def mC (a:E QO):(Nib.cU a:D)=2*(a:D):=by
 induction a with
 |nil=>rfl
 |cons b a c=>
  have:Nib.cU (b::a)=b/16::b%16::Nib.cU a:=A;rw[this];simp[Gx,c];omega
def nP {f:QO}{k:D}(j:f.toNat=k):((((f.toNat:D):C))==(k:C))=U:=by simp[j]
def et {f:QO}{k:D}(j:f.toNat≠k):((((f.toNat:D):C))==(k:C))=X:=by
 rw[Xk];omega
def VO (o:0<k.size):bs k=k[0]::(bs k).drop 1:=by
 have f:=fh (s:=k) (k:=0) o;cases j:bs k with
 |nil=>rw[j] at f;cases f
 |cons e a=>rw[j] at f;simp at f;rw[f];rfl
def dt (f:B)(j:D):bs (f.extract j f.size)=(bs f).drop j:=by
 unfold bs;rw[ByteArray.data_extract,Pg];rw[Ql,Hr R]
def Sl (V:B)(x:ν)(a5:V.size<=2000000):τ γ 305 #[V] x λe a7=>EC V e/\ρ x x a7:=by
 have G:=Nib.ga V x H;have R:=mC (bs V);rw[aX] at R;let⟨a,L⟩:∃a,a=Nib.bK (Nib.cU V.data.toList):=⟨_,A⟩;have I:bs a=Nib.cU (bs V):=L▸rfl;have N:a.size=2*V.size:=by rw[<-aX,I];exact R
 rw[<-L] at G;have Z:=F G;have Y:=F I;have a4:=F N;clear G L I R;unfold EC uj;rw[<-Y.o];by_cases a0:a.size=0
 .have a6:=cj a0;have p:bs a=[]:=GH (by rw[aX];exact a0);rw[p];clear N;go_enter LF,Lt;go_wp2_with (with_reducible go_call Z.o as e m ⟨rfl,b1⟩);apply QM (XJ A _ _ _) A;exact⟨Ξ ⟨A,A⟩,b1⟩
 have a6:=cp (H:0<a.size);have s:0<a.size:=H;have r:1<a.size:=H;have a8:(0:C)<(a.size:C):=H;have aa:(1:C)<(a.size:C):=H;have ab:(1:C)<=(a.size:C):=H;have ae:(2:C)<=(a.size:C):=H;have p:=VO s;have d:(bs a).drop 1=a[1]::(bs a).drop 2:=by
  rw[Kk (by rw[aX];exact r)];have:=fh (s:=a) (k:=1) r;rw[Gf (by rw[aX];exact r)] at this;rw[Gm this]
 have i:=dt a 1;have g:=dt a 2;have a2:(a.extract 1 a.size).size<=2*V.size:=eZ;have a3:(a.extract 2 a.size).size<=2*V.size:=eZ;rw[p,d];rw[<-g];rw[show a[1]::bs (a.extract 2 a.size)=bs (a.extract 1 a.size) by rw[i,d,g]];generalize a9:a[0]=t at p;generalize hd:a[1]=l at d;have T:=F (W p (W d (W i g)));clear p d i g Y a4 a5 N;have n:∀{S:QV (E QO×Bool)} {e:He},ib (t::bs (a.extract 1 a.size))=S->((S=J/\e=f #[eS,z X,z X])\/(∃c q,S=M (bs c,q)/\c.size<=2*V.size/\e=f #[β c,z q,z U]))->
  ((ib (t::bs (a.extract 1 a.size))=J/\e=f #[eS,z X,z X])\/(∃c q,ib (t::bs (a.extract 1 a.size))=M (bs c,q)/\c.size<=2*V.size/\e=f #[β c,z q,z U])):=λs r=>s▸r
 have a1:bs (a.extract 1 a.size)=l::bs (a.extract 2 a.size):=by rw[T.2.2.1,T.2.1,T.2.2.2]
 have b:=F (W a1 (W a2 a3));clear a1 a2 a3;rcases(by omega:t.toNat=0\/t.toNat=1\/t.toNat=2\/t.toNat=3\/3<t.toNat) with K|K|K|K|K
 .
  have h:((((t.toNat:D):C))==(3:C))=X:=et (k:=3) H;have y:((((t.toNat:D):C))==(2:C))=X:=et (k:=2) H;have w:((((t.toNat:D):C))==(1:C))=X:=et (k:=1) H;have v:((((t.toNat:D):C))==(0:C))=U:=nP (k:=0) H;by_cases P:l.toNat=0
  .have k:((((l.toNat:D):C))==(0:C))=U:=nP (k:=0) P;have u:ib (t::bs (a.extract 1 a.size))=M (bs (a.extract 2 a.size),X):=by rw[b.1];simp[ib,K,P]
   have O:=F u;clear u K P;go_enter LF,Lt;go_wp2_with (with_reducible go_call Z.o as e m ⟨rfl,b1⟩);apply QM (XJ A _ _ _) A;exact⟨n O.o (j ⟨_,_,A,b.2.2,A⟩),b1⟩
  have k:((((l.toNat:D):C))==(0:C))=X:=et (k:=0) P;have u:ib (t::bs (a.extract 1 a.size))=J:=by rw[b.1];simp[ib,K,P]
  have O:=F u;clear u K P;go_enter LF,Lt;go_wp2_with (with_reducible go_call Z.o as e m ⟨rfl,b1⟩);apply QM (XJ A _ _ _) A;exact⟨n O.o (Ξ ⟨A,A⟩),b1⟩
 .
  have h:((((t.toNat:D):C))==(3:C))=X:=et (k:=3) H;have y:((((t.toNat:D):C))==(2:C))=X:=et (k:=2) H;have w:((((t.toNat:D):C))==(1:C))=U:=nP (k:=1) H;have v:((((t.toNat:D):C))==(0:C))=X:=et (k:=0) H;have u:ib (t::bs (a.extract 1 a.size))=M (bs (a.extract 1 a.size),X):=by simp[ib,K]
  have O:=F u;clear u K;go_enter LF,Lt;go_wp2_with (with_reducible go_call Z.o as e m ⟨rfl,b1⟩);apply QM (XJ A _ _ _) A;exact⟨n O.o (j ⟨_,_,A,b.2.1,A⟩),b1⟩
 .
  have h:((((t.toNat:D):C))==(3:C))=X:=et (k:=3) H;have y:((((t.toNat:D):C))==(2:C))=U:=nP (k:=2) H;have w:((((t.toNat:D):C))==(1:C))=X:=et (k:=1) H;have v:((((t.toNat:D):C))==(0:C))=X:=et (k:=0) H;by_cases P:l.toNat=0
  .have k:((((l.toNat:D):C))==(0:C))=U:=nP (k:=0) P;have u:ib (t::bs (a.extract 1 a.size))=M (bs (a.extract 2 a.size),U):=by rw[b.1];simp[ib,K,P]
   have O:=F u;clear u K P;go_enter LF,Lt;go_wp2_with (with_reducible go_call Z.o as e m ⟨rfl,b1⟩);apply QM (XJ A _ _ _) A;exact⟨n O.o (j ⟨_,_,A,b.2.2,A⟩),b1⟩
  have k:((((l.toNat:D):C))==(0:C))=X:=et (k:=0) P;have u:ib (t::bs (a.extract 1 a.size))=J:=by rw[b.1];simp[ib,K,P]
  have O:=F u;clear u K P;go_enter LF,Lt;go_wp2_with (with_reducible go_call Z.o as e m ⟨rfl,b1⟩);apply QM (XJ A _ _ _) A;exact⟨n O.o (Ξ ⟨A,A⟩),b1⟩
 .
  have h:((((t.toNat:D):C))==(3:C))=U:=nP (k:=3) H;have y:((((t.toNat:D):C))==(2:C))=X:=et (k:=2) H;have w:((((t.toNat:D):C))==(1:C))=X:=et (k:=1) H;have v:((((t.toNat:D):C))==(0:C))=X:=et (k:=0) H;have u:ib (t::bs (a.extract 1 a.size))=M (bs (a.extract 1 a.size),U):=by simp[ib,K]
  have O:=F u;clear u K;go_enter LF,Lt;go_wp2_with (with_reducible go_call Z.o as e m ⟨rfl,b1⟩);apply QM (XJ A _ _ _) A;exact⟨n O.o (j ⟨_,_,A,b.2.1,A⟩),b1⟩
 .
  have h:((((t.toNat:D):C))==(3:C))=X:=et (k:=3) H;have y:((((t.toNat:D):C))==(2:C))=X:=et (k:=2) H;have w:((((t.toNat:D):C))==(1:C))=X:=et (k:=1) H;have v:((((t.toNat:D):C))==(0:C))=X:=et (k:=0) H;have u:ib (t::bs (a.extract 1 a.size))=J:=by simp[ib,K]
  have O:=F u;clear u K;go_enter LF,Lt;go_wp2_with (with_reducible go_call Z.o as e m ⟨rfl,b1⟩);apply QM (XJ A _ _ _) A;exact⟨n O.o (Ξ ⟨A,A⟩),b1⟩
def fK (f:B):QV B:=
 match Rl.fX (bs f) with
 |some (X,a,c)=>if a+c=f.size then M (f.extract a (a+c)) else J
 |_=>J
def Sm (j:B)(t:He):Prop:=(fK j=J/\t=f #[I,z X])\/∃o,fK j=M o/\o.size<=j.size/\t=f #[O o,z U]
def kZ (u:B)(K:L)(s:u.size<1099511627776):Y N 266 #[u] K λg k=>Sm u g/\T K K k:=by
 have l:=kK u K s;cases V:Rl.fX (bs u) with
 |none=>
  rw[V] at l;have M:=y (Y N 181 #[u] K λg k=>g=f #[z X,I,I,G 2]/\T K K k) l;have Z:fK u=J:=by rw[fK,V]
  have P:=F Z;have h:((2:C)==0)=X:=r;go_enter func266,Qq;go_wp2_with (with_reducible go_call M.o as g t ⟨rfl,i⟩);go_ret2;exact⟨Ξ ⟨P.o,A⟩,i⟩
 |some w=>
  let⟨n,b,c⟩:=w;rw[V] at l;have v:=Rl.hy V;rw[aX] at v;have M:=y (Y N 181 #[u] K λg k=>g=f #[z n,O (u.extract b (b+c)),O (u.extract (b+c) u),G 0]/\T K K k) l;have p:((0:C)==0)=U:=r;have x:(u.extract (b+c) u)=u-(b+c):=eZ;have e:(u.extract b (b+c))<=u.size:=eZ;cases n with
  |true=>
   have Z:fK u=J:=by rw[fK,V]
   have P:=F Z;go_enter func266,Qq;go_wp2_with (with_reducible go_call M.o as g t ⟨rfl,i⟩);go_ret2;exact⟨Ξ ⟨P.o,A⟩,i⟩
  |false=>
   by_cases a:b+c=u.size
   .have m:=cj (p:=u.extract (b+c) u.size) H;have Z:fK u=u.extract b (b+c):=by rw[fK,V];simp only;rw[QU a]
    have P:=F (W Z e);generalize u.extract (b+c) u.size=q at M m;generalize u.extract b (b+c)=d at M P;go_enter func266,Qq;go_wp2_with (with_reducible go_call M.o as g t ⟨rfl,i⟩);go_ret2;exact⟨j ⟨_,P.1,P.2,A⟩,i⟩
   have m:=cp (p:=u.extract (b+c) u.size) H;have Z:fK u=J:=by rw[fK,V];simp only;rw[QT a]
   have P:=F Z;generalize u.extract (b+c) u.size=q at M m;generalize u.extract b (b+c)=d at M;go_enter func266,Qq;go_wp2_with (with_reducible go_call M.o as g t ⟨rfl,i⟩);go_ret2;exact⟨Ξ ⟨P.o,A⟩,i⟩
def Sn {f:C}(j:(c !=f)=X):c=f:=sU j
def VP (t:B)(j:He):Prop:=j=f #[I,z X]\/∃o,o.size=32/\j=f #[O o,z U]
def gL (t:B)(u:L)(J:t.size<1099511627776):Y N 211 #[t] u λd k=>VP t d/\T u u k:=by
 have z:=kZ t u J;have K:=F z;go_enter func211,ntmps211;go_wp2_with ((with_reducible go_call K.o as d h ⟨f,a⟩);rcases f with⟨_,rfl⟩|⟨M,_,O,rfl⟩);all_goals go_ret2
 all_goals first
  |exact⟨Ξ A,a⟩
  |exact⟨j ⟨M,oA (Sn aS),A⟩,a⟩
structure Nd where
 bq:C
 bA:B
 bL:B
 r:D->B
def nc (f:Nd):Q S:=#[G f.bq,O f.bA,O f.bL,O (f.r 0),O (f.r 1),O (f.r 2),O (f.r 3),O (f.r 4),O (f.r 5),O (f.r 6),O (f.r 7),O (f.r 8),O (f.r 9),O (f.r 10),O (f.r 11),O (f.r 12),O (f.r 13),O (f.r 14),O (f.r 15)]
def Au (f:D->B)(j:w<16):(#[O (f 0),O (f 1),O (f 2),O (f 3),O (f 4),O (f 5),O (f 6),O (f 7),O (f 8),O (f 9),O (f 10),O (f 11),O (f 12),O (f 13),O (f 14),O (f 15)]:Q S)[w]?=(f w):=by
 apply C6 w;repeat' constructor
def jM (f:D->B)(o:w<16)(j:L):(Instr.index 279 (t #[O (f 0),O (f 1),O (f 2),O (f 3),O (f 4),O (f 5),O (f 6),O (f 7),O (f 8),O (f 9),O (f 10),O (f 11),O (f 12),O (f 13),O (f 14),O (f 15)]) (G (w:C))).run N j=Je (O (f w)) j:=by
 apply C6 w;refine⟨?_,?_,?_,?_,?_,?_,?_,?_,?_,?_,?_,?_,?_,?_,?_,?_⟩<;>kernel_rfl
def pL (f:Nd)(j:D):Bool:=LH (j<=f.bA.size)&& (LH (f.bA.size<=12)&&Nib.bF (bs f.bA))
def Mb (f:Nd)(o:D)(c:L)(O:f.bA.size<=2000000):Y N 306 #[t (nc f),G (o:C)] c λe k=>e=z (pL f o)/\T c c k:=by
 simp only[nc];have J:=λc=>Nib.ig f.bA c H;unfold pL;by_cases u:o<=f.bA.size
 .have K:(o:C)<=(f.bA.size:C):=H;by_cases A:f.bA.size<=12
  .have M:(f.bA.size:C)<=12:=H;go_enter func306,ntmps306;go_wp2_with (with_reducible go_call J _ as e j ⟨rfl,rfl⟩);go_ret;exact⟨by simp[u,A];rfl,by go_grown⟩
  have M:¬(f.bA.size:C)<=12:=H;go_enter func306,ntmps306;go_wp2_with fail;go_ret;exact⟨by simp[u,A],by go_grown⟩
 have K:¬(o:C)<=(f.bA.size:C):=H;go_enter func306,ntmps306;go_wp2_with fail;go_ret;exact⟨by simp[u],by go_grown⟩
def pM (Z M P:D)(o:Nd)(t:D->L->Prop)(p:L->Prop)(j:L)(I:1<=P)
 (r:j.heap[M]?=K (nc o) 379)
 (w:∀f j,f<16->0<(o.r f).size->t f j->YieldAt Fence.wide (P-1) N Z #[G (f:C),β (o.r f)] j λa e=>(a=z U/\t (f+1) e)\/(a=z X/\p e))
 (v:∀f j,f<16->(o.r f).size=0->t f j->t (f+1) j)
 (g:t 0 j):
 CallsIn Fence.wide P N 265 #[Hl (.yield Z) #[] #[],V M] j λa e=>(∃x,a=ι x)/\(t 16 e\/p e):=by
 have s:∀k,j ⟨M,k,ζ⟩=(nc o)[k]?:=λk=>by simp[Iz,r]
 simp only[nc] at s;refine callsIn_of_wp func265 A tV ?_ A;simp only[ntmps265,GZ,Gx,Hy,Nat.reduceAdd,Nat.reduceSub,Im,Il,IF,Iq,Ho,Hz];gi_wp2;gi_loopw [7] (λm wr=>∃f:D,m=G (f:C)/\f<=16/\Φ (t f wr)) (λm _=>16-(QI m).toNat)
 case atStart=>exact⟨0,A,H,F g⟩
 case round=>
  obtain⟨f,rfl,B,u⟩:=hrel;by_cases O:f<16
  .have b:(f:C)<16:=H;have S:(0:C)<=(f:C):=H;have n:=jM o.r O;by_cases W:(o.r f).size=0
   .have c:=cj W;have y:=F (v f wr O W u.o);gi_wp2;refine⟨λ_ d=>(by cases d),?_⟩;gi_wp2;go_roundw;case rel=>exact⟨f+1,R,H,y⟩
    case measure=>simp[QI];omega
   have c:=cp (H:0<(o.r f).size);let⟨l,T,i,E,Q,q⟩:=w f wr O H u.o;gi_wp2;apply q.mono;rintro a Y (⟨rfl,J⟩|⟨rfl,J⟩)
   .have h:=F J;gi_wp2;go_roundw;case rel=>exact⟨f+1,R,H,h⟩
    case measure=>simp[QI];omega
   gi_wp2;exact QS ⟨⟨_,A⟩,Θ J⟩
  have b:¬(f:C)<16:=H;gi_wp2;go_end0;cases(H:f=16);exact⟨⟨_,A⟩,Ξ u.o⟩
section
attribute [local go_sem] Jo
def hT:(N.info? 281).map (·.size)=M 19:=e
def sN:(N.info? 379).map (·.size)=M 19:=e
structure ct (cs:QF S)(d:Nd):Prop where
 aH:cs.size=19
 bq:cs[0]?=d.bq
 bA:cs[1]?=d.bA
 bL:cs[2]?=d.bL
 qF:∀k,k<16->cs[3+k]?=(d.r k)
def ct.eq {z:QF S}{A:Nd}(t:ct z A):z=nc A:=by
 apply Array.ext_getElem?;intro f;by_cases M:f<19
 .rcases(show f=0\/f=1\/f=2\/∃u,u<16/\f=3+u from if K:f<3 then by omega else j (j (j ⟨f-3,H,H⟩))) with rfl|rfl|rfl|⟨u,J,rfl⟩
  .exact t.bq
  .exact t.bA
  .exact t.bL
  rw[t.qF u J];apply C6 u;repeat' constructor
 rw[LG (oA t.aH),LG (by simp[nc];omega)]
def jN (f:Nd):ct (nc f) f:=⟨A,A,A,A,λc d=>by apply C6 c;repeat' constructor⟩
section
variable {F:Fence}{n:Nat}{ops:Array Le}{rest:List Le}{o:Le}{a:Act}{w:ν}{Q:Exit->Act->ν->Prop}
def ED (U:o.guard=J)(u:Kg)(W:o.op=.load 281 u)(j:D)(Z:a.eval u=V j)(M:Λ)(f:QF S)(z:D×D)(X:f.size=19)(P:w.heap[j]?=K f M z)
 (O:Xn F n N ops Q rest (a.put o.dst (t f)) w):Xn F n N ops Q (o::rest) a w:=
 hH U 281 u W j Z M f z _ P Jn A (X▸hT) O
def yo (U:o.guard=J)(u:Kg)(W:o.op=.load 379 u)(j:D)(Z:a.eval u=V j)(M:Λ)(f:QF S)(z:D×D)(X:f.size=19)(P:w.heap[j]?=K f M z)
 (O:Xn F n N ops Q rest (a.put o.dst (t f)) w):Xn F n N ops Q (o::rest) a w:=
 hH U 379 u W j Z M f z _ P Kw A (X▸sN) O
def YB (U:o.guard=J)(u:Kg)(W:o.op=.load 281 u)(j:D)(Z:a.eval u=V j)(M:Λ)(f:QF S)(z:D×D)(X:f.size=19)(P:w.heap[j]?=K f M z)
 (O:Ji N ops Q rest (a.put o.dst (t f)) w):Ji N ops Q (o::rest) a w:=
 XK U 281 u W j Z M f z _ P Jn A (X▸hT) O
def pN (U:o.guard=J)(u:Kg)(W:o.op=.load 379 u)(j:D)(Z:a.eval u=V j)(M:Λ)(f:QF S)(z:D×D)(X:f.size=19)(P:w.heap[j]?=K f M z)
 (O:Ji N ops Q rest (a.put o.dst (t f)) w):Ji N ops Q (o::rest) a w:=
 XK U 379 u W j Z M f z _ P Kw A (X▸sN) O
end
def pP (f:QF S)(j:f.size=19)(w:L):Y N 210 #[f] w λc d=>c=Hl (Ic 265) #[] #[V w]/\w.alloc (K f 379)=d:=by
 have rS:=rS;go_enter func210,ntmps210;go_wp2_with fail;go_ret;exact⟨A,A⟩
def sA (f:D->B):D->D
 |0=>0
 |b+1=>if(f b).size=0 then sA f b else b+1
def yp:∀f (w:L),(Xa 265 f).run N w=Je (.enter 265 f) w:=enters_of func265 e A
theorem uk (f:QF π)(O:Nd)(hd:ct f O)(w:ν):τ γ 307 #[Γ f] w λc a2=>c=G (sA O.r 16:D)/\T w w a2:=by
 apply(XC (n:=9)).1;have X:=λw=>pP f hd.aH w;have aa:=hd.aH;refine XD func307 A tV ?_ A;simp only[ntmps307,GZ,Gx,Hy,Nat.reduceAdd,Nat.reduceSub,Im,Il,IF,Iq,Ho,Hz];gi_wp2_with (first|(apply yo A _ A (w:D) A 379 f (0,0) aa ((QP R).t (Gc _ _)))|(refine⟨tV,?_⟩;apply(callsIn_wide.2 (X _)).m;rintro c a9 ⟨rfl,rfl⟩));have a6:=X;clear X;let⟨k,i⟩:∃k,k=((w.alloc (K f 379)).alloc (K #[G 0] 3)).alloc (K f 379):=⟨_,A⟩;have s4:(k:D)=(w:D)+3:=by rw[i];simp
 have a1:LP k ((w:D)+1) 3 (G 0):=by rw[i];have:=(Nc (w.alloc (K f 379)) 3 (G 0)).alloc (K f 379);rwa [GG] at this
 have s:k.heap[(w:D)+1+1]?=K (nc O) 379:=by rw[i,<-hd.eq];have:=Gc ((w.alloc (K f 379)).alloc (K #[G 0] 3)) (K f 379);rwa [GG,GG] at this
 have L:T w w k:=by rw[i];go_grown
 rw[<-i];clear i;apply gl A dc (gf:=265) (lb:=#[ξ (δ ⟨(w:D)+1+1,0,J⟩)]) A trivial yp;intro b2 P a3 Z ag U x I Y;rw[s4] at Z ag I U;subst Z;apply(pM ((w:D)+3+1) ((w:D)+1+1) 8 O
  (λr d=>d.heap[(w:D)+3+1]?=IK (P NG J)/\d.heap[(w:D)+3]?=Kc (δ [])/\LP d ((w:D)+1) 3 (G (sA O.r r:D))/\T w w d)
  (λd=>QZ) a3 dc ((U.b _ H).t s) ?hY ?hN ?h0).m
 case h0=>exact⟨x,I,(U.b _ H).t a1,L.t (U.m H)⟩
 case hN=>
  rintro r d S p ⟨j,t,u,z⟩;exact⟨j,t,by rw[sA,QU p];exact u,z⟩
 case hY=>
  rintro r d S p ⟨j,t,u,z⟩;refine Y.oj _ _ _ _ A j λl m=>?_;let⟨v,e,b,q⟩:=cL (aw j) _ m;have V:=(e _ H).t t;have M:LP l ((w:D)+1) 3 _:=(e _ H).t u;have W:=q _ _ H z;have y:=M.cell;have a5:=M.frozen;clear m e q j t u z b;gi_wp2;let⟨ae,g,a7⟩:=nD (v':=G ((r:C)+1)) M;have a4:=aw v;let⟨af,h,a8,ah⟩:=cL (W:=l.setCell ⟨(w:D)+1,0,J⟩ (G ((r:C)+1))) (l:=(w:D)+3+1) H (IK (P NG J)) A;refine⟨(g _ H).t v,A,af,(h _ H).t ((g _ H).t V),?_,ah _ _ H (W.s R _)⟩;rw[sA,QT H];exact(h _ H).t ae
 rintro c a0 ⟨ab,(⟨j,t,u,z⟩|N)⟩
 .refine⟨ab,J,j,?_⟩;let⟨v,e,b,q⟩:=cL (aw j) (IK (P .exhausted J)) A;have V:=(e _ H).t t;have M:LP _ ((w:D)+1) 3 _:=(e _ H).t u;have W:=q _ _ H z;generalize a0.putObj ((w:D)+3+1) (IK (P .exhausted J))=b0 at v V M W ⊢;clear e b q j t u z;have y:=M.cell;simp only[mq];gi_wp2;refine⟨R,Ξ ⟨_,_,A,Xq V,?_⟩⟩;exact⟨_,Xy A _ _ _,A,bP W H _⟩
 exact N.elim
end
def bE:Nd:=⟨0,⟨#[]⟩,⟨#[]⟩,λ_=>⟨#[]⟩⟩
def zc:QF S:=#[G 0,I,I,I,I,I,I,I,I,I,I,I,I,I,I,I,I,I,I]
def cA:ct zc bE:=jN bE
def ZI (w:L):(Xc .eql 379 (t zc) (t zc)).run N w=Je (z U) w:=e
def xd (f:Nd)(j:D)(u:C)(A:u=(j:C))(w:L)(J:f.bA.size<=2000000):Y N 306 #[t (nc f),G u] w λe h=>e=z (pL f j)/\T w w h:=by
 subst A;exact Mb f j w J
section
variable {ops:Array Le}{rest:List Le}{o:Le}{a:Act}{w:ν}{Q:Exit->Act->ν->Prop}
def CU (X:Jb o (Xg ops a.tmps)=U)(u:Kg)(P:o.op=.load 379 u)(j:D)(Z:a.eval u=V j)(J:Λ)(f:QF S)(z:D×D)(W:f.size=19)(O:w.heap[j]?=K f J z)
 (M:Ji N ops Q rest (a.put o.dst (t f)) w):Ji N ops Q (o::rest) a w:=
 Px X λ_ h=>wp_load_row 379 u P j Z J f z _ O Kw A (by rw[W];exact sN) (h _ _ M)
def So (X:Jb o (Xg ops a.tmps)=U)(u:Kg)(P:o.op=.load 281 u)(j:D)(Z:a.eval u=V j)(J:Λ)(f:QF S)(z:D×D)(W:f.size=19)(O:w.heap[j]?=K f J z)
 (M:Ji N ops Q rest (a.put o.dst (t f)) w):Ji N ops Q (o::rest) a w:=
 Px X λ_ h=>wp_load_row 281 u P j Z J f z _ O Jn A (by rw[W];exact hT) (h _ _ M)
end
theorem um (w:L):Y N 257 #[t zc] w λe b=>e=z U/\T w w b:=by
 have u:zc.size=19:=A;obtain⟨f,j⟩:∃f,f=zc:=⟨_,A⟩;have J:∀w,(Xc .eql 379 (t f) (t #[G 0,O ⟨#[]⟩,O ⟨#[]⟩,O ⟨#[]⟩,O ⟨#[]⟩,O ⟨#[]⟩,O ⟨#[]⟩,O ⟨#[]⟩,O ⟨#[]⟩,O ⟨#[]⟩,O ⟨#[]⟩,O ⟨#[]⟩,O ⟨#[]⟩,O ⟨#[]⟩,O ⟨#[]⟩,O ⟨#[]⟩,O ⟨#[]⟩,O ⟨#[]⟩,O ⟨#[]⟩])).run N w=Je (z U) w:=by rw[j];exact ZI
 rw[<-j] at u ⊢;clear j;go_enter func257,ntmps257;go_wp2_with (first|(refine pN A _ A w.heap.size A 379 f (0,0) u (Gc _ _) ?_));go_ret;exact⟨A,by go_grown⟩
def EE (f:Nd):Bool:=pL f 0&& (LH (0<f.bL.size)&& (LH (f.bL.size<=80)&&LH (sA f.r 16=0)))
def Av (j:QF S)(u:Nd)(hd:ct j u)(w:L)(r:u.bA.size<=2000000):Y N 258 #[Γ j] w λe h=>e=υ (EE u)/\T w w h:=by
 have q:=hd.eq;have J:=λw=>xd u 0 0 A w r;rw[<-q] at J;have Z:=λw=>uk j u hd w;have P:=hd.aH;have X:∀h:L,h.heap[w.heap.size]?=K j 379->h (w.heap.size,2)=u.bL:=λh x=>(Xe h w.heap.size 2 j 379 (0,0) x).t hd.bL;have v:=F Z;have W:=F X;unfold EE;cases U:pL u 0 with
 |false=>
  rw[U] at J;have O:=F J;clear J Z X q hd r U;go_enter func258,Qt;go_wp2_with (first|(refine pN A _ A w.heap.size A 379 j (0,0) P (Gc _ _) ?_)|(with_reducible go_call O.o _ as e f ⟨rfl,b1⟩));go_ret;exact⟨A,((Ge _ w).a d _).t (b1.m R)⟩
 |true=>
  rw[U] at J;have O:=F J;clear J Z X q hd r U;by_cases V:0<u.bL.size
  .have g:=cp V;by_cases s:u.bL.size<=80
   .have c:(u.bL.size:C)<=80:=H;go_enter func258,Qt;go_wp2_with (first|(refine pN A _ A w.heap.size A 379 j (0,0) P (Gc _ _) ?_)|((with_reducible go_call O.o _ as e f ⟨rfl,b1⟩);have M:=b1.ke (Gc w (K j 379));have b:=W.o f M)|(refine CU A _ A w.heap.size A 379 j (0,0) P M ?_)|(with_reducible go_call v.o _ as e z ⟨rfl,t⟩));go_ret;refine⟨?_,(((Ge _ w).a d _).t (b1.m R)).t (t.m ?_)⟩
    .by_cases y:sA u.r 16=0<;>simp[V,s,y]
    have:=b1.z;simp at this;omega
   have c:¬(u.bL.size:C)<=80:=H;go_enter func258,Qt;go_wp2_with (first|(refine pN A _ A w.heap.size A 379 j (0,0) P (Gc _ _) ?_)|((with_reducible go_call O.o _ as e f ⟨rfl,b1⟩);have M:=b1.ke (Gc w (K j 379));have b:=W.o f M));go_ret;exact⟨by simp[V,s],((Ge _ w).a d _).t (b1.m R)⟩
  have g:=cj (show u.bL.size=0 by omega);go_enter func258,Qt;go_wp2_with (first|(refine pN A _ A w.heap.size A 379 j (0,0) P (Gc _ _) ?_)|((with_reducible go_call O.o _ as e f ⟨rfl,b1⟩);have M:=b1.ke (Gc w (K j 379));have b:=W.o f M));go_ret;exact⟨by simp[V],((Ge _ w).a d _).t (b1.m R)⟩
def Aw (t:L)(f o:B):bS (t.alloc (K #[f,o] 9)) (P t 2 2) [f,o]:=by
 refine j ⟨t,0,2,A,λd b a=>?_,by simp,by simp⟩;rw[GU,Xe _ _ d #[f,o] 9 (0,0) (Gc _ _)];match d with
 |0=>simp at a;subst a;rfl
 |1=>simp at a;subst a;rfl
 |d+2=>simp at a
def kW (o:L)(f:B):bS (o.alloc (K #[f] 9)) (P o 1 1) [f]:=by
 refine j ⟨o,0,1,A,λc e b=>?_,by simp,by simp⟩;rw[GU,Xe _ _ c #[f] 9 (0,0) (Gc _ _)];match c with
 |0=>simp at b;subst b;rfl
 |c+1=>simp at b
def ez (f:B)(j:f.size<1099511627776):(tx (Rl.bK (bs f))).size<=f.size+6:=by
 rw[dP];unfold Rl.bK;split
 .rw[aX];omega
 have:=dJ 128 (bs f).length (by rwa[aX]);rw[Gk,aX] at *;omega
def bn (f:B):B:=Hs.tx (Hs.Sh.of (Hs.de [f]))
def ec (f:B):(bn f).size=32:=by unfold bn;rw[Hs.dP,Hs.Sh.Hd]
def CV (j:Hs.jq g)(f:T g g s):Hs.jq s:=by
 obtain⟨o,t⟩:=j;exact⟨GP o f.z,λh a=>f.ce (t h a)⟩
def cV (j:B)(f:L)(M:j.size<1099511627776)(t:Hs.jq f):Y N 83 #[P f 1 1] (f.alloc (K #[j] 9)) λa b=>a=O (bn j)/\T f f b:=by
 have o:T f f (f.alloc (K #[j] 9)):=(Ge _ f).a d _;refine(Hs.yd f 0 1 [j] (f.alloc (K #[j] 9)) (CV t o) ?_ R R ?_).m ?_
 .intro J z;match J,z with
  |0,_=>rw[GU,Xe _ _ 0 #[j] 9 (0,0) (Gc _ _)];rfl
 .simp only[Hs.de,GV,JL,IS,Hs.bl,Hp,JG];have:j.data.size=j.size:=A;omega
 rintro a b ⟨rfl,u⟩;exact⟨A,o.t (u.m R)⟩
def EF (f:B)(b:L)(a:f.size<1048577)(U:Hs.jq b):Y N 348 #[f] b λd q=>(∃J:B,d=O J/\J.size<=40)/\T b b q:=by
 by_cases Z:f.size<32
 .have V:(f.size:C)<32:=H;go_enter func348,ntmps348;go_wp2_with fail;go_ret;exact⟨⟨f,A,by omega⟩,QG⟩
 have V:¬(f.size:C)<32:=H;have t:=cV f b H U;have j:=ec f;have u:=λb=>cP (bn f) b (by rw[j];decide);have z:=ez (bn f) (by rw[j];decide);generalize bn f=X at t u j z;have K:=F t;have M:=F u;have P:=F (W j z);go_enter func348,ntmps348;go_wp2_with (first|(with_reducible go_call K.o as d o ⟨rfl,b1⟩)|(with_reducible go_call M.o _ as d p ⟨rfl,i⟩));go_ret;exact⟨⟨_,A,by have:=P.o;omega⟩,b1.t (i.m b1.z)⟩
def EG:∀f:E QO,(Nib.dQ f).length<=f.length
 |[]=>by simp[Nib.dQ]
 |[_]=>by simp[Nib.dQ]
 |c::d::b=>by have:=EG b;simp only[Nib.dQ,Gx];omega
def CW (f:E QO)(j:Bool):(Nib.ih f j).length<=f.length+2:=by
 unfold Nib.ih;split
 .have:=EG (Nib.dX f j++f);have o:(Nib.dX f j).length<=2:=by unfold Nib.dX;split<;>simp
  rw[Gk] at this;omega
 simp
def EH (f:Nd):B:=tx (Rl.eK (Rl.bK (Nib.ih (bs f.bA) U)++Rl.bK (bs f.bL)))
def pQ (j:Q π)(f:Nd)(hd:ct j f)(b:L)(m:f.bA.size<=2000000)(B:f.bL.size<2000000):τ γ 262 #[Γ j] b λh d=>h=β (EH f)/\T b b d:=by
 have X:=λb=>Nib.hK f.bA U b m;have S:=hd.aH;have t:∀d:L,d.heap[b.heap.size]?=K j 379->d (b.heap.size,1)=f.bA:=λd l=>(Xe d b.heap.size 1 j 379 (0,0) l).t hd.bA;have O:∀d:L,d.heap[b.heap.size]?=K j 379->d (b.heap.size,2)=f.bL:=λd l=>(Xe d b.heap.size 2 j 379 (0,0) l).t hd.bL;have c:=Gc b (K j 379);have s:=t _ c;have M:=F X;have u:=F (κ t O);clear X t O;go_enter func262,ntmps262;go_wp2_with (first|((with_reducible go_call M.o _ as h e ⟨rfl,b1⟩);have o:=b1.ke c;have Y:=u.o.2 e o));have i:(Nib.bK (Nib.ih f.bA.data.toList U)).size=(Nib.ih f.bA.data.toList U).length:=by show(Nib.ih f.bA.data.toList U).toArray.size=_;simp
 have C:=CW f.bA.data.toList U;have D:f.bA.data.toList.length=f.bA.size:=aX f.bA;have z:(Nib.bK (Nib.ih f.bA.data.toList U)).size<1099511627776:=H;have W:([tx (Rl.bK (bs (Nib.bK (Nib.ih f.bA.data.toList U)))),tx (Rl.bK (bs f.bL))].flatMap bs).length<1099511627776:=by
  have v:=ez _ z;have w:=ez f.bL H;simp only[GV,JL,IS,Gk,aX];omega
 have Z:=λb=>cP (Nib.bK (Nib.ih f.bA.data.toList U)) b z;have x:=λb=>cP f.bL b H;have I:=F W;clear i C D W z;have p:=F Z;have q:=F x;have r:=F o;have n:=F u.2;clear Z x u M;have G:=aw o;have k:∀g:L,(∀A,A<e.heap.size->g.heap[A]?=e.heap[A]?)->g (b.heap.size,2)=f.bL:=λg E=>n.o g ((E _ G).t o);go_region_with (first|(go_at_call 43;(with_reducible go_call p.o _ as h g ⟨rfl,a⟩);have a0:=k _ a.b)|(go_at_call 43;with_reducible go_call q.o _ as h J ⟨rfl,y⟩)|(go_at_call 103;(refine(fx _ _ _ (Aw _ _ _) R I.o).m ?_);rintro h a1 ⟨rfl,N⟩))
 all_goals
  go_wp2;go_ret;refine⟨?_,?_⟩
  .show ι _=ι _;congr 2
  have P:T b b e:=((Ge _ b).a QD _).t (b1.m R);have V:T b b g:=P.t (Lh (B:=e.heap.size) ⟨a.os,a.tape,a.output,a.z,a.b⟩ P.z);have e3:T b b J:=V.t (y.m V.z);exact(e3.a e3.z _).t (N.m (by have:=e3.z;simp;omega))
def Ax (j:Q π)(f:Nd)(hd:ct j f)(d:L)(q:f.bA.size<=2000000)(a0:(f.r 0).size<2000000):τ γ 263 #[Γ j] d λh e=>(∃i:QE,h=β i/\i.size<=f.bA.size+(f.r 0).size+20)/\T d d e:=by
 have V:=λd=>Nib.hK f.bA X d q;have Y:=hd.aH;have u:∀e:L,e.heap[d.heap.size]?=K j 379->e (d.heap.size,1)=f.bA:=λe b=>(Xe e d.heap.size 1 j 379 (0,0) b).t hd.bA;have P:∀e:L,e.heap[d.heap.size]?=K j 379->e (d.heap.size,3)=(f.r 0):=λe b=>(Xe e d.heap.size 3 j 379 (0,0) b).t (hd.qF 0 dc);have y:=Gc d (K j 379);have S:=u _ y;have O:=F V;have z:=F (κ u P);clear V u P;go_enter func263,ntmps263;go_wp2_with (first|((with_reducible go_call O.o _ as h c ⟨rfl,b1⟩);have t:=b1.ke y;have a1:=z.o.2 c t));have m:(Nib.bK (Nib.ih f.bA.data.toList X)).size=(Nib.ih f.bA.data.toList X).length:=by show(Nib.ih f.bA.data.toList X).toArray.size=_;simp
 have n:=CW f.bA.data.toList X;have p:f.bA.data.toList.length=f.bA.size:=aX f.bA;have o:(Nib.bK (Nib.ih f.bA.data.toList X)).size<1099511627776:=om;have M:([tx (Rl.bK (bs (Nib.bK (Nib.ih f.bA.data.toList X)))),f.r 0].flatMap bs).length<1099511627776:=by
  have k:=ez _ o;simp only[GV,JL,IS,Gk,aX];omega
 have Z:=λd=>cP (Nib.bK (Nib.ih f.bA.data.toList X)) d o;have W:(tx (Rl.eK (bs (tx (Rl.bK (bs (Nib.bK (Nib.ih f.bA.data.toList X)))))++bs (f.r 0)))).size<=f.bA.size+(f.r 0).size+20:=by
  have k:=ez _ o;rw[dP,Rl.eK];have l:=dJ 192 _ M;simp only[GV,JL,IS,Gk,aX] at l ⊢;omega
 have v:=F W;clear W;have r:=F M;clear m n p M o;have N:=F Z;have x:=F t;have s:=F z.2;clear Z z O;have I:=aw t;have H:∀g:L,(∀J,J<c.heap.size->g.heap[J]?=c.heap[J]?)->g (d.heap.size,3)=(f.r 0):=λg G=>s.o g ((G _ I).t t);go_region_with (first|(go_at_call 43;(with_reducible go_call N.o _ as h g ⟨rfl,a⟩);have a2:=H _ a.b)|(go_at_call 103;(refine(fx _ _ _ (Aw _ _ _) R r.o).m ?_);rintro h a3 ⟨rfl,w⟩))
 all_goals
  go_wp2;go_ret;refine⟨⟨tx (Rl.eK (bs (tx (Rl.bK (bs (Nib.bK (Nib.ih f.bA.data.toList X)))))++bs (f.r 0))),?_,v.o⟩,?_⟩
  .show ι _=ι _;congr 2
  have U:T d d c:=((Ge _ d).a QD _).t (b1.m R);have A:T d d g:=U.t (Lh (B:=c.heap.size) ⟨a.os,a.tape,a.output,a.z,a.b⟩ U.z);exact(A.a A.z _).t (w.m (by have:=A.z;simp;omega))
section
attribute [local go_sem] Jo
def ft (t:L)(o j:D):Prop:=∃f:E B,f.length=17/\(∀u∈f,u.size<=j)/\t.heap[o]?=K (f.map O).toArray 9
def ft.set {j:D}(o:ft g w q){x:B}(u:x.size<=q):ft (g.setCell (w,j) (O x)) w q:=by
 obtain⟨z,A,t,f⟩:=o;refine⟨z.set j x,by rwa[KM],λk b=>?_,?_⟩
 .rcases JE b with b|rfl
  .exact t k b
  exact u
 rw[bJ f,Gi,NQ]
def ft.aM {o w':L}{f j:D}(t:ft o f j)(u:w'.heap[f]?=o.heap[f]?):ft w' f j:=let⟨i,e,a,g⟩:=t;⟨i,e,a,u.t g⟩
def ft.dN {w:L}{f j:D}(t:ft w f q)(K:j<17):(∃u,w (f,j)=O u)/\w.frozen? (f,j)=X:=by
 obtain⟨z,A,J,o⟩:=t;refine⟨⟨z[j],?_⟩,aI o j⟩;rw[cd o,Ip,Gf H];rfl
def ft.ae9 (f:ft g w q):∃a:E B,(a:D)=17/\(∀b∈a,b.size<=q)/\bS g (P w 17 17) a:=by
 let⟨a,d,i,e⟩:=f;refine⟨a,d,i,j ⟨w,0,17,by rw[d],λk b c=>?_,aw e,H⟩⟩;rw[GU,cd e,Ip,c];rfl
def uq :∀{a:E B},(∀b∈a,b.size<=w)->(a.flatMap bs:D)<=(a:D)*w
 |[],_=>R
 |b::a,d=>by
  have f:=uq (λc e=>d c (GK _ e));have:=d b (Hk ..);simp only[GV,Gk,aX,Gx,Nat.succ_mul];omega
def mN:tx (Rl.bK (bs ⟨#[]⟩))=⟨#[128]⟩:=rfl
def ZJ (f:L):(Instr.makeSlice 33 (G 17) (G 17)).run N f=Je (P f 17 17) (f.alloc (K (Jr 17 I).toArray 9)):=e
def YC:N.follows .mixedOrders=U:=e
def ur (o:Q π)(f:Nd)(hd:ct o f)(j:D)(a:ν)(d8:1<=j)(h5:j<=4000000)(i4:f.bL.size+6<=j)(f1:∀b,b<16->(f.r b).size<=j):
 τ γ 264 #[o] a λw h3=>(∃d2:QE,w=O d2/\d2.size<=17*j+10)/\T a a h3:=by
 apply(XC (n:=9)).1;have f2:=λa=>pP o hd.aH a;have f4:=hd.aH;have b6:=λa=>cP ⟨#[]⟩ a dc;rw[mN] at b6;have f5:=λa=>cP f.bL a H;have i3:=ez f.bL H;refine XD func264 A tV ?_ A;simp only[ntmps264,GZ,Gx,Hy,Nat.reduceAdd,Nat.reduceSub,Im,Il,IF,Iq,Ho,Hz];have f0:=ZJ;gi_wp2;clear f0;let⟨d1,a8,aa⟩:=aU a (K o 379);rw[a8];let⟨c,a9,G⟩:=aU d1 (K #[I,I,I,I,I,I,I,I,I,I,I,I,I,I,I,I,I] 9);rw[a9];have s1:=aa.aH;let⟨p,e3,k⟩:=aU c (K #[P (M ⟨(a:D)+1,0,J⟩) 17 17] 33);rw[e3];have a1:=G.aH;have g4:(p:D)=(a:D)+1+1+1:=by rw[k.aH,a1,s1]
 have c6:p.heap[(a:D)]?=K o 379:=(k.old _ H).t ((G.old _ H).t aa.at_);have c7:ft p ((a:D)+1) j:=⟨Jr 17 ⟨#[]⟩,R,λah b7=>by rw[List.mem_replicate] at b7;rw[b7.2];exact QK,by
  have:=(k.old (d1:D) H).t G.at_
  rw[s1] at this
  exact this⟩
 have a7:LP p ((a:D)+1+1) 33 (P (M ⟨(a:D)+1,0,J⟩) 17 17):=by have:=k.ab3;rwa [a1,s1] at this
 have a5:T a a p:=(aa.aE.t (G.aE.m H)).t (k.aE.m H);clear a8 a9 e3 aa G k s1 a1;have i2:=YC;gi_loopw [10] (λa4 wr=>∃b:D,a4=ϑ (b:C)/\b<=17/\Φ (ft wr ((a:D)+1) j)/\Φ (LP wr ((a:D)+1+1) 33 (P (M ⟨(a:D)+1,0,J⟩) 17 17))/\Φ (wr.heap[(a:D)]?=K o 379)/\Φ (T a a wr)/\(a:D)+3<=(wr:D)) (λa4 _=>17-(QI a4).toNat)
 case atStart=>exact⟨0,A,H,c7,a7,c6,a5,H⟩
 case round=>
  obtain⟨b,rfl,af,S,U,N,s,h7⟩:=hrel;by_cases Y:b<17
  .have a3:(b:C)<17:=H;have f7:(0:C)<=(b:C):=H;let⟨⟨x0,b9⟩,e4⟩:=S.o.dN Y;have e0:=U.o.cell;have i0:=bH b9;have e1:∀c:ν,(∀b,b<(wr:D)->c.heap[b]?=wr.heap[b]?)->ft c ((a:D)+1) j/\LP c ((a:D)+1+1) 33 (P (M ⟨(a:D)+1,0,J⟩) 17 17)/\c ⟨(a:D)+1+1,0,J⟩=P (M ⟨(a:D)+1,0,J⟩) 17 17/\c.heap[(a:D)]?=K o 379/\(∃ah,c ⟨(a:D)+1,b,J⟩=O ah)/\c.frozen? ⟨(a:D)+1,b,J⟩=σ:=λc d=>by
    have h:=S.o.aM (d _ (oA (aw U.o)));have e:LP c ((a:D)+1+1) 33 _:=(d _ (aw U.o)).t U.o;exact⟨h,e,e.cell,(d _ (aw N.o)).t N.o,(h.dN Y).1,(h.dN Y).2⟩
   gi_wp2;apply tt;gi_region_with_o (refine⟨tV,?_⟩;gi_at_call 43;apply(callsIn_wide.2 (b6 _)).m;rintro w g ⟨rfl,t⟩;let⟨h,e,c3,ab,⟨g9,c4⟩,c5⟩:=e1 g t.b)
   all_goals
    simp only[ic];gi_wp2;go_roundw;case rel=>exact⟨b+1,R,H,h.set (j:=b) (x:=⟨#[128]⟩) d8,(QJ R).t e,(QJ R).t ab,(s.o.t (Lh (B:=(wr:D)) ⟨t.os,t.tape,t.output,t.z,t.b⟩ s.o.z)).s R _,by have:=t.z;simp[PZ] at this ⊢;omega⟩
    case measure=>simp[QI];omega
  have a3:¬(b:C)<17:=H;have b2:=N.o;gi_wp2_with (first|(apply yo A _ A (a:D) A 379 o (0,0) f4 b2)|(refine⟨tV,?_⟩;apply(callsIn_wide.2 (f2 _)).m;rintro w g ⟨rfl,rfl⟩));let⟨g,b0,r⟩:=aU wr (K o 379);rw[b0];have f9:=S.o.aM (r.old _ H);have g0:LP g ((a:D)+1+1) 33 (P (M ⟨(a:D)+1,0,J⟩) 17 17):=(r.old _ H).t U.o;have f8:=(r.old _ H).t N.o;have c2:T a a g:=s.o.t (r.aE.m s.o.z);have s4:=r.aH;have g1:g.heap[(wr:D)]?=K (nc f) 379:=hd.eq▸r.at_;have i5:(wr:D)<(g:D):=H;have h8:(a:D)+3<(g:D):=H;clear b0 r S U N b2 s af a3 Y c6 c7 a7 a5 g4 s4;apply gl A dc (gf:=265) (lb:=#[ξ ((wr:D),0)]) A trivial yp;intro i9 y h4 e7 g5 q d4 d6 f3;subst e7;clear g5;apply(pM ((g:D)+1) (wr:D) 8 f
   (λb i=>i.heap[(g:D)+1]?=IK (y NG J)/\i.heap[(g:D)]?=Kc (M [])/\ft i ((a:D)+1) j/\LP i ((a:D)+1+1) 33 (P (M ⟨(a:D)+1,0,J⟩) 17 17)/\i.heap[(a:D)]?=K o 379/\T a a i)
   (λi=>QZ) h4 dc ((q.b _ H).t g1) ?hY ?hN ?h0).m
  case h0=>exact⟨d4,d6,f9.aM (q.b _ H),(q.b _ H).t g0,(q.b _ H).t f8,c2.t (q.m c2.z)⟩
  case hN=>
   rintro b i af e5 a2;exact a2
  case hY=>
   rintro b i af e5 ⟨u,V,W,X,Z,F⟩;refine f3.oj _ _ _ _ A u λv b3=>?_;let⟨t1,d,c1,x⟩:=cL (aw u) _ b3;have t2:=(d _ H).t V;have l:=W.aM (d _ H);have z:LP v ((a:D)+1+1) 33 _:=(d _ H).t X;have m:=(d _ H).t Z;have n:=x _ _ H F;have d9:=z.cell;let⟨⟨x0,b9⟩,e4⟩:=l.dN (j:=b) H;have a3:(b:C)<17:=H;have f7:(0:C)<=(b:C):=H;clear b3 d x u V W X Z F;gi_wp2;have h9:=aw t1;have e:∀ag,ag≠(a:D)+1->(v.setCell ⟨(a:D)+1,b,J⟩ (O (f.r b))).heap[ag]?=v.heap[ag]?:=λag e6=>QJ e6;have i6:(v.setCell ⟨(a:D)+1,b,J⟩ (O (f.r b))).heap.size=(v:D):=by simp[PZ]
   let⟨g2,ae,i7,g3⟩:=cL (W:=v.setCell ⟨(a:D)+1,b,J⟩ (O (f.r b))) (l:=(g:D)+1) H (IK (y NG J)) A;exact⟨(e _ H).t t1,A,g2,(ae _ H).t ((e _ H).t t2),(l.set (j:=b) (f1 b af)).aM (ae _ H),(ae _ H).t ((e _ H).t z),(ae _ H).t ((e _ H).t m),g3 _ _ H (n.s R _)⟩
  rintro w g6 ⟨f6,(⟨u,V,W,X,Z,F⟩|a2)⟩
  .refine⟨f6,J,u,?_⟩;let⟨t1,d,c1,x⟩:=cL (aw u) (IK (y .exhausted J)) A;have t2:=(d _ H).t V;have l:=W.aM (d _ H);have z:LP _ ((a:D)+1+1) 33 _:=(d _ H).t X;have m:=(d _ H).t Z;have n:=x _ _ H F;generalize g6.putObj ((g:D)+1) (IK (y .exhausted J))=L at t1 t2 l z m n ⊢;clear d c1 x u V W X Z F;have d9:=z.cell;have e0:L ((a:D),2)=f.bL:=(Xe L (a:D) 2 o 379 (0,0) m).t hd.bL;simp only[mq];gi_wp2;have e8:=aw z;have i1:=aw m;have e9:=aw t2;have e2:∀c:ν,(∀b,b<(L:D)->c.heap[b]?=L.heap[b]?)->ft c ((a:D)+1) j/\LP c ((a:D)+1+1) 33 (P (M ⟨(a:D)+1,0,J⟩) 17 17)/\c ⟨(a:D)+1+1,0,J⟩=P (M ⟨(a:D)+1,0,J⟩) 17 17/\c.heap[(g:D)]?=Kc (M [])/\(∃ah,c ⟨(a:D)+1,16,J⟩=O ah)/\c.frozen? ⟨(a:D)+1,16,J⟩=σ:=λc d=>by
    have h:=l.aM (d _ H);have e:LP c ((a:D)+1+1) 33 _:=(d _ e8).t z;exact⟨h,e,e.cell,(d _ e9).t t2,(h.dN dc).1,(h.dN dc).2⟩
   apply tt;gi_region_with_o (refine⟨tV,?_⟩;gi_at_call 43;apply(callsIn_wide.2 (f5 _)).m;rintro w w8 ⟨rfl,b8⟩;let⟨h,e,c3,ab,⟨g9,c4⟩,c5⟩:=e2 w8 b8.b)
   all_goals
    simp only[ic];have c8:T a a w8:=n.t (Lh (B:=(L:D)) ⟨b8.os,b8.tape,b8.output,b8.z,b8.b⟩ n.z);have u1:=h.set (j:=16) (x:=tx (Rl.bK (bs f.bL))) H;have u2:LP (w8.setCell ⟨(a:D)+1,16,J⟩ (O (tx (Rl.bK (bs f.bL))))) ((a:D)+1+1) 33 (P (M ⟨(a:D)+1,0,J⟩) 17 17):=(QJ R).t e;have u4:(w8.setCell ⟨(a:D)+1,16,J⟩ (O (tx (Rl.bK (bs f.bL))))).heap[(g:D)]?=Kc (M []):=(QJ QB).t ab;have u8:T a a (w8.setCell ⟨(a:D)+1,16,J⟩ (O (tx (Rl.bK (bs f.bL))))):=c8.s R _;generalize w8.setCell ⟨(a:D)+1,16,J⟩ (O (tx (Rl.bK (bs f.bL))))=g7 at u1 u2 u4 u8 ⊢;let⟨a0,g8,h1,c0⟩:=u1.ae9;have h2:=uq h1;rw[g8] at h2;have b4:=fx g7 _ a0 c0 H H;have b5:(tx (Rl.eK (a0.flatMap bs))).size<=17*j+10:=by
     rw[dP,Rl.eK,Gk];have:=dJ 192 (a0.flatMap bs:D) H;omega
    have h6:=u2.cell;generalize tx (Rl.eK (a0.flatMap bs))=d3 at b4 b5;clear h e c3 ab c4 c5 b8 c8 c0;gi_wp2_with (refine⟨tV,?_⟩;apply(callsIn_wide.2 b4).m;rintro w i8 ⟨rfl,a6⟩);refine⟨R,Ξ ⟨_,_,A,Xq (Below.ke a6 u4),?_⟩⟩;exact⟨_,Xy A _ _ _,⟨d3,A,b5⟩,bP (u8.t (a6.m u8.z)) H _⟩
  exact a2.elim
end
structure bd (w w1:L)(g:D)(o:Obj):Prop where
 aH:w1.heap.size=w.heap.size
 at_:w1.heap[g]?=o
 old:∀k,k≠g->w1.heap[k]?=w.heap[k]?
 aE:∀B a,B<=g->T B a w->T B a w1
def dk {w:ν}{g:Nat}{old cs:QF π}{t:Λ}(c:w.heap[g]?=θ old t):bd w (w.setRow g cs) g (θ cs t) where
 aH:=setRow_size w g cs
 at_:=setRow_heap w g old cs t (0,0) c
 old k b:=XL w g k cs b
 aE B a hB hb:=⟨hb.os,hb.tape,hb.output,by rw[setRow_size];exact hb.z,λk b=>(XL w g k cs om).t (hb.b k b)⟩
def aF {w:ν}{g j:Nat}{old:QF π}{t:Λ}(u:π)(b:w.heap[g]?=θ old t):bd w (w.setCell (g,j) u) g (θ (old.setIfInBounds j u) t) where
 aH:=by simp[PZ]
 at_:=bJ b j u
 old k hk:=QJ hk
 aE B a hB hb:=hb.s hB u
def ZK (f:Nd):(nc f).all (·.oneCell')=U:=by simp[nc,φ]
def fu {f:QF S}{j:Nd}(t:ct f j):f.all (·.oneCell')=U:=t.eq▸ZK j
section
variable {ops:Array Le}{rest:List Le}{o:Le}{a:Act}{w:ν}{Q:Exit->Act->ν->Prop}
def uu (X:o.guard=J)(A M:Kg)(Z:o.op=.store 281 A M)(j:D)(p:a.eval A=V j)(f:QF S)(U:Nd)(hd:ct f U)(q:a.eval M=t f)(z:Λ)(u:QF S)(n:u.size=19)
 (O:w.heap[j]?=K u z) (W:∀P,bd w P j (K f z)->Ji N ops Q rest (a.put o.dst undef) P):Ji N ops Q (o::rest) a w:=
 Xw X 281 A M Z j f p q z u O (hd.aH▸hT) (by rw[n,hd.aH]) (fu hd) (W _ (dk O))
end
def hz {z:Func}{M P:Tmp}(U:z.results=#[.cell M 281,.tmp P]){t:QF S}{w:L}{u:D}{j:QF S}{O:Λ}{J:D×D}(X:t.getD M undef=V u)(Z:j.size=19)
 (W:w.heap[u]?=K j O J):(results z t).run N w=Je (f #[j,t.getD P undef]) w:=by
 rw[results_cell_tmp U,X];have:=XH (P:=N) w u O 281 j J _ W Jn A (Z▸hT);simp[asAddr,this,Ω]
def Sq (j f:B):ct #[G 2,j,I,f,I,I,I,I,I,I,I,I,I,I,I,I,I,I,I] ⟨2,j,⟨#[]⟩,λb=>if b=0 then f else⟨#[]⟩⟩:=⟨A,A,A,A,λb e=>by apply C6 b;repeat' constructor⟩
def lM (f j:B):ct #[G 1,f,j,I,I,I,I,I,I,I,I,I,I,I,I,I,I,I,I] ⟨1,f,j,λ_=>⟨#[]⟩⟩:=jN ⟨1,f,j,λ_=>⟨#[]⟩⟩
inductive pR (a b:B)(e:He):Prop
 |bad (h:fK a=J\/∃p,fK a=M p/\uj p=J) (he:e=f #[zc,z X])
 |ext (p:B) (q:B) (cs:QF S) (h:fK a=M p) (h2:uj p=M (bs q,X)) (hq:q.size<=2*a.size) (hd:ct cs ⟨2,q,⟨#[]⟩,λk=>if k=0 then b else⟨#[]⟩⟩) (he:e=f #[cs,z U])
 |leaf (p:B) (q v:B) (ok:Bool) (cs:QF S) (h:fK a=M p) (h2:uj p=M (bs q,U)) (hq:q.size<=2*a.size) (hv:v.size<=b.size) (hok:ok=(fK b).isSome) (hpv:ok=U->fK b=v) (hd:ct cs ⟨1,q,v,λ_=>⟨#[]⟩⟩) (he:e=f #[cs,ok])
def yq (a c:B)(w:ν)(ae:a.size<=1048577)(a0:c.size<=1048577):τ γ 255 #[a,c] w λp aa=>pR a c p/\T w w aa:=by
 have r:=λw=>kZ a w H;have v:=λw=>kZ c w H;have R:=Ga r;have S:=Ga v;go_enter func255,ntmps255;go_wp2_with fail;let⟨a4,n,s⟩:=aU w (K #[G 0,eS,eS,eS,eS,eS,eS,eS,eS,eS,eS,eS,eS,eS,eS,eS,eS,eS,eS] 281);rw[n];go_call R.o _ as p I ⟨L,u⟩;have k:=u.ke s.at_;have X:T w w I:=s.aE.t (u.m s.aE.z);rcases L with⟨t,rfl⟩|⟨U,t,a2,rfl⟩
 .go_wp2_with (first|(apply uu A _ _ A w A #[G 0,eS,eS,eS,eS,eS,eS,eS,eS,eS,eS,eS,eS,eS,eS,eS,eS,eS,eS] bE cA A 281 _ A k;intro e i));refine QM (hz A A A i.at_) A ?_;exact⟨.bad (Ξ t) A,i.aE _ _ d X⟩
 have q:=Sl U I H;go_wp2_with fail;go_call q as p e ⟨M,x⟩;have V:=x.ke k;have J:T w w e:=X.t (x.m X.z);rcases M with⟨P,rfl⟩|⟨b,a7,P,a3,rfl⟩
 .go_wp2_with (first|(apply uu A _ _ A w A #[G 0,eS,eS,eS,eS,eS,eS,eS,eS,eS,eS,eS,eS,eS,eS,eS,eS,eS,eS] bE cA A 281 _ A V;intro z f));refine QM (hz A A A f.at_) A ?_;exact⟨.bad (Θ ⟨U,t,P⟩) A,f.aE _ _ d J⟩
 cases a7 with
 |false=>
  go_upto_region 9 with(first|(apply uu rfl _ _ rfl e rfl #[G 2,b,eS,eS,eS,eS,eS,eS,eS,eS,eS,eS,eS,eS,eS,eS,eS,eS,eS] ⟨2,b,⟨#[]⟩,λ_=>⟨#[]⟩⟩ (jN ⟨2,b,⟨#[]⟩,λ_=>⟨#[]⟩⟩) rfl 281 _ rfl (Gc _ _);intro z f));have a1:=(Xe z _ 3 _ 281 (0,0) f.at_).t (show(#[G 2,b,eS,eS,eS,eS,eS,eS,eS,eS,eS,eS,eS,eS,eS,eS,eS,eS,eS]:QF π)[3]?=eS from A);have ab:=aI f.at_ 3;have g:=aF (j:=3) (O c) f.at_;have Y:(z.setCell (e,3) (O c)).heap[e.heap.size]?=K #[G 2,b,eS,c,eS,eS,eS,eS,eS,eS,eS,eS,eS,eS,eS,eS,eS,eS,eS] 281:=g.at_;have a6:=aw V;have a5:(z.setCell (e,3) (O c)).heap[w.heap.size]?=K #[G 0,eS,eS,eS,eS,eS,eS,eS,eS,eS,eS,eS,eS,eS,eS,eS,eS,eS,eS] 281:=(g.old _ H).t ((f.old _ H).t ((QP a6).t V));go_wp2_with (first|(apply YB A _ A e A 281 #[G 2,b,eS,c,eS,eS,eS,eS,eS,eS,eS,eS,eS,eS,eS,eS,eS,eS,eS] (0,0) A Y)|(apply uu A _ _ A w A #[G 2,b,eS,c,eS,eS,eS,eS,eS,eS,eS,eS,eS,eS,eS,eS,eS,eS,eS] ⟨2,b,⟨#[]⟩,λa9=>if a9=0 then c else⟨#[]⟩⟩ (Sq b c) A 281 _ A a5;intro F j));apply QM (hz A A A j.at_) A;refine⟨.ext U b #[G 2,b,eS,c,eS,eS,eS,eS,eS,eS,eS,eS,eS,eS,eS,eS,eS,eS,eS] t P H (Sq b c) A,j.aE _ _ d ?_⟩;have Z:=J.z;exact(aF (O c) f.at_).aE _ _ Z (f.aE _ _ Z (J.a Z _))
 |true=>
  go_wp2_with fail;go_call S.o _ as p z ⟨N,y⟩;have l:=y.ke V;have m:T w w z:=J.t (y.m J.z);rcases N with⟨W,rfl⟩|⟨h,W,a8,rfl⟩
  .go_wp2_with (first|(apply uu A _ _ A w A #[G 1,b,eS,eS,eS,eS,eS,eS,eS,eS,eS,eS,eS,eS,eS,eS,eS,eS,eS] ⟨1,b,⟨#[]⟩,λ_=>⟨#[]⟩⟩ (lM b ⟨#[]⟩) A 281 _ A l;intro F j));refine QM (hz A A A j.at_) A ?_;exact⟨.leaf U b ⟨#[]⟩ σ #[G 1,b,eS,eS,eS,eS,eS,eS,eS,eS,eS,eS,eS,eS,eS,eS,eS,eS,eS] t P H QK (W▸rfl) sm (lM b ⟨#[]⟩) A,j.aE _ _ d m⟩
  go_wp2_with (first|(apply uu A _ _ A w A #[G 1,b,h,eS,eS,eS,eS,eS,eS,eS,eS,eS,eS,eS,eS,eS,eS,eS,eS] ⟨1,b,h,λ_=>⟨#[]⟩⟩ (lM b h) A 281 _ A l;intro F j));refine QM (hz A A A j.at_) A ?_;exact⟨.leaf U b h ψ #[G 1,b,h,eS,eS,eS,eS,eS,eS,eS,eS,eS,eS,eS,eS,eS,eS,eS,eS] t P H a8 (W▸rfl) (λ_=>W) (lM b h) A,j.aE _ _ d m⟩
section
variable {ops:Array Le}{rest:List Le}{o:Le}{a:Act}{w:ν}{Q:Exit->Act->ν->Prop}{g:Nat}{cs old:Array π}{t:Λ}
theorem tS {z:Nd}(hd:ct cs z)(M:w.heap[g]?=K old t)(O:∀u,bd w u g (K cs t)->Ji N ops Q rest (a.put o.dst undef) u)(P:o.guard=J:=by exact A){f j:Kg}(U:o.op=.store 281 f j:=by exact A)(X:a.eval f=V g:=by exact A)(Z:a.eval j=Γ cs:=by exact A)(W:old.size=19:=by exact A):Ji N ops Q (o::rest) a w:=uu P f j U g X cs z hd Z t old W M O
theorem tL (z:w.heap[g]?=K cs t)(u:Ji N ops Q rest (a.put o.dst (Γ cs)) w)(M:o.guard=J:=by exact A){j:Kg}(O:o.op=.load 281 j:=by exact A)(P:a.eval j=V g:=by exact A)(f:cs.size=19:=by exact A):Ji N ops Q (o::rest) a w:=YB M j O g P t cs _ f z u
theorem tR {j:He→L→Prop}{u:Func}{U:D×D}(O:w.heap[g]?=K cs t U){z J:Tmp}(X:j (ι (f #[Γ cs,a.tmps.getD J undef])) w)(M:u.results=#[.cell z 281,.tmp J]:=by exact A)(P:a.tmps.getD z undef=V g:=by exact A)(h:cs.size=19:=by exact A)(W:a.defers=[]:=by exact A):bodyPost N u j Exit.ret a w:=QM (hz M P h O) W X
end
def ej (o:L)(j:D)(f:Nd):Prop:=o.heap[j]?=K (nc f) 281
def ej.aE {c:D}{f:Nd}(j:ej g c f)(o:T g g s):ej s c f:=o.ke j
def Mc (f:Nd)(o:w<16)(j:B):(nc f).setIfInBounds (3+w) (O j)=nc {f with r:=λc=>if c=w then j else f.r c}:=by
 apply C6 w;repeat' constructor
def ej.CX {f:Nd}(t:ej g w f){k:D}(o:k<16)(j:B):ej (g.setCell (w,3+k) (O j)) w {f with r:=λd=>if d=k then j else f.r d}:=by
 have:=(aF (j:=3+k) (O j) t).at_;rwa[Mc f o] at this
def ej.uv {j:Nd}(o:ej g w j)(f:B):ej (g.setCell (w,2) (O f)) w {j with bL:=f}:=(aF (j:=2) (O f) o).at_
def ej.sO {f:Nd}(j:ej g w f){k:D}(o:k<16):g (w,3+k)=(f.r k)/\g.frozen? (w,3+k)=X:=
 ⟨(Xe g w (3+k) _ 281 (0,0) j).t ((jN f).qF k o),aI j _⟩
def ej.xe {f:Nd}(j:ej g w f):g (w,2)=f.bL/\g.frozen? (w,2)=X:=
 ⟨(Xe g w 2 _ 281 (0,0) j).t (jN f).bL,aI j _⟩
def xf (o:D)(A:He):Prop:=∃u j K,ct u j/\j.bq=3/\j.bA=⟨#[]⟩/\j.bL.size<=o/\(∀J,(j.r J).size<=o)/\A=f #[t u,z K]
def uw (b4:π)(V:E QE)(j:D)(a:ν)(c1:bS a b4 V)(a7:(V:D)=17)(a2:∀g∈V,g.size<=j)(c7:j<=1048577):τ γ 256 #[b4] a λL c4=>xf j L/\T a a c4:=by
 rcases c1 with⟨c6,c3,rfl,rfl⟩|⟨p,ab,c3,rfl,a3,a9,d2⟩
 .simp at a7
 rw[a7];have b2:=λa=>cP ⟨#[]⟩ a dc;rw[mN] at b2;have a5:∀b (a6:b<17),∃g,V[b]?=δ g/\g.size<=j:=λb a6=>⟨V[b],Gf H,a2 _ (NL _)⟩;go_enter func256,ntmps256;go_upto_region 2 with(refine tS (jN ⟨3,⟨#[]⟩,⟨#[]⟩,λ_=>⟨#[]⟩⟩) (by have:=Gc (a.alloc (K #[G 0,I,I,I,I,I,I,I,I,I,I,I,I,I,I,I,I,I,I] 281)) (K #[G 0,I,I,I,I,I,I,I,I,I,I,I,I,I,I,I,I,I,I] 281);rwa [GG] at this) ?_;intro aa n);have b5:T a a aa:=n.aE _ _ R (by go_grown);have O:aa.heap[(a:D)]?=K #[G 0,I,I,I,I,I,I,I,I,I,I,I,I,I,I,I,I,I,I] 281:=(n.old _ H).t ((QP R).t (Gc _ _));have X:ej aa ((a:D)+1) ⟨3,⟨#[]⟩,⟨#[]⟩,λ_=>⟨#[]⟩⟩:=n.at_;have a0:=F a5;have ah:=F a3;clear n a5 a3 a2;go_wp2_with fail;go_loopw [9] (λae wr=>∃(b:D) (k:D->QE),ae=G (b:C)/\b<=16/\Φ (ej wr ((a:D)+1) ⟨3,⟨#[]⟩,⟨#[]⟩,k⟩)/\Φ (∀e,(k e).size<=j)/\Φ (wr.heap[(a:D)]?=K #[G 0,I,I,I,I,I,I,I,I,I,I,I,I,I,I,I,I,I,I] 281)/\Φ (T a a wr)) (λae _=>16-(QI ae).toNat)
 .exact⟨0,_,A,H,X,λe=>QK,O,b5⟩
 obtain⟨b,k,rfl,a6,i,m,l,t⟩:=hrel;have b9:=aw i.o;by_cases s:b<16
 .have c2:(b:C)<16:=H;have d1:(0:C)<=(b:C):=H;have d6:(b:C)<17:=H;let⟨g,S,Y⟩:=a0.o b H;have w:=(t.o.cell (p:=⟨p,ab+b,J⟩) a9).t (ah.o b g S);have a4:∀d:ν,(∀e,e<(wr:D)->d.heap[e]?=wr.heap[e]?)->ej d ((a:D)+1) ⟨3,⟨#[]⟩,⟨#[]⟩,k⟩/\d.heap[(a:D)]?=K #[G 0,I,I,I,I,I,I,I,I,I,I,I,I,I,I,I,I,I,I] 281/\d ⟨p,ab+b,J⟩=β g/\d ⟨(a:D)+1,3+b,J⟩=(k b)/\d.frozen? ⟨(a:D)+1,3+b,J⟩=σ:=λd y=>by
   have x:ej d ((a:D)+1) _:=(y _ b9).t i.o;exact⟨x,(y _ H).t l.o,(GQ (w:=wr) (y p (oA t.o.z))).t w,(x.sO s).1,(x.sO s).2⟩
  have ag:=F a4;clear a4;go_upto_region 5 with fail;go_region_with (go_at_call 43;(apply(b2 _).m);rintro L d ⟨rfl,f⟩;let⟨x,b3,d8,d9,e0⟩:=ag.o d f.b)
  all_goals
   have ai:T a a d:=t.o.t (Lh (B:=(wr:D)) ⟨f.os,f.tape,f.output,f.z,f.b⟩ t.o.z);have P:=F (κ ai (κ x b3));have r:=F (κ m.o Y);clear ai f x b3 i m l t ag w
  all_goals go_wp2
  all_goals first
   |exact⟨⟨b+1,λe=>if e=b then g else k e,R,H,P.2.1.CX s g,λe=>(by show(if e=b then g else k e).size<=j;split<;>first|exact r.2|exact r.1 e),(QJ R).t P.2.2,P.1.s R _⟩,by simp[QI];omega⟩
   |exact⟨⟨b+1,k,R,H,P.2.1,r.1,P.2.2,P.1⟩,by simp[QI];omega⟩
 have c2:¬(b:C)<16:=H;let⟨g,S,Y⟩:=a0.o 16 H;have w:=(t.o.cell (p:=⟨p,ab+16,J⟩) a9).t (ah.o 16 g S);have b0:=λa=>kZ g a H;go_wp2_with fail;go_call b0 _ as L d ⟨a8,f⟩;have X:=i.o.aE f;have O:=Below.ke f l.o;have a1:T a a d:=t.o.t (f.m t.o.z);let⟨d4,c8⟩:=X.xe;have d3:=aw O;clear f t l i b0;rcases a8 with⟨b6,rfl⟩|⟨U,b6,c0,rfl⟩
 .let⟨c,h⟩:∃c:Nd,c=⟨3,⟨#[]⟩,⟨#[]⟩,k⟩:=⟨_,A⟩;have u:ej (d.setCell ⟨(a:D)+1,2,J⟩ I) ((a:D)+1) c:=h▸X.uv ⟨#[]⟩;have N:(d.setCell ⟨(a:D)+1,2,J⟩ I).heap[(a:D)]?=K #[G 0,I,I,I,I,I,I,I,I,I,I,I,I,I,I,I,I,I,I] 281:=(QJ R).t O;have v:T a a (d.setCell ⟨(a:D)+1,2,J⟩ I):=a1.s R _;have W:c.bq=3/\c.bA=⟨#[]⟩/\c.bL.size<=j/\(∀b,(c.r b).size<=j):=h▸⟨A,A,QK,m.o⟩;have b7:d.heap[(a:D)]?=K #[G 0,I,I,I,I,I,I,I,I,I,I,I,I,I,I,I,I,I,I] 281:=O;have o:=F W;clear h W;have M:=(jN c).aH;have z:=jN c;unfold ej at u;generalize af:nc c=q at u M z;clear af;go_wp2_with (first|(refine tL u ?_ (f:=M))|(refine tS z N ?_;intro c5 Z));refine tR Z.at_ ?_ (h:=M);exact⟨⟨q,c,σ,z,o.1,o.2.1,o.2.2.1,o.2.2.2,A⟩,Z.aE _ _ QD v⟩
 let⟨c,h⟩:∃c:Nd,c=⟨3,⟨#[]⟩,U,k⟩:=⟨_,A⟩;have u:ej (d.setCell ⟨(a:D)+1,2,J⟩ (β U)) ((a:D)+1) c:=h▸X.uv U;have N:(d.setCell ⟨(a:D)+1,2,J⟩ (β U)).heap[(a:D)]?=K #[G 0,I,I,I,I,I,I,I,I,I,I,I,I,I,I,I,I,I,I] 281:=(QJ R).t O;have v:T a a (d.setCell ⟨(a:D)+1,2,J⟩ (β U)):=a1.s R _;have W:c.bq=3/\c.bA=⟨#[]⟩/\c.bL.size<=j/\(∀b,(c.r b).size<=j):=h▸⟨A,A,GB c0 Y,m.o⟩;have b7:d.heap[(a:D)]?=K #[G 0,I,I,I,I,I,I,I,I,I,I,I,I,I,I,I,I,I,I] 281:=O;have o:=F W;clear h W;have M:=(jN c).aH;have z:=jN c;unfold ej at u;generalize af:nc c=q at u M z;clear af;go_wp2_with (first|(refine tL u ?_ (f:=M))|(refine tS z N ?_;intro c5 Z));refine tR Z.at_ ?_ (h:=M);exact⟨⟨q,c,ψ,z,o.1,o.2.1,o.2.2.1,o.2.2.2,A⟩,Z.aE _ _ QD v⟩
def gv (f:B):QV B:=
 match Rl.fX (bs f) with
 |some (U,a,c)=>if a+c=f.size then M (f.extract a (a+c)) else J
 |_=>J
inductive sP (s:B)(e:He):Prop
 |none (h:s=⟨#[128]⟩) (he:e=f #[zc,z U])
 |bad (h:s≠⟨#[128]⟩) (h2:∀t a b,gv s=M t->Rl.dL t≠M [a,b]) (he:e=f #[zc,z X])
 |pair (t a b:B) (h:s≠⟨#[128]⟩) (h1:gv s=M t) (h2:Rl.dL t=M [a,b]) (hr:pR a b e)
 |branch (t:B) (xs:E B) (h:s≠⟨#[128]⟩) (h1:gv s=M t) (h2:Rl.dL t=xs) (hl:xs.length=17) (hr:xf t.size e)
def Rl.xg {j:E QO}(f:Rl.fX j=M (U,w,q)):1<=w:=by
 unfold Rl.fX at f;cases j with
 |nil=>cases f
 |cons a i=>
  simp only at f;split at f
  .simp only[Gd,Hf] at f;cases f.1
  split at f
  .cases f
  rename_i t u o;split at f
  .cases f
  split at f
  .cases f
  simp only[Gd,Hf] at f;have:=Rl.xa o;omega
def pR.bZ {o:B}{j:He}(c:pR k o j):∃b u e,ct b u/\j=f #[t b,z e]:=by
 cases c with
 |bad c a=>exact⟨_,_,_,cA,a⟩
 |ext d l b c i g hd a=>exact⟨_,_,_,hd,a⟩
 |leaf d l p e b c i g h m n hd a=>exact⟨_,_,_,hd,a⟩
def pS (u:B)(K:L)(p:u.size<1099511627776):Y N 181 #[u] K λa m=>(∃V W c P,a=f #[z V,O W,O c,G P]/\
 ((gv u=M W/\V=U/\c.size=0/\P=0/\W.size<u.size)\/(gv u=J/\(P≠0\/V=X\/c.size≠0))))/\T K K m:=by
 go_call kK u K p as a m ⟨d,h⟩;refine⟨?_,h⟩;cases t:Rl.fX (bs u) with
 |none=>
  rw[t] at d;refine⟨_,_,_,_,d,j ⟨by rw[gv,t],o r⟩⟩
 |some c=>
  let⟨n,k,q⟩:=c;rw[t] at d;have b:=Rl.hy t;rw[aX] at b;refine⟨_,_,_,_,d,?_⟩;cases n with
  |false=>exact j ⟨by rw[gv,t],j (o A)⟩
  |true=>
   by_cases Z:k+q=u
   .refine o ⟨by rw[gv,t];simp only;rw[QU Z],A,eZ,A,?_⟩;have e:1<=k:=Rl.xg t;rw[ax];omega
   exact j ⟨by rw[gv,t];simp only;rw[QT Z],j (j eZ)⟩
def Rl.yr:∀(e:D) (c:B) {t:E B},Rl.gY e c=t->∀o∈t,o.size<=c.size:=by
 intro e;induction e with
 |zero=>
  intro c t f;unfold Rl.gY at f;split at f
  .cases f;intro o j;cases j
  cases f
 |succ e i=>
  intro c t f;unfold Rl.gY at f;split at f
  .cases f;intro o j;cases j
  cases u:Rl.fX (bs c) with
  |none=>rw[u] at f;cases f
  |some a=>
   let⟨k,l,m⟩:=a;rw[u] at f;simp only at f;obtain⟨A,z,rfl⟩:=Jd.1 f;intro o j;rcases GF.1 j with rfl|j
   .rw[ax];omega
   have:=i _ z o j;rw[ax] at this;omega
def Rl.gx (f:Rl.dL k=v):∀j∈v,j.size<=k.size:=Rl.yr _ _ f
def pT (W:QE)(a:ν)(e5:W.size<1048577)(b0:As.cC a):τ γ 207 #[W] a λx e0=>sP W x/\ρ a a e0:=by
 have a2:=λa=>cP ⟨#[]⟩ a dc;rw[mN] at a2;have b3:=λa=>pS W a om;have c0:=F a2;have a8:=F b3;have b5:=F b0;go_enter func207,ntmps207;go_wp2_with fail;let⟨e7,a9,ab⟩:=aU a (θ #[ϑ 0,I,I,I,I,I,I,I,I,I,I,I,I,I,I,I,I,I,I] 281);rw[a9];go_call c0.o _ as x d4 ⟨rfl,T⟩;have a1:=T.ke ab.at_;have aa:ρ a a d4:=ab.aE.t (T.m ab.aE.z);by_cases Z:W=⟨#[128]⟩
 .have o:=F Z;have d6:(W.toList==[128])=ψ:=by rw[Z,Lib.toList_data];rfl
  clear Z;go_wp2_with (apply tS cA a1;intro a0 a7);apply tR a7.at_;exact⟨.none o.o A,a7.aE _ _ d aa⟩
 have o:=F Z;have d6:(W.toList==[128])=σ:=by
  rw[Xk,Lib.toList_data];exact λc3=>Z (Ju c3)
 clear Z;go_wp2_with fail;go_call a8.o _ as x a0 ⟨⟨l,t,r,c,rfl,c2⟩,U⟩;have O:=U.ke a1;have X:ρ a a a0:=aa.t (U.m aa.z);rcases c2 with⟨L,rfl,b2,rfl,d2⟩|⟨L,af⟩
 .have d8:=cj b2;have k:=xc t a0 om (b5.o.aE X);have e1:((0:C)==0)=ψ:=dc;have u:=F (κ L d2);go_wp2_with fail;go_call k as x w4 ⟨M,V⟩;have J:=V.ke O;have P:ρ a a w4:=X.t (V.m X.z);cases Y:Rl.dL t with
  |none=>
   rw[Y] at M;cases M;have K:=F Y;have e8:((2:C)==0)=σ:=dc;go_wp2_with (apply tS cA J;intro j f);apply tR f.at_;exact⟨.bad o.o (λw e g b q=>by rw[u.1] at b;cases b;rw[K.o] at q;cases q) A,f.aE _ _ d P⟩
  |some h=>
   rw[Y] at M;obtain⟨S,rfl,H⟩:=M;have K:=F Y;rcases H with⟨e2,R,rfl,rfl⟩|⟨ae,ag,R,rfl,i,c6,c5⟩
   .go_wp2_with (apply tS cA J;intro j f;clear J);apply tR f.at_;exact⟨.bad o.o (λw e g b q=>by rw[u.1] at b;cases b;rw[K.o] at q;cases q) A,f.aE _ _ d P⟩
   by_cases p:(h:D)=2
   .obtain⟨e,g,rfl⟩:∃e g,h=[e,g]:=by
     match h,p with
     |[e,g],_=>exact⟨e,g,A⟩
    have c1:=i 0 e A;have e4:=i 1 g A;rw[JC] at c1;have k:=Rl.gx K.o;have a5:=λa=>yq e g a (oA (k e sm)) (oA (k g sm));have b9:=F a5;clear a5 k i p;rw[(rfl:[e,g].length=2)];go_upto_region 10 with fail;go_region_with (go_at_call 255;(apply(b9.o _).m);rintro x j ⟨s,z⟩;obtain⟨y,d1,d9,hd,rfl⟩:=s.bZ;have v:j.heap[(a:D)]?=θ #[ϑ 0,I,I,I,I,I,I,I,I,I,I,I,I,I,I,I,I,I,I] 281:=(z.b _ (aw J)).t J;have G:=hd.aH;have c8:=run_storeCells_from (P:=γ) a 281 y.toList 0 #[ϑ 0,I,I,I,I,I,I,I,I,I,I,I,I,I,I,I,I,I,I] j v (by simp[G]) (λS H=>(JA.1 (fu hd)) S (sU H)))
    all_goals
     go_wp2;have m:=dk (cs:=y) v;refine tR m.at_ ?_ (h:=G);exact⟨.pair t e g o.o u.1 K.o s,m.aE _ _ d (P.t (Lh (B:=w4) ⟨z.os,z.tape,z.output,z.z,z.b⟩ P.z))⟩
   have e6:(((h:D):C)==2)=σ:=by rw[Xk];omega
   by_cases n:(h:D)=17
   .have d3:(((h:D):C)==17)=ψ:=n▸rfl;have a4:=λa=>uw (ο (ae,ag) (h:D) R) h t.size a;have a6:bS w4 (ο (ae,ag) (h:D) R) h:=Θ ⟨ae,ag,R,A,i,c6,c5⟩;have a3:=a4 w4 a6 n (Rl.gx K.o) om;have b4:=F a3;have b6:=F n;clear a4 a6 a3 i p n;go_wp2_with ((with_reducible go_call b4.o as x j ⟨s,z⟩);have c4:=s;obtain⟨y,d1,d9,hd,-,-,-,-,rfl⟩:=c4;have v:j.heap[(a:D)]?=θ #[ϑ 0,I,I,I,I,I,I,I,I,I,I,I,I,I,I,I,I,I,I] 281:=z.ke J;have G:=hd.aH;have c8:=run_storeCells_from (P:=γ) a 281 y.toList 0 #[ϑ 0,I,I,I,I,I,I,I,I,I,I,I,I,I,I,I,I,I,I] j v (by simp[G]) (λS H=>(JA.1 (fu hd)) S (sU H)));have m:=dk (cs:=y) v;refine tR m.at_ ?_ (h:=G);exact⟨.branch t h o.o u.1 K.o b6.o s,m.aE _ _ d (P.t (z.m P.z))⟩
   have d3:(((h:D):C)==17)=σ:=by rw[Xk];omega
   have b7:=F p;clear p n i;go_wp2_with (apply tS cA J;intro j f;clear J);apply tR f.at_;exact⟨.bad o.o (λw e g b q=>by rw[u.1] at b;cases b;rw[K.o] at q;cases q;exact b7.o A) A,f.aE _ _ d P⟩
 have u:=F L;clear L;by_cases N:c=0
 .subst N;have e1:((0:C)==0)=ψ:=dc;cases l with
  |false=>
   go_wp2_with (apply tS cA O;intro j f;clear O);apply tR f.at_;exact⟨.bad o.o (λw e g b=>by rw[u.o] at b;cases b) A,f.aE _ _ d X⟩
  |true=>
   have c7:r.size≠0:=sU af;have d8:=cp (om:0<r.size);clear af c7;go_wp2_with (apply tS cA O;intro j f;clear O);apply tR f.at_;exact⟨.bad o.o (λw e g b=>by rw[u.o] at b;cases b) A,f.aE _ _ d X⟩
 have e9:(c==0)=σ:=by rw[Xk];exact N
 have f0:(c !=0)=ψ:=by simp[N]
 clear af N;go_wp2_with (apply tS cA O;intro j f;clear O);apply tR f.at_;exact⟨.bad o.o (λw e g b=>by rw[u.o] at b;cases b) A,f.aE _ _ d X⟩
def xh {f:Nd}(hd:ct h f)(j:g.heap[w]?=K h p (0,0)):g w=f.bq:=(Xe g w 0 h p (0,0) j).t hd.bq
def gy {f:Xp}{W:Q Le}{Z:E Le}{u:Le}{M:Act}{P:Act->Prop}(q:u.guard=J)(j:Λ)(n:Kg)(s:u.op=.load j n)
 (O:D) (c:M.eval n=V O) (m:Λ) (o:Q S) (l:D×D) (z:TypeDesc) (p:g.heap[O]?=K o m l)
 (b:f.underlying j=z) (hd:(match z with|.struct _|.array _ _=>U|_=>X)=U) (r:(f.info? j).map (·.size)=o.size)
 (a:wpStill f W g P Z (M.put u.dst (t o))):wpStill f W g P (u::Z) M:=by
 unfold wpStill;rw[QU (by simp[Jb,q])];unfold Oper.still Xb;simp only[s,c,Instr.loadAt,Instr.sureAddr,IE,Kb,Kv,XH g O m j o l z p b hd r];exact⟨A,a⟩
def VQ:(N.info? 438).map (·.size)=M 4:=by kernel_rfl
def VR:(N.info? 440).map (·.size)=M 4:=by kernel_rfl
def jO (t:C)(o:D)(I:t=0/\o=257\/t=1/\o=258\/t=2/\o=259\/t=3/\o=260)(d:Q π)(V:Nd)(hd:ct d V)(m:V.bq=t)(J:He->Prop)(y:∀b,J b->∃s,b=υ s)(f:L)(l:∀j,T f f j->Y N o #[d] j λb g=>J b/\T j j g):
 Y N 208 #[d] f λb g=>J b/\T f f g:=by
 have c:=hd.aH;have X:=fun(g:L) (k:D) (n:Λ) (x:g.heap[k]?=K d n (0,0))=>xh hd x;rw[m] at X;have H:=F X;have G:=F l;have p:=F I;obtain⟨v,e,z⟩:=aU f (K d 281);obtain⟨j,h,M⟩:=aU v (K #[IY,IY,IY,IY] 438);have W:=M.at_;have i:=M.aE.ke z.at_;have O:=F (κ z.aH (z.aE.t (M.aE.m z.aE.z)));go_enter func208,Qv;go_upto_region 2 with(first|(rw[e])|(rw[h])|(refine Xw rfl 438 _ _ rfl v #[Hl (Ic 257) #[] #[],Hl (Ic 258) #[] #[],Hl (Ic 259) #[] #[],Hl (Ic 260) #[] #[]] rfl rfl 438 _ W VQ rfl (by simp[φ]) ?_));have u:=dk (cs:=#[Hl (Ic 257) #[] #[],Hl (Ic 258) #[] #[],Hl (Ic 259) #[] #[],Hl (Ic 260) #[] #[]]) W;generalize j.setRow _ _=U at u ⊢;have a:=(u.old _ (by have:=O.1;omega)).t i;have P:=u.aE f f (by have:=O.1;omega) O.2;have R:=H.o U _ _ a;have S:=dA u.at_;have q:=G.o U.drew P.d;rcases p.o with⟨rfl,rfl⟩|⟨rfl,rfl⟩|⟨rfl,rfl⟩|⟨rfl,rfl⟩
 all_goals
  go_upto_region 4 with fail;go_still_tail 5,Qz;refine gy A 281 _ A f A 281 d (0,0) _ a Jn A (by rw[c];exact hT) ?_;refine wpStill_nil ?_;change Ji _ _ _ _ _ U.drew;go_wp2_with (first|((with_reducible refine q.m ?_);rintro b r ⟨Z,w⟩;obtain⟨s,rfl⟩:=y b Z));go_ret;exact⟨Z,P.d.t (w.m P.z)⟩
def lN (t:C)(o:D)(I:t=0/\o=261\/t=1/\o=262\/t=2/\o=263\/t=3/\o=264)(d:Q π)(V:Nd)(hd:ct d V)(m:V.bq=t)(J:He->Prop)(y:∀b,J b->∃s,b=β s)(f:L)(l:∀j,T f f j->Y N o #[d] j λb g=>J b/\T j j g):
 Y N 209 #[d] f λb g=>J b/\T f f g:=by
 have c:=hd.aH;have X:=fun(g:L) (k:D) (n:Λ) (x:g.heap[k]?=K d n (0,0))=>xh hd x;rw[m] at X;have H:=F X;have G:=F l;have p:=F I;obtain⟨v,e,z⟩:=aU f (K d 379);obtain⟨j,h,M⟩:=aU v (K #[IY,IY,IY,IY] 440);have W:=M.at_;have i:=M.aE.ke z.at_;have O:=F (κ z.aH (z.aE.t (M.aE.m z.aE.z)));go_enter func209,Qu;go_upto_region 2 with(first|(rw[e])|(rw[h])|(refine Xw rfl 440 _ _ rfl v #[Hl (Ic 261) #[] #[],Hl (Ic 262) #[] #[],Hl (Ic 263) #[] #[],Hl (Ic 264) #[] #[]] rfl rfl 440 _ W VR rfl (by simp[φ]) ?_));have u:=dk (cs:=#[Hl (Ic 261) #[] #[],Hl (Ic 262) #[] #[],Hl (Ic 263) #[] #[],Hl (Ic 264) #[] #[]]) W;generalize j.setRow _ _=U at u ⊢;have a:=(u.old _ (by have:=O.1;omega)).t i;have P:=u.aE f f (by have:=O.1;omega) O.2;have R:=H.o U _ _ a;have S:=dA u.at_;have q:=G.o U.drew P.d;rcases p.o with⟨rfl,rfl⟩|⟨rfl,rfl⟩|⟨rfl,rfl⟩|⟨rfl,rfl⟩
 all_goals
  go_upto_region 2 with fail;go_still_tail 5,Qz;refine gy A 379 _ A f A 379 d (0,0) _ a Kw A (by rw[c];exact sN) ?_;refine wpStill_nil ?_;change Ji _ _ _ _ _ U.drew;go_wp2_with (first|((with_reducible refine q.m ?_);rintro b r ⟨Z,w⟩;obtain⟨s,rfl⟩:=y b Z));go_ret;exact⟨Z,P.d.t (w.m P.z)⟩
structure hU (d:Nd):Prop where
 bq:d.bq=0\/d.bq=1\/d.bq=2\/d.bq=3
 bA:d.bA.size<=12
 dK:Nib.bF (bs d.bA)=U
 bL:d.bL.size<=80
 ext:d.bq=2->1<=d.bA.size
 branch:d.bq=3->d.bA.size=0
def VS:hU bE:=⟨o A,QK,A,QK,(λa=>by simp[bE] at a),(λa=>by simp[bE] at a)⟩
def ac8 (A:B)(o:He):Prop:=
 (∃u j,ct u j/\hU j/\(j.bq≠0->∀z,(j.r z).size<A.size)/\o=f #[t u,G 0])\/o=f #[zc,G 2]
def nQ (j:B):Prop:=∀f,As.cC f->Y N 155 #[j] f λc d=>ac8 j c/\T f f d
def ux (A:B)(o:He):Prop:=
 (∃u j,ct u j/\hU j/\j.bq≠0/\(∀J,(j.r J).size<A.size)/\A.size<32/\o=f #[t u,z U])\/o=f #[zc,z X]
def fH (t:B)(L:t.size<32->nQ t)(f:ν)(N:As.cC f):τ γ 212 #[t] f λa q=>ux t a/\T f f q:=by
 have x:=Gc f (K #[ϑ 0,I,I,I,I,I,I,I,I,I,I,I,I,I,I,I,I,I,I] 281);have b1:T f f (f.alloc (K #[ϑ 0,I,I,I,I,I,I,I,I,I,I,I,I,I,I,I,I,I,I] 281)):=(Ge _ f).a d _;by_cases w:t.size<32
 .have k:(t.size:C)<32:=H;go_enter func212,ntmps212;go_wp2_with fail;go_call (F ((F L).o w (f.alloc (K #[ϑ 0,I,I,I,I,I,I,I,I,I,I,I,I,I,I,I,I,I,I] 281)) ((F N).o.aE b1))).o as a e ⟨G,n⟩;have V:=n.ke x;have z:T f f e:=b1.t (n.m b1.z);have Z:=aw V;rcases G with⟨v,O,hd,g,h,rfl⟩|rfl
  .have s:=hd.aH;have a1:((0:C)==0)=U:=r;go_upto_region 4 with(apply tS hd (Gc _ _);intro J u);have M:J.heap[(f:D)]?=K #[ϑ 0,I,I,I,I,I,I,I,I,I,I,I,I,I,I,I,I,I,I] 281:=(u.old _ H).t ((QP Z).t V);have c:T f f J:=u.aE _ _ z.z (z.a z.z _);have l:=(Xe J e 0 v 281 (0,0) u.at_).t hd.bq;by_cases P:O.bq=0
   .rw[P] at l;have p:((0:C)==0)=U:=r;go_wp2_with (apply tS cA M;intro W o);apply tR o.at_;exact⟨j A,o.aE _ _ d c⟩
   have p:(O.bq==0)=X:=by rw[Xk];exact P
   have y:=F P;go_wp2_with (first|(refine tL u.at_ ?_ (f:=s))|(apply tS hd M;intro W o));refine tR o.at_ ?_ (h:=s);exact⟨Ξ ⟨v,O,hd,g,y.o,h y.o,(F w).o,A⟩,o.aE _ _ d c⟩
  have Y:((2:C)==0)=X:=r;have b:=cA;have i:zc.size=19:=A;generalize m:zc=a0 at b i ⊢;have R:=F m;go_wp2_with (first|(apply tS b (Gc _ _);intro J u;have M:J.heap[(f:D)]?=K #[ϑ 0,I,I,I,I,I,I,I,I,I,I,I,I,I,I,I,I,I,I] 281:=(u.old _ H).t ((QP Z).t V))|(apply tS cA M;intro W o));apply tR o.at_;exact⟨j A,o.aE _ _ d (u.aE _ _ z.z (z.a z.z _))⟩
 have k:¬(t.size:C)<32:=H;have S:(32:C)<=(t.size:C):=H;go_enter func212,ntmps212;go_wp2_with (apply tS cA x;intro W o);apply tR o.at_;exact⟨j A,o.aE _ _ d b1⟩
def ux.bZ {A:He}(J:ux k A):∃j u K,ct j u/\A=f #[t j,z K]:=by
 rcases J with⟨j,u,hd,_,_,_,_,o⟩|o
 .exact⟨j,u,U,hd,o⟩
 exact⟨zc,bE,X,cA,o⟩
def ZL (o:B)(U:o.size<1099511627776)(M:o.size<32->nQ o)(f:L)(O:As.cC f):Y N 308 #[o] f λe s=>(∃K,e=υ K)/\T f f s:=by
 have J:=F (fH o M);have u:=F (gL o f U);go_enter func308,ntmps308;go_wp2_with fail;go_call u.o as e v ⟨r,a⟩;rcases r with rfl|⟨x,b,rfl⟩
 .have P:=J.o v ((F O).o.aE a);go_wp2_with fail;go_call (F P).o as e p ⟨j,i⟩;obtain⟨W,X,Z,hd,rfl⟩:=j.bZ;have t:T f f p:=a.t (i.m a.z);go_wp2_with (apply tS hd (Gc _ _);intro y V);go_ret;exact⟨⟨_,A⟩,V.aE _ _ t.z (t.a t.z _)⟩
 clear J u;go_wp2_with fail;go_ret;exact⟨⟨_,A⟩,a⟩
theorem ZM (j:QF π)(f:Nd)(hd:ct j f)(af:f.bA.size<=2000000)(aj:(f.r 0).size<1099511627776)(aa:(f.r 0).size<32->nQ (f.r 0))(b:L)(ag:As.cC b):
 τ γ 259 #[Γ j] b λh e=>(∃ak,h=υ ak/\(ak=U->pL f 1=U/\f.bL.size=0))/\T b b e:=by
 have ab:=hd.eq;have M:=λb=>xd f 1 1 A b af;rw[<-ab] at M;have ae:=λb=>uk j f hd b;have Z:=hd.aH;have S:∀e:L,e.heap[(b:D)]?=K j 379->e ((b:D),2)=f.bL:=λe s=>(Xe e (b:D) 2 j 379 (0,0) s).t hd.bL;have Y:∀e:L,e.heap[(b:D)]?=K j 379->e ((b:D),3)=(f.r 0):=λe s=>(Xe e (b:D) 3 j 379 (0,0) s).t (hd.qF 0 dc);have u:=Gc b (K j 379);have t:T b b (b.alloc (K j 379)):=(Ge _ b).a QD _;have ah:=λb=>gL (f.r 0) b aj;have G:=F ae;have O:=F (κ S Y);have p:=F ah;have q:=F (fH (f.r 0) aa);have I:=F ag;clear ae S Y ah aa ag aj ab hd af;cases v:pL f 1 with
 |false=>
  rw[v] at M;have P:=F M;clear M v;go_enter func259,Qr;go_wp2_with (first|(apply pN A _ A (b:D) A 379 j (0,0) Z u)|(with_reducible go_call P.o _ as h g ⟨rfl,b1⟩));go_ret;exact⟨⟨X,A,R⟩,t.t (b1.m t.z)⟩
 |true=>
  rw[v] at M;have P:=F M;clear M v;by_cases w:f.bL.size=0
  .have a7:=cj w;have r:=F w;clear w;by_cases a:sA f.r 16=1
   .have a9:=F a;have a4:(((sA f.r 16:D):C)==1)=U:=a▸rfl;have a5:(((sA f.r 16:D):C) !=1)=X:=a▸rfl;clear a;go_enter func259,Qr;go_wp2_with (first|(apply pN A _ A (b:D) A 379 j (0,0) Z u)|((with_reducible go_call P.o _ as h g ⟨rfl,b1⟩);have J:=b1.ke u;have i:=O.o.1 g J)|(apply CU A _ A (b:D) A 379 j (0,0) Z J)|((with_reducible go_call G.o _ as h H ⟨rfl,o⟩);have k:=o.ke J;have a6:=O.o.2 H k));go_call p.o _ as h w4 ⟨a0,z⟩;have V:T b b g:=t.t (b1.m t.z);have y:T b b H:=V.t (o.m V.z);have c:T b b w4:=y.t (z.m y.z);have b3:=O.2 w4 (z.ke k);have m:=F c;have n:=F (q.o w4 (I.o.aE c));clear V y c b1 o z t J i k a6 p q I G P O u;rcases a0 with rfl|⟨b4,b2,rfl⟩
    .go_wp2_with fail;go_call n.o as h w5 ⟨Q,N⟩;obtain⟨a1,a2,a8,d,rfl⟩:=Q.bZ;have W:T b b w5:=m.o.t (N.m m.o.z);clear Q N n;have ai:∀l:L,l.heap[(w5:D)]?=K a1 281->l w5=a2.bq:=λl s=>(Xe l (w5:D) 0 a1 281 (0,0) s).t d.bq;have a3:=F ai;clear ai;cases a8 with
     |false=>
      go_wp2_with (apply tS d (Gc _ _);intro l x);go_ret;exact⟨⟨X,A,R⟩,x.aE _ _ W.z (W.a W.z _)⟩
     |true=>
      go_wp2_with (apply tS d (Gc _ _);intro l x;have b0:=a3.o l x.at_);go_ret;exact⟨⟨_,A,λ_=>⟨tV,r.o⟩⟩,x.aE _ _ W.z (W.a W.z _)⟩
    go_wp2_with fail;go_ret;exact⟨⟨U,A,λ_=>⟨tV,r.o⟩⟩,m.o⟩
   have a4:(((sA f.r 16:D):C)==1)=X:=by rw[Xk];omega
   have a5:(((sA f.r 16:D):C) !=1)=U:=by rw[bne_iff_ne];omega
   clear a;go_enter func259,Qr;go_wp2_with (first|(apply pN A _ A (b:D) A 379 j (0,0) Z u)|((with_reducible go_call P.o _ as h g ⟨rfl,b1⟩);have J:=b1.ke u;have i:=O.o.1 g J)|(apply CU A _ A (b:D) A 379 j (0,0) Z J)|(with_reducible go_call G.o _ as h H ⟨rfl,o⟩));go_ret;have V:T b b g:=t.t (b1.m t.z);exact⟨⟨X,A,R⟩,V.t (o.m V.z)⟩
  have a7:=cp (om:0<f.bL.size);clear w;go_enter func259,Qr;go_wp2_with (first|(apply pN A _ A (b:D) A 379 j (0,0) Z u)|((with_reducible go_call P.o _ as h g ⟨rfl,b1⟩);have i:=O.o.1 g (b1.ke u)));go_ret;exact⟨⟨X,A,R⟩,t.t (b1.m t.z)⟩
section
attribute [local go_sem] Jo
def nR {j:Func}{t:Tmp}(u:j.results=#[.cell t 4]){f:JM}(o:h.getD t undef=V (M f))(z:g f=m):
 (results j h).run N g=Je m g:=by
 simp only[Kd] at o;simp only[results,u];simp[IE,Ω,o,asAddr,loadVar,isAgg,XF,Nw,z]
def afa (j:Nd)(o:He):Prop:=∃f,o=z f/\(f=U->j.bA.size=0/\j.bL.size<=80)
theorem Me (f:Q π)(j:Nd)(hd:ct f j)(b0:∀g,(j.r g).size<1099511627776)(a7:∀g,(j.r g).size<32->nQ (j.r g))(b:ν)(a8:As.cC b):
 τ γ 260 #[Γ f] b λr a=>afa j r/\T b b a:=by
 apply(XC (n:=9)).1;have L:=λb=>pP f hd.aH b;have c8:=hd.aH;have ae:∀a:ν,a.heap[(b:D)]?=K f 379->a ((b:D),1)=j.bA:=λa Y=>(Xe a (b:D) 1 f 379 (0,0) Y).t hd.bA;have s:∀a:ν,a.heap[(b:D)]?=K f 379->a ((b:D),2)=j.bL:=λa Y=>(Xe a (b:D) 2 f 379 (0,0) Y).t hd.bL;have b2:=Gc b (K f 379);have N:((b.alloc (K f 379)).alloc (K #[υ X] 4)).heap[(b:D)]?=K f 379:=(QP R).t b2;have d8:=ae _ N;have d9:=s _ N;have b1:T b b ((b.alloc (K f 379)).alloc (K #[υ X] 4)):=((Ge _ b).a QD _).a R _;have a4:((b.alloc (K f 379)).alloc (K #[υ X] 4)) ⟨(b:D)+1,0,J⟩=υ X:=by
  have:=(Nc (b.alloc (K f 379)) 4 (υ X)).cell;rwa [GG] at this
 have q:=fun(g:D)=>ZL (j.r g) (b0 g) (a7 g);have b5:=Ga q;have b4:=Ga a8;have b3:=Ga hd;refine XD func260 A tV ?_ A;simp only[ntmps260,GZ,Gx,Hy,Nat.reduceAdd,Nat.reduceSub,Im,Il,IF,Iq,Ho,Hz];by_cases a0:j.bA.size=0
 .have d3:=cj a0;by_cases c4:j.bL.size<=80
  .have c5:¬(80:C)<(j.bL.size:C):=H;have e5:(0:C)<=(j.bL.size:C):=H;gi_wp2_with (first|(apply yo A _ A (b:D) A 379 f (0,0) c8 ((QP QB).t N))|(refine⟨tV,?_⟩;apply(callsIn_wide.2 (L _)).m;rintro r e8 ⟨rfl,rfl⟩));let⟨w,e1,a9⟩:∃w:D,w<=1/\min ((j.bL.size:D):C) 1=(w:C):=⟨min j.bL.size 1,Nat.min_le_right _ _,H⟩;rw[a9];have e2:=L;let⟨k,l⟩:∃k,k=((((b.alloc (K f 379)).alloc (K #[υ X] 4)).alloc (K #[G (w:C)] 3)).alloc (K f 379)):=⟨_,A⟩;have s4:(k:D)=(b:D)+4:=by rw[l];simp
   have ae:LP k ((b:D)+1) 4 (υ X):=by rw[l];have:=((Nc (b.alloc (K f 379)) 4 (υ X)).alloc (K #[G (w:C)] 3)).alloc (K f 379);rwa [GG] at this
   have b7:LP k ((b:D)+2) 3 (G (w:C)):=by rw[l];have:=((Nc ((b.alloc (K f 379)).alloc (K #[υ X] 4)) 3 (G (w:C))).alloc (K f 379));rwa [GG,GG] at this
   have s:k.heap[(b:D)+1+1+1]?=K (nc j) 379:=by rw[l,<-b3.o.eq];have:=Gc (((b.alloc (K f 379)).alloc (K #[υ X] 4)).alloc (K #[G (w:C)] 3)) (K f 379);rwa [GG,GG,GG] at this
   have b6:T b b k:=by rw[l];go_grown
   rw[<-l];clear l b1 N;apply gl A dc (gf:=265) (lb:=#[ξ (M ⟨(b:D)+1+1+1,0,J⟩)]) A trivial yp;intro e9 x d4 ah d2 p b9 af c7;rw[s4] at ah d2 af p;subst ah;apply(pM ((b:D)+4+1) ((b:D)+1+1+1) 8 j
    (λg i=>i.heap[(b:D)+4+1]?=IK (x NG J)/\i.heap[(b:D)+4]?=Kc (M [])/\LP i ((b:D)+1) 4 (υ X)/\(∃t:D,t<=g+1/\LP i ((b:D)+2) 3 (G (t:C)))/\T b b i)
    (λi=>i.heap[(b:D)+4+1]?=IK (x .done (M .ret))/\i.heap[(b:D)+4]?=Kc (M [])/\LP i ((b:D)+1) 4 (υ X)/\T b b i) d4 dc ((p.b _ H).t s) ?hY ?hN ?h0).m
   case h0=>exact⟨b9,af,(p.b _ H).t ae,⟨w,H,(p.b _ H).t b7⟩,b6.t (p.m H)⟩
   case hN=>
    rintro g i c6 c2 ⟨o,U,V,⟨t,q,c⟩,W⟩;exact⟨o,U,V,⟨t,H,c⟩,W⟩
   case hY=>
    rintro g i c6 c2 ⟨o,U,V,⟨t,q,c⟩,W⟩;refine c7.oj _ _ _ _ A o λS ag=>?_;let⟨d,e,n,y⟩:=cL (aw o) _ ag;have O:=(e _ H).t U;have u:LP S ((b:D)+1) 4 _:=(e _ H).t V;have h:LP S ((b:D)+2) 3 _:=(e _ H).t c;have Z:=y _ _ H W;have ai:=b5.o g S (b4.o.aE Z);clear ag e y o U V c W n;have e6:(0:C)<=(t:C):=H;have e7:(t:C)<=20:=H;gi_wp2_with (refine⟨tV,?_⟩;apply(JK _ (callsIn_wide.2 ai)).m;clear ai;rintro r m ⟨⟨d6,rfl⟩,P⟩;have c0:=(bW u P).cell;have c3:=(bW u P).frozen;have c1:=(bW h P).cell;have e0:=(bW h P).frozen);all_goals(
     have aa:=(P.b _ (aw d)).t d
     have a1:=(P.b _ (aw O)).t O
     have a2:=bW u P
     have d1:=bW h P
     have a3:=Z.t (P.m Z.z)
     have e4:=aw aa
     clear P d O u h Z)
    .let⟨t1,t2,a5⟩:=nD (v':=υ X) a2;let⟨I,v,ab,F⟩:=cL (W:=m.setCell ⟨(b:D)+1,0,J⟩ (υ X)) (l:=(b:D)+4+1) H (IK (x .done (M .ret))) A;exact⟨(t2 _ H).t aa,Θ ⟨A,I,(v _ H).t ((t2 _ H).t a1),(v _ H).t t1,F _ _ H (a3.s R _)⟩⟩
    let⟨t1,t2,a5⟩:=nD (v':=G ((t:C)+1)) d1;let⟨I,v,ab,F⟩:=cL (W:=m.setCell ⟨(b:D)+2,0,J⟩ (G ((t:C)+1))) (l:=(b:D)+4+1) H (IK (x NG J)) A;exact⟨(t2 _ H).t aa,Ξ ⟨A,I,(v _ H).t ((t2 _ H).t a1),(v _ H).t ((t2 _ H).t a2),⟨t+1,H,(v _ H).t t1⟩,F _ _ H (a3.s R _)⟩⟩
   rintro r a6 ⟨aj,(⟨o,U,V,⟨t,q,c⟩,W⟩|⟨o,U,V,W⟩)⟩
   .refine⟨aj,J,o,?_⟩;let⟨d,e,n,y⟩:=cL (aw o) (IK (x .exhausted J)) A;have O:=(e _ H).t U;have u:LP _ ((b:D)+1) 4 _:=(e _ H).t V;have h:LP _ ((b:D)+2) 3 _:=(e _ H).t c;have Z:=y _ _ H W;generalize a6.putObj ((b:D)+4+1) (IK (x .exhausted J))=m at d O u h Z ⊢;clear e n y o U V c W;have c0:=u.cell;have c3:=u.frozen;have c1:=h.cell;simp only[mq];gi_wp2;let⟨t1,t2,a5⟩:=nD (v':=υ (LH ((2:C)<=(t:C)))) u;let⟨I,v,ab,F⟩:=cL (W:=m.setCell ⟨(b:D)+1,0,J⟩ (υ (LH ((2:C)<=(t:C))))) (l:=(b:D)+4) (oA (aw O)) (Kc J) A;refine⟨R,Ξ ⟨_,_,A,Xq ((t2 _ H).t O),?_⟩⟩;exact⟨_,nR A A (LA ((v _ H).t t1)),⟨_,A,λ_=>⟨a0,c4⟩⟩,F _ _ H (Z.s R _)⟩
   refine⟨aj,M .ret,o,?_⟩;let⟨d,e,n,y⟩:=cL (aw o) (IK (x .exhausted (M .ret))) A;have O:=(e _ H).t U;have u:LP _ ((b:D)+1) 4 _:=(e _ H).t V;have Z:=y _ _ H W;generalize a6.putObj ((b:D)+4+1) (IK (x .exhausted (M .ret)))=m at d O u Z ⊢;clear e n y o U V W;simp only[mq];gi_wp2;let⟨I,v,ab,F⟩:=cL (W:=m) (l:=(b:D)+4) (oA (aw O)) (Kc J) A;refine⟨R,Ξ ⟨_,_,A,Xq O,?_⟩⟩;exact⟨_,nR A A (LA ((v _ H).t u)),⟨_,A,R⟩,F _ _ H Z⟩
  have c5:(80:C)<(j.bL.size:C):=H;clear L;gi_wp2;refine⟨_,nR A A a4,⟨_,A,R⟩,b1⟩
 have d3:=cp (H:0<j.bA.size);clear L;gi_wp2;refine⟨_,nR A A a4,⟨_,A,R⟩,b1⟩
end
def pU (P:B)(O:He->Prop)(RV w:Q π->He->Prop)(u:ν)
 (a9:∀e,O e->∃o V a,ct o V/\e=χ #[Γ o,υ a])
 (aa:∀o e,RV o e->∃h,e=υ h) (ab:∀o e,w o e->∃M,e=β M)
 (ae:∀J,T u u J->Y N 207 #[P] J λe k=>O e/\T J J k)
 (ag:∀o,O (ι (χ #[Γ o,υ U]))->∀J,T u u J->Y N 208 #[Γ o] J λe k=>RV o e/\T J J k)
 (af:∀o,O (ι (χ #[Γ o,υ U]))->RV o (ι (υ U))->∀J,T u u J->Y N 209 #[Γ o] J λe k=>w o e/\T J J k):
 Y N 155 #[P] u λe k=>((∃o V,ct o V/\O (ι (χ #[Γ o,υ U]))/\RV o (ι (υ U))/\w o (ι P)/\e=χ #[Γ o,G 0])\/
  (e=χ #[zc,G 2]/\((∃o,O (ι (χ #[Γ o,υ σ])))\/(∃o,RV o (ι (υ σ)))\/∃o M,M≠P/\w o (ι (β M)))))/\T u u k:=by
 have b1:T u u (u.alloc (K #[G 0,I,I,I,I,I,I,I,I,I,I,I,I,I,I,I,I,I,I] 281)):=(Ge _ u).a d _;have n:=Ga (κ a9 (κ aa ab));go_enter func155,ntmps155;go_wp2_with fail;go_call (Ga (ae (u.alloc (K #[G 0,I,I,I,I,I,I,I,I,I,I,I,I,I,I,I,I,I,I] 281)) b1)).o as e j ⟨c,D⟩;obtain⟨o,V,a,hd,rfl⟩:=n.1 e c;have q:=D.ke (Gc u (K #[G 0,I,I,I,I,I,I,I,I,I,I,I,I,I,I,I,I,I,I] 281));have p:T u u j:=b1.t (D.m b1.z);have a0:=aw q;have x:=hd.aH;go_upto_region 2 with(apply tS hd (Gc _ _);intro y g);have r:y.heap[(u:Nat)]?=K #[G 0,I,I,I,I,I,I,I,I,I,I,I,I,I,I,I,I,I,I] 281:=(g.old _ om).t ((QP a0).t q);have Z:T u u y:=g.aE _ _ p.z (p.a p.z _);have H:=g.at_;have a3:=aw H;cases a with
 |false=>
  go_wp2_with (apply tS cA r;intro a2 W);apply tR W.at_;exact⟨Θ ⟨A,Ξ ⟨_,(Ga c).o⟩⟩,W.aE _ _ d Z⟩
 |true=>
  have L:=Ga ((Ga af).o o c);go_wp2_with (apply So A _ A j A 281 o (0,0) x H);go_call (Ga ((Ga ag).o o c y Z)).o as e w4 ⟨E,l⟩;obtain⟨h,rfl⟩:=n.2.1 o e E;have s:=l.ke r;have R:=l.ke H;have v:T u u w4:=Z.t (l.m Z.z);have i:=Ga E;cases h with
  |false=>
   clear L;go_wp2_with (apply tS cA s;intro a2 W);apply tR W.at_;exact⟨Θ ⟨A,Θ (Ξ ⟨_,i.o⟩)⟩,W.aE _ _ d v⟩
  |true=>
   go_wp2_with (apply So A _ A j A 281 o (0,0) x R);go_call (Ga (L.o i.o w4 v)).o as e a6 ⟨F,m⟩;obtain⟨M,rfl⟩:=n.2.2 o e F;have a8:=m.ke s;have a5:T u u a6:=v.t (m.m v.z);have S:=Ga F;by_cases b:M=P
   .subst b;go_wp2_with (first|(refine tL (m.ke R) ?_ (f:=x))|(apply tS hd a8;intro a1 X));refine tR X.at_ ?_ (h:=x);exact⟨Ξ ⟨o,V,hd,(Ga c).o,i.o,S.o,A⟩,X.aE _ _ d a5⟩
   have a4:(M.toList==P.toList)=σ:=by rw[Xk];exact λa7=>b (by rw[Lib.toList_data,Lib.toList_data] at a7;exact ByteArray.ext (PV.mp a7))
   go_wp2_with (apply tS cA a8;intro a1 X);apply tR X.at_;exact⟨Θ ⟨A,Θ (Θ ⟨_,_,(Ga b).o,S.o⟩)⟩,X.aE _ _ d a5⟩
def lO (j:Q S)(b:L):Y N 261 #[j] b λa i=>a=O ⟨#[128]⟩/\T b b i:=by
 have f:=λb=>cP ⟨#[]⟩ b r;rw[mN] at f;have b1:T b b (b.alloc (K j 379)):=(Ge _ b).a QD _;have o:=F f;go_enter func261,ntmps261;go_wp2_with fail;go_call o.o _ as a e ⟨rfl,d⟩;go_wp2_with fail;go_ret;exact⟨A,b1.t (d.m b1.z)⟩
def jP (o:Nd)(j:He):Prop:=∃f,j=z f/\(f=U->hU o)
def uy {f:Nd}(j:pL f w=U):w<=f.bA.size/\f.bA.size<=12/\Nib.bF (bs f.bA)=U:=by
 simp only[pL,Jc,XE] at j;exact j
def ZN (f:k.size=0):bs k=[]:=by
 apply GH;rwa[aX]
def la (u:Q S)(f:Nd)(hd:ct u f)(t:(u=zc/\f=bE)\/f.bq=1\/f.bq=2\/f.bq=3)(V:f.bA.size<=2000000)(W:∀a,(f.r a).size<=1000000)(O:f.bq≠0->∀a,(f.r a).size<32->nQ (f.r a))(J:L)(P:As.cC J):
 Y N 208 #[u] J λe k=>jP f e/\T J J k:=by
 have M:∀e,jP f e->∃X,e=z X:=λe ⟨n,b,_⟩=>⟨n,b⟩;rcases t with⟨rfl,rfl⟩|t|t|t
 .refine jO 0 257 R zc bE hd A (jP bE) M J λh b1=>(um h).m ?_;rintro e k ⟨rfl,K⟩;exact⟨⟨U,A,λ_=>VS⟩,K⟩
 .refine jO 1 258 R u f hd t (jP f) M J λh b1=>(Av u f hd h V).m ?_;rintro e k ⟨rfl,K⟩;refine⟨⟨_,A,λb=>?_⟩,K⟩;simp only[EE,Jc,XE] at b;let⟨i,p,x,d⟩:=b;let⟨w,q,r⟩:=uy i;exact⟨j (o t),q,r,x,λb=>H,λb=>H⟩
 .refine jO 2 259 R u f hd t (jP f) M J λh b1=>(ZM u f hd V (oA (W 0)) (O H 0) h (P.aE b1)).m ?_;rintro e k ⟨⟨n,rfl,b⟩,K⟩;refine⟨⟨_,A,λc=>?_⟩,K⟩;let⟨i,p⟩:=b c;let⟨w,q,r⟩:=uy i;exact⟨j (j (o t)),q,r,H,λ_=>w,λb=>H⟩
 refine jO 3 260 R u f hd t (jP f) M J λh b1=>(Me u f hd (λa=>oA (W a)) (O H) h (P.aE b1)).m ?_;rintro e k ⟨⟨n,rfl,b⟩,K⟩;refine⟨⟨_,A,λc=>?_⟩,K⟩;let⟨i,p⟩:=b c;exact⟨j (j (j t)),H,ZN i▸rfl,p,λb=>H,λ_=>i⟩
def oV (t:Nd)(j:D)(o:He):Prop:=∃f:B,o=O f/\f.size<=17*j+3000
def CY (f:Nd)(u:f.bA.size<=12)(z:f.bL.size<=80):(EH f).size<=3000:=by
 have o:=CW (bs f.bA) U;have t:=aX f.bA;have t1:(Rl.bK (Nib.ih (bs f.bA) U):D)<=(Nib.ih (bs f.bA) U:D)+6:=by
  unfold Rl.bK;split
  .omega
  have:=dJ 128 (Nib.ih (bs f.bA) U:D) H;rw[Gk];omega
 have t2:=ez f.bL H;rw[dP] at t2;rw[EH,dP,Rl.eK,Gk,Gk];have j:=dJ 192 (Rl.bK (Nib.ih (bs f.bA) U)++Rl.bK (bs f.bL):D) (by rw[Gk];omega);rw[Gk] at j;omega
def yt (j:Q S)(f:Nd)(hd:ct j f)(J:hU f)(o:D)(X:o<=1000000)(K:∀n,(f.r n).size<=o)(u:L):
 Y N 209 #[j] u λd i=>oV f o d/\T u u i:=by
 have z:∀d,oV f o d->∃W,d=O W:=λd ⟨a,e,_⟩=>⟨a,e⟩;have M:=J.bA;have U:=J.bL;rcases J.bq with e|e|e|e
 .refine lN 0 261 R j f hd e (oV f o) z u λg b1=>(lO j g).m ?_;rintro d i ⟨rfl,t⟩;exact⟨⟨_,A,(H:1<=_)⟩,t⟩
 .refine lN 1 262 R j f hd e (oV f o) z u λg b1=>(pQ j f hd g H H).m ?_;rintro d i ⟨rfl,t⟩;exact⟨⟨_,A,oA (CY f M U)⟩,t⟩
 .refine lN 2 263 R j f hd e (oV f o) z u λg b1=>(Ax j f hd g H (oA (K 0))).m ?_;rintro d i ⟨⟨V,rfl,P⟩,t⟩;exact⟨⟨_,A,oA (K 0)⟩,t⟩
 refine lN 3 264 R j f hd e (oV f o) z u λg b1=>(ur j f hd (o+100) g H H H (λn _=>oA (K n))).m ?_;rintro d i ⟨⟨V,rfl,P⟩,t⟩;exact⟨⟨_,A,H⟩,t⟩
def Sr (J:B)(K:He):Prop:=∃o j A,ct o j/\(A=U->(o=zc/\j=bE)\/j.bq=1\/j.bq=2\/j.bq=3)/\j.bA.size<=2000000/\(∀u,(j.r u).size<=J.size)/\(A=U->j=bE\/∀u,(j.r u).size<J.size)/\
 K=f #[t o,z A]
def lP {o:B}(f:gv k=o):o.size<k.size:=by
 unfold gv at f;cases j:Rl.fX (bs k) with
 |none=>rw[j] at f;cases f
 |some g=>
  let⟨e,i,a⟩:=g;rw[j] at f;cases e with
  |false=>cases f
  |true=>
   simp only at f;split at f
   .rename_i u;have:=Rl.xg j;have t:=Rl.hy j;rw[aX] at t;cases f;rw[ax];omega
   cases f
def sP.ok {f:He}(c:sP k f)(u:k.size<=1000000):Sr k f:=by
 cases c with
 |none c a=>exact⟨zc,bE,U,cA,λ_=>o ⟨A,A⟩,QK,λ_=>QK,λ_=>o A,a⟩
 |bad c d a=>exact⟨zc,bE,X,cA,nF,QK,λ_=>QK,nF,a⟩
 |pair x n h c i d e=>
  have t:=lP i;have z:=Rl.gx d n R;have J:=Rl.gx d h R;cases e with
  |bad c a=>exact⟨zc,bE,X,cA,nF,QK,λ_=>QK,nF,a⟩
  |ext w m g c d s hd a=>
   refine⟨g,_,U,hd,λ_=>j (j (o A)),(H:m.size<=_),λb=>?_,λ_=>j λb=>?_,a⟩
   .show(if b=0 then h else⟨#[]⟩:B).size<=_;split
    .omega
    exact QK
   show(if b=0 then h else⟨#[]⟩:B).size<_;split
   .omega
   show 0<_;omega
  |leaf w m D l g c d s v F C hd a=>
   exact⟨g,_,l,hd,λ_=>j (o A),(H:m.size<=_),λb=>QK,λ_=>j λb=>(H:0<_),a⟩
 |branch x y c i d E e=>
  let⟨g,p,l,hd,q,r,v,e,a⟩:=e;have t:=lP i;exact⟨g,p,l,hd,λ_=>j (j (j q)),r▸QK,λb=>oA (e b),λ_=>j λb=>oA (e b),a⟩
def ct.inj {j f:Nd}(o:ct h j)(t:ct h f):j.bq=f.bq/\j.bA=f.bA/\j.bL=f.bL/\∀a,a<16->j.r a=f.r a:=by
 have z:=o.bq.s.t t.bq;have u:=o.bA.s.t t.bA;have e3:=o.bL.s.t t.bL;simp only[Gd,Value.int.injEq,IT] at z u e3;refine⟨z.2,u,e3,λa i=>?_⟩;have A:=(o.qF a i).s.t (t.qF a i);simpa using A
def Sr.Ss (J:Sr k (ι (f #[h,z U]))):∃j,ct h j/\((h=zc/\j=bE)\/j.bq=1\/j.bq=2\/j.bq=3)/\j.bA.size<=2000000/\(∀o,(j.r o).size<=k.size)/\(j=bE\/∀o,(j.r o).size<k.size):=by
 obtain⟨P,j,V,hd,K,u,M,O,t⟩:=J;simp only[Ii,Ku,IU,GN,Kt,Nb,QW] at t;obtain⟨rfl,rfl⟩:=t;exact⟨j,hd,K A,u,M,O A⟩
def ac9 (o:B)(u:Q S)(t:He):Prop:=∃f,ct u f/\((∀j,(f.r j).size<=o.size)/\(f.bq≠0->∀j,(f.r j).size<o.size))/\jP f t
def ada (o:B)(u:Q S)(t:He):Prop:=∃f,ct u f/\((∀j,(f.r j).size<=o.size)/\(f.bq≠0->∀j,(f.r j).size<o.size))/\hU f/\∃z,t=O z
def fN:∀(p:D) (c:B),c.size<p->c.size<=1000000->nQ c:=by
 intro p;induction p with
 |zero=>intro c a;omega
 |succ p C=>
 intro c v u z f;refine(pU c (Sr c) (ac9 c) (ada c) z (λk ⟨g,b,w,hd,_,_,_,_,d⟩=>⟨g,b,w,hd,d⟩)
  (λ_ _ ⟨b,_,_,s,a,_⟩=>⟨s,a⟩) (λ_ _ ⟨b,_,_,_,q,a⟩=>⟨q,a⟩) (λi b1=>(pT c i H (f.aE b1)).m λk r ⟨a,h⟩=>⟨a.ok u,h⟩) ?_ ?_).m ?_
 .intro g t i b1;let⟨b,hd,x,E,e,m⟩:=t.Ss;refine(la g b hd x E (λn=>oA (e n)) (λy n F=>?_) i (f.aE b1)).m λk r ⟨a,h⟩=>⟨⟨b,hd,⟨e,λv=>m.resolve_left λa=>v (a▸rfl)⟩,a⟩,h⟩;rcases m with rfl|m
  .exact absurd A y
  exact C _ (oA (m n)) (oA (e n))
 .intro g t J i b1;let⟨b,hd,e,s,d,l⟩:=J;simp only[Ii,Nb] at d;exact(yt g b hd (l d.s) c.size u e.1 i).m λk r ⟨⟨q,a,_⟩,h⟩=>⟨⟨b,hd,e,l d.s,q,a⟩,h⟩
 rintro k r ⟨a,h⟩;refine⟨?_,h⟩;rcases a with⟨g,d0,K,M,O,⟨b,hd,e,l,_⟩,d⟩|⟨d,_⟩
 .exact o ⟨g,b,hd,l,e.2,d⟩
 exact j d
def iu (o:B)(j:L)(t:o.size<32):Y N 211 #[o] j λc h=>c=χ #[I,z X]/\T j j h:=by
 go_enter func211,ntmps211;go_wp2_with ((with_reducible go_call (F (kZ o j H)).o as c i ⟨g,f⟩);rcases g with⟨_,rfl⟩|⟨u,_,J,rfl⟩);all_goals go_ret2
 all_goals first
  |exact⟨A,f⟩
  |exact absurd (Sn aS:(u.size:C)=32) (oA (F t).o)
def uz (J:Q S)(e:Nd)(hd:ct J e)(RV p:He->Prop)(t:L)(w:∀b,RV b->∃q,b=υ q)(v:∀b,p b->∃M,b=O M)
 (c:∀u,T t t u->Y N 208 #[J] u λb k=>RV b/\T u u k)
 (y:RV (ι (υ U))->∀u,T t t u->Y N 209 #[J] u λb k=>p b/\T u u k):
 Y N 220 #[J] t λb k=>((RV (ι (υ U))/\∃M,p (ι (O M))/\b=χ #[O M,G 0])\/(RV (ι (υ X))/\b=χ #[I,G 1]))/\T t t k:=by
 have a:=hd.aH;have r:=Gc t (K J 281);have V:T t t (t.alloc (K J 281)):=(Ge _ t).a d _;have s:=F (W w v);go_enter func220,ntmps220;go_wp2_with (refine tL r ?_ (f:=a));go_call (F (c _ V)).o as b x ⟨i,h⟩;obtain⟨q,rfl⟩:=s.1 b i;have P:T t t x:=V.t (h.m V.z);have Z:=F i;cases q with
 |false=>
  go_wp2_with fail;go_ret2;exact⟨Θ ⟨Z.o,A⟩,P⟩
 |true=>
  go_wp2_with (refine tL (h.ke r) ?_ (f:=a));go_call (F ((F y).o Z.o x P)).o as b C ⟨j,z⟩;obtain⟨M,rfl⟩:=s.2 b j;go_wp2_with fail;go_ret2;exact⟨Ξ ⟨Z.o,M,(F j).o,A⟩,P.t (z.m P.z)⟩
section
attribute [local go_sem] Jo
section
variable {F:Fence}{n:Nat}{ops:Array Le}{rest:List Le}{o:Le}{a:Act}{w:ν}{Q:Exit->Act->ν->Prop}
def VT (q:o.guard=J)(P U:Kg)(u:o.op=.store 281 P U)(j:D)(s:a.eval P=V j)(f:QF S)(W:Nd)(hd:ct f W)(b:a.eval U=t f)(A:Λ)(z:QF S)(r:z.size=19)
 (M:w.heap[j]?=K z A) (X:∀O,bd w O j (K f A)->Xn F n N ops Q rest (a.put o.dst undef) O):Xn F n N ops Q (o::rest) a w:=by
 refine wpListIn_plain q λv m=>?_;unfold Oper.wpIn;refine⟨by simp[Oper.about,u],?_⟩;rw[Oper.semAt_plain F _ _ (by rw[u];intro c Z;cases Z)];unfold Xb;simp only[u,s,b,Instr.storeAt,Instr.sureAddr,IE,Kb,Kv,run_storeVar_row w j A 281 z f M (by rw[hd.aH];exact hT) (by rw[r,hd.aH]) (fu hd)];exact m _ _ (X _ (dk M))
end
def xi (u:Prop)(t:He)(w:L):Prop:=∃f j,t=ι f/\km w f j/\j.length<=16/\(∀z∈j,z.size=32)/\(u->f=P J 0 0)
def afb (f j:D):(f:JM).add j=⟨f,j,J⟩:=by unfold Addr.add;split<;>simp_all
def CZ (f:Λ){g:D}{t:Λ}{cs:QF S}{fr:D×D}{z:TypeDesc}(P:N.underlying f=z)(hd:(match z with|.struct _|.array _ _=>U|_=>X)=U)(M:(N.info? f).map (·.size)=cs.size):
 ∃j J,j=f/\(∀b,(isAgg j).run N b=Je U b)/\(∀b,(sizeOf j).run N b=Je J b)/\(∀b:L,b.heap[g]?=K cs t fr->(loadCellsFrom g 0 J #[]).run N b=Je cs b):=by
 refine⟨f,cs.size,A,λb=>?_,λb=>?_,λb c=>?_⟩
 .unfold isAgg;rw[IE,Xo P b];cases z<;>simp_all[Ω,Kb]
 .cases u:N.info? f with
  |none=>simp[u] at M
  |some l=>
   have O:l.size=cs.size:=by simpa[u] using M
   simp[sizeOf,typeInfo,u,O,IE,Ω,Kb]
 have:=run_loadCells_list (P:=N) b g cs.toList (λm r q=>by
  rw[afb,Xe b g m cs t fr c]
  simpa using q)
 simpa[loadCells] using this
def yu {w:L}{j z J n:D}{u:S}{K:E S}(A:w.ownsRow j z J u n K){t:D}(f:u.ownBlock=t):j<=t:=by
 rcases A.2 with⟨rfl,_⟩|⟨P,M,O,rfl,U,_⟩
 .cases f
 simp only[Ψ,Gd] at f;omega
def afc (z:Prop)(t A:D)(u:L):Prop:=∃j,∃f:E B,LP u t 33 j/\u.ownsRow (t+4) 9 1 j f.length (f.map O)/\f.length<=A/\(∀K∈f,K.size=32)/\(z->j=P J 0 0)
def mO (e:QF π)(q:Nd)(hd:ct e q)(d9:Prop)(f7:QF π->Prop)(w:ν)(c:As.cC w)
 (h9:∀f,As.cC f->τ γ 208 #[Γ e] f λd x=>(∃e7,d=υ e7)/\T f f x)
 (g6:∀p,p<16->0<(q.r p).size->∀f,As.cC f->τ γ 211 #[β (q.r p)] f λd x=>(d=χ #[eS,υ σ]\/∃b2,b2.size=32/\¬d9/\d=χ #[β b2,υ ψ])/\T f f x)
 (I:∀p,p<16->0<(q.r p).size->∀f,As.cC f->τ γ 212 #[β (q.r p)] f λd x=>(∃S j2 l2,ct S j2/\d=χ #[Γ S,υ l2]/\f7 S)/\T f f x)
 (g7:∀S,f7 S->∀f,As.cC f->τ γ 156 #[Γ S] f λd x=>d=P J 0 0/\T f f x):
 τ γ 156 #[Γ e] w λd x=>xi d9 d x/\T w w x:=by
 refine(XC (n:=9)).1 ?_;have h6:=λw=>pP e hd.aH w;have c5:=hd.aH;have d4:=Gc w (K e 281);have b5:T w w (w.alloc (K e 281)):=(Ge _ w).a QD _;have f5:=Ga (h9 (w.alloc (K e 281)) (c.aE b5));have b3:=Ga c;have e9:=Ga g6;have f1:=Ga I;have f2:=Ga g7;have e8:=Ga hd;clear c hd h9 g6 I g7;refine XD func156 A trivial ?_ A;simp only[ntmps156,GZ,Gx,Hy,Nat.reduceAdd,Nat.reduceSub,Im,Il,IF,Iq,Ho,Hz];have h7:=Ga h6;clear h6;gi_wp2_with (first|(refine ED A _ A w.heap.size A 281 e (0,0) c5 d4 ?_)|(refine⟨trivial,?_⟩;refine(callsIn_wide.2 f5.o).m ?_;clear f5;rintro d b ⟨⟨e7,rfl⟩,c6⟩;have d6:=Below.ke c6 d4;have i1:∀o,(b.alloc o).heap[w.heap.size]?=K e 281:=λo=>(QP (aw d6)).t d6)|(refine ED A _ A w.heap.size A 281 e (0,0) c5 (i1 _) ?_)|(refine⟨trivial,?_⟩;refine(callsIn_wide.2 (h7.o _)).m ?_;rintro d f ⟨rfl,rfl⟩));all_goals have r:T w w b:=b5.t (c6.m b5.z)
 all_goals clear c6 b5 d4
 .refine⟨_,Xy A _ _ _,⟨_,[],A,⟨Ξ ⟨J,0,A,A⟩,.none _ _ _ _⟩,by simp,by simp,λ_=>rfl⟩,r⟩
 obtain⟨k9,I,k6,k7,k8⟩:=Xv tQ;obtain⟨ab,s⟩:∃ab,ab=((b.alloc (K #[P J 0 0] 33)).alloc (K e 379)):=⟨_,A⟩;have s4:ab.heap.size=b.heap.size+2:=by rw[s];simp
 have i8:LP ab b.heap.size 33 (P J 0 0):=by rw[s];exact(Nc b 33 (P J 0 0)).alloc (K e 379)
 have j0:ab.heap[b.heap.size+1]?=K (nc q) 379:=by rw[s,<-e8.o.eq];have:=Gc (b.alloc (K #[P J 0 0] 33)) (K e 379);rwa [GG] at this
 have i9:T w w ab:=by rw[s];exact(r.a r.z _).a (by have:=r.z;simp;omega) _
 have g1:=r.z;rw[<-s];clear s d6 i1 r;refine gl A dc (gf:=265) (lb:=#[ξ (δ ⟨b+1,0,J⟩)]) A trivial yp ?_;intro m2 R l3 h1 l0 b6 c0 g2 k3;rw[s4] at h1 l0 g2 b6;subst h1;refine(pM (b.heap.size+2+1) (b.heap.size+1) 8 q
  (λp h=>h.heap[b.heap.size+2+1]?=IK (R NG J)/\h.heap[b.heap.size+2]?=Kc (δ [])/\
   afc d9 b.heap.size p h/\T w w h/\b.heap.size+4<=h.heap.size)
  (λh=>QZ) l3 dc ((b6.b _ H).t j0) ?hY ?hN ?h0).m ?_
 case h0=>exact⟨c0,g2,⟨_,[],(b6.b _ H).t i8,QN,by simp,by simp,λ_=>rfl⟩,i9.t (b6.m H),by omega⟩
 case hN=>
  rintro p h c4 a2 ⟨Z,i,⟨W,j,l,y,a3,v,G⟩,L,a4⟩;exact⟨Z,i,⟨W,j,l,y,by omega,v,G⟩,L,a4⟩
 case hY=>
  rintro p h c4 a2 ⟨Z,i,⟨W,j,l,y,a3,v,G⟩,L,a4⟩;refine k3.oj _ _ _ _ A Z λb4 g5=>?_;obtain⟨a5,X,d2,a0⟩:=cL (aw Z) _ g5;have Y:=(X _ H).t i;have aa:LP b4 b.heap.size 33 W:=(X _ H).t l;have i4:b4.ownsRow (b.heap.size+4) 9 1 W j.length (j.map β):=aK y λk c=>X k (by
   rcases y.2 with⟨rfl,_⟩|⟨f9,d3,f8,rfl,j4,_⟩
   .cases c
   simp only[Ψ,Gd] at c;omega)
  have O:=a0 _ _ H L;have i5:b.heap.size+4<=b4.heap.size:=H;have f0:=Ga (e9.o p c4 a2 b4 (b3.o.aE O));have a1:=Ga (κ v G);clear g5 X a0 Z i l y L a4 d2 v G;gi_wp2_with (first
   |(refine⟨trivial,?_⟩;refine(JK _ (callsIn_wide.2 f0.o)).m ?_;rintro d e2 ⟨(rfl|⟨b2,k4,k2,rfl⟩),u⟩<;>(have a6:=bW aa u;have c1:=aQ i4 u;have d8:=GB i5 u.z;have j5:=a6.cell;have j7:=a6.frozen))
   |(gi_at_builtin;refine wpListIn_append_own _ A _ _ 33 A (b.heap.size+4) 9 k9 eS 1 16 Jv I k6 k7 k8 A dc _ _ _ A (c1.alloc _) e2 1 1 [β b2] A A (cell_one_new _ _ _) (by simp[φ]) (by have:Ie=9223372036854775807:=A;omega) H QB ?_;intro n1 f h3 k0 _;obtain⟨f9,j1,rfl⟩:=ownsRow_succ h3;obtain⟨i0,d1,h5,g8,c7⟩:=zH a6 c1 d8 H h3 k0;have m0:=i0.cell;have m4:=i0.frozen)
   |(refine⟨trivial,?_⟩;refine(JK _ (callsIn_wide.2 (f1.o p c4 a2 e2 (b3.o.aE (O.t (u.m O.z)))))).m ?_;rintro d e4 ⟨⟨b9,d7,n0,c8,rfl,h4⟩,b7⟩)
   |(refine VT A _ _ A e4.heap.size A b9 d7 c8 A 281 _ A (Gc _ _) ?_;intro w8 e0))
  .have b8:=e0.aE _ _ b7.z (b7.a b7.z _);have t1:=Below.ke (u.t (b8.m u.z)) a5;have t2:=Below.ke (u.t (b8.m u.z)) Y;have e1:LP w8 b.heap.size 33 W:=bW a6 b8;have U:=aQ c1 b8;have V:=(O.t (u.m O.z)).t (b8.m (O.t (u.m O.z)).z);have c2:=GB d8 b8.z;have i6:=e0.at_;clear f0 b8 e0 b7 u a6 c1 d8 j5 j7 a5 Y aa i4 O i5;have m3:=e1.cell;have f3:=f2.o b9 h4;have g9:=b3.o.aE V;have rS:=YC;have f4:=Ga (κ U (κ V (κ c2 (κ t1 t2))));have j3:∃c3 N,W=P c3 j.length N/\j.length<=N:=by
    rcases U.2 with⟨rfl,m9⟩|⟨k,d3,f8,rfl,l9,m5,h2,_⟩
    .have:j.length=0:=H;exact⟨J,0,by rw[this],by omega⟩
    exact⟨_,d3,A,h2⟩
   obtain⟨c3,N,rfl,h2⟩:=j3;have f6:=Ga a3;obtain⟨l6,l5,g4,g0,g3,c0⟩:=CZ 281 (g:=e4.heap.size) (t:=281) (cs:=b9) (fr:=(0,0)) Jn A (by rw[c8.aH];exact hT);have h8:w8.drew.heap[e4.heap.size]?=K b9 281:=i6;clear U V c2 t1 t2 i6 c8 h4 f2 f1 e9 b3 e8 c5 h7 a3;have m6:=g0 w8.drew;have m8:=g3 w8.drew;have m7:=c0 w8.drew h8;rw[<-g4];clear g4 g0 g3 c0 h8;cases c3 with
   |none=>as_aux_lemma=>
    refine tt ?_;gi_region_with_o (refine⟨trivial,?_⟩;gi_at_call 156;refine(JK _ (callsIn_wide.2 (f3 w8.drew (show As.cC w8.drew from g9)))).m ?_;rintro d b0 ⟨rfl,z⟩;have t:T w8 w8 b0:=⟨z.os,z.tape,z.output,z.z,z.b⟩;have u4:=bW e1 t;have j6:=u4.cell;have j8:=u4.frozen)
    all_goals
     simp only[ic];obtain⟨U,V,c2,t1,t2⟩:=f4.o;obtain⟨e5,m,e6⟩:=nD (v':=(P J j.length N)) u4;have k1:=aw (Below.ke t t1);obtain⟨a7,M,a8,a9⟩:=cL (W:=b0.setCell b (P J j.length N)) (l:=b.heap.size+2+1) H (IK (R NG J)) A;refine⟨(m _ H).t (Below.ke t t1),A,a7,(M _ H).t ((m _ H).t (Below.ke t t2)),⟨_,j,(M _ H).t e5,aK (aQ U t) λk c=>?_,by have:=f6.o;omega,a1.1,a1.2⟩,a9 _ _ H ((V.t (t.m V.z)).s (by exact g1) _),by rw[a8,e6];have:=t.z;omega⟩;have j9:=yu U c;exact(M k H).t (m k H)
   |some i7=>as_aux_lemma=>
    refine tt ?_;gi_region_with_o (refine⟨trivial,?_⟩;gi_at_call 156;refine(JK _ (callsIn_wide.2 (f3 w8.drew (show As.cC w8.drew from g9)))).m ?_;rintro d b0 ⟨rfl,z⟩;have t:T w8 w8 b0:=⟨z.os,z.tape,z.output,z.z,z.b⟩;have u4:=bW e1 t;have j6:=u4.cell;have j8:=u4.frozen)
    all_goals
     simp only[ic];obtain⟨U,V,c2,t1,t2⟩:=f4.o;obtain⟨e5,m,e6⟩:=nD (v':=(P (δ i7) j.length N)) u4;have k1:=aw (Below.ke t t1);obtain⟨a7,M,a8,a9⟩:=cL (W:=b0.setCell b (P (δ i7) j.length N)) (l:=b.heap.size+2+1) H (IK (R NG J)) A;refine⟨(m _ H).t (Below.ke t t1),A,a7,(M _ H).t ((m _ H).t (Below.ke t t2)),⟨_,j,(M _ H).t e5,aK (aQ U t) λk c=>?_,by have:=f6.o;omega,a1.1,a1.2⟩,a9 _ _ H ((V.t (t.m V.z)).s (by exact g1) _),by rw[a8,e6];have:=t.z;omega⟩;have j9:=yu U c;exact(M k H).t (m k H)
  obtain⟨a7,M,a8,a9⟩:=cL (W:=(f.setCell b (P f9 (j.length+1) j1))) (l:=b.heap.size+2+1) (by have:=c7.aH;omega) (IK (R NG J)) A;refine⟨(g8 _ H H).t (Below.ke u a5),A,a7,(M _ H).t ((g8 _ H H).t (Below.ke u Y)),⟨_,j++[b2],(M _ H).t d1,?_,?_,?_,λg=>absurd g k2⟩,?_,?_⟩
  .rw[Gk,Io];refine aK h5 λk c=>M k ?_;rcases h5.2 with⟨g,_⟩|⟨l8,d3,f8,a2,j4,_⟩
   .cases g
   cases a2;simp only[Ψ,Gd] at c;omega
  .rw[Gk];simp;omega
  .intro l4 k5;rcases GO.mp k5 with g|g
   .exact a1.1 l4 g
   simp only[GA] at g;subst g;exact k4
  .exact a9 _ _ H ((O.t (u.m O.z)).t (c7.cE H (λl7 I=>by rcases I with rfl|I<;>omega)))
  rw[a8];have:=c7.aH;omega
 rintro d l1 ⟨d1,(⟨Z,i,⟨W,j,l,y,a3,v,G⟩,L,a4⟩|g)⟩
 .refine⟨d1,J,Z,?_⟩;obtain⟨a5,X,d2,a0⟩:=cL (aw Z) (IK (R .exhausted J)) A;have Y:=(X _ H).t i;have i2:LP _ b.heap.size 33 W:=(X _ H).t l;have aa:=aK y λk c=>X k (by have:=yu y c;omega);have i3:=a0 _ _ H L;generalize l1.putObj (b.heap.size+2+1) (IK (R .exhausted J))=e2 at a5 Y i2 aa i3 ⊢;clear X d2 a0 Z i l y L a4;have m1:=i2.cell;simp only[mq];gi_wp2;refine⟨by simp,Ξ ⟨_,_,A,Xq Y,?_⟩⟩;exact⟨_,Xy A _ _ _,⟨W,j,A,.cT (aK aa λk c=>(Gu (by have:=yu aa c;omega))),a3,v,G⟩,bP i3 H _⟩
 exact g.elim
end
structure Ay (d:Nd)(m:D):Prop where
 bq:d.bq=1\/d.bq=2\/d.bq=3
 bA:d.bA.size<=2000000
 qF:∀k,(d.r k).size<m
def hU.dZ {f:Nd}(j:hU f)(o:f.bq≠0)(t:∀u,(f.r u).size<w):Ay f w:=
 ⟨j.bq.resolve_left o,by have:=j.bA;omega,t⟩
def kn (f:L)(K:As.cC f):Y N 156 #[zc] f λa e=>a=P J 0 0/\T f f e:=by
 have u:∀a,jP bE a->∃t,a=z t:=λa ⟨h,b,_⟩=>⟨h,b⟩;go_call mO zc bE cA True (λ_=>QZ) f K (λp i=>(la zc bE cA (o ⟨A,A⟩) QK (λ_=>QK) (λb=>absurd A b) p i).m λa e b=>⟨u a b.1,b.2⟩)
  (λc n d=>absurd d (NH 0)) (λc n d=>absurd d (NH 0)) (λ_ b=>b.elim) as a e ⟨⟨t,xs,rfl,_,_,_,j⟩,g⟩;exact⟨by rw[j trivial],g⟩
def pV:∀(k:D) (i:Q S) (c:Nd),k<=32->ct i c->Ay c k->∀u,As.cC u->Y N 156 #[i] u λa n=>a=P J 0 0/\T u u n:=by
 intro k;induction k with
 |zero=>intro i c _ _ t;exact absurd (t.qF 0) H
 |succ k m=>
  intro i c G hd t u V;have x:∀a,jP c a->∃O,a=z O:=λa ⟨q,b,_⟩=>⟨q,b⟩;refine(mO i c hd True (λh=>h=zc\/∃f,ct h f/\Ay f k) u V (λd g=>(la i c hd (j t.bq) t.bA (λe=>oA (t.qF e)) (λ_ e p=>fN 32 _ p H) d g).m λa n b=>⟨x a b.1,b.2⟩)
   (λe l w d g=>(iu (c.r e) d (oA (t.qF e))).m λa n b=>⟨o b.1,b.2⟩)
   (λe l w d g=>(fH (c.r e) (λp=>fN 32 _ p H) d g).m λa n b=>⟨?_,b.2⟩) ?_).m ?_
  .rcases b.1 with⟨h,f,K,Z,W,F,_,M⟩|M
   .exact⟨h,f,U,K,M,j ⟨f,K,Z.dZ W (λv=>oB (F v) (t.qF e))⟩⟩
   exact⟨zc,bE,X,cA,M,o A⟩
  .rintro h (rfl|⟨f,K,r⟩) d g
   .exact kn d g
   exact m h f H K r d g
  rintro a n ⟨⟨O,I,rfl,_,_,_,s⟩,y⟩;exact⟨by rw[s trivial],y⟩
theorem Da (K:Q S)(f:Nd)(hd:ct K f)(O:Ay f 1000000)(J:L)(v:As.cC J):Y N 156 #[t K] J λb k=>xi QZ b k/\T J J k:=by
 have W:∀b,jP f b->∃l,b=z l:=λb ⟨q,a,_⟩=>⟨q,a⟩;refine mO K f hd QZ (λh=>h=zc\/∃u,ct h u/\Ay u 32) J v (λc e=>(la K f hd (j O.bq) O.bA (λg=>oA (O.qF g)) (λ_ g n=>fN 32 _ n H) c e).m λb k a=>⟨W b a.1,a.2⟩)
  (λg w s c e=>(gL (f.r g) c (oA (O.qF g))).m λb k a=>⟨a.1.imp id (λ⟨x,D,i⟩=>⟨x,D,not_false,i⟩),a.2⟩)
  (λg w s c e=>(fH (f.r g) (λn=>fN 32 _ n H) c e).m λb k a=>⟨?_,a.2⟩) ?_
 .rcases a.1 with⟨h,u,M,P,y,V,n,i⟩|i
  .exact⟨h,u,U,M,i,j ⟨u,M,P.dZ y (λr=>oA (V r))⟩⟩
  exact⟨zc,bE,X,cA,i,o A⟩
 rintro h (rfl|⟨u,M,Z⟩) c e
 .exact kn c e
 exact pV 32 h u d M Z c e
end Go.Proofs.YtajnhfklchlahaaGreatDoor
