import Derived.Test.YtajnhfklchlahaaGreatDoorMAC
import Derived.Test.YtajnhfklchlahaaGreatDoorMAF
set_option linter.all false
set_option maxHeartbeats 12800000
set_option maxRecDepth 100000
namespace Go.Proofs.YtajnhfklchlahaaGreatDoor
open Go.Proofs.Tryz Go.RowKit Go.Shelf
open Go.Maps (Keyed)
open And renaming intro->κ,intro->W
open Bool renaming false->σ,true->ψ,false->X,true->U
open Go renaming Calls->τ,World->ν,Calls->Y,World->L,TypeId->Λ,Value->π,Value->S,Ending->He,Lit->IA,maxLen->Ie,DataW->QX,zeroValue->Xs,Addr->JM,cell_of_row->Xe,Oper->Le,Operand->Kg,wpList->Ji,execOp->Xb,yielded->Xg,keyOf->Xi,callFunc->Xa,wpList_plain->Xt,wpList_load_mid->Xj,bodyPost_ret->QM
open Go.Ending renaming returned->ι
open Go.Obj renaming cells->θ,cells->K,map->Lz
open Go.Proofs.Tryz renaming prog->γ,prog->N
open Go.RowKit renaming Below->ρ,Hid->Φ,Below->T,intOf->QI,wrap64->Xd
open Go.Value renaming agg->Γ,iface->Δ,nilIface->ω,pointer->ξ,string->β,agg->t,pointer->V,string->O,bool->υ,int->ε,oneCell'->φ,slice->ο,tuple->χ,bool->z,int->Z,slice->P,tuple->f,ownBlock->Ψ,func->Hl,map->KD
open Option renaming none->ζ,some->δ,none->J,some->M
open _root_ renaming rfl->A,ByteArray->B,Int->C,Nat->D,List->E,UInt8->QO,Array->Q,ByteArray->QE,congrArg->Xl,decide_eq_true_eq->XE,of_decide_eq_true->XG,Option->QV,Array->QF,or_false->Xf,decide_eq_true->Xr,and_true->QW,False->QZ,beq_eq_false_iff_ne->Xk
open YtajnhfklchlahaaGreatDoor renaming Ga->F,ϑ->G,om->H,eS->I,sm->R,QD->d,Qz->e,dc->r,QC->y
open Or renaming inr->Θ,inr->j,inl->Ξ,inl->o
open Go.IntKind renaming i64->η,i64->u,u8->Ix
open Decidable renaming decide->LH
open Go.Result renaming ok->Je,andThen->Ω
open Go.Fn renaming func->Ic
open UInt8 renaming ofNat->Ka
open Go.World renaming cell?->Iz,setCell->PZ
open Go.Oper renaming wp->Ld
open Go.Region renaming wanted->Jb
open Go.Instr renaming typeAssert->Kf
variable {w q a i:Nat}{g s l:ν}{k:ByteArray}{v:List ByteArray}{n:List (IA×π)}{h:Array π}{m:π}{b:List π}{c:Int}{p:Λ}
namespace Pt
structure dT (T:Pt)(p:B)(w w':L)(T':Pt):Prop where
 eg:T'.At w'
 fG:T'.fG
 dZ:T'.dZ
 cn:∀x,T'.fT x->T.fT x\/w.heap.size<=x
 only:aL T.fT w w'
 some:T'≠nil
 bu:T'.bu<=T.bu+p.size+4
 bw:T'.bw<=T.bw+3
def dT.oG {j:Pt}{o:Pt}(f:j.dT k g.drew s o):j.dT k g s o:=⟨f.eg,f.fG,f.dZ,f.cn,aL.eM (k:=1) f.only,f.some,f.bu,f.bw⟩
def sS (f:Pt):Prop:=∀(b a:B) (c:L),f.At c->f.fG->f.dZ->Nib.bF (bs b)=U->b.size<=100000->f.bu<=80000->
 Y N f.Is #[f.kF,b,a] c λe g=>∃j,e=ι j.cm/\f.dT b c g j
end Pt
def pY (f o:B)(j:L)(X:Nib.bF (bs f)=U):Y N 425 #[Γ #[],O f,O o] j λm b=>(∃z,m=ι (Pt.leaf z f o).cm/\Pt.dT .none f j b (.leaf z f o))/\T j j b:=by
 obtain⟨u,Z,J⟩:=aU j (K #[] 502);have P:∀a,gJ u a (K #[f,o] 493)->(∃z,ι (Δ 491 (V u))=ι (Pt.leaf z f o).cm/\Pt.dT .none f j a (.leaf z f o))/\T j j a:=λa i=>by
  have M:=J.aE.t (i.aE.m J.aE.z);have r:=J.aE.z;exact⟨⟨u,A,i.at_,trivial,X,λp n=>.inr (by have:p=u:=n;omega),aL.aE M _,by simp,by show f.size+2<=0+f.size+4;omega,by show 1<=0+3;omega⟩,M⟩
 have W:=F P;go_enter func425,ntmps425;go_wp2;go_ret;exact W.o _ (dj u _)
def Ml:Pt.sS .none:=λd e g _ _ _ c _ _=>(pY d e g c).m λi k ⟨⟨h,b,a⟩,_⟩=>⟨_,b,a⟩
def uK (f:D)(t:B)(j:D->Pt)(u o:B)(z:L)(P:u.size=0)(J:(Pt.branch f t j).At z)(M:(Pt.branch f t j).fG)(U:(Pt.branch f t j).dZ):
 Y N 412 #[V f,u,o] z λa c=>a=ι (Pt.branch f o j).cm/\(Pt.branch f t j).dT u z c (.branch f o j):=by
 have Z:=cj P;have w:=cJ 0 J.1;have X:=aI J.1 0;have K:=aF (j:=0) (O o) J.1;have W:=y (ι (Δ 497 (V f))=ι (Pt.branch f o j).cm/\(Pt.branch f t j).dT u z (z.setCell f (O o)) (.branch f o j)) ⟨A,⟨K.at_,λn b=>Pt.at_frame (J.2 n b) λk l=>K.old k λa=>(M.1 n b).1 (by subst a;exact l)⟩,M,U,λk s=>.inl s,⟨A,A,A,by rw[K.aH];exact d,λk _ l=>K.old k λa=>l (.inl a)⟩,by simp,by show _<=(Pt.branch f t j).bu+u.size+4;show 3+_<=3+_+u.size+4;omega,by show 1+_<=1+_+3;omega⟩;go_enter func412,ntmps412;go_wp2;go_ret;exact W.o
def De {u:Type}(o:D->u)(f:D)(z t:u):cZ (cZ o f z) f t=cZ o f t:=by
 funext j;unfold cZ;split<;>rfl
def du {j z:Type}(f:j->z)(o:D->j)(t:D)(u:j):(λa=>f (cZ o t u a))=cZ (λa=>f (o a)) t (f u):=by
 funext a;unfold cZ;split<;>rfl
def uL {J p q:B}{k:D->Pt}{i:D}{o:Pt}(u:i<16)(r:q.size+1=p.size)(z:(Pt.branch w J k).At g)(t:(Pt.branch w J k).fG)(X:(Pt.branch w J k).dZ)(j:(k i).dT q g s o):
 (Pt.branch w J k).dT p g (s.setCell (w,1+i) o.cm) (.branch w J (cZ k i o)):=by
 have L:=aw z.1;have U:=(t.1 i u).1;have W:=j.only.aM z.1 U;have M:=aF (j:=1+i) o.cm W;have O:¬o.fT w:=λd=>(j.cn w d).elim U (λd=>by omega);refine⟨⟨?_,λa c=>?_⟩,⟨λa c=>?_,λa m c n y e b h=>?_⟩,λa c=>?_,λe b=>?_,?_,by simp,?_,?_⟩
 .rw[M.at_,Pt.uh _ _ u,du Pt.cm]
 .by_cases f:a=i
  .subst f;rw[cy];exact Pt.at_frame j.eg λe b=>M.old e λl=>O (by subst l;exact b)
  rw[bX _ _ f];refine Pt.at_frame (z.2 a c) λe b=>?_;have Z:e≠w:=λl=>(t.1 a c).1 (by subst l;exact b);exact(M.old e Z).t (j.only.aG e (Pt.hR (z.2 a c) b) (t.2 a i c u f e b))
 .by_cases f:a=i
  .subst f;rw[cy];exact⟨O,j.fG⟩
  rw[bX _ _ f];exact t.1 a c
 .by_cases f:a=i
  .subst f;rw[cy] at b;rw[bX _ _ (λl=>y l.s)] at h;rcases j.cn e b with d|d
   .exact t.2 a m c n y e d h
   have:=Pt.hR (z.2 m n) h;omega
  rw[bX _ _ f] at b;by_cases P:m=i
  .subst P;rw[cy] at h;rcases j.cn e h with d|d
   .exact t.2 a m c n y e b d
   have:=Pt.hR (z.2 a c) b;omega
  rw[bX _ _ P] at h;exact t.2 a m c n y e b h
 .by_cases f:a=i
  .subst f;rw[cy];exact j.dZ
  rw[bX _ _ f];exact X a c
 .rcases b with b|⟨a,c,b⟩
  .exact .inl (.inl b)
  by_cases f:a=i
  .subst f;rw[cy] at b;exact(j.cn e b).imp_left λd=>.inr ⟨a,c,d⟩
  rw[bX _ _ f] at b;exact .inl (.inr ⟨a,c,b⟩)
 .exact(j.only.cz λe _ d=>.inr ⟨i,u,d⟩).bV (λ_=>.inl A) _
 .have K:=dS (f:=λa=>(k a).bu) u o.bu;rw[<-du Pt.bu] at K;have V:=j.bu;show 3+(di λa=>(cZ k i o a).bu)<=3+(di λa=>(k a).bu)+p+4;try simp only at K
  omega
 have K:=dS (f:=λa=>(k a).bw) u o.bw;rw[<-du Pt.bw] at K;have V:=j.bw;show 1+(di λa=>(cZ k i o a).bw)<=1+(di λa=>(k a).bw)+3;try simp only at K
 omega
def afe {f:D->Pt}(O:q<16)(J:f q=.nil)(P:(Pt.branch w k f).At g)(A:(Pt.branch w k f).fG)(V:(Pt.branch w k f).dZ):
 let o:=cZ f q .none
 (Pt.branch w k o).At (g.setCell (w,1+q) (Δ 502 (t #[])))/\(Pt.branch w k o).fG/\(Pt.branch w k o).dZ/\(∀c,(Pt.branch w k o).fT c↔(Pt.branch w k f).fT c)/\(Pt.branch w k o).bu=(Pt.branch w k f).bu/\(Pt.branch w k o).bw=(Pt.branch w k f).bw:=by
 intro o;have U:=aF (j:=1+q) (Δ 502 (t #[])) P.1;have z:∀a c,(o a).fT c↔(f a).fT c:=λa c=>by
  by_cases j:a=q
  .subst j;show(cZ f a Pt.none a).fT c↔_;rw[cy,J];exact Iff.rfl
  show(cZ f q Pt.none a).fT c↔_;rw[bX _ _ j]
 refine⟨⟨?_,λa h=>?_⟩,⟨λa h=>⟨λl=>(A.1 a h).1 ((z a w).1 l),?_⟩,λa s h d y c r b=>A.2 a s h d y c ((z a c).1 r) ((z s c).1 b)⟩,λa h=>?_,λc=>?_,?_,?_⟩
 .rw[U.at_,Pt.uh _ _ O];show M (K _ _ _)=K (Pt.bc k λa=>(cZ f q Pt.none a).cm) _ _;rw[du Pt.cm];rfl
 .by_cases j:a=q
  .subst j;show(cZ f a Pt.none a).At _;rw[cy];trivial
  show(cZ f q Pt.none a).At _;rw[bX _ _ j];exact Pt.at_frame (P.2 a h) λc r=>U.old c λe=>(A.1 a h).1 (by subst e;exact r)
 .by_cases j:a=q
  .subst j;show(cZ f a Pt.none a).fG;rw[cy];trivial
  show(cZ f q Pt.none a).fG;rw[bX _ _ j];exact(A.1 a h).2
 .by_cases j:a=q
  .subst j;show(cZ f a Pt.none a).dZ;rw[cy];trivial
  show(cZ f q Pt.none a).dZ;rw[bX _ _ j];exact V a h
 .exact or_congr Iff.rfl ⟨λ⟨a,h,l⟩=>⟨a,h,(z a c).1 l⟩,λ⟨a,h,l⟩=>⟨a,h,(z a c).2 l⟩⟩
 .have u:=dS (f:=λa=>(f a).bu) O Pt.none.bu;rw[<-du Pt.bu] at u;show 3+(di λa=>(cZ f q Pt.none a).bu)=3+(di λa=>(f a).bu);simp only[J,Pt.bu] at u ⊢;omega
 have u:=dS (f:=λa=>(f a).bw) O Pt.none.bw;rw[<-du Pt.bw] at u;show 1+(di λa=>(cZ f q Pt.none a).bw)=1+(di λa=>(f a).bw);simp only[J,Pt.bw] at u ⊢;omega
def AE (o:D)(u:B)(j:D->Pt)(f J:B)(z:ν)(Y:0<f.size)(s:Nib.bF (bs f)=ψ)(d2:f.size<=100000)(M:(Pt.branch o u j).At z)(W:(Pt.branch o u j).fG)(X:(Pt.branch o u j).dZ)(b2:j f[0].toNat≠.nil->(Pt.branch o u j).bu<=80000)
 (a0:(j f[0].toNat≠.nil)->(j f[0].toNat).sS):
 τ γ 412 #[ξ o,f,J] z λv l=>∃b,v=ι (Pt.branch o u (cZ j f[0].toNat b)).cm/\(Pt.branch o u j).dT f z l (.branch o u (cZ j f[0].toNat b))/\(j f[0].toNat=.nil->∃c,b=.leaf c (f.extract 1 f.size) J):=by
 have d4:=cp Y;obtain⟨d,a8⟩:∃d,d=f[0].toNat:=⟨_,A⟩;have d1:d<16:=by rw[a8];exact nO s Y
 have c2:(0:C)<(f.size:C):=H;have d3:(1:C)<=(f.size:C):=H;have c3:((f[0].toNat:D):C)<16:=H;have c6:(0:C)<=((f[0].toNat:D):C):=H;have c1:z (o,1+f[0].toNat)=δ (j f[0].toNat).cm:=by rw[QH M.1];exact Pt.lL _ _ H
 have c0:=aI M.1 (1+f[0].toNat);by_cases U:j f[0].toNat=.nil
 .have k:(j f[0].toNat).cm=ω:=by rw[U];rfl
  rw[k] at c1;obtain⟨V,a3,a1,I,b6,b7⟩:=afe H U M W X;obtain⟨ae,m,R,b4,hF,S,b0,a5⟩:=Pt.pK (T:=.none) sm;cases b4;generalize x:z.setCell (o,1+f[0].toNat) (Δ 502 (t #[]))=P at V;have a4:P (o,1+f[0].toNat)=Δ 502 (t #[]):=by
   rw[QH V.1,Pt.lL _ _ H,cy];rfl
  have c7:=aI V.1 (1+f[0].toNat);have a2:(cZ j f[0].toNat Pt.none) f[0].toNat=.none:=cy _ _ _;have Z:τ γ m #[t #[],O (f.extract 1 f.size),O J] P.drew λv l=>∃b,v=ι b.cm/\Pt.none.dT (f.extract 1 f.size) P l b/\∃c,b=.leaf c (f.extract 1 f.size) J:=by
   rw[<-hF];exact(pY _ J P.drew (by rw[dt];exact fq s 1)).m λv l ⟨⟨c,p,i⟩,_⟩=>⟨_,p,i.oG,c,A⟩
  have L:=F Z;have N:=y (∀b l,Pt.none.dT (f.extract 1 f.size) P l b->l (o,1+f[0].toNat)=Δ 502 (t #[])/\l.frozen? (o,1+f[0].toNat)=σ/\∃e g,b.cm=Δ e g) λb l h=>by
   obtain⟨e,g,q⟩:=Pt.fA h.some;exact⟨h.only.dN a4 (λa=>a),aI (h.only.aM V.1 (λa=>a)) _,e,g,q⟩
  have n:=y (∀b r e g,b.cm=Δ e g->Pt.none.dT (f.extract 1 f.size) P r b/\(∃c,b=.leaf c (f.extract 1 f.size) J)->∃b,ι (Δ 497 (ξ o))=ι (Pt.branch o u (cZ j f[0].toNat b)).cm/\(Pt.branch o u j).dT f z (r.setCell (o,1+f[0].toNat) (Δ e g)) (.branch o u (cZ j f[0].toNat b))/\(j f[0].toNat=.nil->∃c,b=.leaf c (f.extract 1 f.size) J)) λb r e g w ⟨h,a9⟩=>⟨b,A,by
   have K:=uL (p:=f) (q:=f.extract 1 f.size) (k:=cZ j f[0].toNat .none) (i:=f[0].toNat) H (by rw[ax];omega) V a3 a1 (by rw[a2];exact h)
   rw[De,w] at K
   have ab:=aF (j:=1+f[0].toNat) (Δ 502 (t #[])) M.1
   rw[x] at ab
   have b3:aL (Pt.branch o u j).fT z P:=by rw[<-x];exact(aL.bQ _ _).bV (λ_=>.inl A) _
   exact⟨K.eg,K.fG,K.dZ,λG b5=>(K.cn G b5).imp (I G).1 (λa=>by rw[ab.aH] at a;exact a),b3.aJ (K.only.cz λG _ a=>(I G).1 a),K.some,by have:=K.bu;omega,by have:=K.bw;omega⟩,λ_=>a9⟩
  go_enter func412,ntmps412;go_upto_region 7 with fail;go_region_with ((with_reducible go_call L.o as v r ⟨b,rfl,h⟩);obtain⟨a6,a7,e,g,w⟩:=N.o b r h.1;rw[w])
  go_wp2;go_ret;exact n.o b r e g w h
 obtain⟨ae,m,R,k,hF,S,b0,a5⟩:=Pt.pK U;rw[k] at c1;have Z:τ γ m #[R,O (f.extract 1 f.size),O J] z.drew λv l=>∃b,v=ι b.cm/\(j f[0].toNat).dT (f.extract 1 f.size) z l b:=by
  rw[<-hF,<-S];exact(a0 U _ J z.drew (Pt.at_frame (M.2 _ H) (λ_ _=>rfl)) (W.1 _ H).2 (X _ H) (by rw[dt];exact fq s 1) (by rw[ax];omega) (by have:=ht (f:=λd=>(j d).bu) (i:=f[0].toNat) H;have i:(Pt.branch o u j).bu=3+di λd=>(j d).bu:=A;have c8:=b2 U;omega)).m λv l ⟨b,p,i⟩=>⟨b,p,i.oG⟩
 have L:=F Z;have T:=F (W.1 f[0].toNat H).1;have b9:=F (κ M (κ W X));have N:=y (∀b l,(j f[0].toNat).dT (f.extract 1 f.size) z l b->l (o,1+f[0].toNat)=Δ ae R/\l.frozen? (o,1+f[0].toNat)=σ/\∃e g,b.cm=Δ e g) λb l h=>by
  obtain⟨e,g,q⟩:=Pt.fA h.some;exact⟨h.only.dN c1 (λa=>T.o a),aI (h.only.aM M.1 (λa=>T.o a)) _,e,g,q⟩
 have n:=y (∀b r e g,b.cm=Δ e g->(j f[0].toNat).dT (f.extract 1 f.size) z r b->∃b,ι (Δ 497 (ξ o))=ι (Pt.branch o u (cZ j f[0].toNat b)).cm/\(Pt.branch o u j).dT f z (r.setCell (o,1+f[0].toNat) (Δ e g)) (.branch o u (cZ j f[0].toNat b))/\(j f[0].toNat=.nil->∃c,b=.leaf c (f.extract 1 f.size) J)) λb r e g w h=>⟨b,A,by
  rw[<-w];exact uL H (by rw[ax];omega) M W X h,λa=>absurd a U⟩
 go_enter func412,ntmps412;go_upto_region 7 with fail;go_region_with ((with_reducible go_call L.o as v r ⟨b,rfl,h⟩);obtain⟨a6,a7,e,g,w⟩:=N.o b r h;rw[w])
 go_wp2;go_ret;exact n.o b r e g w h
def ri (j:D)(t:B)(o:D->Pt)(f z:B)(K:L)(x:Nib.bF (bs f)=U)(c:f.size<=100000)(W:(Pt.branch j t o).At K)(y:(Pt.branch j t o).fG)(X:(Pt.branch j t o).dZ)
 (i:∀a:0<f.size,o f[0].toNat=.nil):
 Y N 412 #[V j,f,z] K λq b=>∃P M,q=Δ 497 (V j)/\(Pt.branch j t o).dT f K b (.branch j P M)/\(∀g,(∀a:0<f.size,g≠f[0].toNat)->M g=o g)/\(Pt.branch j P M).bu<=(Pt.branch j t o).bu+f.size+1/\(Pt.branch j P M).bw<=(Pt.branch j t o).bw+1:=by
 by_cases A:f.size=0
 .exact(uK j t o f z K A W y X).m λq b ⟨r,s⟩=>⟨z,o,r,s,λ_ _=>rfl,by show _<=(Pt.branch j t o).bu+_+_;show 3+_<=3+_+_+_;omega,by show 1+_<=1+_+1;omega⟩
 have A:0<f.size:=H;have J:=i A;have Z:f[0].toNat<16:=nO x A;refine(AE j t o f z K A x c W y X (λa=>absurd J a) (λa=>absurd J a)).m λq b ⟨F,r,s,e⟩=>?_;obtain⟨O,rfl⟩:=e J;refine⟨t,_,r,s,λg h=>bX _ _ (h A),?_,?_⟩
 .have u:=dS (f:=λg=>(o g).bu) Z (Pt.leaf O (f.extract 1 f.size) z).bu;rw[<-du Pt.bu] at u;try simp only at u
  rw[J] at u;have d:(Pt.leaf O (f.extract 1 f.size) z).bu=f.size-1+2:=by show(f.extract 1 f.size).size+2=_;rw[ax];omega
  rw[d] at u;simp only[Pt.bu] at u ⊢;omega
 have u:=dS (f:=λg=>(o g).bw) Z (Pt.leaf O (f.extract 1 f.size) z).bw;rw[<-du Pt.bw] at u;try simp only at u
 rw[J] at u;simp only[Pt.bw] at u ⊢;omega
def ld:∀(a B:E QO),Nib.bT a B<=(a:D)/\Nib.bT a B<=(B:D)
 |[],B=>by simp[Nib.bT]
 |_::_,[]=>by simp[Nib.bT]
 |d::b,e::c=>by
  have:=ld b c;unfold Nib.bT;split
  .simp[Gx];omega
  simp
def xl:∀(a B:E QO),Nib.bT a B<(a:D)->Nib.bT a B<(B:D)->a[Nib.bT a B]?≠B[Nib.bT a B]?
 |[],B,g,_=>by simp[Nib.bT] at g
 |_::_,[],_,g=>by simp[Nib.bT] at g
 |d::b,e::c,i,h=>by
  by_cases j:d=e
  .have f:Nib.bT (d::b) (e::c)=Nib.bT b c+1:=by simp[Nib.bT,j]
   rw[f] at i h ⊢;simp only[Gx] at i h;simpa using xl b c H H
  have f:Nib.bT (d::b) (e::c)=0:=by simp[Nib.bT,j]
  rw[f];simpa using j
def AF {f:B}(t:w=Nib.bT (bs k) (bs f))(u:0<(k.extract w k.size).size)(z:0<(f.extract w f.size).size):(f.extract w f.size)[0].toNat≠(k.extract w k.size)[0].toNat:=by
 intro A;have j:=fh u;have o:=fh z;rw[dt,JV] at j o;rw[ax] at u z;have:=xl (bs k) (bs f) (by rw[aX,<-t];omega) (by rw[aX,<-t];omega);rw[<-t] at this;simp only[JC] at j o;rw[j,o] at this;exact this (by rw[Gd];exact Lu.1 A.s)
def Mm (B:D):(Pt.branch B ⟨#[]⟩ λ_=>.nil).fG/\(Pt.branch B ⟨#[]⟩ λ_=>.nil).dZ:=⟨⟨λ_ _=>⟨λa=>a,tV⟩,λ_ _ _ _ _ _ a=>a.elim⟩,λ_ _=>trivial⟩
def Pt.dT.cI {j:Pt}{n:D}{o:Pt}(f:j.dT k (g.drewN n) s o):j.dT k g s o:=⟨f.eg,f.fG,f.dZ,f.cn,aL.eM f.only,f.some,f.bu,f.bw⟩
theorem Sw (t:D)(d k a P:B)(c:ν)(G:(Pt.leaf t d k).At c)(Z:Nib.bF (bs d)=U)(K:Nib.bF (bs a)=U)(b2:a.size<=100000)(b3:d.size<=80000):
 τ γ 411 #[ξ t,O a,O P] c λn g=>∃f,n=ι f.cm/\(Pt.leaf t d k).dT a c g f:=by
 let⟨a2,a3⟩:=at_ptr2 G;cases c2:(a.toList==d.toList) with
 |true=>
  have m:Φ (∀g,gJ c g (θ #[O a,O P] 493)->∃f,ι (Δ 491 (ξ (M ⟨(c:D),0,ζ⟩)))=ι f.cm/\(Pt.leaf t d k).dT a c g f):=F λg b=>⟨.leaf (c:D) a P,A,b.at_,tV,K,λx e=>Θ (by have:x=(c:D):=e;omega),aL.aE b.aE _,sm,(H:a.size+2<=d.size+2+a.size+4),(H:1<=1+3)⟩;clear G Z K b2 b3;go_enter func411,ntmps411;go_wp2;go_ret;exact m.o _ (dj _ _)
 |false=>
  let⟨b,v⟩:∃b,b=Nib.bT d.data.toList a.data.toList:=⟨_,A⟩;have I:=F (λc=>Nib.jG d a c H H);rw[<-v] at I;have ae:=ld (bs d) (bs a);rw[aX,aX] at ae;have X:b=Nib.bT (bs d) (bs a):=v;rw[<-X] at ae;have c4:(0:C)<=(b:C):=H;have c8:(b:C)<=(d.size:C):=H;have d1:(b:C)<=(a.size:C):=H;have a5:Φ (∀(q:0<(d.extract b d.size).size) (i:0<(a.extract b a.size).size),(a.extract b a.size)[0].toNat≠(d.extract b d.size)[0].toNat):=F λq i=>AF X q i;have j:Φ (Nib.bF (bs (d.extract b d.size))=U/\(d.extract b d.size).size=d.size-b/\Nib.bF (bs (a.extract b a.size))=U/\(a.extract b a.size).size=a.size-b/\Nib.bF (bs (a.extract 0 b))=U/\(a.extract 0 b).size=b):=F ⟨by rw[dt];exact fq Z b,eZ,by rw[dt];exact fq K b,eZ,by rw[ou];exact ui K b,eZ⟩;clear v X Z K G;go_enter func411,ntmps411;go_upto_region 5 with((with_reducible apply(I.o _).m);rintro n wd ⟨rfl,b6,b4⟩;subst b4);let⟨r,al,h⟩:=aU (c.drewN b6) (θ #[O ⟨#[]⟩,ω,ω,ω,ω,ω,ω,ω,ω,ω,ω,ω,ω,ω,ω,ω,ω] 500);rw[al];have c3:(r:D)=(c:D)+1:=h.aH;have d0:r.cell? t=M (O d):=Below.ce h.aE a2;have c0:r.cell? ⟨t,1,ζ⟩=M (O k):=Below.ce h.aE a3;have aa:(Pt.branch (c:D) ⟨#[]⟩ λ_=>.nil).At r.drew:=⟨h.at_,λ_ _=>trivial⟩;have V:=Mm (c:D);have L:=F (ri (c:D) ⟨#[]⟩ (λ_=>.nil) (d.extract b d.size) k r.drew j.1 (oA j.2.1) aa V.1 V.2 (λ_=>rfl));have w:Φ (T c c r):=F ⟨h.aE.os,h.aE.tape,h.aE.output,h.aE.z,h.aE.b⟩;clear aa V h a2 a3 al;go_region_with ((with_reducible apply L.o.m);rintro n a1 ⟨S,am,rfl,z,ab,b0,ag⟩)
  all_goals
   have z:=z.oG;have af:(Pt.branch (c:D) S am).bu<=3+(d.size-b)+1:=by have i:=j.2.1;have:(Pt.branch (c:D) ⟨#[]⟩ λ_=>Pt.nil).bu=3:=A;omega
   have N:=F (ri (c:D) S am (a.extract b a.size) P a1 j.2.2.1 (oA j.2.2.2.1) z.eg z.fG z.dZ (λi=>ab _ λq=>a5.o q i));have u:=F (W z (W af ag));clear z ab b0 ag af L;go_wp2_with fail;apply N.o.m;rintro n s ⟨Y,a0,rfl,J,a9,ah,aj⟩;have y:Φ (τ γ 413 #[O (a.extract 0 b),Δ 497 (ξ (M ⟨(c:D),0,ζ⟩))] s λn g=>(∃f,n=ι f.cm/\(Pt.branch (c:D) Y a0).gF (a.extract 0 b) s g f)/\T s s g):=F (iN (a.extract 0 b) (.branch (c:D) Y a0) sm s J.eg J.fG J.dZ j.2.2.2.2.1 (oA j.2.2.2.2.2) (oB u.2.1 j.2.2.2.1));have l:=F (W J (W ah aj));clear J a9 ah aj N;go_wp2_with ((with_reducible apply y.o.m);rintro n b7 ⟨⟨f,rfl,o⟩,a6⟩);have c6:=u.1.only.aH;have c7:=l.1.only.aH;have c5:=w.o.z;have m:Φ (∃R,ι f.cm=ι R.cm/\(Pt.leaf t d k).dT a c b7 R):=F ⟨f,A,o.eg,o.fG,o.dZ,λx b5=>Θ ?_,aL.aE ?_ _,o.some,?_,?_⟩
   .clear y o;generalize f.cm=b9 at m;go_ret;exact m.o
   .rcases o.cn x b5 with e|e
    .rcases l.1.cn x e with e|e
     .rcases u.1.cn x e with e|e
      .rcases e with e|⟨_,_,e⟩
       .omega
       exact e.elim
      omega
     omega
    omega
   .have ak:T c c a1:=w.o.t (u.1.only.cE H λa4 p=>by rcases p with e|⟨_,_,e⟩;omega;exact e.elim);have ai:T c c s:=ak.t (l.1.only.cE ak.z λa4 p=>by
     rcases u.1.cn a4 p with e|e
     .rcases e with e|⟨_,_,e⟩
      .omega
      exact e.elim
     omega)
    exact ai.t (a6.m ai.z)
   .have q:=o.bu;have i:=l.2.1;have a7:=u.2.1;have a8:=j.2.2.2.1;have c1:=j.2.2.2.2.2;show f.bu<=d.size+2+a.size+4;omega
   have q:=o.bw;have i:=l.2.2;have a7:=u.2.2;have a8:(Pt.branch (c:D) ⟨#[]⟩ λ_=>Pt.nil).bw=1:=A;show f.bw<=1+3;omega
def wj (u:D)(f:B)(t:Pt)(o K:B)(h:ν)(O:(Pt.ext u f t).At h)(J:(Pt.ext u f t).fG)(z:(Pt.ext u f t).dZ)(W:Nib.bF (bs o)=ψ)(a9:o.size<=100000)(a2:(Pt.ext u f t).bu<=80000)(a0:t.sS)(P:Nib.bT f.data.toList o.data.toList=f.size):
 Y N 417 #[ξ u,o,K] h λl n=>∃g,l=ι g.cm/\(Pt.ext u f t).dT o h n g:=by
 obtain⟨S,c1⟩:=at_ptr2 O.1;have a3:(Pt.ext u f t).bu=f+1+t.bu:=A;obtain⟨T,Z,M,X,hF,a1,a6,a5⟩:=Pt.pK z.2.1;rw[X] at c1;have U:=F (λh=>Nib.jG f o h H H);rw[P] at U;have V:=ld (bs f) (bs o);rw[aX,aX,show Nib.bT (bs f) (bs o)=f from P] at V;have a8:(f:C)<=(o:C):=H;have G:=y (∀q,Y N Z #[M,β (o.extract f o),β K] (h.drewN q) λl n=>∃c,l=ι c.cm/\t.dT (o.extract f o) h n c) λq=>by
  rw[<-hF,<-a1];exact(a0 _ K (h.drewN q) (Pt.at_frame O.2 (λ_ _=>rfl)) J.2 z.2.2 (by rw[dt];exact fq W _) (by rw[ax];omega) H).m λl n ⟨c,m,p⟩=>⟨c,m,p.cI⟩
 have w:=y (∀c b,t.dT (o.extract f o) h b c->Y N 413 #[f,c.cm] b λl n=>(∃g,l=ι g.cm/\c.gF f b n g)/\ρ b b n) λc b e=>iN f c e.some b e.eg e.fG e.dZ z.1 H (by have:=e.bu;rw[ax] at this;omega);have s:=y (∀c b,t.dT (o.extract f o.size) h b c->b u=f/\b (u,1)=Δ T M) λc b e=>⟨e.only.dN S (λa=>J.1 a),e.only.dN c1 (λa=>J.1 a)⟩;have I:=y (∀c b g d,t.dT (o.extract f.size o.size) h b c->c.gF f b d g->ρ b b d->(Pt.ext u f t).dT o h d g) λc b g d e k i=>by
  have a7:=e.only.aH;refine⟨k.eg,k.fG,k.dZ,λr R=>?_,(e.only.cz λ_ _ a=>j a).then i,k.some,?_,?_⟩
  .rcases k.cn r R with a|a
   .exact(e.cn r a).imp_left λa=>j a
   exact j H
  .have m:=k.bu;have p:=e.bu;rw[ax] at p;omega
  have m:=k.bw;have p:=e.bw;show g.bw<=1+t.bw+3;omega
 go_enter func417,ntmps417;go_upto_region 3 with((with_reducible refine(U.o _).m ?_);rintro l wd ⟨rfl,q,x⟩;subst x);go_region_with (first|((with_reducible refine(G.o _).m ?_);rintro l b ⟨c,rfl,e⟩;obtain⟨d0,a4⟩:=s.o c b e;have L:=F (w.o c b e))|((with_reducible refine L.o.m ?_);rintro l d ⟨⟨g,rfl,k⟩,i⟩))
 all_goals
  have v:=F (I.o c b g d e k i);go_wp2;go_ret;exact⟨g,A,v.o⟩
def Mn {B i:D}{o f:Pt}{y:QE}(z:i<16)(F:B=g.heap.size)(v:(Pt.ext q k o).At g)(R:(Pt.ext q k o).fG)(V:T g g s)(Y:s.heap.size=g.heap.size+1)
 (w:s.heap[B]?=θ #[I,ω,ω,ω,ω,ω,ω,ω,ω,ω,ω,ω,ω,ω,ω,ω,ω] 500) (t:o.gF y s l f) (O:T s s l):
 let h:=Pt.branch B ⟨#[]⟩ (cZ (λ_=>.nil) i f);let J:=l.setCell (B,1+i) f.cm
 l (B,1+i)=ω/\l.frozen? (B,1+i)=X/\h.At J/\h.fG/\h.dZ/\(∀d,h.fT d->o.fT d\/g<=d)/\T g g J/\h.bu=3+f.bu/\h.bw=1+f.bw:=by
 intro h J;have K:=O.ke w;have M:=aF (j:=1+i) f.cm K;have W:(#[I,ω,ω,ω,ω,ω,ω,ω,ω,ω,ω,ω,ω,ω,ω,ω,ω]:Q S)=Pt.bc ⟨#[]⟩ λ_=>ω:=A;have L:∀d,o.fT d->d<g:=λd e=>Pt.hR v.2 e;have P:∀d,f.fT d->o.fT d\/s<=d:=t.cn;have U:¬f.fT B:=λb=>by
  rcases P B b with b|b
  .have:=L B b;omega
  omega
 have j:∀a,a≠i->cZ (λ_=>Pt.nil) i f a=.nil:=λa c=>bX _ _ c;have u:cZ (λ_=>Pt.nil) i f i=f:=cy _ _ _;refine⟨?_,aI K _,⟨?_,λa r=>?_⟩,⟨λa r=>?_,λa N r G x d e n=>?_⟩,λa r=>?_,λd e=>?_,?_,?_,?_⟩
 .rw[QH K,W];exact Pt.lL _ _ z
 .show J.heap[B]?=_;rw[M.at_,W,Pt.uh _ _ z,du Pt.cm];rfl
 .by_cases c:a=i
  .subst c;rw[u];exact Pt.at_frame t.eg λd e=>M.old d λm=>U (by subst m;exact e)
  rw[j a c];trivial
 .by_cases c:a=i
  .subst c;rw[u];exact⟨U,t.fG⟩
  rw[j a c];exact⟨λb=>b,trivial⟩
 .by_cases c:a=i
  .subst c;rw[j N (λm=>x m.s)] at n;exact n.elim
  rw[j a c] at e;exact e.elim
 .by_cases c:a=i
  .subst c;rw[u];exact t.dZ
  rw[j a c];trivial
 .rcases e with e|⟨a,r,e⟩
  .exact Θ H
  by_cases c:a=i
  .subst c;rw[u] at e;exact(P d e).imp_right λb=>by omega
  rw[j a c] at e;exact e.elim
 .exact M.aE _ _ H (V.t (O.m V.z))
 .have Z:=dS (f:=λ_=>0) z f.bu;show 3+(di λa=>(cZ (λ_=>Pt.nil) i f a).bu)=_;rw[du Pt.bu];show 3+di (cZ (λ_=>0) i f.bu)=_;have p:di (λ_=>0)=0:=A;omega
 have Z:=dS (f:=λ_=>0) z f.bw;show 1+(di λa=>(cZ (λ_=>Pt.nil) i f a).bw)=_;rw[du Pt.bw];show 1+di (cZ (λ_=>0) i f.bw)=_;have p:di (λ_=>0)=0:=A;omega
def rW (f:S)(o:g.heap[w]?=K h p)(j:a≠w):(g.setCell (w,q) f) (a,i)=g (a,i):=
 GQ ((aF (j:=q) f o).old a j)
theorem yz (j:D)(f:QE)(o:Pt)(c d4:QE)(b:D)(e:ν)(V:(Pt.ext j f o).At e)(ab:(Pt.ext j f o).fG)(P:(Pt.ext j f o).dZ)(Y:Nib.bF (bs c)=ψ)(g2:c.size<=100000)(c0:(Pt.ext j f o).bu<=80000)(R:b=Nib.bT f.data.toList c.data.toList)(b9:b<f.size):
 τ γ 417 #[ξ j,O c,O d4] e λq n=>∃v,q=ι v.cm/\(Pt.ext j f o).dT c e n v:=by
 obtain⟨c8,c1⟩:=at_ptr2 V.1;have e8:(Pt.ext j f o).bu=f.size+1+o.bu:=A;obtain⟨p,I,ae⟩:=Pt.fA P.2.1;rw[ae] at c1;have L:=F (λe=>Nib.jG f c e H H);rw[<-R] at L;have af:b=Nib.bT (bs f) (bs c):=R;have b7:=ld (bs f) (bs c);rw[aX,aX,<-af] at b7;have g5:(0:C)<=(b:C):=H;have g6:(b:C)<(f.size:C):=H;have g7:(b:C)<=(c.size:C):=H;have g8:((b:C)==(f.size:C))=σ:=by simp;omega
 have g9:η.wrap ((b:C)+1)=(b:C)+1:=GD _ H;have h0:(b:C)+1<=(f.size:C):=H;have h3:(0:C)<=(b:C)+1:=H;have f0:=nO P.1 b9;have h1:((f[b].toNat:D):C)<16:=H;have h2:(0:C)<=((f[b].toNat:D):C):=H;have z:Φ (Nib.bF (bs (f.extract (b+1) f.size))=ψ/\(f.extract (b+1) f.size).size=f.size-(b+1)/\Nib.bF (bs (c.extract b c.size))=ψ/\(c.extract b c.size).size=c.size-b/\Nib.bF (bs (c.extract 0 b))=ψ/\(c.extract 0 b).size=b):=F ⟨by rw[dt];exact fq P.1 _,by rw[ax];omega,by rw[dt];exact fq Y b,by rw[ax];omega,by rw[ou];exact ui Y b,by rw[ax];omega⟩;have d8:Φ (∀(a:0<(c.extract b c.size).size),(c.extract b c.size)[0].toNat≠f[b].toNat):=F λa=>by
  have y:0<(f.extract b f.size).size:=by rw[ax];omega
  have:=AF af y a;have U:=fh y;rw[dt,JV,JC,fh b9] at U;rw[<-Gm U] at this;exact this
 clear R af b7;go_enter func417,ntmps417;go_upto_region 5 with((with_reducible refine(L.o _).m ?_);rintro q wd ⟨rfl,f4,f2⟩;subst f2);obtain⟨t,d1,K⟩:=aU (e.drewN f4) (θ #[O ⟨#[]⟩,ω,ω,ω,ω,ω,ω,ω,ω,ω,ω,ω,ω,ω,ω,ω,ω] 500);rw[d1];have f3:t.heap.size=e.heap.size+1:=K.aH;have d0:t.cell? j=M (O f):=Below.ce K.aE c8;have a2:t.cell? ⟨j,1,J⟩=M (Δ p I):=Below.ce K.aE c1;have G:T e e t:=⟨K.aE.os,K.aE.tape,K.aE.output,K.aE.z,K.aE.b⟩;have b4:∀ah,τ γ 413 #[O (f.extract (b+1) f.size),Δ p I] (t.drewN ah) λq n=>(∃d,q=ι d.cm/\o.gF (f.extract (b+1) f.size) t n d)/\T t t n:=λah=>by
  rw[<-ae];exact(iN _ o P.2.1 (t.drewN ah) (Pt.at_frame (Pt.at_below V.2 G) (λ_ _=>rfl)) ab.2 P.2.2 z.1 (by have:=z.2.1;omega) H).m λq n ⟨⟨d,y,a⟩,x⟩=>⟨⟨d,y,⟨a.eg,a.fG,a.dZ,a.cn,a.some,a.bu,a.bw,a.bZ⟩⟩,⟨x.os,x.tape,x.output,x.z,x.b⟩⟩
 have d9:Φ (τ γ 413 #[O (f.extract (b+1) f.size),Δ p I] t.drew λq n=>(∃d,q=ι d.cm/\o.gF (f.extract (b+1) f.size) t n d)/\T t t n):=F (b4 1);have d6:Φ (∀d l,o.gF (f.extract (b+1) f.size) t l d->T t t l->_):=F λd l k w=>Mn (B:=e.heap.size) (i:=f[b].toNat) f0 A V ab G f3 K.at_ k w;have ak:Φ (∀h,o.fT h->(Pt.ext j f o).fT h):=F λh r=>Θ r;have s:Φ ((Pt.ext j f o).bu=f.size+1+o.bu/\(Pt.ext j f o).bu<=80000):=F ⟨A,c0⟩;have b5:j≠e.heap.size:=by have:=aw V.1;omega
 have e0:Φ (∀l,T t t l->∀h,(l.setCell ⟨e.heap.size,1+f[b].toNat,J⟩ h).cell? j=l.cell? j/\(l.setCell ⟨e.heap.size,1+f[b].toNat,J⟩ h).cell? ⟨j,1,J⟩=l.cell? ⟨j,1,J⟩):=F λl w h=>by
  have b3:l.heap[e.heap.size]?=_:=Below.ke w K.at_;exact⟨rW h b3 b5,rW h b3 b5⟩
 have f9:=F G;clear b4 K c8 c1 d1 V ab P ae G e8 c0 Y L;go_region_held3 (λn=>n.cell? j=M (O f)/\n.cell? ⟨j,1,J⟩=M (Δ p I)) (first|(exact⟨a3,U⟩)|(exact⟨(c3 _).1.t a3,(c3 _).2.t U⟩)|(exact⟨d0,a2⟩)|go_keep) (first|((with_reducible refine d9.o.m ?_);rintro q l ⟨⟨d,rfl,k⟩,w⟩;have a3:=Below.ce w d0;have U:=Below.ce w a2;have c3:=e0.o l w;obtain⟨f5,f6,c6⟩:=Pt.fA k.some;obtain⟨e2,e4,a4,a5,a6,a7,a8,a9,b0⟩:=d6.o d l k w;have u:=F (W a4 (W a5 (W a6 (W a7 (W a8 (W a9 b0))))));rw[c6] at u ⊢;have N:=F (W k.bu k.bw);clear a4 a5 a6 a7 a8 a9 b0 k w));all_goals
  obtain⟨m,f1⟩:∃m,l.setCell ⟨e.heap.size,1+f[b].toNat,J⟩ (Δ f5 f6)=m:=⟨_,A⟩;rw[f1] at u;obtain⟨i,S⟩:∃i,i=cZ (λ_=>Pt.nil) f[b].toNat d:=⟨_,A⟩;rw[<-S] at u;have b6:∀ag,ag≠f[b].toNat->i ag=.nil:=λag r=>by rw[S];exact bX _ _ r
  have al:=F (ri e.heap.size ⟨#[]⟩ i (c.extract b c.size) d4 m z.2.2.1 (by have:=z.2.2.2.1;omega) u.1 u.2.1 u.2.2.1 (λa=>b6 _ (d8.o a)));clear b6 S e2 e4 c6;go_wp2_with ((with_reducible refine al.o.m ?_);rintro q Z ⟨a1,d3,rfl,X,e7,c7,c2⟩;have aj:Φ (τ γ 413 #[O (c.extract 0 b),Δ 497 (ξ (M ⟨e.heap.size,0,J⟩))] Z λq n=>(∃v,q=ι v.cm/\(Pt.branch e.heap.size a1 d3).gF (c.extract 0 b) Z n v)/\T Z Z n):=F (iN (c.extract 0 b) (.branch e.heap.size a1 d3) sm Z X.eg X.fG X.dZ z.o.2.2.2.2.1 (by have:=z.o.2.2.2.2.2;omega) (by have y:=u.o.2.2.2.2.2.1;have a:=z.o.2.2.2.1;have x:=N.o.1;have b2:=z.o.2.1;have e5:=s.o.1;have e6:=s.o.2;omega));have g:=F (W X (W c7 c2));clear X e7 c7 c2 al);go_wp2_with ((with_reducible refine aj.o.m ?_);rintro q f7 ⟨⟨v,rfl,k⟩,e1⟩);have g3:=u.2.2.2.2.1.z;have g4:=g.1.only.aH;have ai:Φ (∃a0,ι v.cm=ι a0.cm/\(Pt.ext j f o).dT c e f7 a0):=F ⟨v,A,k.eg,k.fG,k.dZ,λh d2=>?_,?_,k.some,?_,?_⟩
  .clear aj k;generalize v.cm=f8 at ai;go_ret;exact ai.o
  .rcases k.cn h d2 with r|r
   .rcases g.1.cn h r with r|r
    .exact(u.2.2.2.1 h r).imp_left (ak.o h)
    exact Θ H
   exact Θ H
  .have e9:aL (Pt.ext j f o).fT e m:=aL.aE u.2.2.2.2.1 _;exact(e9.gU g.1.only λh d2 r=>(u.2.2.2.1 h r).elim (ak.o h) (λr=>by omega)).then e1
  .have y:=k.bu;have a:=g.2.1;have x:=u.2.2.2.2.2.1;have b2:=z.2.2.2.1;have e5:=z.2.2.2.2.2;have e6:=N.1;have g0:=z.2.1;have g1:=s.1;omega
  have y:=k.bw;have a:=g.2.2;have x:=u.2.2.2.2.2.2;have b2:=N.2;show v.bw<=1+o.bw+3;omega
def yA:∀w:Pt,w.sS
 |.nil=>λa e g _ _ _ h _ _=>(pY a e g h).m λx F ⟨⟨d,G,c⟩,_⟩=>⟨_,G,⟨c.eg,c.fG,c.dZ,c.cn,c.only,c.some,c.bu,c.bw⟩⟩
 |.none=>Ml
 |.leaf d b y=>λa e g i _ k h l m=>Sw d b y a e g i k h l (by have:(Pt.leaf d b y).bu=b.size+2:=A;omega)
 |.ext d b r=>λa e g i n k h l m=>by
  have t:=ld (bs b) (bs a);rw[aX] at t;by_cases c:Nib.bT b.data.toList a.data.toList=b.size
  .exact wj d b r a e g i n k h l m (yA r) c
  exact yz d b r a e _ g i n k h l m A (by have:Nib.bT b.data.toList a.data.toList<=b.size:=t.1;omega)
 |.branch d v s=>λa e g i n k h l m=>by
  by_cases f:a.size=0
  .exact(uK d v s a e g f i n k).m λx F ⟨p,q⟩=>⟨_,p,q⟩
  exact(AE d v s a e g H h l i n k (λ_=>m) (λ_=>yA _)).m λx F ⟨I,p,q,_⟩=>⟨_,p,q⟩
def uM (t:E dh)(o:E fj)(z:He)(M:L):Prop:=
 (∃u:C,z=f #[P J 0 0,u]/\1<=u/\u<=12/\¬(bD t/\(∀K∈o,K.wC=U)/\t.length+o.length<=40))\/
  ∃A j,z=f #[A,G 0]/\cq M A j/\bD j/\(j.map mk).Perm (o.foldl ji (t.foldl iJ []))
def VZ {t:E fj}{K:E dh}{j:fj}(z:t[w]?=j)(u:j.wC=X)(M:L):uM K t (ι (f #[P J 0 0,G 1])) M:=
 o ⟨1,A,H,H,λd=>by have:=d.2.1 j (Gl z);rw[u] at this;cases this⟩
def uN (f:T w g s)(t:s.mapTurned l q)(o:w<=q)(j:w<=(s:D)):T w g l:=
 f.t ((aL.dD (aL.bQ (· =q) s) t (λ_=>rfl)).cE j λa c=>by subst c;exact o)
def cq.bZ {u:E dh}(b:cq g m u):∃t f,m=P t u.length f/\∀a d,u[a]?=M d->∃j o,t=M ⟨j,o,J⟩/\a<f/\g ⟨j,o+a*2,J⟩=O d.1/\g ⟨j,o+a*2+1,J⟩=O d.2:=by
 rcases b with⟨t,f,rfl,rfl⟩|⟨j,o,f,rfl,K,z⟩
 .exact⟨t,f,A,λa d b=>by simp at b⟩
 exact⟨_,f,A,λa d b=>⟨j,o,A,by have:=(Gg.1 b).1;omega,z a d b⟩⟩
def eh.bZ {u:E fj}(c:eh g m u):∃t f,m=P t u.length f/\∀a b,u[a]?=M b->∃j o,t=M ⟨j,o,J⟩/\a<f/\g ⟨j,o+a*3,J⟩=O b.fe/\g ⟨j,o+a*3+1,J⟩=O b.cm/\g ⟨j,o+a*3+2,J⟩=z b.eB:=by
 rcases c with⟨t,f,rfl,rfl⟩|⟨j,o,f,rfl,U,K⟩
 .exact⟨t,f,A,λa b c=>by simp at c⟩
 exact⟨_,f,A,λa b c=>⟨j,o,A,by have:=(Gg.1 c).1;omega,K a b c⟩⟩
def eT {o:Type}{f:E o}{j:o}(t:f[w]?=j):f.take (w+1)=f.take w++[j]:=by
 rw[KX,t];rfl
def lS {f:E dh}(K:g.ownsRow w 73 2 m (f:D) (f.flatMap λa=>[O a.1,O a.2])):cq g m f:=by
 rcases fy (enc:=λa:dh=>[O a.1,O a.2]) (λ_=>rfl) K with⟨rfl,M⟩|⟨P,z,rfl,u,_,_,t⟩
 .exact o ⟨J,0,A,M⟩
 refine j ⟨P,0,z,A,u,λe a d=>⟨?_,?_⟩⟩
 .have:=t e a 0 d r;simpa using this
 have:=t e a 1 d r;simpa using this
def Mo (o:gD n){f:E (IA×QX S)}(c:f.Perm (n.map hd)):((strKeys (.map f)).map Lit.string).Perm (n.map (·.1)):=by
 have j:((n.map hd).map λb=>Lit.string (strOf b.1))=n.map (·.1):=by
  rw[Js];refine Kz λb c=>?_;obtain⟨t,rfl,_⟩:=o b c;rfl
 rw[<-j,Js];simp only[strKeys,Js];have:=c.map λb:IA×QX S=>Lit.string (strOf b.1);rwa[Js] at this
def xm (a0 f4:π)(t:E dh)(o:E fj)(u:ν)(b7:cq u a0 t)(f2:eh u f4 o)(h9:(t:D)<=1000)(i0:(o:D)<=1000):
 τ N 92 #[a0,f4] u λb p=>uM t o b p/\T u u p:=by
 have a6:=kN a0 t u b7 H;obtain⟨i3,i4,rfl,G⟩:=f2.bZ;obtain⟨i5,i6,rfl,Y⟩:=b7.bZ;clear f2 b7;go_enter func92,ntmps92;go_wp2_with fail;go_call a6 as b i8 ⟨⟨n,rfl,b9,g9,f1⟩,b1⟩;by_cases aa:n=0
 .subst aa;have d3:=F (b9.1 A);clear a6 b9 g9 f1;have j1:((0:C) !=0)=σ:=dc;go_wp2;go_loopw [24] (λa wr=>∃f:D,f<=(o:D)/\a=ϑ f/\T u u wr/\Φ (∀q d,q<f->o[q]?=δ d->d.wC=ψ)) (λa _=>(o:D)-(QI a).toNat)
  .exact⟨0,QK,A,b1,F (λq d r=>H)⟩
  obtain⟨f,w,rfl,j,h⟩:=hrel;by_cases V:f<(o:D)
  .let⟨d,m⟩:∃d,o[f]?=δ d:=⟨_,Gf V⟩;obtain⟨c2,c3,rfl,b2,K,P,s⟩:=G f _ m;have K:=j.ce K;have P:=j.ce P;have s:=j.ce s;have W:=F m;clear m G Y;let⟨g,c1,L⟩:=aU wr (θ #[O d.fe,O d.cm,υ d.eB] 56);have f7:=cJ 0 L.at_;have f5:=cJ 1 L.at_;have g2:=cJ 2 L.at_;have J:=F (j.t (L.aE.m j.z));have h5:=F L.aH;clear L;let⟨aj,x,y⟩:=d;have b5:=QC (fj.wC ⟨aj,x,y⟩=σ->uM t o (ι (χ #[ο ζ 0 0,ϑ 1])) g) λr=>VZ W.o r g;have e9:Φ (fj.wC ⟨aj,x,y⟩=ψ->∀q d,q<f+1->o[q]?=δ d->d.wC=ψ):=F λr q d b0 m=>by
    rcases KG q f with v|v
    .exact h.o q d v m
    cases(H:q=f);rw[W.o] at m;cases Gm m;exact r
   simp only at K P s f7 f5 g2 c1;have Z:=F c1;clear c1;cases R:gm aj with
   |false=>
    have X:=F (b5.o (by simp[fj.wC,R]));go_wp2_with (first|(go_at_call 167;go_call eJ _ _ as b p ⟨rfl,rfl⟩)|(go_at_call 168;go_call eb _ _ as b p ⟨rfl,rfl⟩));go_ret2;exact⟨Z.o▸X.o,Z.o▸J.o⟩
   |true=>
    cases y with
    |true=>
     by_cases i:x.size=0
     .have h2:=cj i;have X:=F (e9.o (by simp[fj.wC,R,i]));go_wp2_with (first|(go_at_call 167;go_call eJ _ _ as b p ⟨rfl,rfl⟩)|(go_at_call 168;go_call eb _ _ as b p ⟨rfl,rfl⟩));go_roundw
      .exact⟨f+1,H,gN,Z.o▸J.o,X⟩
      simp[QI];omega
     have h2:=cp (H:0<x.size);have X:=F (b5.o (by simp[fj.wC,R,i]));go_wp2_with (first|(go_at_call 167;go_call eJ _ _ as b p ⟨rfl,rfl⟩)|(go_at_call 168;go_call eb _ _ as b p ⟨rfl,rfl⟩));go_ret2;exact⟨Z.o▸X.o,Z.o▸J.o⟩
    |false=>
     cases e0:mB x with
     |false=>
      have X:=F (b5.o (by simp[fj.wC,R,e0]));go_wp2_with (first|(go_at_call 167;go_call eJ _ _ as b p ⟨rfl,rfl⟩)|(go_at_call 168;go_call eb _ _ as b p ⟨rfl,rfl⟩));go_ret2;exact⟨Z.o▸X.o,Z.o▸J.o⟩
     |true=>
      have X:=F (e9.o (by simp[fj.wC,R,e0]));go_wp2_with (first|(go_at_call 167;go_call eJ _ _ as b p ⟨rfl,rfl⟩)|(go_at_call 168;go_call eb _ _ as b p ⟨rfl,rfl⟩));go_roundw
      .exact⟨f+1,H,gN,Z.o▸J.o,X⟩
      simp[QI];omega
  have d2:Φ (∀d∈o,d.wC=ψ):=F λd m=>by
   let⟨q,b0⟩:=GI.1 m;exact h.o q d (oA (Gg.1 b0).1) b0
  obtain⟨U,rfl⟩:∃U:ν,U=wr:=⟨_,A⟩;have g7:=@run_makeMap N;have ab:=F (bj.pk U N 9);have d6:T u u (U.alloc (Lz #[] 0)):=j.a j.z _;have a5:=j.z;clear h w j;go_wp2;clear g7;go_loopw [56] (λa wr=>∃f:D,f<=(t:D)/\a=ϑ f/\T u u wr/\Φ (bj N wr 9 (U:D) ((t.take f).foldl iJ []))) (λa _=>(t:D)-(QI a).toNat)
  .exact⟨0,QK,A,d6,ab⟩
  obtain⟨f,w,rfl,j,M⟩:=hrel;by_cases V:f<(t:D)
  .let⟨b,i⟩:∃b,t[f]?=δ b:=⟨_,Gf V⟩;obtain⟨c2,c3,rfl,b2,K,P⟩:=Y f _ i;have K:=j.ce K;have P:=j.ce P;have l:b.1.size<=Ie:=by have:=nE (d3.o.ent b (Gl i)).1;unfold Ie;omega
   have W:=F (eT i);clear G Y i;have I:bj N (wr.alloc (θ #[O b.1,O b.2] 73)) 9 (U:D) ((t.take f).foldl iJ []):=M.o.aM (QP M.o.lt);have J:=F (j.a j.z (θ #[O b.1,O b.2] 73));have b3:((t.take f).foldl iJ []).length<Ie:=by have:=lE (t.take f) [];simp at this;unfold Ie;omega
   clear M j;go_wp2_with (at_mapUpdate;refine wS dH Li I b3 (dW l) ?_;intro c0 c6 S);go_roundw
   .exact⟨f+1,H,gN,uN J.o S a5 J.o.z,F (by rwa[W.o,KY])⟩
   simp[QI];omega
  obtain rfl:f=(t:D):=H;have ab:Φ (bj N wr 9 (U:D) (t.foldl iJ [])):=by have:=M.o;rw[Iy] at this;exact F this
  obtain⟨f3,rfl⟩:∃f3:ν,f3=wr:=⟨_,A⟩;let⟨e,ag⟩:∃e,e=t.foldl iJ []:=⟨_,A⟩;have h7:(e:D)<=(t:D):=by have:=lE t [];simp at this;rwa[ag]
  rw[<-ag] at ab;have d4:=F ag;clear M ag Y d6 w V;go_wp2;go_loopw [67] (λa wr=>∃f:D,f<=(o:D)/\a=ϑ f/\T u u wr/\Φ (bj N wr 9 (U:D) ((o.take f).foldl ji e))) (λa _=>(o:D)-(QI a).toNat)
  .exact⟨0,QK,A,j,ab⟩
  clear j;obtain⟨f,w,rfl,j,M⟩:=hrel;by_cases V:f<(o:D)
  .let⟨d,m⟩:∃d,o[f]?=δ d:=⟨_,Gf V⟩;obtain⟨c2,c3,rfl,b2,K,P,s⟩:=G f _ m;have K:=j.ce K;have P:=j.ce P;have s:=j.ce s;have l:d.fe.size<=Ie:=by have:=Zb (d2.o d (Gl m));unfold Ie;omega
   have W:=F (eT m);have b3:((o.take f).foldl ji e).length<Ie:=by have:=lF (o.take f) e;simp at this;unfold Ie;omega
   clear m G;have I:bj N (wr.alloc (θ #[O d.fe,O d.cm,υ d.eB] 56)) 9 (U:D) ((o.take f).foldl ji e):=M.o.aM (QP M.o.lt);have J:=F (j.a j.z (θ #[O d.fe,O d.cm,υ d.eB] 56));clear M j;let⟨aj,x,y⟩:=d;simp only at K P s I J l;cases y with
   |true=>
    go_wp2_with (at_delete;refine kJ A _ _ 293 9 A 73 dH Li _ _ A I _ _ A (dW l) ?_;intro c0 c6 S);go_roundw
    .exact⟨f+1,H,gN,uN J.o S a5 J.o.z,F (by rwa[W.o,KY])⟩
    simp[QI];omega
   |false=>
    go_wp2_with (at_mapUpdate;refine wS dH Li I b3 (dW l) ?_;intro c0 c6 S);go_roundw
    .exact⟨f+1,H,gN,uN J.o S a5 J.o.z,F (by rwa[W.o,KY])⟩
    simp[QI];omega
  obtain rfl:f=(o:D):=H;have ae:=M.o;rw[Iy] at ae;let⟨c,af⟩:∃c,c=o.foldl ji e:=⟨_,A⟩;have g4:=lF o e;rw[<-af] at ae g4;have f9:=F af;have a2:gD c:=by rw[af,d4.o];exact wE o _ (wD t _ (λi7 r=>by cases r) d3.o.ent) d2.o
  clear M af G w V;by_cases h6:(c:D)<=40
  .let⟨a3,a8,ai⟩:=ae;have k:bj N wr 9 (U:D) c:=⟨a3,a8,ai⟩;have b6:Maps.size (DataW.map a3)=(c:D):=by show (a3:D)=_;rw[ai.length_eq,Hp]
   have a4:=k.fc dH;have e2:=Mo a2 ai;have h1:¬(40:C)<((c:D):C):=H;have aa:∀u,(Xs 73).run N u=Je (Γ #[eS,eS]) u:=λ_=>Qz;go_wp2_with (first|(at_len;refine Cg A _ 293 A 9 73 Li _ _ A k ?_)|(go_at_call 170;go_call callsIn_wide.1 (Tryz.maps_Keys_170 _ _) as b p ⟨rfl,rfl⟩));go_call callsIn_wide.1 (Tryz.slices_Sorted_keys_169_170 _ _ _ _ _ a8 (by rw[b6];unfold Ie;omega) (oA b6)) as b g ⟨a0,a9,rfl,e4,c8,h0,b4⟩;obtain⟨z,ah,a1,a7,f6⟩:=Ck a2 a4 ((((List.mergeSort_perm a9 _).trans e4).map Lit.string).trans e2) (by
    have:=List.pairwise_mergeSort (le:=λc4 c5:E QO=>LH (c4<=c5)) (λc7 d1 d v g3=>by simp only[XE] at *;exact List.le_trans v g3) (λc7 d1=>by simp only[Bool.or_eq_true,XE];exact List.le_total c7 d1) a9
    exact this.imp λr=>sU r)
   have g5:(z:D)=(c:D):=sU a1.length_eq;have e8:(a9:D)=(z:D):=by have v:=Xl List.length ah;rw[Hp,NX] at v;omega
   have e5:(a9.mergeSort (λc4 c5=>LH (c4<=c5))).map encStr=(z.map (·.1)).map O:=by rw[<-ah,Js,Js];rfl
   rw[e5,e8] at c8;have f0:=da (xs:=z.map (·.1)) (by rwa[Hp]);obtain⟨i1,i2,rfl,e7⟩:=f0.bZ;rw[Hp];have d8:T u u g:=(j.a j.z _).t (b4.m (by simp;have:=j.z;omega));have d9:=k.aM ((b4.b _ (by simp;have:=k.lt;omega)).t (QP k.lt));have g0:=QC (∀b∈z,aT c (kl b.1)=Γ #[O b.1,O b.2]/\b.1.size<=Ie) λb i=>by
    have e6:(kl b.1,ev b)∈c:=a1.mem_iff.1 (Ky (f:=mk) i);exact⟨mx (k.xR dH _ e6) a4 e6,by have:=nE (a7 b i).1;unfold Ie;omega⟩
   have f8:=F (Vd (es:=z) (by rwa[ah]) a7 H);have g1:=QC ((z.map mk).Perm (o.foldl ji (t.foldl iJ []))) (by rwa[<-d4.o,<-f9.o]);have h8:(z:D)<=40:=H;clear ah a1 a7 f6 e5 c8 f0 e4 h0 b4 e2 a4 b6 a8 ai k e8 g5 a2 j;go_wp2;go_loopw [14,92] (λh3 a wr=>∃f:D,f<=(z:D)/\a=ϑ f/\T g g wr/\Φ (wr.ownsRow (g:D) 73 2 h3 f ((z.take f).flatMap λb=>[O b.1,O b.2]))) (λ_ a _=>(z:D)-(QI a).toNat)
   .exact⟨0,QK,A,QG,F QN⟩
   obtain⟨f,w,rfl,j,h⟩:=hrel;by_cases V:f<(z:D)
   .let⟨b,i⟩:∃b,z[f]?=δ b:=⟨_,Gf V⟩;obtain⟨c2,c3,rfl,b2,K⟩:=e7 f b.1 (by rw[Ip,i];rfl);have K:=j.ce K;let⟨g6,l⟩:=g0.o b (Gl i);have W:=F (eT i);have I:=d9.aM (j.b _ d9.lt);have e1:=j.z;clear i e7;go_wp2_with (first|(at_lookup;refine wL dH Li (aa _) I (dW l) ?_;rw[g6])|(at_builtin;refine aP ue h.o e1 ?_;intro j0 c0 h4 g8));go_roundw
    .exact⟨f+1,H,gN,g8.cT h.o j e1,F (by rwa[W.o,Hj])⟩
    simp[QI];omega
   obtain rfl:f=(z:D):=H;go_wp2;go_ret2;refine⟨Θ ⟨_,z,A,lS (by have:=h.o;rwa[Iy] at this),f8.o,g1.o⟩,d8.t (j.m d8.z)⟩
  have h1:(40:C)<((c:D):C):=H;go_wp2_with (at_len;apply Cg A _ 293 A 9 73 Li _ _ A ae);go_ret2;exact⟨Ξ ⟨12,A,H,H,λr=>oA r.2.2⟩,j⟩
 have i9:(n !=0)=ψ:=by simp[aa]
 clear a6 G Y;go_wp2;go_ret2;exact⟨Ξ ⟨n,A,H,f1,λr=>aa (b9.2 r.1)⟩,b1⟩
def xn:hD 37 56 3:=.of (z:=t #[I,I,υ X]) (bytes:=40) underlying37 e r A r
def cv (f:fj):E S:=[O f.fe,O f.cm,z f.eB]
def uO {t:E fj}(K:g.ownsRow w 56 3 m t.length (t.flatMap cv)):eh g m t:=by
 rcases fy (enc:=cv) (λ_=>rfl) K with⟨rfl,M⟩|⟨O,z,rfl,u,_,_,f⟩
 .exact o ⟨J,0,A,M⟩
 refine j ⟨O,0,z,A,u,λe a d=>⟨?_,?_,?_⟩⟩
 .have:=f e a 0 d r;simpa[cv] using this
 .have:=f e a 1 d r;simpa[cv] using this
 have:=f e a 2 d r;simpa[cv] using this
def EO (t j:E dh)(a:He)(u:L):Prop:=∃o f,a=ι o/\(eh u o f/\iZ u o 56)/\f.length<=t.length+j.length/\(bD j->t=[]->f=j.map λa=>⟨a.1,a.2,X⟩)/\(bD t->bD j->∀z∈f,z.fe.size<=6)
def AG (o t:E dh)(B:D)(A:S)(z j:D)(J:L):Prop:=
 ∃f,J.ownsRow B 56 3 A f.length (f.flatMap cv)/\f.length<=z+j/\(o=[]->f=(t.take j).map λb=>⟨b.1,b.2,X⟩)/\(bD o->bD t->∀u∈f,u.fe.size<=6)
def AG.mP {o t:E dh}{j u:D}{v':S}{f:E fj}(K:f.length<=q+j){c:fj}(e:g.ownsRow w 56 3 v' (f.length+1) (f.flatMap cv++cv c))(M:q+j<i+u)
 (A:o=[]->f++[c]=(t.take u).map λm=>⟨m.1,m.2,X⟩) (J:bD o->bD t->∀c∈f,c.fe.size<=6) (z:bD o->bD t->c.fe.size<=6):AG o t w v' i u g:=
 ⟨f++[c],by rw[Gk,Hj];simpa using e,by rw[Gk];simp;omega,A,λh k r l=>(GO.1 l).elim (J h k r) λe=>by obtain rfl:=GA.1 e;exact z h k⟩
def uP {o:E dh}{f:dh}(t:o[w]?=f)(u:bD o):f.1.size<=6:=by
 have j:=(u.ok w f t).1;simp only[gm,Jc] at j;exact XG j.2
theorem AH (T S:π)(f t:E dh)(W:ν)(p:cq W T f)(I:cq W S t)(d6:f.length<=1000)(d8:t.length<=1000):
 τ γ 94 #[T,S] W λs a5=>EO f t s a5/\ρ W W a5:=by
 have af:=kN T f W p H;have ab:=Ga λr b1=>kN S t r (I.aE b1) H;obtain⟨e4,e5,rfl,w⟩:=p.bZ;obtain⟨e0,e1,rfl,i⟩:=I.bZ;clear p I;go_enter func94,ntmps94;go_wp2_with fail;go_call af as s r ⟨⟨n,rfl,Y,a9,b0⟩,b1⟩;by_cases v:n=0
 .subst v;have e6:((0:C) !=0)=X:=dc;go_wp2_with fail;go_call ab.o r b1 as s F ⟨⟨n,rfl,U,a7,a8⟩,J⟩;by_cases v:n=0
  .subst v;have K:ρ W W F:=b1.t (J.m b1.z);clear af ab Y U a9 a7 b0 a8 b1 J;go_wp2;go_loopw [5,6,7] (λc0 iv q wr=>∃b j:D,b<=f.length/\j<=t.length/\iv=ϑ b/\q=ϑ j/\ρ F F wr/\Φ (AG f t F.heap.size c0 b j wr)) (λ_ iv q _=>f.length+t.length-(QI iv).toNat-(QI q).toNat)
   .exact⟨0,0,by omega,by omega,A,A,QG,Ga ⟨[],QN,by simp,λ_=>rfl,λ_ _ a4 a=>by cases a⟩⟩
   obtain⟨b,j,d2,d3,rfl,rfl,u,ae⟩:=hrel;obtain⟨R,ah,e,ai,a0⟩:=ae.o;have Z:=Ga a0;have o:=Ga (κ ah ai);have M:=u.z;clear ae ah ai a0;by_cases b4:j<t.length
   .obtain⟨z,x⟩:∃z,t[j]?=δ z:=⟨_,Gf b4⟩;obtain⟨d1,e2,rfl,d4,a2,a3⟩:=i j _ x;have a2:=(K.t (u.m K.z)).ce a2;have a3:=(K.t (u.m K.z)).ce a3;have b2:=Ga (eT x);have m:=Ga (λg=>uP x g);have b7:((j:C)==(t.length:C))=X:=by simp;omega
    have ag:=QC (f=[]->R++[⟨z.1,z.2,X⟩]=(t.take (j+1)).map λs=>⟨s.1,s.2,X⟩) λa=>by rw[b2.o,Io,o.2 a];rfl
    by_cases c:b<f.length
    .obtain⟨O,d⟩:∃O,f[b]?=δ O:=⟨_,Gf c⟩;obtain⟨b3,b9,rfl,b5,y,N⟩:=w b _ d;have y:=(K.t (u.m K.z)).ce y;have N:=(K.t (u.m K.z)).ce N;have b6:((b:C)==(f.length:C))=X:=by simp;omega
     have h:=QC (f≠[]) λa=>by rw[a] at c;simp at c
     have G:=Ga (λg=>uP d g);clear d x w i;cases c3:Op.bytesLess O.1.toList z.1.toList with
     |true=>
      go_wp2;go_quiet (fail);go_wp2_with (at_builtin;refine ym xn A _ _ A A o.1 A _ A (by simp[φ]) H M ?_;intro l k V P);go_roundw
      .exact⟨b+1,j,by omega,by omega,by go_num,A,(aL.eM P).cT o.1 u M,Ga (AG.mP e (c:=⟨O.1,⟨#[]⟩,ψ⟩) V H (λa=>absurd a h.o) Z.o (λg _=>G.o g))⟩
      simp[QI];omega
     |false=>
     cases c6:Op.bytesLess z.1.toList O.1.toList with
     |true=>
      go_wp2;go_quiet (fail);go_wp2;go_quiet (fail);go_wp2;go_region_law (refine gX xn A _ _ rf rf (by exact o.1) rf _ rf (by simp[φ]) H (by exact M) ?_;intro l k V P)
      all_goals
       go_wp2;go_roundw
       .exact⟨b,j+1,by omega,by omega,A,by go_num,(aL.eM P).cT o.1 u M,Ga (AG.mP e (c:=⟨z.1,z.2,X⟩) V H ag.o Z.o (λ_ g=>m.o g))⟩
       simp[QI];omega
     |false=>
      cases c2:(O.2.toList==z.2.toList) with
      |true=>
       go_wp2;go_quiet (fail);go_wp2;go_quiet (fail);go_wp2;go_quiet (fail);go_wp2;go_roundw
       .exact⟨b+1,j+1,by omega,by omega,by go_num,by go_num,u.sI _,Ga ⟨R,o.1,by omega,λa=>absurd a h.o,Z.o⟩⟩
       simp[QI];omega
      |false=>
       go_wp2;go_quiet (fail);go_wp2;go_quiet (fail);go_wp2;go_quiet (fail);go_wp2;go_region_law (refine gX xn A _ _ rf rf (by exact o.1) rf _ rf (by simp[φ]) H (by exact M) ?_;intro l k V P)
       all_goals
        go_wp2;go_roundw
        .exact⟨b+1,j+1,by omega,by omega,by go_num,by go_num,(aL.eM P).cT o.1 u M,Ga (AG.mP e (c:=⟨z.1,z.2,X⟩) V H (λa=>absurd a h.o) Z.o (λ_ g=>m.o g))⟩
        simp[QI];omega
    clear x w i;have a1:b=f.length:=H;have b6:((b:C)==(f.length:C))=ψ:=by simp;omega
    have d9:LH (b<f.length)=X:=by simp;omega
    have c8:=Ga a1;clear a1;go_wp2;go_quiet (fail);go_wp2;go_quiet (fail);go_wp2;go_region_law (refine gX xn A _ _ rf rf (by exact o.1) rf _ rf (by simp[φ]) H (by exact M) ?_;intro l k V P)
    all_goals
     go_wp2;go_roundw
     .exact⟨b,j+1,by omega,by omega,A,by go_num,(aL.eM P).cT o.1 u M,Ga (AG.mP e (c:=⟨z.1,z.2,X⟩) V H ag.o Z.o (λ_ g=>m.o g))⟩
     simp[QI];omega
   have L:j=t.length:=H;have b7:((j:C)==(t.length:C))=ψ:=by simp;omega
   by_cases c:b<f.length
   .obtain⟨O,d⟩:∃O,f[b]?=δ O:=⟨_,Gf c⟩;obtain⟨b3,b9,rfl,b5,y,N⟩:=w b _ d;have y:=(K.t (u.m K.z)).ce y;have h:=QC (f≠[]) λa=>by rw[a] at c;simp at c
    have G:=Ga (λg=>uP d g);clear d w i L;go_wp2;go_quiet (fail);go_wp2_with (at_builtin;refine ym xn A _ _ A A o.1 A _ A (by simp[φ]) H M ?_;intro l k V P);go_roundw
    .exact⟨b+1,j,by omega,by omega,by go_num,A,(aL.eM P).cT o.1 u M,Ga (AG.mP e (c:=⟨O.1,⟨#[]⟩,ψ⟩) V H (λa=>absurd a h.o) Z.o (λg _=>G.o g))⟩
    simp[QI];omega
   have a6:=QC (EO f t (ι u5) wr) ⟨_,R,A,⟨uO o.1,.cT o.1⟩,by omega,λ_ a=>by rw[o.2 a,L,Iy],Z.o⟩;clear L;go_wp2;go_ret;exact⟨a6.o,K.t (u.m K.z)⟩
  have c7:(n !=0)=ψ:=by simp[v]
  go_wp2;go_ret;exact⟨⟨_,[],A,⟨Ξ ⟨ζ,0,A,A⟩,.none _ _ _ _⟩,by simp,(λa=>absurd (U.2 a) v),λ_ _ a4 a=>by cases a⟩,b1.t (J.m b1.z)⟩
 have c7:(n !=0)=ψ:=by simp[v]
 go_wp2;go_ret;exact⟨⟨_,[],A,⟨Ξ ⟨ζ,0,A,A⟩,.none _ _ _ _⟩,by simp,λ_ a=>by subst a;exact absurd (Y.2 ⟨λb s a=>by simp at a,by simp⟩) v,λ_ _ a4 a=>by cases a⟩,b1⟩
def en (f:dh):E S:=[O f.1,O f.2]
def lT {base:D}{f:E dh}(z:g.ownsRow base 504 2 m f.length (f.flatMap en)):cq g m f:=by
 rcases fy (enc:=en) (λ_=>rfl) z with⟨rfl,K⟩|⟨M,u,rfl,O,_,_,t⟩
 .exact o ⟨J,0,A,K⟩
 refine j ⟨M,0,u,A,O,λe b d=>⟨?_,?_⟩⟩
 .have:=t e b 0 d r;simpa[en] using this
 have:=t e b 1 d r;simpa[en] using this
def OP (j:D)(f:dh):dh:=(f.1.extract j f.1.size,f.2)
def rX (U:S)(f:E dh)(t:D)(o:L)(Z:cq o U f)(R:f.length<=1000)(W:∀c∈f,t<=c.1.size/\c.1.size<=1000000):
 Y γ 323 #[U,G (t:C)] o λc n=>(∃K,c=ι K/\cq n K (f.map (OP t)))/\T o o n:=by
 obtain⟨h,k,rfl,s⟩:=Z.bZ;go_enter func323,ntmps323;go_wp2_with (at_make;refine YA uc A _ _ A f.length A A H ?_;intro l X V);go_loopw [5,13] (λx i wr=>∃j:D,j<=f.length/\i=G j/\T o o wr/\Φ (wr.ownsRow o 504 2 x j (((f.take j).map (OP t)).flatMap en))) (λ_ i _=>f.length-(QI i).toNat)
 .exact⟨0,QK,A,V,F X⟩
 obtain⟨j,d,rfl,u,J⟩:=hrel;have b:=u.z;by_cases v:j<f.length
 .obtain⟨c,z⟩:∃c,f[j]?=M c:=⟨_,Gf v⟩;obtain⟨I,p,rfl,N,O,P⟩:=s j _ z;have O:=u.ce O;have P:=u.ce P;obtain⟨r,y⟩:=W c (Gl z);have e:(0:C)<=(t:C):=H;have g:(t:C)<=(c.1.size:C):=H;have a:=F (eT z);go_wp2_with fail;go_region_law (refine nL uc A _ _ rf rf (by exact J.o.alloc _) (by rw[GG];rfl) _ rf (by simp[φ]) H QB ?_;intro K m q w)
  all_goals
   go_wp2;go_roundw
   .exact⟨j+1,by omega,by go_num,w.cT (J.o.alloc _) (u.a b _) QB,F (by rwa[a.o,Io,Hj])⟩
   simp[QI];omega
 obtain rfl:j=f.length:=H;go_wp2;go_ret;exact⟨⟨_,A,lT (base:=o) (by have:=J.o;rw[Iy] at this;rwa[Hp])⟩,u⟩
def rY (f:dh):dh:=(Nib.bK (Nib.cU f.1.data.toList),f.2)
def Sx (y:π)(f:E dh)(o:ν)(w:cq o y f)(S:f.length<=1000)(r:∀a∈f,a.1.size<=1000000):
 τ γ 274 #[y] o λa g=>(∃V,a=ι V/\cq g V (f.map rY))/\T o o g:=by
 obtain⟨a0,Y,rfl,x⟩:=w.bZ;clear w;go_enter func274,ntmps274;go_wp2_with (at_make;refine YA uc A _ _ A f.length A A om ?_;intro a1 d c);go_loopw [3,11] (λI l wr=>∃j:D,j<=f.length/\l=ϑ j/\T o o wr/\Φ (wr.ownsRow o.heap.size 504 2 I j (((f.take j).map rY).flatMap en))) (λ_ l _=>f.length-(QI l).toNat)
 .exact⟨0,QK,A,c,F d⟩
 obtain⟨j,R,rfl,t,P⟩:=hrel;have i:=t.z;by_cases G:j<f.length
 .obtain⟨a,J⟩:∃a,f[j]?=M a:=⟨_,Gf G⟩;obtain⟨a2,a3,rfl,n,W,X⟩:=x j _ J;have W:=t.ce W;have X:=t.ce X;have N:=r a (Gl J);have e:=F (eT J);have s:¬Ψ u3=M wr.heap.size:=λh=>by have:=(bG P.o h).2;omega
  have k:(wr.alloc (K #[O a.1,O a.2] 73)) (wr.heap.size,0)=O a.1:=cR (Gc wr _) A;have m:(wr.alloc (K #[O a.1,O a.2] 73)) (wr.heap.size,1)=O a.2:=cR (Gc wr _) A;clear x r J c d;go_wp2_with fail;go_region_held3 (λg=>g (wr.heap.size,0)=O a.1/\g (wr.heap.size,1)=O a.2) (first|(exact⟨U.dN d0 s,U.dN Z s⟩)|(exact⟨d0,Z⟩)|go_keep) (first|(refine gX uc A _ _ rf rf (by exact v) rf _ rf (by simp[φ]) om (by exact q) ?_;intro V a4 L U)|(go_at_call 173;go_call Nib.ga _ _ om as H z ⟨rfl,b⟩;have u:T (wr.alloc (K #[O a.1,O a.2] 73)).heap.size (wr.alloc (K #[O a.1,O a.2] 73)) z:=⟨b.os,b.tape,b.output,b.z,b.b⟩;have Z:=u.ce m;have d0:=u.ce k;have v:=aQ (P.o.alloc (K #[O a.1,O a.2] 73)) u;have p:T o o z:=(t.a i _).t (u.m QB);have q:=p.z));all_goals
   go_wp2;go_roundw
   .exact⟨j+1,by omega,by go_num,U.cT v p q,F (by rwa[e.o,Io,Hj])⟩
   simp[QI];omega
 obtain rfl:j=f.length:=om;go_wp2;go_ret;exact⟨⟨_,A,lT (base:=o.heap.size) (by have:=P.o;rw[Iy] at this;rwa[Hp])⟩,t⟩
def ey (f:C)(j:B):Bool:=match bs j with|[]=>X|a::_=>(a.toNat:C)==f
def pZ (f P:B)(M:D)(j:C)(o:L)(u:o M=j):
 Y N 325 #[t #[f,P],V M] o λl a=>l=z (ey j f)/\T o o a:=by
 obtain⟨q,r,A⟩:=aU o (K #[f,P] 504);have w:=cJ 0 A.at_;have c1:=A.aE.ce u;have O:=F A.aE;by_cases W:f.size=0
 .have n:=cj W;have U:bs f=[]:=GH (by rwa[aX]);have J:=y (ey j f=X) (by rw[ey,U]);go_enter func325,ntmps325;go_wp2;go_quiet (fail);go_wp2;go_ret;exact⟨by rw[J.o];rfl,O.o.sI _⟩
 have n:=cp (show 0<f.size by omega);have Z:0<f.size:=H;have s:(0:C)<(f.size:C):=H;have b:(f[0].toNat:C)<256:=by have:=f[0].toNat_lt;omega
 have v:(0:C)<=(f[0].toNat:C):=H;have J:=y (ey j f=((f[0].toNat:C)==j)) (by
  have:=fh Z
  unfold ey
  cases u:bs f with
  |nil=>rw[u] at this;simp at this
  |cons p c=>rw[u] at this;simp at this;rw[this])
 go_enter func325,ntmps325;go_wp2;go_quiet (fail);go_wp2;go_ret;exact⟨by rw[J.o];rfl,O.o.sI _⟩
def Sy (x:π)(j:List dh)(U:D)(o:C)(t:ν)(L:cq t x j)(Y:j.length<=1000)(p:t U=o):
 τ γ 324 #[x,Hl (Ic 325) #[] #[ξ U]] t λa e=>(∃Z,a=ι Z/\cq e Z (j.filter λa=>ey o a.1))/\T t t e:=by
 obtain⟨a3,a4,rfl,h⟩:=L.bZ;go_enter func324,ntmps324;go_wp2;go_loopw [5,10] (λG m wr=>∃f:D,f<=j.length/\m=ϑ f/\T t t wr/\Φ (wr.ownsRow t 504 2 G ((j.take f).filter λa=>ey o a.1).length (((j.take f).filter λa=>ey o a.1).flatMap en))) (λ_ m _=>j.length-(QI m).toNat)
 .exact⟨0,QK,A,QG,F QN⟩
 obtain⟨f,R,rfl,u,b⟩:=hrel;have S:=u.z;by_cases i:f<j.length
 .obtain⟨a,d⟩:∃a,j[f]?=δ a:=⟨_,Gf i⟩;obtain⟨a5,a6,rfl,a2,r,s⟩:=h f _ d;have r:=u.ce r;have s:=u.ce s;have l:=u.ce p;have a0:((j.take f).filter λa=>ey o a.1).length<=1000:=GB (KS _ _) QB;have v:=F (eT d);obtain⟨I,a1,z⟩:=aU wr (θ #[O a.1,O a.2] 504);have n:=cJ 0 z.at_;have c1:=cJ 1 z.at_;have J:=pZ a.1 a.2 U o I (z.aE.ce l);have M:=F (u.t (z.aE.m u.z));have w:=F (aQ b.o z.aE);cases P:ey o a.1 with
  |false=>
   rw[P] at J;have X:=F J;have W:=y ((j.take (f+1)).filter (λa=>ey o a.1)=(j.take f).filter λa=>ey o a.1) (by rw[v.o,List.filter_append];simp[P]);go_wp2_with (go_call X.o as E K ⟨rfl,c⟩);go_roundw
   .exact⟨f+1,by omega,by go_num,M.o.t (c.m M.o.z),F (by rw[W.o];exact aQ w.o c)⟩
   simp[QI];omega
  |true=>
   rw[P] at J;have X:=F J;have W:=y ((j.take (f+1)).filter (λa=>ey o a.1)=((j.take f).filter λa=>ey o a.1)++[a]) (by rw[v.o,List.filter_append];simp[P]);go_wp2_with (first|(go_call X.o as E K ⟨rfl,c⟩;have d0:=c.ce n;have N:=c.ce c1;have V:=F (M.o.t (c.m M.o.z));have g:=aQ w.o c)|(at_builtin;refine ym uc A _ _ A A g A _ A (by simp[φ]) H V.o.z ?_;intro Z a7 q k));go_roundw
   .exact⟨f+1,by omega,by go_num,k.cT g V.o V.o.z,F (by rwa[W.o,Gk,Hj])⟩
   simp[QI];omega
 obtain rfl:f=j.length:=H;go_wp2;go_ret;exact⟨⟨_,A,lT (base:=t) (by have:=b.o;rwa[Iy] at this)⟩,u⟩
structure eI (w:L):Prop where
 dm:As.cC w
 kO:Hs.jq w
def eI.aE (f:eI g)(c:T g g s):eI s:=⟨f.dm.aE c,f.kO.aE c f.kO.1⟩
def Sz:hD 449 452 1:=.of (z:=V J) (bytes:=8) underlying449 e r A r
def hK (o:Q S)(j:Nd)(hd:ct o j)(J:(o=zc/\j=bE)\/j.bq=1\/j.bq=2\/j.bq=3)(K:j.bA.size<=2000000)(u:∀g,(j.r g).size<=40)(t:L)(z:As.cC t):
 Y N 220 #[o] t λa d=>(∃(l:B) (k:C),a=f #[l,k]/\l.size<=4000/\0<=k/\k<=12)/\T t t d:=by
 go_call uz o j hd (jP j) (oV j 40) t (λa ⟨e,i,_⟩=>⟨e,i⟩) (λa ⟨e,i,_⟩=>⟨e,i⟩)
  (λb b1=>la o j hd J K (λg=>oA (u g)) (λ_ g p=>fN 32 _ p H) b (z.aE b1))
  (λn b b1=>by
   let⟨e,c,m⟩:=n
   simp only[Ii,Nb] at c
   exact yt o j hd (m c.s) 40 H u b) as a d ⟨⟨_,l,⟨q,c,m⟩,rfl⟩|⟨_,rfl⟩,h⟩
 .simp only[Ii,IT] at c;subst c;exact⟨⟨_,_,A,H,H,H⟩,h⟩
 exact⟨⟨_,_,A,(H:0<=_),H,H⟩,h⟩
def eU (P B:D)(A:He)(z:L):Prop:=∃f u o j t,A=V (M ⟨f,0,J⟩)/\B<=f/\z.heap[f]?=K #[O u,o] 451/\z.ownsRow B 452 1 o t j/\(∀W∈j,W.oneCell'=U)/\t<=P/\u.size<=4000
def yB (X:L)(z:D)(V:QE)(P:S)(B A:D)(J:He)(f:L):Prop:=(∃j:QE,J=O j/\j.size<=40)/\
 ∃t o u,f.heap[z]?=K #[V,t] 451/\f.ownsRow B 452 1 t u o/\(∀W∈o,W.oneCell'=U)/\u<=A/\aL (λe=>e=z\/P.ownBlock=M e) X f
def hL (f:g.ownsRow q a 1 m i b)(j:g.heap[w]?=K h p)(t:p≠a):¬m.ownBlock=w:=by
 rcases f.2 with⟨rfl,_⟩|⟨u,z,A,rfl,_,o,_⟩
 .intro f;cases f
 intro f;simp only[Ψ,Gd] at f;subst f;rw[o] at j;simp only[Gd,Hq] at j;exact t j.2.1.s
def eA (o:g.ownsRow w q a m i b):∃f j,m=P f i j:=by
 rcases o.2 with⟨rfl,rfl⟩|⟨t,u,z,rfl,_⟩
 .exact⟨_,_,A⟩
 exact⟨_,_,A⟩
theorem AI (j B z K:D)(d:QE)(t R:S)(V:E S)(J:E dh)(f:ν)(c8:eI f)(U:f.heap[j]?=θ #[β d,t] 451)(r:f.ownsRow B 452 1 t z V)(i:∀s∈V,s.oneCell'=ψ)
 (d8:B<=(f:D)) (e2:z<=100000) (a6:cq f R J) (e0:(J:D)<=1000) (e1:K<=1000) (L:J≠[]->1<=K) (k:J≠[]->τ γ 273 #[R] f λh G=>eU K (f:D) h G/\ρ f f G):
 τ γ 322 #[ξ j,R] f λh G=>yB f j d t B (z+K) h G:=by
 obtain⟨f2,f3,rfl,d2⟩:=a6.bZ;clear a6 d2;have e5:=aw U;by_cases P:J=[]
 .have c6:(((J:D):C)==0)=ψ:=by simp[P]
  have b4:=QC (yB f j d t B (z+K) (ι (β ⟨#[]⟩)) f) ⟨⟨_,A,QK⟩,t,V,z,U,r,i,H,aL.bQ _ _⟩;clear k L P U r i;go_enter func322,ntmps322;go_wp2;go_ret;exact b4.o
 have c3:(J:D)≠0:=λl=>P (GH l);have c6:(((J:D):C)==0)=σ:=QB;have w:=F (k P);have e4:=L P;clear k L P c3;go_enter func322,ntmps322;go_wp2_with fail;apply w.o.m;rintro h q ⟨⟨Q,b0,b2,f1,nq,rfl,e6,b,a4,a1,c0,e8⟩,b1⟩;clear w;have a3:=c8.aE b1;let⟨d3,c1⟩:q Q=b0/\q (Q,1)=b2:=⟨cR b A,cR b A⟩;have y:=F (EF b0 q H a3.kO);go_wp2_with fail;apply y.o.m;rintro h b3 ⟨⟨a9,rfl,c7⟩,a⟩;clear y d3 c1;have W:ρ f f b3:=b1.t (a.m b1.z);have ae:=Below.ke W U;have a0:=aQ r W;have a2:=Below.ke a b;have a5:=aQ a4 a;have x:=F (gL a9 b3 H);clear U r b a4 b1 a a3;go_wp2_with fail;apply x.o.m;rintro h u ⟨b7,M⟩;clear x;have I:ρ f f u:=W.t (M.m W.z);have O:=Below.ke M ae;have p:=aQ a0 M;have b9:=Below.ke M a2;have d1:=aQ a5 M;clear ae a0 a2 a5 W M;have X:=hL p O dc;have a7:u (j,1)=t:=cR O A;have a8:u.frozen? (j,1)=σ:=aI O 1;have e9:u (Q,1)=b2:=cR b9 A;have Y:∀(g:S) (n:ν) (c:D) (e:E S),n.ownsRow B 452 1 g (z+c) (V++e)->(∀s∈e,s.oneCell'=ψ)->c<=K->aL (λv=>t.ownBlock=δ v) u n->yB f j d t B (z+K) (ι (β a9)) (n.setCell (j,1) g):=by
  intro g n c e af c2 d9 ab;have N:=ab.aM O X;refine⟨⟨_,A,c7⟩,g,V++e,z+c,(aF (j:=1) g N).at_,aK af λv b6=>(aF (j:=1) g N).old v λh=>?_,λs r=>?_,H,?_⟩
  .subst h;exact hL af N dc b6
  .rcases GO.1 r with l|l
   .exact i s l
   exact c2 s l
  exact((aL.aE I _).aJ (ab.cz λf4 _ l=>.inr l)).bV (λ_=>.inl A) g
 have T:=F Y;clear Y;rcases b7 with rfl|⟨f0,e7,rfl⟩
 .go_wp2_with fail;go_region_law (apply nN Sz A _ _ rf rf (by exact p) rf (by exact d1) a1 H (by have:=I.z;show B<=(u:D);omega);intro g n Z o;obtain⟨b5,c4,rfl⟩:=eA Z;have m:aL (λv=>t.ownBlock=δ v) u n:=⟨o.os,o.cb,o.aW,o.aH,o.aG⟩;have d4:=m.dN a7 X;have d6:=(Jf (w:=u) (a:=⟨j,1,ζ⟩) (m.aG j (aw O) X)).t a8)
  all_goals
   go_wp2;go_ret;exact T.o _ _ nq _ Z a1 c0 m
 go_wp2_with (at_builtin;apply aP Sz p (oA I.z);intro g n Z o;obtain⟨b5,c4,rfl⟩:=eA Z;have d4:=o.dN a7 X;have d6:=(Jf (w:=u) (a:=⟨j,1,ζ⟩) (o.aG j (aw O) X)).t a8);go_ret;exact T.o _ _ 1 _ Z QA H o
def tb (f:E dh):E (Rw.B×QE):=f.map λa=>(a.1.data.toList,a.2)
def qb (f:E dh):Prop:=Rw.tz (tb f)
def fO (f:E dh):D:=Rw.bu (tb f)
def SA (f:B)(j:D):(f.extract j f.size).data.toList=f.data.toList.drop j:=by
 rw[ByteArray.data_extract,Pg];simp only[List.extract];exact Hr (by
  rw[JD];have:(f.data.toList:D)=f.size:=JG▸rfl
  omega)
def SB (j:E dh)(f:D):tb (j.map (OP f))=(tb j).map λb=>(b.1.drop f,b.2):=by
 simp only[tb,Js];refine Kz λd _=>?_;simp only[Function.comp,OP,SA]
def mQ (f:B):(f.data.toList:D)=f.size:=JG▸rfl
def ade {o:E dh}(t:∀f∈o,w<=f.1.size):∀j∈tb o,w<=(j.1:D):=by
 intro j z;obtain⟨f,u,rfl⟩:=GL.1 z;simp only[mQ];exact t f u
def AJ {f:E dh}{k:D}(o:∀j∈f,k<=j.1.size):fO (f.map (OP k))+k*(f:D)=fO f:=by
 have:=Rw.wG (tb f) k (ade o);rw[fO,SB,fO];rw[show(tb f).length=(f:D) by simp[tb]] at this;exact this
def nT (f:E dh):(f:D)<=fO f:=by have:=Rw.Ve (tb f);rw[show(tb f).length=(f:D) by simp[tb]] at this;exact this
def qc:∀(b a:E QO),∃d e g,d.length=Nib.bT b a/\b=d++e/\a=d++g
 |[],a=>⟨[],[],a,by cases a<;>rfl,A,A⟩
 |c::b,[]=>⟨[],c::b,[],A,A,A⟩
 |c::b,h::a=>by
  by_cases f:c=h
  .subst f;let⟨d,e,g,i,k,l⟩:=qc b a;exact⟨c::d,e,g,by simp[Nib.bT,i],k▸rfl,l▸rfl⟩
  exact⟨[],c::b,h::a,by simp[Nib.bT,f],A,A⟩
def Df {f j:dh}{o:E dh}(t:qb (f::o))(W:(f::o).getLast?=j)(P:w=Nib.bT f.1.data.toList j.1.data.toList):
 (∀b∈f::o,w<=b.1.size)/\qb ((f::o).map (OP w)):=by
 obtain⟨z,A,J,V,K,O⟩:=qc f.1.data.toList j.1.data.toList;have U:(tb (f::o)).getLast?=M (j.1.data.toList,j.2):=by simp only[tb,LB,W,JR]
 have u:=Rw.zJ (x:=(f.1.data.toList,f.2)) (y:=(j.1.data.toList,j.2)) (l:=tb o) t U z A J K O;refine⟨λb a=>?_,?_⟩
 .let⟨c,s⟩:=u (b.1.data.toList,b.2) (Ky (f:=λb:dh=>(b.1.data.toList,b.2)) a);have:=Xl List.length s;simp[mQ,Gk] at this;omega
 have:=Rw.wF t z u;rwa[qb,SB,P,<-V]
def xp (f:ey (w:C) k=U):∃b d,bs k=b::d/\b.toNat=w:=by
 unfold ey at f;cases j:bs k with
 |nil=>rw[j] at f;cases f
 |cons b d=>rw[j] at f;exact⟨b,d,A,by simp at f;omega⟩
def Mp (j:E dh)(f:D):E dh:=(j.filter λa=>ey (f:C) a.1).map (OP 1)
def SC {rs:E dh}{n:D}:∀a∈rs.filter (λa=>ey (n:C) a.1),1<=a.1.size:=by
 intro a f;let⟨d,e,b,_⟩:=xp (GX.1 f).2;have:=Xl List.length b;rw[aX] at this;simp at this;omega
def Mq (j:E dh)(f:D):tb (j.filter λc=>ey (f:C) c.1)=(tb j).filter λd=>ey (f:C) ⟨d.1.toArray⟩:=by
 simp only[tb,Qb];rfl
def SD {j:E dh}(o:qb j)(f:D):qb (Mp j f):=by
 have t:Rw.tz (tb (j.filter λa=>ey (f:C) a.1)):=by rw[Mq];exact Rw.zL o _
 rw[qb,Mp,SB];refine Rw.wF t [Ka f] λl i=>?_;obtain⟨a,u,rfl⟩:=GL.1 i;let⟨k,c,b,g⟩:=xp (GX.1 u).2;exact⟨c,by show bs a.1=_;rw[b,<-g,UInt8.ofNat_toNat];rfl⟩
def uQ (j:E dh)(f:D):fO (Mp j f)+(Mp j f:D)=fO (j.filter λc=>ey (f:C) c.1):=by
 have:=AJ (k:=1) (SC (rs:=j) (n:=f));rw[Mp,Hp];omega
def oW (f:D)(j:B):Bool:=match bs j with|[]=>X|a::_=>LH (a.toNat<f)
def uR (j:E dh)(f:D):D:=fO (j.filter λa=>oW f a.1)
def iw (f:dh)(j:E dh):fO (f::j)=f.1.size+1+fO j:=by simp[fO,tb,Rw.bu,mQ]
def rZ:∀(c:E dh) (a:D),uR c (a+1)=uR c a+fO (c.filter λb=>ey (a:C) b.1)
 |[],a=>rfl
 |b::c,a=>by
  have f:=rZ c a;unfold uR at *;have o:oW (a+1) b.1=(oW a b.1||ey (a:C) b.1):=by
   unfold oW ey;cases bs b.1 with
   |nil=>rfl
   |cons e d=>simp only;rw[Bool.eq_iff_iff];simp;omega
  have t:oW a b.1=U->ey (a:C) b.1=X:=by
   unfold oW ey;cases bs b.1 with
   |nil=>intro _;rfl
   |cons e d=>simp only;intro j;simp at j ⊢;omega
  rw[Ke,Ke,Ke,o];cases u:oW a b.1 with
  |true=>rw[t u];simp[Bool.true_or,if_true,Lx,if_false,iw,f];omega
  |false=>
   cases z:ey (a:C) b.1 with
   |true=>simp[Bool.false_or,if_true,Lx,if_false,iw,f];omega
   |false=>simp[Bool.or_self,Lx,if_false,f]
def lU (a:E dh)(f:dh->Bool):fO (a.filter f)<=fO a:=by
 induction a with
 |nil=>exact d
 |cons c a b=>
  rw[Ke];split
  .rw[iw,iw];omega
  rw[iw];omega
def xq (f:E dh)(j:D):uR f j<=fO f:=lU _ _
structure ZQ (w w2:L)(d:Nd):Prop where
 aH:w2.heap.size=w.heap.size+2
 jK:w2.heap[w.heap.size]?=K #[I,P J 0 0] 451 (0,0)
 fU:ej w2 (w.heap.size+1) d
 aE:T w w w2
def yC {w b:ν}{d:Nd}{c:Obj}(a:bd ((w.alloc (θ #[eS,ο ζ 0 0] 451)).alloc c) b ((w:Nat)+1) (θ (nc d) 281 (0,0))):ZQ w b d where
 aH:=by rw[a.aH];simp
 jK:=(a.old _ om).t ((QP sm).t (Gc w _))
 fU:=a.at_
 aE:=a.aE _ _ om (((Ge _ w).a QD _).a sm _)
def EP (f:L)(j:Obj):((f.alloc j).alloc (K zc 281)).heap[(f:D)+1]?=K zc 281 (0,0):=by have:=Gc (f.alloc j) (K zc 281);rwa [GG] at this
def lf {f:QE}(j:g.heap[w]?=K #[k,m] 451 (0,0))(o:g.ownsRow q 452 1 m a b)(t:∀J∈b,J.oneCell'=U)(z:a<=i)(B:f.size<=4000)(u:q<=w):
 eU i q (ι (V w)) (g.setCell w (O f)):=
 ⟨w,f,m,b,a,A,u,(aF (j:=0) (O f) j).at_,aK o λl c=>(aF (j:=0) (O f) j).old l λd=>by subst d;exact hL o j r c,t,z,B⟩
def AK (j:L)(o:As.cC j):Y N 220 #[zc] j λa h=>a=f #[O ⟨#[128]⟩,G 0]/\T j j h:=by
 go_call uz zc bE cA (λa=>a=z U) (λa=>a=O ⟨#[128]⟩) j (λa b=>⟨_,b⟩) (λa b=>⟨_,b⟩)
  (λd b1=>jO 0 257 R zc bE cA A _ (λa b=>⟨_,b⟩) d λc i=>um c)
  (λ_ d b1=>lN 0 261 R zc bE cA A _ (λa b=>⟨_,b⟩) d λc i=>lO zc c) as a h ⟨⟨_,t,e,rfl⟩|⟨b,_⟩,g⟩
 .simp only[Ii,IT] at e;subst e;exact⟨A,g⟩
 simp at b
def ER {o:D->B}{j:B}{k:D}(u:∀f,(o f).size<=40)(t:j.size<=40):∀f,(if f=k then j else o f).size<=40:=by
 intro f;split
 .exact t
 exact u f
def ES (f:B):ct #[G 2,f,I,I,I,I,I,I,I,I,I,I,I,I,I,I,I,I,I] ⟨2,f,⟨#[]⟩,λ_=>⟨#[]⟩⟩:=jN ⟨2,f,⟨#[]⟩,λ_=>⟨#[]⟩⟩
theorem Mr (j:dh)(b:π)(f:ν)(c:eI f)(s:j.1.size<=1000)(a:cq f b [j]):τ γ 273 #[b] f λn v=>eU 0 (f:D) n v/\T f f v:=by
 obtain⟨S,Y,rfl,p⟩:=a.bZ;obtain⟨a1,a3,rfl,l,W,X⟩:=p 0 _ A;simp only[Lf,JC] at W X;clear p a;rw[show(([j]:E dh).length)=1 from A];have L:(0:C)<(1:C):=dc;have q:=EP f (K #[O ⟨#[]⟩,P J 0 0] 451);go_enter func273,Qp;go_wp2_with (apply tS cA q;intro a0 r;have o:=yC (d:=bE) r;clear r);have h:=Below.ce o.aE W;have w:=Below.ce o.aE X;have Z:=F o;have U:=o.fU;clear o W X q;go_still_tail 9,Qz;apply tS (lM _ _) (by exact U);intro u t;have i:u.heap[(f:D)]?=K #[O ⟨#[]⟩,P J 0 0] 451 (0,0):=(t.old _ H).t Z.o.jK;have M:T f f u:=t.aE _ _ H (Below.sI Z.o.aE 1);have U:ej u ((f:D)+1) ⟨1,j.1,j.2,λ_=>⟨#[]⟩⟩:=t.at_;clear t h w;have x:=F (hK (nc ⟨1,j.1,j.2,λ_=>⟨#[]⟩⟩) ⟨1,j.1,j.2,λ_=>⟨#[]⟩⟩ (jN _) (Θ (Ξ A)) (H:j.1.size<=_) (λa2=>QK) u (c.aE M).dm);go_wp2_with (first|(apply tL U)|(apply x.o.m;rintro n e ⟨⟨R,N,rfl,g,I,m⟩,z⟩;have V:=Below.ke z i;have y:=aQ (GM _ (f:D) 452 1) z;have k:=Xe e (f:D) 0 _ _ _ V;have G:=aI V 0));go_ret;exact⟨lf V y sm QD g QD,(M.t (z.m M.z)).s QD _⟩
def Mt (U:QV JM)(W:D)(j:L)(c:eI j):Y N 273 #[P U 0 W] j λe h=>(eU 0 j e h/\∃z g,h.heap[z]?=K #[O ⟨#[128]⟩,g] 451 (0,0)/\e=V (M ⟨z,0,J⟩))/\T j j h:=by
 have X:=EP j (K #[I,P J 0 0] 451);go_enter func273,Qp;go_upto_region 18 with(apply tS cA X;intro v Z;have t:=yC (d:=bE) Z);have b:=t.jK;have u:=t.aE;have p:=t.fU;have a:=F (AK v (c.aE u).dm);go_wp2_with (first|(apply tL p)|(go_call a.o as e w4 ⟨rfl,f⟩;have o:=f.ke b;have q:=aQ (GM _ j 452 1) f;have w:=Xe w4 j 0 _ _ _ o;have x:=aI o 0));go_ret;exact⟨⟨lf o q R QD r QD,_,_,(aF (j:=0) (O ⟨#[128]⟩) o).at_,A⟩,(u.t (f.m u.z)).s QD _⟩
theorem Mu (j P:dh)(f:E dh)(o U:D)(aa:π)(a:ν)(s:eI a)(G:(j::f).getLast?=P)(e8:1<=(f:D))(e7:(f:D)<=900)(W:∀e∈j::f,o<=e.1.size/\e.1.size<=1000)(a7:o=Nib.bT j.1.data.toList P.1.data.toList)(e1:0<o)(R:cq a aa (j::f))(a9:1<=U/\U<=1000)
 (a3:∀g b9,eI g->cq g b9 ((j::f).map (OP o))->τ γ 273 #[b9] g λe c=>eU U (g:D) e c/\T g g c):
 τ γ 273 #[aa] a λe c=>eU U (a:D) e c/\T a a c:=by
 have a1:=F λg b1=>rX aa (j::f) o g (R.aE b1) QB (λe a5=>⟨(W e a5).1,oA (W e a5).2⟩);obtain⟨g0,g2,rfl,v⟩:=R.bZ;obtain⟨m,b5,rfl,e2,Y,b6⟩:=v 0 _ rfl;have a8:(j::f)[(f:D)]?=P:=by rw[Lo] at G;simpa using G
 let⟨e0,f7,a6,e4,b7,d6⟩:=v (f:D) _ a8;simp only[Gd,GS] at a6;obtain⟨rfl,rfl,_⟩:=a6;simp only[Lf,JC] at Y b6;have e5:=(W j (Hk ..));have e6:=(W P (Pd G));rw[Gx] at *;have e9:(0:C)<=(0:C):=dc;have f0:(((((f:D)+1:D):C))==0)=σ:=QB;have f1:(((((f:D)+1:D):C))==1)=σ:=QB;have f2:η.wrap ((((f:D)+1:D):C)-1)=((f:D):C):=by rw[show(((f:D)+1:D):C)-1=((f:D):C) from H];exact QQ H
 have f3:(0:C)<(o:C):=H;have f4:(o:C)<=(j.1.size:C):=H;have L:=F λg=>Nib.jG j.1 P.1 g H H;rw[<-a7] at L;have ab:=F a3;clear v R W a8 G a7 a3 b6 d6;have b3:=EP a (θ #[O ⟨#[]⟩,ο J 0 0] 451);go_enter func273,Qp;go_wp2_with (apply tS cA b3;intro d4 b4;have V:=yC (d:=bE) b4;clear b4);have w:=Below.ce V.aE Y;have x:=Below.ce V.aE b7;have p:=F V;have Z:=V.fU;clear V Y b7 b3;go_quiet ((go_at_call 321;exact Calls.quiet_of (L.o _)));go_wp2;generalize M:d4.drewN _=h;have w:h ⟨m,b5,J⟩=j.1:=M▸w;have x:h ⟨m,b5+(f:D)*2,J⟩=P.1:=M▸x;have Z:ej h ((a:D)+1) bE:=M▸Z;have a4:T a a h:=M▸Below.sI p.o.aE _;have b2:h.heap[(a:D)]?=θ #[O ⟨#[]⟩,ο J 0 0] 451 (0,0):=M▸p.o.jK;clear M;go_quiet ((go_at_call 321;exact Calls.quiet_of (L.o _)));go_wp2_with (apply tS (ES _) (by exact Z);intro I k);have i:I.heap[(a:D)]?=θ #[O ⟨#[]⟩,ο J 0 0] 451 (0,0):=(k.old _ H).t b2;have z:T a a I:=k.aE _ _ H (Below.sI a4 _);have X:ej I ((a:D)+1) ⟨2,j.1.extract 0 o,⟨#[]⟩,λ_=>⟨#[]⟩⟩:=k.at_;clear k w x L Z;apply(a1.o I z).m;rintro e n ⟨⟨c0,rfl,S⟩,u⟩;have b:=z.t (u.m z.z);have K:=Below.ke u i;have N:=X.aE u;have a0:=F (AI (a:D) (a:D) 0 U ⟨#[]⟩ (ο J 0 0) c0 [] _ n (s.aE b) K QN sm b.z H S QB a9.2 (λ_=>a9.1) (λ_=>ab.o n c0 (s.aE b) S));clear i X z u K S a1;go_wp2_with fail;apply a0.o.m;rintro e d ⟨⟨t,rfl,c7⟩,g1,f9,f6,b0,r,d1,c5,q⟩;have A:ej d ((a:D)+1) ⟨2,j.1.extract 0 o,⟨#[]⟩,λ_=>⟨#[]⟩⟩:=q.aM N (λl=>by rcases l with l|l<;>simp[Ψ] at l);have a2:T a a d:=b.t (q.cE b.z λg3 l=>l.elim (λe=>H) (λl=>by simp[Ψ] at l));let⟨d2,d3⟩:=A.sO (k:=0) dc;simp only[JC] at d2 d3;have X:=A.CX (k:=0) dc t;have i:=((aF (j:=3) (O t) A).old (a:D) H).t b0;have c1:=aK (w':=d.setCell ⟨(a:D)+1,3,J⟩ (O t)) r λm c4=>(aF (j:=3) (O t) A).old m λe=>by subst e;exact hL r A dc c4
 have z:T a a (d.setCell ⟨(a:D)+1,3,J⟩ (O t)):=a2.s sm _;have c3:(j.1.extract 0 o).size<=2000000:=eZ;clear ab p b N a0 q A a2 b2 a4 r b0;have c2:=F (hK (nc ({(⟨2,j.1.extract 0 o,⟨#[]⟩,λ_=>⟨#[]⟩⟩:Nd) with r:=λy=>if y=0 then t else⟨#[]⟩}:Nd)) ({(⟨2,j.1.extract 0 o,⟨#[]⟩,λ_=>⟨#[]⟩⟩:Nd) with r:=λy=>if y=0 then t else⟨#[]⟩}:Nd) (jN _) (Θ (Θ (Ξ rfl))) c3 (ER (k:=0) (λ_=>QK) c7) (d.setCell ⟨(a:D)+1,3,J⟩ (O t)) (s.aE z).dm);go_wp2_with (first|(apply tL X)|(apply c2.o.m;rintro e n ⟨⟨f8,f5,rfl,c8,N,c5⟩,u⟩;have K:=Below.ke u i;have c6:=aQ c1 u;have d8:=Xe n (a:D) 0 _ _ _ K;have d9:=aI K 0));go_ret;exact⟨lf K c6 d1 H c8 QD,(z.t (u.m z.z)).s QD _⟩
structure Wa (w:L)(l:E dh)(k:D)(r:D->B)(vb:S)(wr:L):Prop where
 jK:wr.heap[w.heap.size]?=K #[I,vb] 451
 cT:∃us n,wr.ownsRow w.heap.size 452 1 vb n us/\(∀u∈us,u.oneCell'=U)/\n<=uR l k
 fU:ej wr (w.heap.size+1) ⟨3,⟨#[]⟩,⟨#[]⟩,r⟩
 AL:∀j,(r j).size<=40
 aE:T w w wr
theorem yD (a V:dh)(b:E dh)(ab:D)(b3:π)(e:ν)(y:eI e)(L:(a::b).getLast?=V)(i8:1<=(b:D))(i4:(b:D)<=900)(R:∀g∈a::b,g.1.size<=1000)(a3:Nib.bT a.1.data.toList V.1.data.toList=0)(a9:cq e b3 (a::b))(i6:fO (a::b)<=ab)(i7:ab<=1000)
 (b5:∀Y,Mp (a::b) Y≠[]->∀k d9,eI k->cq k d9 (Mp (a::b) Y)->τ γ 273 #[d9] k λg v=>eU (fO (Mp (a::b) Y)) (k:D) g v/\ρ k k v):
 τ γ 273 #[b3] e λg v=>eU ab (e:D) g v/\ρ e e v:=by
 have e5:=F λk b0 (n:D) b1 g2=>Sy b3 (a::b) b0 (n:C) k (a9.aE b1) QB g2;obtain⟨j7,j8,rfl,b2⟩:=a9.bZ;obtain⟨q,d8,rfl,i0,P,U⟩:=b2 0 _ A;have b9:(a::b)[(b:D)]?=V:=by rw[Lo] at L;simpa using L
 let⟨h9,j6,b7,i1,h2,h3⟩:=b2 (b:D) _ b9;simp only[Gd,GS] at b7;obtain⟨rfl,rfl,_⟩:=b7;simp only[Lf,JC] at P U;have i2:=R a (Hk ..);have i3:=R V (Pd L);rw[Gx] at *;have j1:(0:C)<=(0:C):=dc;have j2:(((((b:D)+1:D):C))==0)=σ:=QB;have j3:(((((b:D)+1:D):C))==1)=σ:=QB;have j4:η.wrap ((((b:D)+1:D):C)-1)=((b:D):C):=by rw[show(((b:D)+1:D):C)-1=((b:D):C) from om];exact QQ om
 have W:=F λk=>Nib.jG a.1 V.1 k om om;rw[a3] at W;rw[show((0:D):C)=0 from A] at W;have e2:=F b5;have e6:=F R;clear b2 a9 b9 L a3 b5 h3 R;have d3:=EP e (θ #[O ⟨#[]⟩,ο J 0 0] 451);go_enter func273,Qp;go_wp2_with (refine tS cA d3 ?_;intro h7 d4;have r:=yC (d:=bE) d4;clear d4);have ae:=r.aE.ce P;have af:=r.aE.ce U;have h1:=r.aE.ce h2;have b4:=F r;have M:=r.fU;clear r d3;go_quiet ((go_at_call 321;exact Calls.quiet_of (W.o _)));generalize K:h7.drewN _=u;have ae:u ⟨q,d8,J⟩=a.1:=by rwa[<-K]
 have af:u ⟨q,d8+1,J⟩=a.2:=by rwa[<-K]
 have M:ej u ((e:D)+1) bE:=by rwa[<-K]
 have f8:ρ e e u:=K▸b4.o.aE.sI _;have d1:u.heap[(e:D)]?=θ #[O ⟨#[]⟩,ο J 0 0] 451:=K▸b4.o.jK;have i9:=aw M;clear K h1 W;have g6:=Xe u ((e:D)+1) 0 _ _ _ M;have g7:=aI M 0;have x:=aF (j:=0) (ϑ 3) M;have f:=F (show Wa e (a::b) 0 (λ_=>⟨#[]⟩) (ο J 0 0) (u.setCell ⟨e+1,0,J⟩ (ϑ 3)) from
  ⟨(x.old _ om).t d1,⟨[],0,QN,sm,QK⟩,x.at_,λ_=>QK,x.aE _ _ om f8⟩)
 clear x;go_wp2;go_loopw [11] (λiv wr=>∃(c:D) (l:D->B) (T:π),c<=16/\iv=ϑ c/\Φ (Wa e (a::b) c l T wr)) (λiv _=>16-(QI iv).toNat)
 .exact⟨0,_,_,om,A,f⟩
 clear f g6 g7 M d1;obtain⟨c,l,T,a3,rfl,f⟩:=hrel;by_cases c0:c<16
 .have g5:(c:C)<16:=om;have j5:(0:C)<=(c:C):=om;let⟨I,j0,i⟩:=aU wr (θ #[ϑ (c:C)] 3);have Z:=f.o.aE.t (i.aE.m f.o.aE.z);have s:=QC (Wa e (a::b) c l T I) ⟨i.aE.ke f.o.jK,by let⟨S,n,e0,b0,e1⟩:=f.o.cT;exact⟨S,n,aQ e0 i.aE,b0,e1⟩,f.o.fU.aE i.aE,f.o.AL,Z⟩;have c8:I ((wr:D),0)=(c:C):=cR i.at_ A;have g1:=i.at_;have i5:=aw f.o.fU;clear f i ae af;go_upto_region 7 with fail;have hcut:=e5.o I.drew (wr:D) c Z.d c8;let⟨S,n,d,G,g4⟩:=s.o.cT;have g3:(Mp (a::b) c).length<=1000:=by rw[Mp,Hp];exact GB (KS _ _) QB
  go_region_held3 (λv=>v ((wr:D),0)=(c:C)) (first|assumption|(exact(GQ (w:=w5) (QJ QB)).t d5)|go_keep)
   (first
    |(go_at_call 324;go_call hcut as g d2 ⟨⟨v3,rfl,f6⟩,H⟩;have a0:ρ I I d2:=⟨H.os,H.tape,H.output,H.z,H.b⟩;have e7:=a0.ce c8)
    |(go_at_call 323;go_call rX v3 _ 1 d2 f6 (by exact GB (KS _ _) QB) (λg b6=>⟨SC g b6,oA (e6.o g (GX.1 b6).1)⟩) as g w4 ⟨⟨v4,rfl,c7⟩,p⟩;have e8:=p.ce e7;have m:=a0.t (p.m a0.z);have w:=Z.t (m.m Z.z))
    |(go_at_call 322;go_call AI (e:D) (e:D) n (fO (Mp (a::b) c)) ⟨#[]⟩ T v4 S (Mp (a::b) c) w4 (y.aE w) (m.ke s.o.jK) (aQ d m) G w.z (oA (xq (a::b) c)) c7 g3 (oB (uQ (a::b) c) (lU (a::b) (λg=>ey (c:C) g.1))) (λh=>oB (nT (Mp (a::b) c)) (KC.2 h)) (λh=>e2.o c h w4 v4 (y.aE w) c7) as g w5 ⟨⟨X,rfl,f4⟩,h0,g9,g0,f3,c6,f5,c2,a4⟩;have N:ej w5 ((e:D)+1) ⟨3,⟨#[]⟩,⟨#[]⟩,l⟩:=a4.aM (s.o.fU.aE m) (λh=>h.elim (λg=>om) (hL (aQ d m) (s.o.fU.aE m) dc));let⟨h4,h5⟩:=N.sO c0;have d5:=a4.dN e8 (λh=>h.elim (λg=>by simp at g;omega) (hL (aQ d m) (m.ke g1) dc))))
  have f7:ρ e e w5:=w.t (a4.cE w.z λY h=>h.elim (λg=>om) (λh=>(bG (aQ d m) h).1));have o:=aF (j:=3+c) (O X) N;have f2:Wa e (a::b) (c+1) (λd6=>if d6=c then X else l d6) h0 (w5.setCell ⟨e+1,3+c,J⟩ (O X)):=
   ⟨(o.old _ om).t f3,⟨g9,g0,aK c6 λq a2=>o.old q λg=>by subst g;exact hL c6 N dc a2,f5,by rw[rZ];have h8:=uQ (a::b) c;omega⟩,N.CX c0 X,ER s.o.AL f4,o.aE _ _ om f7⟩
  go_wp2;go_roundw
  .exact⟨c+1,_,_,om,gN,F f2⟩
  simp[QI];omega
 have g5:¬(c:C)<16:=om;cases(om:c=16);have ae:=f.o.aE.ce P;have af:=f.o.aE.ce U;let⟨S,n,d,G,g4⟩:=f.o.cT;have c3:n<=ab:=oA (xq (a::b) 16);by_cases a1:a.1.size=0
 .have h6:=cj a1;let⟨h4,h5⟩:=f.o.fU.xe;have o:=aF (j:=2) (O a.2) f.o.fU;have i:=f.o.fU.uv a.2;have a6:=(o.old (e:D) om).t f.o.jK;have z:=o.aE _ _ om f.o.aE;have e4:=aK (w':=wr.setCell ⟨e+1,2,J⟩ (O a.2)) d λq a2=>o.old q λg=>by subst g;exact hL d f.o.fU dc a2
  have a7:=f.o.AL;clear o f P U a1;have ag:=F (hK (nc (⟨3,⟨#[]⟩,a.2,l⟩:Nd)) (⟨3,⟨#[]⟩,a.2,l⟩:Nd) (jN _) (Θ (Θ (Θ A))) QK a7 (wr.setCell ⟨e+1,2,J⟩ (O a.2)) (y.aE z).dm);go_wp2_with (first|(refine tL i ?_)|(go_call ag.o as g w4 ⟨⟨g8,f9,rfl,a8,f1,c2⟩,p⟩;have t:=p.ke a6;have a5:=aQ e4 p;have e9:=Xe w4 (e:D) 0 _ _ _ t;have f0:=aI t 0));go_ret;exact⟨lf t a5 G c3 a8 QD,(z.t (p.m z.z)).s QD _⟩
 have h6:=cp (om:0<a.1.size);have i:=f.o.fU;have a6:=f.o.jK;have z:=f.o.aE;have a7:=f.o.AL;clear f P U a1;have ag:=F (hK (nc (⟨3,⟨#[]⟩,⟨#[]⟩,l⟩:Nd)) (⟨3,⟨#[]⟩,⟨#[]⟩,l⟩:Nd) (jN _) (Θ (Θ (Θ A))) QK a7 wr (y.aE z).dm);go_wp2_with (first|(refine tL i ?_)|(go_call ag.o as g w4 ⟨⟨g8,f9,rfl,a8,f1,c2⟩,p⟩;have t:=p.ke a6;have a5:=aQ d p;have e9:=Xe w4 (e:D) 0 _ _ _ t;have f0:=aI t 0));go_ret;exact⟨lf t a5 G c3 a8 QD,(z.t (p.m z.z)).s QD _⟩
def eU.cz {B:He}(A:eU w a B g)(V:w<=q):eU q a B g:=by
 obtain⟨O,P,K,J,M,j,o,f,t,u,U,z⟩:=A;exact⟨O,P,K,J,M,j,o,f,t,u,by omega,z⟩
def AM (j:D)(f:dh):(OP j f).1.size<=f.1.size:=by simp only[OP,ax];omega
theorem Mv:∀(l:D) (a:E dh) (h:S) (e:L),fO a<=l->l<=900->a≠[]->qb a->(∀c∈a,c.1.size<=1000)->eI e->cq e h a->
 Y N 273 #[h] e λc m=>eU (fO a) e.heap.size c m/\T e e m:=by
 intro l;induction l with
 |zero=>intro a h e i _ z;exact absurd (GH (by have:=nT a;omega)) z
 |succ l s=>
  intro a h e v w z U o J K;cases a with
  |nil=>exact absurd A z
  |cons b a=>
   cases a with
   |nil=>exact(Mr b h e J (o b (Hk ..)) K).m λc m i=>⟨i.1.cz QK,i.2⟩
   |cons g a=>
    have Z:=nT (b::g::a);simp only[Gx] at Z;obtain⟨f,O⟩:∃f,(b::g::a).getLast?=M f:=⟨_,List.getLast?_eq_some_getLast R⟩;rcases Py (Nib.bT b.1.data.toList f.1.data.toList) with t|t
    .refine yD b f (g::a) (fO (b::g::a)) h e J O R QB o t K d H λr n x y p q=>?_;have W:=uQ (b::g::a) r;have X:=lU (b::g::a) (λc=>ey (r:C) c.1);have P:=KC.2 n;refine s _ y x H H n (SD U r) (λc k=>?_) p q;obtain⟨j,u,rfl⟩:=GL.1 k;exact GB (AM 1 j) (o j (GX.1 u).1)
    obtain⟨V,I⟩:=Df U O A;have W:=AJ V;have X:1<=Nib.bT b.1.data.toList f.1.data.toList*(b::g::a).length:=Nat.mul_pos t R;have P:=nT ((b::g::a).map (OP (Nib.bT b.1.data.toList f.1.data.toList)));simp only[Hp,Gx] at P;refine(Mu b f (g::a) _ (fO ((b::g::a).map (OP (Nib.bT b.1.data.toList f.1.data.toList)))) h e J O R QB (λc k=>⟨V c k,o c k⟩) A t K H λx y p q=>?_).m λc m i=>⟨i.1.cz H,i.2⟩;refine s _ y x H H R I (λc k=>?_) p q;obtain⟨j,u,rfl⟩:=GL.1 k;exact GB (AM _ j) (o j u)
def rj {f:E dh}(j:bD f):∀(b a:D) (c d:dh),f[a]?=c->f[a+b+1]?=d->c.1.data.toList<d.1.data.toList
 |0,a,c,d,i,g=>by
  have:=(j.ok (a+1) d g).2.2 c H i;unfold tw at this;rw[bytesLess_eq,Lib.toList_data,Lib.toList_data] at this;exact XG this
 |b+1,a,c,d,i,g=>by
  let⟨e,h⟩:∃e,f[a+b+1]?=M e:=⟨_,Gf (oA (Gg.1 g).1)⟩;exact List.lt_trans (rj j b a c e i h) (rj j 0 (a+b+1) e d h (by rwa[(H:a+b+1+0+1=a+(b+1)+1)]))
def SE (f:E QO):Nib.cU f=Rw.cU f:=rfl
def Mw {j:E dh}(t:bD j):qb (j.map rY):=by
 rw[qb,Rw.tz,tb,Jy,Jy,JU];intro f o u z A;have:=rj t (o-f-1) f j[f] j[o] (Gf u) (by rw[(H:f+(o-f-1)+1=o)];exact Gf z);simp only[rY,Nib.bK];exact Rw.En this
def uU (f:dh):(rY f).1.size=2*f.1.size:=by
 rw[<-mQ];simp only[rY,Nib.bK];rw[SE,Rw.mC,mQ]
def Mx {f:E dh}(o:bD f):fO (f.map rY)<=13*(f:D):=by
 have:∀(a:E dh),(∀b∈a,b.1.size<=6)->fO (a.map rY)<=13*(a:D):=by
  intro a;induction a with
  |nil=>intro _;exact d
  |cons b a h=>
   intro j;have t:=h λi g=>j i (GK _ g);have u:=j b (Hk ..);rw[Ij,iw,uU,Gx];omega
 exact this f λb c=>nE (o.ent b c).1
def ZR (o:E dh)(u:He):Prop:=(∃j:C,j≠0/\0<=j/\j<=12/\¬bD o/\u=f #[I,G j])\/
 ∃t:B,bD o/\t.size<=4000/\(o=[]->t=⟨#[128]⟩)/\u=f #[t,G 0]
def Wb (o:E dh)(t:He):Prop:=(∃j:C,j≠0/\0<=j/\j<=12/\¬bD o/\t=f #[I,G j])\/
 ∃u:B,bD o/\(o=[]->u=⟨#[128]⟩)/\t=f #[O (bn u),G 0]
def Wc (U:π)(c:List dh)(o:ν)(Z:eI o)(d:cq o U c)(L:(c:D)<=1000):Y γ 219 #[U] o λa e=>ZR c a/\ρ o o e:=by
 have X:=kN U c o d H;go_enter func219,ntmps219;go_wp2_with fail;go_call X as a O ⟨⟨n,rfl,k,s,u⟩,b1⟩;by_cases z:n=0
 .subst z;have j:=k.1 rfl;have a4:((0:C) !=0)=σ:=dc;have x:=F (Sx U c O (d.aE b1) L (λa q=>oA (nE (j.ent a q).1)));clear X k s u;go_wp2_with fail;go_call x.o as a f ⟨⟨v2,rfl,E⟩,I⟩;have t:=b1.t (I.m b1.z);have W:Y γ 273 #[v2] f λa e=>(eU 900 (f:D) a e/\(c=[]->∃K v,e.heap[K]?=θ #[β ⟨#[128]⟩,v] 451/\a=ξ (δ ⟨K,0,ζ⟩)))/\ρ f f e:=by
   cases c with
   |nil=>
    obtain⟨m,r,rfl,_⟩:=E.bZ;exact(Mt m r f (Z.aE t)).m λa e b=>⟨⟨b.1.1.cz H,λ_=>b.1.2⟩,b.2⟩
   |cons a3 c=>
    have S:=Mx j;have R:=j.aH;exact(Mv 900 _ v2 f H QD sm (Mw j) (λa q=>by
     obtain⟨i,l,rfl⟩:=GL.1 q
     have:=nE (j.ent i l).1
     rw[uU];omega) (Z.aE t) E).m λa e b=>⟨⟨b.1.cz H,nF⟩,b.2⟩
  have w:=F W;have h:=F j;clear W x j b1;go_wp2_with fail;go_call w.o as a P ⟨⟨⟨K,M,v,V,n,rfl,T,A,_,_,_,N⟩,y⟩,J⟩;have a1:P ⟨K,0,ζ⟩=M:=cR A rfl;have G:=QC (c=[]->M=⟨#[128]⟩) λb=>by
   let⟨a0,a2,p,g⟩:=y b;simp only[Ii,KE,Gd,GS] at g;obtain⟨rfl,_⟩:=g;rw[A] at p;simp at p;exact p.1
  clear w y;go_wp2;go_ret2;exact⟨Θ ⟨M,h.o,N,G.o,rfl⟩,t.t (J.m t.z)⟩
 have M:(n !=0)=ψ:=by simp[z]
 go_wp2;go_ret2;exact⟨Ξ ⟨n,z,s,u,λb=>z (k.2 b),rfl⟩,b1⟩
def SF (z:S)(t:E dh)(f:L)(J:eI f)(W:cq f z t)(s:(t:D)<=1000):Y N 172 #[z] f λc v=>Wb t c/\T f f v:=by
 have P:=F (Wc z t f J W s);go_enter func172,ntmps172;go_wp2_with fail;go_call P.o as c p ⟨k,b1⟩;rcases k with⟨M,K,a,b,u,rfl⟩|⟨O,u,x,V,rfl⟩
 .have w:(M !=0)=U:=by simp[K]
  go_wp2;go_ret2;exact⟨Ξ ⟨M,K,a,b,u,A⟩,b1⟩
 have w:((0:C) !=0)=X:=dc;have q:=F (cV O p H (J.aE b1).kO);have Z:=F V;go_wp2_with fail;go_call q.o as c r ⟨rfl,j⟩;go_wp2;go_ret2;exact⟨Θ ⟨O,u,Z.o,A⟩,b1.t (j.m b1.z)⟩
section
structure It (w:L)(b:D)(t:B)(rv:S)(refs:E B):Prop where
 bO:∃us hd,w.heap[b]?=K #[t,rv,G us,G hd] 192
 jJ:bS w rv refs
 aH:t.size<=1000000
 cB:refs.length<=16
 UU:∀r∈refs,r.size=32
 adf:iZ w rv 9
structure hA (m:D)(w w':L):Prop where
 os:w'.os=w.os
 cb:w'.tape=w.tape
 aW:w'.output=w.output
 aH:w.heap.size<=w'.heap.size
 aG:∀k,k<w.heap.size->k≠m->w'.heap[k]?=w.heap[k]?\/∃t rv u h u' h',w.heap[k]?=K #[O t,rv,G u,G h] 192/\w'.heap[k]?=K #[O t,rv,G u',G h'] 192/\m<=k
variable {m b:Nat}{w w' w1 w2:ν}{t:ByteArray}{refs xs:List ByteArray}{v:π}
def hA.bQ (m:D)(w:L):hA m w w:=⟨A,A,A,d,λ_ _ _=>o A⟩
def hA.aJ (u:hA m w w1)(z:hA m w1 w2):hA m w w2:=by
 refine⟨z.os.t u.os,z.cb.t u.cb,z.aW.t u.aW,GB u.aH z.aH,λl a k=>?_⟩;rcases u.aG l a k with A|⟨t,V,K,J,U,M,A,O⟩
 .rcases z.aG l (GP a u.aH) k with f|⟨t,V,K,J,U,M,f,P⟩
  .exact o (f.t A)
  exact j ⟨t,V,K,J,U,M,A▸f,P⟩
 rcases z.aG l (GP a u.aH) k with f|⟨t2,Z,u2,X,u3,W,f,P⟩
 .exact j ⟨t,V,K,J,U,M,A,f.t O.1,O.2⟩
 rw[O.1] at f;simp only[Gd,Hq,IU,GN,IT] at f;obtain⟨⟨rfl,rfl,_⟩,_⟩:=f;exact j ⟨_,_,K,J,u3,W,A,P⟩
def hA.aE (f:T w w w')(m:D):hA m w w':=⟨f.os,f.tape,f.output,f.z,λd c _=>o (f.b d c)⟩
def hA.dD (f:w.mapTurned w' m):hA m w w':=by
 have:=aL.dD (aL.bQ (· =m) w) f (λ_=>rfl);exact⟨this.os,this.cb,this.aW,this.aH,λe c d=>o (this.aG e c d)⟩
theorem hA.ET {f:S}{J u U M:C}{j:D}{x:S}(V:w.heap[b]?=K #[O t,f,G J,G u] 192)
 (W:(#[O t,f,G J,G u]:Q S).setIfInBounds j x=#[O t,f,G U,G M]) (m:D) (X:m<=b):hA m w (w.setCell (b,j) x):=by
 have z:=aF (j:=j) x V;refine⟨A,A,A,Iu z.aH.s,λk _ _=>?_⟩;by_cases P:k=b
 .subst P;exact Θ ⟨t,f,J,u,U,M,V,by rw[z.at_,W],X⟩
 exact o (z.old k P)
def bS.jR (z:bS w v xs)(P:hA m w w')(V:∀X t Z,w.heap[m]?≠M (K X t Z)):bS w' v xs:=by
 rcases z with z|⟨J,U,W,q,r,O,s⟩
 .exact o z
 refine j ⟨J,U,W,q,λi y k=>?_,GP O P.aH,s⟩;have f:=r i y k;have c:J≠m:=by
  intro p;subst p;unfold Iz at f;split at f
  .rename_i x;exact V _ _ _ x
  cases f
 rcases P.aG J O c with A|⟨t,g,G,z,e,d,A,a⟩
 .exact(GQ (w:=w) A).t f
 rw[QH A] at f;rw[QH a.1];match u:U+i with
 |0=>rw[u] at f;simpa using f
 |1=>rw[u] at f;simpa using f
 |2=>rw[u] at f;simp at f
 |3=>rw[u] at f;simp at f
 |F+4=>rw[u] at f;simp at f
def iZ.jR {v:S}{t:Λ}(j:iZ w v t)(u:hA m w w')(o:∀d t a,w.heap[m]?≠M (K d t a))(z:t≠192):iZ w' v t:=λg n l e=>by
 let⟨d,a,c⟩:=j g n l e;rcases u.aG g.block (aw c) (λe=>o _ _ _ (e▸c)) with f|⟨t2,J,P,U,O,V,f,A⟩
 .exact⟨d,a,f.t c⟩
 rw[c] at f;simp only[Gd,Hq] at f;exact absurd f.2.1 z
def It.jR {u:S}(o:It w b t u refs)(j:hA m w w')(f:∀z t A,w.heap[m]?≠M (K z t A)):It w' b t u refs:=by
 let⟨⟨p,hd,c⟩,q,k,l,n,a⟩:=o;refine⟨?_,q.jR j f,k,l,n,a.jR j f r⟩;rcases j.aG b (aw c) (λd=>by subst d;exact f _ _ _ c) with a|⟨t2,P,V,o,U,O,a,J⟩
 .exact⟨p,hd,a.t c⟩
 rw[c] at a;simp only[Gd,Hq,IU,GN,IT] at a;obtain⟨⟨rfl,rfl,_⟩,_⟩:=a;exact⟨_,_,J.1⟩
def It.aE {j:S}(c:It w b t j refs)(f:T w w w'):It w' b t j refs:=by
 obtain⟨⟨K,hd,o⟩,A,u,z,M,J⟩:=c;exact⟨⟨K,hd,f.ke o⟩,A.hQ f,u,z,M,J.aE f⟩
def mR (m:D)(w:L)(f:E (IA×S)):Prop:=∀u∈f,∃o b t j refs,u=(kl o,V (M ⟨b,0,J⟩))/\It w b t j refs/\m<=b
def mR.jR {f:E (IA×S)}(j:mR m w f)(A:hA m w w')(u:∀o t z,w.heap[m]?≠M (K o t z)):mR m w' f:=λe c=>by
 let⟨n,b,t,l,refs,d,a,g⟩:=j e c;exact⟨n,b,t,l,refs,d,a.jR A u,g⟩
def mR.aE {f:E (IA×S)}(j:mR m w f)(z:T w w w'):mR m w' f:=λk h=>by
 obtain⟨J,b,t,A,refs,c,o,u⟩:=j k h;exact⟨J,b,t,A,refs,c,o.aE z,u⟩
def bj.bx {z:Λ}{u:E (IA×S)}(f:bj N w z m u):∀j t o,w.heap[m]?≠M (K j t o):=by
 let⟨i,⟨xs,h,a,_⟩,_⟩:=f;intro j t o f;rw[a] at f;cases f
structure bp (w:ν)(s m:D)(room:C)(L:E (IA×S)):Prop where
 bO:w.heap[s]?=K #[G room,KD (M m)] 181
 cS:bj N w 9 m L
 fP:mR m w L
 cB:L.length<=40000
def bp.aE {s:D}{o:C}{j:E (IA×S)}(f:bp w s m o j)(c:T w w w'):bp w' s m o j:=
 ⟨c.ke f.bO,f.cS.aM (c.b _ f.cS.lt),f.fP.aE c,f.cB⟩
def bp.jR {s:Nat}{room:Int}{L L':List (IA×π)}(a:bp w s m room L)(e:hA m w w')(h:bj γ w' 9 m L')(g:mR m w L')(i:(L':Nat)<=40000):bp w' s m room L' where
 bO:=by
  rcases e.aG s (aw a.bO) (λf=>by subst f;exact a.cS.bx _ _ _ a.bO) with d|⟨t,k,u,c,j,c',d,_⟩
  .exact d.t a.bO
  .rw[a.bO] at d;simp at d
 cS:=h
 fP:=g.jR e a.cS.bx
 cB:=i
def bp.jl {X:D}{W:C}{f:E (IA×S)}(O:bp w X m W f)(z:B):aT f (kl z)=J\/∃b t u refs,aT f (kl z)=V (M ⟨b,0,J⟩)/\It w b t u refs:=by
 cases U:aT f (kl z) with
 |none=>exact o A
 |some l=>
  obtain⟨Z,b,t,u,refs,K,P,_⟩:=O.fP _ (cx U);simp only[Hf] at K;exact j ⟨b,t,u,refs,by rw[K.2],P⟩
def bp.le {A b:D}{z:C}{f:E (IA×S)}(j:bp w A m z f){u:B}(o:aT f (kl u)=V b):m<=b:=by
 let⟨k,i,t,l,refs,d,_,a⟩:=j.fP _ (cx o);simp[Hf,KE,Gd,GS] at d;omega
def It.aV {o:S}(u:It w b t o refs):∃j hd,w.heap[b]?=K #[t,o,G j,G hd] 192/\w b=t/\w (b,1)=o/\w (b,2)=G j/\w (b,3)=G hd:=by
 obtain⟨j,hd,f⟩:=u.bO;exact⟨j,hd,f,cR f A,cR f A,cR f A,cR f A⟩
def bp.aV {f:D}{o:C}{u:E (IA×S)}(j:bp w f m o u):w f=o/\w (f,1)=KD (M m):=
 ⟨cR j.bO A,cR j.bO A⟩
def dv (w:L):(Xs 190).run N w=Je (V J) w:=e
def Dg (w:L)(j:E (IA×S))(u:B)(o:He):Prop:=(aT j (kl u)=J/\o=f #[I,z X])\/
 ∃b t A refs,aT j (kl u)=V (M ⟨b,0,J⟩)/\It w b t A refs/\o=f #[O t,z U]
def hV (k m:D)(c:C)(J:E (IA×S))(u:B)(w:L)(K:bp w k m c J)(Z:u.size<=Ie):Y N 101 #[V k,u] w λl w'=>Dg w J u l/\w'=w:=by
 let⟨x,c1⟩:=K.aV;have P:=K.cS;rcases K.jl u with a|⟨b,t,n,refs,W,O⟩
 .have M:=y (Dg w J u (ι (f #[I,z X]))) (Ξ ⟨a,A⟩);go_enter func101,ntmps101;go_wp2_with (at_lookup;refine fW A _ _ 179 A 9 190 dH Hh _ (dv _) _ _ A P _ _ A (dW Z) ?_;rw[a]);go_ret2;exact⟨M.o,A⟩
 have M:=y (Dg w J u (ι (f #[t,z U]))) (j ⟨b,t,n,refs,W,O,A⟩);let⟨d,hd,p,q,e3,r,s⟩:=O.aV;go_enter func101,ntmps101;go_wp2_with (at_lookup;refine fW A _ _ 179 A 9 190 dH Hh _ (dv _) _ _ A P _ _ A (dW Z) ?_;rw[W]);go_ret2;exact⟨M.o,A⟩
end
section
variable {s m:Nat}{room:Int}{L:List (IA×π)}{w:ν}
def SG (f:C)(w:ν)(u:f<=9223372036854775807):Y N 40 #[f] w λa c=>a=V (M ⟨w+1,0,J⟩)/\bp c ((w:D)+1) w (max f 0) []/\T w w c/\(c:D)=(w:D)+2:=by
 have t:=@run_makeMap N;have o:bp ((w.alloc (Lz #[] 0)).alloc (K #[G (max f 0),KD (M w)] 181)) (w+1) w (max f 0) []:=
  ⟨by have:=Gc (w.alloc (Lz #[] 0)) (K #[G (max f 0),KD (M w)] 181);rwa [GG] at this,
   (bj.pk w N 9).aM (QP (by rw[GG];omega)),(λb g=>by cases g),QK⟩
 have j:=F (W o (((Ge _ w).a d (Lz #[] 0)).a R (K #[G (max f 0),KD (M w)] 181)));go_enter func40,ntmps40;go_wp2;go_ret;exact⟨A,j.1,j.2,R⟩
def pI (f:bp w s m room L)(z:0<=room)(o:room<=9223372036854775807):Y N 85 #[V s] w λd e=>d=G (room-(L:D))/\∃a,e=w.drewN a:=by
 let⟨g,c1⟩:=f.aV;have t:∀a c,(Builtin.len_ #[179] c #[KD (M m)]).run N (w.drewN a)=Je (G (L:D)) (w.drewN a):=λa c=>(f.cS.aM (w':=w.drewN a) A).cB Hh c;have j:=f.cB;have J:u.wrap (room-((L:D):C))=room-((L:D):C):=QQ H;go_enter func85,ntmps85;go_wp2;go_quiet (fail);go_wp2;go_ret;exact⟨A,_,A⟩
def SH (f:B)(j:bp w s m room L)(u:f.size<=Ie):Y N 162 #[V s,f] w λi l=>(∃z:C,i=G z/\(aT L (kl f)=J->z=0))/\l=w:=by
 let⟨x,c1⟩:=j.aV;have o:=j.cS;rcases j.jl f with O|⟨P,W,X,U,t,K⟩
 .go_enter func162,ntmps162;go_wp2_with (at_lookup;refine fW A _ _ 179 A 9 190 dH Hh _ (dv _) _ _ A o _ _ A (dW u) ?_;rw[O]);go_ret;exact⟨⟨_,A,λ_=>rfl⟩,A⟩
 have M:=F (show aT L (kl f)≠J by rw[t];simp);let⟨v,hd,b,p,e3,q,r⟩:=K.aV;go_enter func162,ntmps162;go_wp2_with (at_lookup;refine fW A _ _ 179 A 9 190 dH Hh _ (dv _) _ _ A o _ _ A (dW u) ?_;rw[t]);go_ret;exact⟨⟨_,A,λa=>absurd a M.o⟩,A⟩
def Dh (f:B)(o:bp w s m room L)(z:f.size<=Ie):Y N 163 #[V s,f] w λi l=>(∃j:C,i=G j/\(aT L (kl f)=J->j=0))/\∃j,l=w.drewN j:=by
 let⟨x,c1⟩:=o.aV;have t:=o.cS;rcases o.jl f with O|⟨P,W,X,U,u,K⟩
 .go_enter func163,ntmps163;go_wp2_with (at_lookup;refine fW A _ _ 179 A 9 190 dH Hh _ (dv _) _ _ A t _ _ A (dW z) ?_;rw[O]);go_ret;exact⟨⟨_,A,λ_=>rfl⟩,0,A⟩
 have M:=F (show aT L (kl f)≠J by rw[u];simp);let⟨v,hd,b,p,e3,q,r⟩:=K.aV;go_enter func163,ntmps163;go_wp2_with (at_lookup;refine fW A _ _ 179 A 9 190 dH Hh _ (dv _) _ _ A t _ _ A (dW z) ?_;rw[u]);go_quiet (fail);go_wp2;go_ret;exact⟨⟨_,A,λa=>absurd a M.o⟩,_,A⟩
end
def My {f:D}{t:QV JM}(o:g.ownsRow w q 1 (P t a i) a b)(v:f<=a)(W:0<a):g.ownsRow w q 1 (P t f i) f (b.take f):=by
 rcases o.2 with⟨Z,c⟩|⟨M,X,J,u,K,O,d,U,V,z⟩
 .omega
 simp only[Gy] at u;obtain⟨rfl,_,rfl⟩:=u;refine⟨by rw[GR,o.1];omega,j ⟨M,i,J,A,K,O,H,U,V,?_⟩⟩;rw[<-z,Nq];congr 1;omega
def AN {K:QV JM}(u:g.ownsRow w q 1 (P K a i) a (v.map O)){o:D}(t:v[o]?=k):∃j,K=M ⟨j,0,J⟩/\a<=i/\g ⟨j,o,J⟩=k:=by
 have m:=(Gg.1 t).1;have U:=u.1;rw[Hp,Ny] at U;rcases u.2 with⟨c,f⟩|⟨j,s,b,z,Z,W,V,x,y,X⟩
 .omega
 simp only[Gy] at z;obtain⟨rfl,_,rfl⟩:=z;refine⟨j,A,V,?_⟩;rw[QH W];have f:(v.map O)[o]?=k:=by rw[Ip,t];rfl
 rw[<-X,Jt] at f;split at f
 .simpa using f
 cases f
def SI (f B:E (IA×S)):Prop:=∀j∈f,j∈B
structure Di (w:ν)(s m:D)(room:C)(wr:ν)(L:E (IA×S))(v:S)(xs:E B):Prop where
 cS:bj N wr 9 m L
 fP:mR m w L
 cB:L.length<=40000
 cT:wr.ownsRow w.heap.size 9 1 v xs.length (xs.map O)
 UU:∀x∈xs,x.size<=1000000
 jR:hA m w wr
def Di.cO {wr:L}{j:E (IA×S)}(f:Di g w q c wr n m v)(o:bp g w q c j):bp wr w q c n:=o.jR f.jR f.cS f.fP f.cB
def hA.ZS (f:hA w g s)(j:T g s l):hA w g l:=
 ⟨j.os.t f.os,j.tape.t f.cb,j.output.t f.aW,GB f.aH j.z,λc d i=>by rw[j.b c d];exact f.aG c d i⟩
def EU {t:D}(o:g.ownsRow q a i m t b)(U:hA w g s)(P:a≠192)(A:∀J u O,g.heap[w]?≠M (K J u O)):s.ownsRow q a i m t b:=
 aK o λx c=>by
  rcases o.2 with⟨rfl,_⟩|⟨z,X,y,rfl,_,j,_⟩
  .cases c
  simp only[Ψ,Gd] at c;subst c;rcases U.aG z (aw j) (λa=>by subst a;exact A _ _ _ j) with f|⟨u,V,W,Z,d,v,f,_⟩
  .exact f
  rw[j] at f;simp only[Gd,Hq] at f;exact absurd f.2.1 P
def lg {t:Q Le}{O:E Le}{o:Le}{f:Act}{u:Exit->Act->L->Prop}(y:Jb o (Xg t f.tmps)=U)(P W:Kg)(V:Λ)(v:o.op=Op.lookup V P W X)(j J:Λ)(p:Maps.Keyed N j)(x:N.underlying V=M (.map j J))(Z:S)(a:(Xs J).run N g=Je Z g)(A:D)(z:E (IA×S))
 (c:f.eval P=KD (M A)) (q:bj N g j A z) (K:S) (kl:IA) (d:f.eval W=K) (b:Xi N j K=kl)
 (r:Ji N t u O (f.put o.dst ((aT z kl).getD Z)) g):Ji N t u (o::O) f g:=by
 refine Px y λ_ s=>?_;have w:=q.jE p x a b;simp[Ld,Xb,v,c,d,w,Ω];exact s _ _ r
def lh {f:IA}(j:aT n f=m)(u:WideAt.IsKeyLit f):(be f n:D)<(n:D):=by
 have z:=cx j;refine Nat.lt_of_le_of_ne (bB f n) λe=>?_;have o:be f n=n:=Pq.2 (λd i=>by
  have:=(PK.1 e) d i
  exact this)
 have t:=(oD (L:=n) (kl:=f) (p:=(f,m)) u).1 (by rwa[o]);exact t.2 A
def tY (P j:D)(U:C)(u:E (IA×π))(t:B)(a5:ν)(o:bp a5 P j U u)(f5:t.size<=1000000):
 τ γ 89 #[ξ P,t] a5 λw e=>(∃Z:C,w=G Z/\0<=Z/\Z<=12)/\(∃b,bp e P j U b/\(b:D)<=(u:D)/\SI b u)/\hA j a5 e:=by
 have c3:t.size<=Ie:=by unfold Ie;omega
 have J:=F o;have e4:=F (SH t o c3);go_enter func89,ntmps89;go_wp2_with fail;go_call e4.o as w e ⟨⟨Z,rfl,c6⟩,rfl⟩;rcases o.jl t with f6|⟨X,k4,k3,j4,af,c8⟩
 .cases c6 f6;have e2:((0:C)==0)=ψ:=dc;go_wp2;go_ret;exact⟨⟨4,A,H,H⟩,⟨u,o,d,λ_ c=>c⟩,hA.bQ _ _⟩
 by_cases a2:Z=0
 .subst a2;have e2:((0:C)==0)=ψ:=dc;go_wp2;go_ret;exact⟨⟨4,A,H,H⟩,⟨u,o,d,λ_ c=>c⟩,hA.bQ _ _⟩
 have e2:(Z==0)=σ:=by simp[a2]
 let⟨r,c1⟩:=o.aV;have z:=o.cS;let⟨j9,hd,m,ae,e3,T,Y⟩:=c8.aV;have f1:=aI m 3;have a0:=hA.ET (j:=3) (x:=G (Xd (hd-1))) m A j (o.le af);have ak:=o.jR a0 (z.aM ((aF (j:=3) (G (Xd (hd-1))) m).old j (λw=>by subst w;exact z.bx _ _ _ m))) o.fP o.cB;have ag:ρ (e.setCell (X,3) (G (Xd (hd-1))):D) (e.setCell (X,3) (G (Xd (hd-1)))) ((e.setCell (X,3) (G (Xd (hd-1)))).alloc (θ #[t] 9)):=QG.a d _;have d4:(e.setCell (X,3) (G (Xd (hd-1))):D)=e:=by simp[PZ]
 have a6:Φ (Di e P j U ((e.setCell (X,3) (G (Xd (hd-1)))).alloc (θ #[t] 9)) u (ο (e,0) 1 1) [t]):=F
  ⟨ak.cS.aM (ag.b _ ak.cS.lt),o.fP,o.cB,⟨A,Θ ⟨e,1,#[t],A,d,by have:=Gc (e.setCell (X,3) (G (Xd (hd-1)))) (θ #[t] 9);rwa [d4] at this,d,by unfold Ie;omega,A,A⟩⟩,sU f5,a0.aJ (hA.aE ag j)⟩
 clear a0 c6 a2 c8 m ae e3 ak ag d4;go_wp2_with (at_lookup;refine wL dH Hh (dv _) z (dW c3) ?_;rw[af]);clear f1 r c1 af T Y;go_loopg [5] (17*(u:D)+1) (λb2 a3 wr=>∃(b:E (IA×π)) (h:E B),b2=17*(b:D)+(h:D)/\b2<=680001/\(b:D)<=(u:D)/\Φ (SI b u)/\Φ (Di e P j U wr b a3 h))
 case atStart=>exact⟨u,[t],A,oA a6.o.cB,d,F λ_ c=>c,a6⟩
 case round=>
  let⟨b,h,c0,i0,ab,s,g⟩:=hrel;have i5:(h:D)<=680001:=H;have K:=F c0;clear c0;obtain⟨k2,e1,rfl⟩:=eA g.o.cT;let⟨r,c1⟩:=(g.o.cO J.o).aV;rcases Py (h:D) with b3|b3
  .have e0:¬(0:C)<((h:D):C):=H;go_wp2;go_ret;exact⟨⟨0,A,H,H⟩,⟨b,g.o.cO J.o,ab,s.o⟩,g.o.jR⟩
  let⟨a,f3⟩:∃a,(h:D)=a+1:=⟨(h:D)-1,H⟩;let⟨c,ai⟩:∃c,h[a]?=δ c:=⟨_,Gf H⟩;obtain⟨g6,rfl,h7,h0⟩:=AN g.o.cT ai;have i1:=g.o.UU c (Gl ai);have N:c.size<=Ie:=by unfold Ie;omega
  have b0:=y (∀I∈h.take a,I.size<=1000000) λI a1=>g.o.UU I (JZ a1);have v:=y ((h.take a:D)=a) (by rw[GR];omega);have a8:=F (My g.o.cT (H:a<=(h:D)) b3);have g4:=g.o.cT.1;have i7:(a:C)<=680001:=H;have K:=F (show gk=17*(b:D)+(a+1) by have:=K.o;omega);rw[f3] at *;have e0:(0:C)<((a+1:D):C):=H;have g5:(0:C)<=(a:C):=H;have g8:(a:C)<=(e1:C):=H;have g9:(a:C)<((a+1:D):C):=H;have g7:η.wrap (((a+1:D):C)-1)=(a:C):=by rw[show((a+1:D):C)-1=(a:C) from H];exact QQ H
  have a7:=F (Dh c (g.o.cO J.o) N);clear ai g4;go_wp2_with fail;go_call a7.o as w d8 ⟨⟨d6,rfl,f4⟩,g3,d2⟩;have n:ρ wr wr d8:=d2▸QG.sI g3;have M:=y (Di e P j U d8 b (ο g6 a e1) (h.take a)) ⟨g.o.cS.aM (n.b _ g.o.cS.lt),g.o.fP,g.o.cB,by rw[v.o,Ps];exact aQ a8.o n,b0.o,g.o.jR.aJ (hA.aE n j)⟩;let⟨r,c1⟩:=(M.o.cO J.o).aV;have z:=M.o.cS;clear d2 n a7 g b0 a8 h0;by_cases p:0<d6
  .clear z;go_wp2;go_roundg (17*(b:D)+a)
   case measure=>have:=K.o;omega
   case rel=>exact⟨b,h.take a,by rw[v.o],oA K.o,ab,s,M⟩
  have g2:LH ((0:C)<d6)=σ:=sU p;cases W:aT b (kl c) with
  |none=>
   go_wp2_with (at_lookup;refine lg A _ _ 179 A 9 190 dH Hh _ (dv _) _ _ A z _ _ A (dW N) ?_;rw[W]);go_roundg (17*(b:D)+a)
   case measure=>have:=K.o;omega
   case rel=>exact⟨b,h.take a,by rw[v.o],oA K.o,ab,s,M⟩
  |some j0=>
   let⟨i8,n,t2,j6,q,d1,R,_⟩:=M.o.fP _ (cx W);simp only[Hf] at d1;obtain⟨_,rfl⟩:=d1;have a9:=F J.o.cS.bx;have x:=R.jR M.o.jR a9.o;let⟨k0,h8,m,ae,e3,T,Y⟩:=x.aV;obtain⟨j2,j3,rfl,_⟩:=R.jJ.bZ;have e6:=F R.jJ;have i3:=x.cB;have e5:=F x.UU;have L:=y ((be (kl c) b:D)<(b:D)) (lh W (z.xR dH _ (cx W)));clear f4 x R m ae T Y;go_wp2_with (at_lookup;refine lg (by simp[Jb,Xg,g2]) _ _ 179 A 9 190 dH Hh _ (dv _) _ _ A z _ _ A (dW N) ?_;rw[W]);clear W e3 r c1 z e0 g5 g7 g8 g9;go_loopw [5,65] (λa3 iv wr=>∃(k:D) (i:E B),k<=(q:D)/\iv=G k/\(i:D)<=a+k/\Φ (Di e P j U wr b a3 i)) (λ_ iv _=>(q:D)-(QI iv).toNat);case atStart=>exact⟨0,h.take a,H,A,oA v.o,M⟩
   case round=>
    clear M;obtain⟨k,i,c7,rfl,i6,f⟩:=hrel;let⟨r,c1⟩:=(f.o.cO J.o).aV;have V:=f.o.cS;by_cases f2:k<(q:D)
    .let⟨l,aj⟩:∃l,q[k]?=δ l:=⟨_,Gf f2⟩;let⟨h2,h3,b9,b7⟩:=(e6.o.jR f.o.jR a9.o).bZ;simp only[Gy] at b9;obtain⟨rfl,_,rfl⟩:=b9;obtain⟨h6,i9,rfl,i2,j1⟩:=b7 k l aj;have i4:=e5.o l (Gl aj);have d3:l.size<=Ie:=by unfold Ie;omega
     clear b7 aj;rcases(f.o.cO J.o).jl l with f7|⟨e8,j8,j7,j5,b4,c2⟩
     .go_wp2_with (at_lookup;refine wL dH Hh (dv _) V (dW d3) ?_;rw[f7]);go_roundw;case rel=>exact⟨k+1,i,H,gN,H,f⟩
      case measure=>simp[QI];omega
     let⟨S,h9,d0,e9,f0,h4,d5⟩:=c2.aV;have h5:=aI d0 2;have ah:=hA.ET (j:=2) (x:=G (Xd (S-1))) d0 A j ((f.o.cO J.o).le b4);have O:=y (Di e P j U (wr.setCell (e8,2) (G (Xd (S-1)))) b _ i) ⟨V.aM ((aF (j:=2) (G (Xd (S-1))) d0).old j (λw=>by subst w;exact V.bx _ _ _ d0)),f.o.fP,f.o.cB,EU f.o.cT ah dc V.bx,f.o.UU,f.o.jR.aJ ah⟩;have b6:=O.o.jR.aH;have e7:=F (aF (j:=2) (G (Xd (S-1))) d0).aH;clear ah c2 d0 e9 f0 d5;go_wp2_with (first|(at_lookup;refine wL dH Hh (dv _) V (dW d3) ?_;rw[b4])|(at_builtin;refine ym hO A _ _ A A O.o.cT (e7.o▸rfl) _ A QA H b6 ?_;intro k1 h1 g1 g0));go_roundw;case rel=>
      have b5:=g0.cE b6 λk c7=>(bG O.o.cT c7).1;have f9:=J.o.cS.lt;exact⟨k+1,i++[l],H,gN,by rw[Gk];simp;omega,F ⟨O.o.cS.aM (b5.b _ f9),O.o.fP,O.o.cB,by rw[Gk,Io];exact g1,λI a1=>(GO.1 a1).elim (O.o.UU I) (λc=>by rw[GA.1 c];omega),O.o.jR.ZS b5⟩⟩
     case measure=>simp[QI];omega
    obtain rfl:k=(q:D):=H;go_wp2_with (at_delete;refine kJ A _ _ 179 9 A 190 dH Hh _ _ A V _ _ A (dW N) ?_;intro h1 f8 d9);go_roundg (17*(be (kl c) b:D)+(i:D))
    case measure=>have:=K.o;have:=L.o;omega
    case rel=>exact⟨be (kl c) b,i,A,oB K.o L.o,oA L.o,F λa4 p=>s.o a4 (GX.1 p).1,F ⟨f8,λa4 p=>f.o.fP a4 (GX.1 p).1,oB L.o f.o.cB,EU f.o.cT (hA.dD d9) dc V.bx,f.o.UU,f.o.jR.aJ (hA.dD d9)⟩⟩
def ZT (A:B)(u:He):Prop:=
 (∃o j,ct o j/\hU j/\((o=zc/\j=bE)\/((j.bq=1\/j.bq=2\/j.bq=3)/\∀z,(j.r z).size<A.size))/\u=f #[t o,G 0])\/u=f #[zc,G 2]
def mS (f:B)(A:f.size<=1000000)(t:L)(u:As.cC t):Y N 155 #[f] t λi n=>ZT f i/\T t t n:=by
 refine(pU f (Sr f) (ac9 f) (ada f) t (λi ⟨g,b,G,hd,_,_,_,_,c⟩=>⟨g,b,G,hd,c⟩)
  (λ_ _ ⟨b,_,_,s,a,_⟩=>⟨s,a⟩) (λ_ _ ⟨b,_,_,_,r,a⟩=>⟨r,a⟩) (λl b1=>(pT f l H (u.aE b1)).m λi n ⟨a,h⟩=>⟨a.ok A,h⟩) ?_ ?_).m ?_
 .intro g z l b1;let⟨b,hd,d,y,k,p⟩:=z.Ss;exact(la g b hd d y (λv=>oA (k v)) (λS v R=>fN 32 _ R H) l (u.aE b1)).m λi n ⟨a,h⟩=>⟨⟨b,hd,⟨k,λI=>p.resolve_left λa=>I (a▸rfl)⟩,a⟩,h⟩
 .intro g z K l b1;let⟨b,hd,k,s,c,e⟩:=K;simp only[Ii,Nb] at c;exact(yt g b hd (e c.s) f A k.1 l).m λi n ⟨⟨r,a,_⟩,h⟩=>⟨⟨b,hd,k,e c.s,r,a⟩,h⟩
 rintro i n ⟨a,h⟩;refine⟨?_,h⟩;rcases a with⟨g,d0,P,M,O,⟨b,hd,k,e,_⟩,c⟩|⟨c,_⟩
 .let⟨w,x,d,y,a0,p⟩:=M.Ss;let⟨q,m,F,a1⟩:=hd.inj x;have J:hU w:=⟨q▸e.bq,m▸e.bA,m▸e.dK,F▸e.bL,by rw[<-q,<-m];exact e.ext,by rw[<-q,<-m];exact e.branch⟩;refine o ⟨g,w,x,J,?_,c⟩;rcases d with d|d
  .exact o d
  exact j ⟨d,p.resolve_left λa=>by rw[a] at d;simp[bE] at d⟩
 exact j c
def xr (J:E B->Prop)(K:Prop)(z:B):Prop:=∀o,eI o->Y N 155 #[O z] o λb c=>
 ((∃a h,ct a h/\b=f #[t a,G 0]/\∀j,eI j->Y N 156 #[t a] j λb c=>(∃A u,b=ι A/\km c A u/\u.length<=16/\(∀z∈u,z.size=32)/\J u)/\T j j c)\/
  (K/\∃(d:C) (a:Q S) (h:Nd),d≠0/\0<=d/\d<=12/\ct a h/\b=f #[t a,d]))/\T o o c
def Mz (u:B)(M:u.size<=1000000):xr (λ_=>True) True u:=λm r=>
 (mS u M m r.dm).m λh k ⟨c,a⟩=>⟨by
  rcases c with⟨z,b,hd,K,t,f⟩|f
  .refine o ⟨z,b,hd,f,λd i=>?_⟩
   rcases t with⟨rfl,rfl⟩|⟨O,t⟩
   .exact(kn d i.dm).m λh k ⟨c,a⟩=>⟨⟨_,[],c,⟨o ⟨J,0,A,A⟩,.none _ _ _ _⟩,R,R,tV⟩,a⟩
   exact(Da z b hd (K.dZ H λp=>oA (t p)) d i.dm).m λh k ⟨⟨g,v,l,n,e,b,_⟩,a⟩=>⟨⟨g,v,l,n,e,b,tV⟩,a⟩
  exact j ⟨tV,2,zc,bE,H,H,H,cA,f⟩,a⟩
def AO {j:B}(o:(aT n (kl j)).isSome=U\/j=k):(aT ((kl k,m)::be (kl k) n) (kl j)).isSome=U:=by
 by_cases f:j=k
 .subst f;rw[bY (by simp[kl,WideAt.IsKeyLit])];rfl
 rw[ck (λd=>f (hI d).s),dO (λd=>f (hI d))];exact o.resolve_right f
def AP (W:E QE->Prop)(X:Prop)(j:E QE)(B:D)(K:He)(P:L):Prop:=(∃u:C,u≠0/\0<=u/\u<=12/\(X\/j=[])/\K=f #[KD J,u])\/
 ∃A t,K=f #[KD (M A),G 0]/\j≠[]/\B<=A/\bj N P 9 A t/\t.length<=j.length/\(∀m∈t,∃o z Z O,o∈j/\m=(kl (bn o),V (M ⟨z,0,J⟩))/\B<=z/\It P z o Z O/\W O)/\∀o∈j,(aT t (kl (bn o))).isSome=U
theorem Dj (a4:π)(o:E B)(X:E B->Prop)(ah:Prop)(j:ν)(ae:eI j)(c7:bS j a4 o)(f6:(o:D)<=20000)(a6:∀b∈o,xr X ah b/\b.size<=1000000):
 τ N 82 #[a4] j λm a5=>AP X ah o j m a5/\ρ j j a5:=by
 obtain⟨g4,g5,rfl,a7⟩:=c7.bZ;by_cases P:o=[]
 .have f0:(((o:D):C)==0)=ψ:=by simp[P]
  have z:=QC (AP X ah o j (ι (χ #[KD ζ,G 2])) j) (Ξ ⟨2,H,H,H,Θ P,A⟩);go_enter func82,ntmps82;go_wp2;go_ret2;exact⟨z.o,QG⟩
 have f7:=KC.2 P;have f0:(((o:D):C)==0)=σ:=QB;have d6:=F P;have f2:=@run_makeMap N;go_enter func82,ntmps82;go_wp2;go_loopw [16] (λiv wr=>∃(e:D) (h:E (IA×π)),e<=(o:D)/\iv=G e/\(h:D)<=e/\ρ j j wr/\Φ (bj N wr 9 j h/\(∀s∈h,∃b k a c,b∈o/\s=(kl (bn b),ξ (δ ⟨k,0,ζ⟩))/\j<=k/\It wr k b a c/\X c)/\∀g b,g<e->o[g]?=δ b->(aT h (kl (bn b))).isSome=ψ)) (λiv _=>(o:D)-(QI iv).toNat);case atStart=>exact⟨0,[],H,A,QK,(Ge _ j).a d _,F ⟨bj.pk j N 9,nF,λg b n=>H⟩⟩
 case round=>
  obtain⟨e,h,f4,rfl,e2,M,u⟩:=hrel;by_cases e5:e<(o:D)
  .let⟨b,i⟩:∃b,o[e]?=δ b:=⟨_,Gf e5⟩;obtain⟨g2,g7,rfl,f5,ak⟩:=a7 e b i;have ak:=Below.ce M ak;let⟨b5,e4⟩:=a6 b (Gl i);have x:=F i;have a8:=F (b5 wr (ae.aE M));go_wp2_with fail;go_call a8.o as m f ⟨d9,t⟩;have J:=M.t (t.m M.z);have L:=F u.1.lt;rcases d9 with⟨c8,d2,hd,rfl,b3⟩|⟨b6,a3,c8,d2,aj,b9,c0,hd,rfl⟩
   .have f1:((0:C) !=0)=σ:=dc;have w:=Gc f (θ zc 281);have e8:=hd.aH;have a9:=F b3;go_wp2_with (refine tS hd w ?_;intro ag W);have r:ρ f f ag:=W.aE _ _ d ((Ge _ f).a d _);have v:=J.t (r.m J.z);have b2:=F (cV b ag H (ae.aE v).kO);have c2:=W.at_;go_call b2.o as m w4 ⟨rfl,K⟩;have O:=v.t (K.m v.z);have c3:=Below.ke K c2;have Z:=(t.t (r.m t.z)).t (K.m (t.t (r.m t.z)).z);have I:=u.1.aM (Z.b _ L.o);have ab:(bn b).size<=Ie:=by rw[ec];unfold Ie;omega
    cases V:aT h (kl (bn b)) with
    |some f8=>
     let⟨g8,f3,g3,g1,_,a2,_⟩:=u.2.1 _ (cx V);simp only[Hf] at a2;obtain⟨_,rfl⟩:=a2;have d4:=F V;go_wp2_with (at_lookup;refine wL dH Hh (dv _) I (dW ab) ?_;rw[V]);go_roundw;case rel=>exact⟨e+1,h,H,gN,H,O,F ⟨I,λs p=>by
      let⟨b,k,a,c,c1,y,R,c4,c5⟩:=u.2.1 s p
      exact⟨b,k,a,c,c1,y,R,c4.aE Z,c5⟩,λg ai q l=>by
      rcases KG g e with n|n
      .exact u.2.2 g ai n l
      obtain rfl:g=e:=H
      rw[x.o] at l;obtain rfl:=Gm l;rw[d4.o];rfl⟩⟩
     case measure=>simp[QI];omega
    |none=>
     have b0:=F (a9.o w4 (ae.aE O));go_upto_region 12 with(at_lookup;refine wL dH Hh (dv _) I (dW ab) ?_;rw[V]);go_wp2_with (refine tL c3 ?_ (f:=e8));go_call b0.o as m w5 ⟨⟨a,xs,rfl,S,e9,d1,b4⟩,T⟩;have Y:=O.t (T.m O.z);have U:=Z.t (T.m Z.z);have a0:bj N (w5.alloc (θ #[β b,a,G 0,G 0] 192)) 9 j h:=(u.1.aM (U.b _ L.o)).aM (QP (oB U.z L.o));have b7:It (w5.alloc (θ #[β b,a,G 0,G 0] 192)) w5 b a xs:=⟨⟨0,0,Gc w5 _⟩,S.1.hQ ((Ge _ w5).a d _),e4,e9,d1,S.2.aE ((Ge _ w5).a d _)⟩;have e0:ρ wr wr (w5.alloc (θ #[β b,a,G 0,G 0] 192)):=U.a U.z _;have a1:ρ j j (w5.alloc (θ #[β b,a,G 0,G 0] 192)):=Y.a Y.z _;have d3:=F b7;have d8:=F b4;have e6:(h:D)<Ie:=by unfold Ie;omega
     have e1:=Y.z;obtain⟨f9,g0,rfl,_⟩:=S.1.bZ;go_wp2_with (at_mapUpdate;refine wS dH Hh a0 e6 (dW ab) ?_;intro g6 e7 af);have c6:=a0.bx;go_roundw;case rel=>exact⟨e+1,_,H,gN,by have:=bB (kl (bn b)) h;simp only[Gx];omega,uN a1 af d a1.z,F ⟨e7,λs p=>by
      rcases GF.1 p with rfl|p
      .exact⟨b,w5,_,xs,Gl x.o,A,e1,d3.o.jR (hA.dD af) c6,d8.o⟩
      .let⟨b,k,a,c,c1,y,R,c4,c5⟩:=u.2.1 s (GX.1 p).1
       exact⟨b,k,a,c,c1,y,R,(c4.aE e0).jR (hA.dD af) c6,c5⟩,λg ai q l=>by
      rcases KG g e with n|n
      .exact AO (Ξ (u.2.2 g ai n l))
      obtain rfl:g=e:=H
      rw[x.o] at l;obtain rfl:=Gm l;exact AO (Θ A)⟩⟩
     case measure=>simp[QI];omega
   have f1:(a3 !=0)=ψ:=by simp[aj]
   have w:=Gc f (θ zc 281);have z:=F (κ b6 (κ aj (κ b9 c0)));go_wp2_with (refine tS hd w ?_;intro ag W);go_ret2;exact⟨Ξ ⟨a3,z.2.1,z.2.2.1,z.2.2.2,Ξ z.1,A⟩,W.aE _ _ J.z (J.a J.z _)⟩
  obtain rfl:e=(o:D):=H;go_wp2;go_ret2;refine⟨Θ ⟨j,h,A,d6.o,d,u.1,e2,u.2.1,λb i=>?_⟩,M⟩;let⟨g,q⟩:=GI.1 i;exact u.2.2 g b (oA (Gg.1 q).1) q
def lj (f:L):(Xs 3).run N f=Je (G 0) f:=e
def gV (f:B):WideAt.IsKeyLit (kl f):=by simp[kl,WideAt.IsKeyLit]
structure yE (w0:ν)(bm bs bf bg mm s g:D)(L:E (IA×S))(w:ν)(M:E (IA×S))(fv:S)(xs:E B)(c:C):Prop where
 aE:T w0 w0 w
 met:w.heap[bm]?=K #[KD (δ mm)] 182
 cS:bj N w 9 mm M
 fS:∀p∈M,∃n:C,p.2=G n/\1<=n/\n<=c
 stb:w.heap[bs]?=K #[V s] 96
 ZU:w.heap[bf]?=K #[fv] 33
 gvb:w.heap[bg]?=K #[KD (δ g)] 179
 cT:w.ownsRow (w0.heap.size+5) 9 1 fv xs.length (xs.map O)
 dm:∀x∈xs,(aT M (kl x)).isSome=U
 Wd:∀x,(aT M (kl x)).isSome=U->(aT L (kl x)).isSome=U\/x∈xs
 xt:xs.Nodup
 iY:∀x∈xs,aT L (kl x)=J/\x.size<=1000000
 cB:(M.length:C)<=c
structure yF (w0:L)(bm bs bf bg mm:D):Prop where
 lo:w0.heap.size<=bm/\w0.heap.size<=bs/\w0.heap.size<=bf/\w0.heap.size<=bg/\w0.heap.size<=mm
 hi:bm<w0.heap.size+5/\bs<w0.heap.size+5/\bf<w0.heap.size+5/\bg<w0.heap.size+5/\mm<w0.heap.size+5
 ne:bf≠bm/\bf≠bs/\bf≠bg/\mm≠bm/\mm≠bs/\mm≠bf/\mm≠bg
def We (Z:L)(bm bs O P X p M:D)(u J:E (IA×S))(t:E B)(A:C)(f:B)(V:He)(q:L):Prop:=
 ∃K W o j,V=z j/\yE Z bm bs O P X p M u q K W o (A+1)/\((o=t/\j=U/\((aT u (kl f)).isSome=U\/f∈t))\/(o=t++[f]/\j=(aT J (kl f)).isSome))
def iE (j:B):(aT ((kl k,m)::be (kl k) n) (kl j)).isSome=U↔j=k\/(aT n (kl j)).isSome=U:=by
 by_cases f:j=k
 .subst f;rw[bY (gV _)];simp
 rw[ck (λd=>f (hI d).s),dO (λd=>f (hI d))];simp[f]
def yG {f:IA}{j:IA×S}(a:j∈(f,m)::be f n):j=(f,m)\/j∈n:=(GF.1 a).imp id λa=>(GX.1 a).1
def yE.EV {f bm K:D}{z:E (IA×S)}{u:C}(J:yF g w q a i f)(o:yE g w q a i f bm K n s z m v c)
 (V:bj N l 9 f ((kl k,G u)::be (kl k) z)) (M:s.mapTurned l f) (O:1<=u) (P:u<=c+1) (W:(aT n (kl k)).isSome=U\/k∈v):
 yE g w q a i f bm K n l ((kl k,G u)::be (kl k) z) m v (c+1):=by
 have t:aL (· =f) s l:=aL.dD (aL.bQ _ s) M (λ_=>rfl);obtain⟨B,I,Q,Z,p,r,L⟩:=J.ne;refine⟨uN o.aE M J.lo.2.2.2.2 o.aE.z,t.aM o.met (λb=>Z b.s),V,λH bs=>?_,t.aM o.stb (λb=>p b.s),t.aM o.ZU (λb=>r b.s),t.aM o.gvb (λb=>L b.s),aK o.cT λF e=>t.aG F (bG o.cT e).2 (λb=>by have:=(bG o.cT e).1;have:=J.hi;omega),λh d=>(iE h).2 (j (o.dm h d)),λh d=>?_,o.xt,o.iY,by have:=bB (kl k) z;have:=o.cB;simp only[Gx];omega⟩
 .rcases yG bs with rfl|bs
  .exact⟨u,A,O,P⟩
  obtain⟨X,y,x,e3⟩:=o.fS H bs;exact⟨X,y,x,by omega⟩
 rcases(iE h).1 d with rfl|d
 .exact W
 exact o.Wd h d
def yE.YE {o:ν}{f Z X:D}{t:E (IA×π)}{u:π}(J:yF g w q a i f)(z:yE g w q a i f Z X n s t m v c)
 (P:bj γ l 9 f ((kl k,ε η 1)::be (kl k) t)) (W:s.mapTurned l f) (b4:0<=c) (a4:aT t (kl k)=ζ) (ae:aT n (kl k)=ζ) (a2:k.size<=1000000)
 (V:o.ownsRow (g.heap.size+5) 9 1 u (v.length+1) (v.map β++[β k])) (bm:aL (λd=>m.ownBlock=M d) l o):
 yE g w q a i f Z X n (o.setCell a u) ((kl k,ε η 1)::be (kl k) t) u (v++[k]) (c+1):=by
 have a6:aL (· =f) s l:=aL.dD (aL.bQ _ s) W (λ_=>rfl);obtain⟨N,y,F,H,S,K,R⟩:=J.ne;obtain⟨r,bs,T,Y,ab⟩:=J.hi;obtain⟨b5,b6,a7,b7,a8⟩:=J.lo;have U:∀d,d<g.heap.size+5->¬m.ownBlock=M d:=λd G b=>by have:=(bG z.cT b).1;omega
 have A:∀(d:D) (p:Obj),d≠f->d<g.heap.size+5->s.heap[d]?=M p->o.heap[d]?=M p:=λd p r bs k=>bm.aM (a6.aM k r) (U d bs);have j:=aF (j:=0) u (A a _ (λb=>K b.s) T z.ZU);have a5:k∉v:=λe=>by have:=z.dm k e;rw[a4] at this;cases this
 have O:ρ g g l:=uN z.aE W a8 z.aE.z;have a1:ρ g g o:=O.t (bm.cE O.z λb9 a3=>by have:=(bG z.cT a3).1;omega);refine⟨j.aE _ _ a7 a1,(j.old w (λb=>N b.s)).t (A w _ (λb=>H b.s) r z.met),P.aM ((j.old f K).t (bm.aG f P.lt (U f ab))),λb0 x=>?_,(j.old q (λb=>y b.s)).t (A q _ (λb=>S b.s) bs z.stb),j.at_,(j.old i (λb=>F b.s)).t (A i _ (λb=>R b.s) Y z.gvb),
  aK (by rw[Gk,Io];exact V) λd G=>j.old d (λb=>by have:=(bG V G).1;omega),λh e=>(iE h).2 ?_,λh e=>?_,?_,λh e=>?_,by have:=bB (kl k) t;have:=z.cB;simp only[Gx];omega⟩
 .rcases yG x with rfl|x
  .exact⟨1,rfl,by omega,by omega⟩
  obtain⟨a9,I,L,e3⟩:=z.fS b0 x;exact⟨a9,I,L,by omega⟩
 .exact(GO.1 e).elim (λk=>Θ (z.dm h k)) λk=>Ξ (GA.1 k)
 .rcases(iE h).1 e with rfl|e
  .exact Θ sm
  exact(z.Wd h e).imp id λk=>Jq _ k
 .exact List.nodup_append.2 ⟨z.xt,by simp,λb2 af b3 a0=>by rw[GA.1 a0];intro b;exact a5 (b▸af)⟩
 exact(GO.1 e).elim (z.iY h) λk=>by rw[GA.1 k];exact⟨ae,a2⟩
def SK (o:ν)(bm bs a y h Z d1 i:D)(d2:C)(P j m:E (IA×π))(K:π)(k:E B)(a2:C)(b:B)(r:ν)(ab:yF o bm bs a y h)(af:bp o Z d1 d2 P)(ae:bj N o 9 i j)(e9:∀f4∈j,∃d4,f4.2=ξ (M d4))(f:yE o bm bs a y h Z i P r m K k a2)
 (b9:0<=a2) (g2:a2<=1000000000) (c0:b.size<=1000000) (g9:(k:D)<=900000) (e8:(o:D)+5<=(r:D)):
 τ N 160 #[b,ξ bm,ξ bs,ξ a,ξ y] r (We o bm bs a y h Z i P j k a2 b):=by
 have g:b.size<=Ie:=by unfold Ie;omega
 have a0:(m:D)<Ie:=by have:=f.cB;unfold Ie;omega
 have c8:=cJ 0 f.met;have s:=f.cS;have d6:=af.aE f.aE;have d3:=ae.aM (f.aE.b _ ae.lt);let⟨f7,I,b2,b3,e1,b4,e2⟩:=ab.ne;let⟨h4,h5,h6,h7,h8⟩:=ab.lo;let⟨f8,f9,ai,b6,g0⟩:=ab.hi;have U:=F ab;have d9:=e8;have t:=F f;have e0:=F d6;have f6:=F d3;cases u:aT m (kl b) with
 |some i2=>
  obtain⟨x,rfl,g5,g6⟩:=f.fS _ (cx u);have V:=F (f.Wd b (u▸rfl));have d8:η.wrap (x+1)=x+1:=QQ H;have h0:(1:C)<x+1:=H;have h1:(0:C)<=x:=H;have h2:x<=1000000000:=H;go_enter func160,Qx;go_wp2_with (first|(at_lookup;refine wL dH GY (lj _) s (dW g) ?_;rw[u])|(at_mapUpdate;refine wS dH GY s a0 (dW g) ?_;intro c e p;have e:bj N c 9 h ((kl b,G (x+1))::be (kl b) m):=e;have a9:c bm=KD (M h):=(aL.dD (aL.bQ (· =h) r) p (λ_=>rfl)).dN c8 (λd=>b3 d.s);have z:=bY (gV b) (G (x+1)) (be (kl b) m))|(at_lookup;refine wL dH GY (lj _) e (dW g) ?_;rw[z]))
  trace_state
  go_ret;exact⟨_,K,k,ψ,A,t.o.EV U.o e p H H V.o,Ξ ⟨A,A,V.o⟩⟩
 |none=>
  have b0:=F u;have d8:η.wrap ((0:C)+1)=1:=dc;have s0:=cJ 0 f.stb;have c2:=cJ 0 f.ZU;have c3:r.frozen? a=σ:=aI f.ZU 0;have c6:=cJ 0 f.gvb;have q:∀l,l<(o:D)+5->¬K.ownBlock=M l:=λl a8 d=>oA (bG f.cT d).1;have f2:∀l,K.ownBlock=M l->l≠h:=λl d g3=>q l H d;have f0:=ae.lt;have g8:=af.cS.lt;have g7:=aw af.bO;have g1:=f.aE.z;have f1:=aw f.ZU;have g4:=aw f.gvb;have a3:=QC (∀c,r.mapTurned c h->c bm=KD (M h)/\c bs=ξ Z/\c a=K/\c y=KD (M i)/\bp c Z d1 d2 P/\bj N c 9 i j/\c.ownsRow ((o:D)+5) 9 1 K (k:D) (k.map β)/\(o:D)+5<=(c:D)/\c.frozen? a=σ) λc c7=>by
   have J:aL (· =h) r c:=aL.dD (aL.bQ _ r) c7 (λ_=>rfl);have b7:=uN t.o.aE c7 U.o.lo.2.2.2.2 t.o.aE.z;exact⟨J.dN c8 (λd=>b3 d.s),J.dN s0 (λd=>e1 d.s),J.dN c2 (λd=>b4 d.s),J.dN c6 (λd=>e2 d.s),af.aE b7,ae.aM (b7.b _ f0),aK t.o.cT λl a8=>J.aG l (bG t.o.cT a8).2 (f2 l a8),GB d9 J.aH,(Jf (w:=r) (a:=a) (J.aG a f1 (λd=>b4 d.s))).t c3⟩
  cases O:aT P (kl b) with
  |some f3=>
   let⟨h3,e4,i1,i0,h9,T,_⟩:=e0.o.fP _ (cx O);simp only[Hf] at T;obtain⟨_,rfl⟩:=T;have V:=QC ((aT P (kl b)).isSome=ψ) (O▸rfl);go_enter func160,Qx;go_wp2_with (first|(at_lookup;refine wL dH GY (lj _) s (dW g) ?_;rw[u])|(at_mapUpdate;refine wS dH GY s a0 (dW g) ?_;intro c e p;have e:bj N c 9 h ((kl b,G 1)::be (kl b) m):=e;let⟨a9,s1,L,ah,v,R,a1,aj,ag⟩:=a3.o c p;let⟨b5,c1⟩:=v.aV;have W:=v.cS;have z:=bY (gV b) (G 1) (be (kl b) m))|(at_lookup;refine wL dH GY (lj _) e (dW g) ?_;rw[z])|(at_lookup;refine lg rf _ _ 179 A 9 190 dH Hh _ (dv _) _ _ A W _ _ A (dW g) ?_;rw[O]));go_ret;exact⟨_,K,k,ψ,A,t.o.EV U.o e p H H (Ξ V.o),Ξ ⟨A,A,Ξ V.o⟩⟩
  |none=>
   cases X:aT j (kl b) with
   |some f3=>
    let⟨e4,T⟩:=e9 _ (cx X);simp only at T;subst T;have a4:=QC (ψ=(aT j (kl b)).isSome) (X▸rfl);have a5:=F O;go_enter func160,Qx;go_wp2_with (first|(at_lookup;refine wL dH GY (lj _) s (dW g) ?_;rw[u])|(at_mapUpdate;refine wS dH GY s a0 (dW g) ?_;intro c e p;have e:bj N c 9 h ((kl b,G 1)::be (kl b) m):=e;let⟨a9,s1,L,ah,v,R,a1,aj,ag⟩:=a3.o c p;let⟨b5,c1⟩:=v.aV;have W:=v.cS;have z:=bY (gV b) (G 1) (be (kl b) m))|(at_lookup;refine wL dH GY (lj _) e (dW g) ?_;rw[z])|(at_lookup;refine lg rf _ _ 179 A 9 190 dH Hh _ (dv _) _ _ A W _ _ A (dW g) ?_;rw[O])|(at_builtin;refine aP hO a1 aj ?_;intro f5 w Y n;obtain⟨I,S,rfl⟩:=eA Y;have e5:=n.dN L (q _ ai);have e6:=(Jf (w:=c) (a:=a) (n.aG a (bH L) (q _ ai))).t ag;have a6:=n.dN ah (q _ b6);have e7:(w.setCell a (ο I ((k:D)+1) S)) y=KD (M i):=(GQ (w:=w) (QJ (λd=>b2 d.s))).t a6;have a7:bj N (w.setCell a (ο I ((k:D)+1) S)) 9 i j:=(R.aM (n.aG i R.lt (q i H))).aM (QJ uo))|(at_lookup;refine wL dH Hh (dv _) a7 (dW g) ?_;rw[X]));go_ret;exact⟨_,_,k++[b],ψ,A,t.o.YE U.o e p b9 b0.o a5.o c0 Y n,Θ ⟨A,a4.o⟩⟩
   |none=>
    have a4:=QC (σ=(aT j (kl b)).isSome) (X▸rfl);have a5:=F O;go_enter func160,Qx;go_wp2_with (first|(at_lookup;refine wL dH GY (lj _) s (dW g) ?_;rw[u])|(at_mapUpdate;refine wS dH GY s a0 (dW g) ?_;intro c e p;have e:bj N c 9 h ((kl b,G 1)::be (kl b) m):=e;let⟨a9,s1,L,ah,v,R,a1,aj,ag⟩:=a3.o c p;let⟨b5,c1⟩:=v.aV;have W:=v.cS;have z:=bY (gV b) (G 1) (be (kl b) m))|(at_lookup;refine wL dH GY (lj _) e (dW g) ?_;rw[z])|(at_lookup;refine lg rf _ _ 179 A 9 190 dH Hh _ (dv _) _ _ A W _ _ A (dW g) ?_;rw[O])|(at_builtin;refine aP hO a1 aj ?_;intro f5 w Y n;obtain⟨I,S,rfl⟩:=eA Y;have e5:=n.dN L (q _ ai);have e6:=(Jf (w:=c) (a:=a) (n.aG a (bH L) (q _ ai))).t ag;have a6:=n.dN ah (q _ b6);have e7:(w.setCell a (ο I ((k:D)+1) S)) y=KD (M i):=(GQ (w:=w) (QJ (λd=>b2 d.s))).t a6;have a7:bj N (w.setCell a (ο I ((k:D)+1) S)) 9 i j:=(R.aM (n.aG i R.lt (q i H))).aM (QJ uo))|(at_lookup;refine wL dH Hh (dv _) a7 (dW g) ?_;rw[X]));go_ret;exact⟨_,_,k++[b],σ,A,t.o.YE U.o e p b9 b0.o a5.o c0 Y n,Θ ⟨A,a4.o⟩⟩
def uV:∀(b:E B) (c:E (IA×S)),b.Nodup->(∀a∈b,(aT c (kl a)).isSome=U)->(b:D)<=(c:D)
 |[],_,_,_=>QK
 |a::b,c,d,e=>by
  let⟨l,i⟩:=JW.1 (e a (Hk ..));have j:=lh i (gV a);have f:=uV b (be (kl a) c) (JS.1 d).2 λk g=>by
   rw[dO (λh=>by have:=hI h;subst this;exact(JS.1 d).1 g)];exact e k (GK _ g)
  simp[Gx];omega
def yE.fb {d z t u:D}{o:E (IA×S)}(f:yE g w q d i z t u n s o m v c)(j:T s s l):yE g w q d i z t u n l o m v c:=
 ⟨f.aE.t (j.m f.aE.z),j.ke f.met,f.cS.aM (j.b _ f.cS.lt),f.fS,j.ke f.stb,j.ke f.ZU,j.ke f.gvb,aQ f.cT j,f.dm,f.Wd,f.xt,f.iY,f.cB⟩
def uW (u z:E (IA×S))(K:D->E B)(W:B)(O:He)(l:L):Prop:=
 (∃A,aT u (kl A)=J/\aT z (kl A)=J/\(∃j t,aT z (kl j)=V (M ⟨t,0,J⟩)/\A∈K t)/\O=f #[P J 0 0,G 2])\/
 ∃Z o,O=f #[Z,G 0]/\bS l Z o/\o.Nodup/\(∀j∈o,aT u (kl j)=J/\(aT z (kl j)).isSome=U/\j.size<=1000000)/\((aT u (kl W)).isSome=U\/W∈o)/\
  ∀j∈o,∀t,aT z (kl j)=V (M ⟨t,0,J⟩)->∀X∈K t,(aT u (kl X)).isSome=U\/X∈o
theorem AQ (v e9 s:D)(f0:C)(g f:E (IA×S))(o:D->E B)(t:B)(a:ν)(a8:bp a v e9 f0 g)(a6:bj γ a 9 s f)(a4:∀ag∈f,∃d a0 ao,ag.2=V (M ⟨d,0,J⟩)/\It a d a0 ao (o d))(j9:(f:D)<=20000)
 (f6:(aT f (kl t)).isSome=U) (w:t.size<=1000000):
 τ γ 84 #[V v,β t,KD (M s)] a λa2 f2=>uW g f o t a2 f2/\ρ a a f2:=by
 have i3:=@run_makeMap γ;have f8:yF a ((a:D)+1+1+1+1) (a:D) ((a:D)+1+1) ((a:D)+1) ((a:D)+1+1+1):=⟨H,H,H⟩;have h3:∀ag∈f,∃d,ag.2=V (M d):=λag f5=>by let⟨d,_,_,h,_⟩:=a4 ag f5;exact⟨_,h⟩
 let⟨j0,ae,ak⟩:=aU a (θ #[V v] 96);let⟨j1,aa,af⟩:=aU j0 (θ #[KD (M s)] 179);let⟨a9,e3,N⟩:=aU j1 (θ #[ο J 0 0] 33);let⟨f3,G,Y⟩:=aU a9 (Lz #[] 0);let⟨f4,ab,x⟩:=aU f3 (θ #[KD (M ((a:D)+1+1+1))] 182);have Z:=ak.aH;have am:=af.aH;have b3:=N.aH;have e8:=Y.aH;have j3:=x.aH;have H0:yE a ((a:D)+1+1+1+1) (a:D) ((a:D)+1+1) ((a:D)+1) ((a:D)+1+1+1) v s g f4 [] (ο J 0 0) [] 0:=by
  have b1:=ak.aE;have c7:=b1.t (af.aE.m b1.z);have c8:=c7.t (N.aE.m c7.z);have d1:=c8.t (Y.aE.m c8.z);refine⟨d1.t (x.aE.m d1.z),?_,?_,nF,?_,?_,?_,QN,nF,nF,List.nodup_nil,nF,R⟩
  .have:=x.at_;rwa [e8,b3,am,Z] at this
  .have d4:bj γ f3 9 (a9:D) []:=G▸bj.pk a9 γ 9;rw[b3,am,Z] at d4;exact d4.aM (x.old _ H)
  .exact(x.old _ H).t ((Y.old _ H).t ((N.old _ H).t ((af.old _ H).t ak.at_)))
  .have:=N.at_;rw[am,Z] at this;exact(x.old _ H).t ((Y.old _ H).t this)
  have:=af.at_;rw[Z] at this;exact(x.old _ H).t ((Y.old _ H).t ((N.old _ H).t this))
 have b7:=F (κ ae (κ aa (κ e3 (κ G ab))));have c3:=F (fun(n:E (IA×S)) (q:S) (b:E B) (i:C) (h:B) (f1:ν) (b4:yE a ((a:D)+1+1+1+1) (a:D) ((a:D)+1+1) ((a:D)+1) ((a:D)+1+1+1) v s g f1 n q b i) (L:0<=i) (h5:i<=1000000000) (h7:h.size<=1000000) (k:(b:D)<=900000)=>
  SK a _ _ _ _ _ v e9 s f0 g f n q b i h f1 f8 a8 a6 h3 b4 L h5 h7 k (oA (aw b4.met)))
 have d9:=c3.o [] (ο J 0 0) [] 0 t f4 H0 H H w R;have c4:=F d9;clear d9 ae aa e3 G ab ak af N Y x Z am b3 e8 j3 H0;go_enter func84,ntmps84;go_wp2_with fail;go_step3;go_wp2_with fail;let⟨ae,aa,e3,G,ab⟩:=b7.o;rw[ae,aa,e3,G,ab];clear ae aa e3 G ab b7 i3;apply c4.o.m;rintro a2 j2 ⟨n,q,b,d,rfl,b5,e1⟩;obtain⟨rfl,a5⟩:d=U/\((aT g (kl t)).isSome=U\/t∈b)/\(b:D)<=1/\∀c∈b,(aT f (kl c)).isSome=U:=by
  rcases e1 with⟨rfl,z,h2⟩|⟨rfl,z⟩
  .exact⟨z,h2,R,R⟩
  exact⟨by rwa[z],Θ R,R,λc k=>by simp at k;rwa[k]⟩
 have j5:=F a8;have f9:=F a4;have c0:=F a6;have b9:=y (∀b:E B,b.Nodup->(∀c∈b,(aT f (kl c)).isSome=U)->(b:D)<=(f:D)) λb=>uV b f;have c1:=y (yE a ((a:D)+1+1+1+1) (a:D) ((a:D)+1+1) ((a:D)+1) ((a:D)+1+1+1) v s g j2 n q b (0+1)/\(∀c∈b,(aT f (kl c)).isSome=U)/\((aT g (kl t)).isSome=U\/t∈b)/\∀p c,p<0->b[p]?=M c->∀d,aT f (kl c)=V (M ⟨d,0,J⟩)->∀e∈o d,(aT g (kl e)).isSome=U\/e∈b) ⟨b5,a5.2.2,a5.1,λp c h=>H⟩;clear c4 e1 b5 a5 a8 a4 a6 f6;go_wp2;go_step3;go_wp2;go_loopg [11,12] (f:D) (λa3 b2 iv wr=>∃(l:D) (n:E (IA×S)) (q:S) (b:E B) (i:C),a3=(f:D)-l/\l<=(b:D)/\b2=υ U/\iv=ϑ l/\0<=i/\i<=1+17*l/\
  Φ (yE a ((a:D)+1+1+1+1) (a:D) ((a:D)+1+1) ((a:D)+1) ((a:D)+1+1+1) v s g wr n q b i/\(∀c∈b,(aT f (kl c)).isSome=U)/\((aT g (kl t)).isSome=U\/t∈b)/\∀p c,p<l->b[p]?=M c->∀d,aT f (kl c)=V (M ⟨d,0,J⟩)->∀e∈o d,(aT g (kl e)).isSome=U\/e∈b))
 case atStart=>exact⟨0,n,q,b,0+1,A,QK,A,A,H,H,c1⟩
 case round=>
  clear c1;obtain⟨l,n,q,b,i,X,k1,rfl,rfl,L,h6,j⟩:=hrel;have k6:=b9.o b j.1.xt j.2.1;have g1:=F X;clear X;have g9:wr ⟨(a:D)+1+1,0,J⟩=q:=cR j.1.ZU A;have h0:wr ⟨a+1,0,J⟩=KD (M s):=cR j.1.gvb A;obtain⟨i9,e6,rfl⟩:=eA j.1.cT;by_cases h8:l<(b:D)
  .let⟨c,k⟩:∃c,b[l]?=M c:=⟨_,Gf h8⟩;obtain⟨h1,rfl,k0,i7⟩:=AN j.1.cT k;let⟨i6,ai⟩:=JW.1 (j.2.1 c (Gl k));obtain⟨d,a0,ao,rfl,O⟩:∃d a0 ao,i6=V (M ⟨d,0,J⟩)/\It a d a0 ao (o d):=f9.o _ (cx ai);let⟨l3,hd,d0,g6,g7,g8,d5⟩:=(O.aE j.1.aE).aV;have k8:=(j.1.iY c (Gl k)).2;have i1:c.size<=Ie:=by unfold Ie;omega
   have i2:∀ap,(Instr.lookup 179 (KD (M s)) (β c) σ).run γ (wr.drewN ap)=Je (V (M ⟨d,0,J⟩)) (wr.drewN ap):=λap=>by
    have h:=((c0.o.aM (j.1.aE.b _ c0.o.lt)).aM (w':=wr.drewN ap) A).jE dH Hh (dv _) (dW i1);rwa[ai] at h
   obtain⟨l1,l2,rfl,_⟩:=O.jJ.bZ;have g2:=F O.jJ;have k4:=O.cB;have g3:=F O.UU;have a1:=F (κ k ai);have k9:(0:C)<=(l:C):=H;have i4:(l:C)<((b:D):C):=H;clear k ai O d0 g6 g8 d5;go_wp2;go_quiet (fail);generalize e0:wr.drewN _=e7;have d2:ρ wr wr e7:=e0▸Below.sI QG _;have c2:=y (yE a ((a:D)+1+1+1+1) (a:D) ((a:D)+1+1) ((a:D)+1) ((a:D)+1+1+1) v s g e7 n (ο h1 (b:D) e6) b i) (j.1.fb d2);clear e0 d2 g9 h0 i7 g7 i2;go_wp2;go_loopg [11,36] (o d:D) (λa3 b2 i5 wr=>∃(m:D) (n:E (IA×S)) (q:S) (r:E B) (i:C),a3=(o d:D)-m/\m<=(o d:D)/\b2=υ U/\i5=ϑ m/\0<=i/\i<=1+17*l+m/\
    Φ (yE a ((a:D)+1+1+1+1) (a:D) ((a:D)+1+1) ((a:D)+1) ((a:D)+1+1+1) v s g wr n q (b++r) i/\(∀c∈b++r,(aT f (kl c)).isSome=U)/\∀e∈(o d).take m,(aT g (kl e)).isSome=U\/e∈b++r))
   case atStart=>exact⟨0,n,_,[],i,A,QK,A,A,L,H,F ⟨by rw[IS];exact c2.o,by rw[IS];exact j.2.1,nF⟩⟩
   case round=>
    clear c2;obtain⟨m,n,q,r,i,X,k2,rfl,rfl,L,h6,u⟩:=hrel;have g0:=F X;clear X;by_cases i0:m<(o d:D)
    .let⟨e,w⟩:∃e,(o d)[m]?=M e:=⟨_,Gf i0⟩;let⟨j6,j7,d8,d6⟩:=(g2.o.hQ u.1.aE).bZ;simp only[Gy] at d8;obtain⟨rfl,_,rfl⟩:=d8;obtain⟨j8,l0,rfl,k3,i8⟩:=d6 m e w;have k5:=g3.o e (Gl w);have k7:=b9.o (b++r) u.1.xt u.2.1;have b6:=F (c3.o n q (b++r) i e wr u.1 L H H H);have c5:=F (κ (Gl w) (eT w));clear d6 w;go_wp2_with fail;apply b6.o.m;rintro a2 b0 ⟨c6,d3,al,g5,rfl,W,aj⟩;clear b6 i8;cases g5 with
     |true=>
      have T:∃P,al=b++P/\(∀c∈al,(aT f (kl c)).isSome=U)/\(∀c∈b++r,c∈al)/\((aT g (kl e)).isSome=U\/e∈al):=by
       rcases aj with⟨rfl,_,z⟩|⟨rfl,z⟩
       .exact⟨r,A,u.2.1,λc h=>h,z⟩
       exact⟨r++[e],by rw[Km],λc k=>(GO.1 k).elim (u.2.1 c) (λh=>GA.1 h▸z.s),λc h=>Jq _ h,Θ R⟩
      obtain⟨P,rfl,e2,e4,f7⟩:=T;have K:=y (yE a ((a:D)+1+1+1+1) (a:D) ((a:D)+1+1) ((a:D)+1) ((a:D)+1+1+1) v s g b0 c6 d3 (b++P) (i+1)/\(∀c∈b++P,(aT f (kl c)).isSome=U)/\∀e∈(o d).take (m+1),(aT g (kl e)).isSome=U\/e∈b++P) ⟨W,e2,λe5 I=>by
       rw[c5.2] at I
       rcases GO.1 I with I|I
       .exact(u.2.2 e5 I).imp id (e4 e5)
       rwa[GA.1 I]⟩
      clear aj W e2 e4 f7;go_wp2;go_roundg ((o d:D)-(m+1))
      case measure=>have:=g0.o;omega
      case rel=>exact⟨m+1,c6,d3,P,i+1,A,H,A,gN,H,H,K⟩
     |false=>
      have K:=y (uW g f o t (ι (χ #[ο J 0 0,ϑ 2])) b0/\ρ a a b0) (by
       refine⟨Ξ ⟨e,?_,?_,⟨c,d,a1.2,c5.1⟩,A⟩,W.aE⟩
       all_goals rcases aj with⟨_,h,_⟩|⟨rfl,z⟩
       .cases h
       .exact(W.iY e R).1
       .cases h
       exact Option.not_isSome_iff_eq_none.1 (by rw[<-z];simp))
      clear aj W;go_wp2;try rw[Exit.noGoto_ret]
      go_ret2;exact K.o
    obtain rfl:m=(o d:D):=H;have K:=y (yE a ((a:D)+1+1+1+1) (a:D) ((a:D)+1+1) ((a:D)+1) ((a:D)+1+1+1) v s g wr n q (b++r) i/\(∀c∈b++r,(aT f (kl c)).isSome=U)/\((aT g (kl t)).isSome=U\/t∈b++r)/\∀p c,p<l+1->(b++r)[p]?=M c->∀d,aT f (kl c)=V (M ⟨d,0,J⟩)->∀e∈o d,(aT g (kl e)).isSome=U\/e∈b++r) ⟨u.1,u.2.1,j.2.2.1.imp id (Jq _),λp j4 a7 T g4 ah e w=>by
     rw[Ir H] at T
     rcases KG p l with h|h
     .exact(j.2.2.2 p j4 h T g4 ah e w).imp id (Jq _)
     cases(H:p=l)
     rw[a1.1] at T
     cases Gm T
     rw[a1.2] at ah
     simp only[Gd,KE,GS] at ah
     obtain⟨rfl,_⟩:=ah
     exact u.2.2 e (by rwa[Iy])⟩
    go_wp2;go_roundg ((f:D)-(l+1))
    case measure=>have:=g1.o;omega
    case rel=>exact⟨l+1,n,q,b++r,i,A,by rw[Gk];omega,A,gN,L,H,K⟩
  have h9:l=(b:D):=H;have K:=y (uW g f o t (ι (χ #[ο i9 (b:D) e6,ϑ 0])) wr/\ρ a a wr) ⟨Θ ⟨_,b,A,da j.1.cT,j.1.xt,λc k=>⟨(j.1.iY c k).1,j.2.1 c k,(j.1.iY c k).2⟩,j.2.2.1,λc k d h4 e w=>by
   let⟨p,a7⟩:=GI.1 k
   exact j.2.2.2 p c (oA (Gg.1 a7).1) a7 d h4 e w⟩,j.1.aE⟩
  have i4:¬(l:C)<((b:D):C):=H;clear h9;go_wp2;try rw[Exit.noGoto_ret]
  go_ret2;exact K.o
def bj.jR (f:bj N g p q n)(o:hA w g s)(j:q≠w):bj N s p q n:=
 f.aM ((o.aG q f.lt j).resolve_right λ⟨a,c,d,k,m,l,h,_⟩=>f.bx _ _ _ h)
def oX (o:E (IA×S))(j:E (IA×S))(f:B):E (IA×S):=(kl f,(aT o (kl f)).getD (V J))::be (kl f) j
def mT (f:E (IA×S)):∀(b:E B) (a:E (IA×S)),(b.foldl (oX f) a).length<=(a:D)+(b:D)
 |[],a=>R
 |d::b,a=>by have:=mT f b (oX f a d);have:=bB (kl d) a;simp[NV,Gx,oX] at *;omega
def xu (f:E (IA×S)):∀(b:E B) (c:E (IA×S)) (a:B),(∀g∈b,(aT f (kl g)).isSome=U)->(a∈b->aT (b.foldl (oX f) c) (kl a)=aT f (kl a))/\(a∉b->aT (b.foldl (oX f) c) (kl a)=aT c (kl a))
 |[],c,a,_=>⟨nF,λ_=>rfl⟩
 |g::b,c,a,d=>by
  let⟨k,l⟩:=xu f b (oX f c g) a λp e=>d p (GK _ e);rw[NV];by_cases j:a∈b
  .exact⟨λ_=>k j,λi=>absurd (GK _ j) i⟩
  rw[l j];by_cases o:a=g
  .subst o;let⟨q,n⟩:=JW.1 (d a (Hk ..));exact⟨λ_=>by rw[oX,bY (gV _),n];rfl,λi=>absurd (Hk ..) i⟩
  exact⟨λm=>absurd ((GF.1 m).resolve_left o) j,λ_=>by rw[oX,ck (λh=>o (hI h).s),dO (λh=>o (hI h))]⟩
def uX (f:E (IA×S))(j:∀k∈f,∃r a l i h,k=(kl r,V (M ⟨a,0,J⟩))/\It g a l i h/\w<=a):∀(e:E B) (b:E (IA×S)),(∀d∈e,(aT f (kl d)).isSome=U)->mR w g b->mR w g (e.foldl (oX f) b)
 |[],b,_,c=>c
 |d::e,b,n,c=>uX f j e _ (λx v=>n x (GK _ v)) λk m=>by
  rcases yG m with rfl|m
  .let⟨y,q⟩:=JW.1 (n d (Hk ..));let⟨r,a,l,i,h,p,s⟩:=j _ (cx q);simp only[Hf] at p;exact⟨d,a,l,i,h,by rw[q,PS,p.2],s⟩
  exact c k m
def It.dC {j:B}{o:S}{A:E B}(u:It g w k m v)(t:It g w j o A):k=j:=by
 obtain⟨K,hd,z⟩:=u.bO;obtain⟨M,J,f⟩:=t.bO;rw[z] at f;simp only[Gd,Hq,IU,GN,IT] at f;exact f.1.1
open Classical in
theorem AR {f:E B->Prop}(j:∀h∈n,∃b a d c,b∈v/\h=(kl (bn b),V (M ⟨a,0,J⟩))/\w<=a/\It g a b d c/\f c):
 ∃t:D->E B,∀h∈n,∃b a d,b∈v/\h=(kl (bn b),V (M ⟨a,0,J⟩))/\It g a b d (t a)/\f (t a)/\w<=a:=by
 refine⟨λa=>if j:∃c,∃b d,It g a b d c/\f c then Classical.choose j else [],λh k=>?_⟩;let⟨b,a,d,c,p,q,s,e,r⟩:=j h k;have o:∃c,∃b d,It g a b d c/\f c:=⟨c,b,d,e,r⟩;let⟨l,m,i,x⟩:=Classical.choose_spec o;cases e.dC i;refine⟨b,a,m,p,q,?_,?_,s⟩
 .show It g a b m (if j:_ then _ else _);rwa[dif_pos o]
 show f (if j:_ then _ else _);rwa[dif_pos o]
def uY (P:L)(r l:D)(n:C)(o:E (IA×S))(u:E B)(p:E B->Prop)(a:Prop)(Z:He)(K:L):Prop:=
 (∃A:C,A≠0/\0<=A/\A<=12/\Z=f #[I,G A]/\T P P K/\(a\/u=[]\/(∃z m,p z/\m∈z/\aT o (kl m)=J)\/n<(o.length+u.length:D)))\/
 ∃x0 t,u[0]?=M x0/\Z=f #[O (bn x0),G 0]/\bp K r l n t/\hA l P K/\t.length<=o.length+u.length/\(aT t (kl (bn x0))).isSome=U/\(∀j,(aT o (kl j)).isSome=U->aT t (kl j)=aT o (kl j))/\
  ∀j X,aT o (kl j)=J->aT t (kl j)=V (M ⟨X,0,J⟩)->∃W q z,W∈u/\j=bn W/\It K X W q z
def uZ (X j:D)(J:C)(t:E (IA×π))(g0:π)(z:E B)(Z:E B->Prop)(R:Prop)(K:ν)(f4:eI K)(O:bp K X j J t)(f5:bS K g0 z)(n8:(z:D)<=2000)(n4:(t:D)+(z:D)<=40000)(k8:0<=J)(k9:J<=9223372036854775807)(d2:∀a∈z,xr Z R a/\a.size<=1000000):
 τ N 42 #[ξ X,g0] K (uY K X j J t z Z R):=by
 have g5:=F (Dj g0 z Z R K f4 f5 om d2);obtain⟨p3,p4,rfl,f6⟩:=f5.bZ;go_enter func42,ntmps42;go_wp2_with fail;go_call g5.o as k i4 ⟨Y,b1⟩;clear g5;rcases Y with⟨I,i1,k6,k7,h4,rfl⟩|⟨b6,u,rfl,f1,j8,W,n3,c8,d1⟩
 .have m4:(I !=0)=ψ:=by simp[i1]
  have s:=QC (uY K X j J t z Z R (ι (χ #[eS,G I])) i4) (Ξ ⟨I,i1,k6,k7,A,b1,h4.elim Ξ λq=>Θ (Ξ q)⟩);clear O h4 d2 f6;go_wp2;go_ret2;exact s.o
 have m4:((0:C) !=0)=σ:=dc;have i0:=KC.2 f1;let⟨x0,ae⟩:∃x0,z[0]?=M x0:=⟨_,Gf i0⟩;obtain⟨n1,o5,rfl,n7,e1⟩:=f6 0 x0 ae;have e1:=Below.ce b1 e1;simp only[JC] at e1;let⟨T,x⟩:=AR c8;have o2:=(d2 x0 (Gl ae)).2;have g4:=F (cV x0 i4 om (f4.aE b1).kO);have o7:(0:C)<((z:D):C):=om;clear f6 d2 f5;go_wp2_with fail;go_call g4.o as k m0 ⟨rfl,H⟩;have c3:=b1.t (H.m b1.z);have l4:(bn x0).size<=1000000:=by rw[ec];omega
 have g6:=F (AQ X j b6 J t u T (bn x0) m0 (O.aE c3) (W.aM (H.b _ W.lt)) (λb a9=>by let⟨a,d,n,_,g,w,_⟩:=x b a9;exact⟨d,a,n,by rw[g],w.aE H⟩) om (d1 x0 (Gl ae)) l4);clear g4 e1;go_wp2_with fail;go_call g6.o as k g1 ⟨w,r⟩;clear g6;have ai:=c3.t (r.m c3.z);rcases w with⟨q,h7,j9,⟨a,d,h8,h9⟩,rfl⟩|⟨m9,f,rfl,d4,f0,b4,f2,e8⟩
 .have p5:((2:C) !=0)=ψ:=dc;have s:=QC (uY K X j J t z Z R (ι (χ #[eS,G 2])) g1) (by
   let⟨i5,j5,n,_,g,_,j7⟩:=x _ (cx h8)
   simp only[Hf,KE,Gd,GS] at g
   obtain⟨_,rfl,_⟩:=g
   exact Ξ ⟨2,om,om,om,A,ai,Θ (Θ (Ξ ⟨_,q,j7.1,h9,h7⟩))⟩)
  clear O W c8 d1 x h7 j9 h8 h9;go_wp2;go_ret2;exact s.o
 have o3:(f:D)<=(u:D):=uV f u f0 λa l=>(b4 a l).2.1;obtain⟨m5,m8,rfl,_⟩:=d4.bZ;have f3:=O.aE ai;have g7:=F (pI f3 k8 k9);go_wp2_with fail;go_call g7.o as k w4 ⟨rfl,l3,i2⟩;have c0:ρ g1 g1 w4:=i2▸QG.sI l3;clear i2 g7;have e6:=ai.t (c0.m ai.z);by_cases n5:J-((t:D):C)<((f:D):C)
 .have s:=QC (uY K X j J t z Z R (ι (χ #[eS,G 3])) w4) (Ξ ⟨3,om,om,om,A,e6,Θ (Θ (Θ om))⟩);clear O W c8 d1 x f3 d4 f0 b4 f2 e8 f1 ae;go_wp2;go_ret2;exact s.o
 have h6:b6≠j:=λk=>oA O.cS.lt;have c6:=r.t (c0.m r.z);have d9:=O.aE e6;have h3:bj N w4 9 b6 u:=(W.aM (H.b _ W.lt)).aM (c6.b _ (oB H.z W.lt));have h0:∀b∈u,∃a d n,a∈z/\b=(kl (bn a),ξ (M ⟨d,0,ζ⟩))/\It w4 d a n (T d):=λb a9=>by
  let⟨a,d,n,Y,g,w,_⟩:=x b a9;exact⟨a,d,n,Y,g,(w.aE H).aE c6⟩
 have h1:∀b∈u,∃i d m2 n l7,b=(kl i,ξ (M ⟨d,0,ζ⟩))/\It w4 d m2 n l7/\j<=d:=λb a9=>by
  let⟨a,d,n,Y,g,w,_,n2⟩:=x b a9;exact⟨_,d,a,n,_,g,(w.aE H).aE c6,oA O.cS.lt⟩
 have h5:=d4.hQ c0;have f8:∀a∈f,(aT u (kl a)).isSome=ψ:=λa l=>(b4 a l).2.1;have P:=F (λi=>xu u f t i f8);have e4:=F (λc=>uX u h1 (f.take c) t (λa l=>f8 a (JZ l)) d9.fP);have c2:=QC (∀c,((f.take c).foldl (oX u) t).length<=40000) λc=>GB (mT u (f.take c) t) (by rw[GR];omega);have ah:=F d9;have g3:=F h3;have e2:=F h0;have g2:=F h5;have V:=F (κ b4 (κ f2 e8));have j4:=F ae;have j3:=F (κ (hA.aE e6 j) O.cB);have a8:=F d9.cS.bx;clear O W c8 d1 x f3 d4 f0 b4 f2 e8 f1 ae d9 h3 h0 h1 h5 f8 b1 H c3 ai r c0 c6 j8 f4 i0;go_wp2;go_loopw [46] (λiv wr=>∃c:D,c<=(f:D)/\iv=G c/\Φ (hA j w4 wr/\bj N wr 9 j ((f.take c).foldl (oX u) t))) (λiv _=>(f:D)-(QI iv).toNat)
 .exact⟨0,QK,A,F ⟨hA.bQ _ _,ah.o.cS⟩⟩
 obtain⟨c,k0,rfl,o⟩:=hrel;by_cases e9:c<(f:D)
 .let⟨a,l⟩:∃a,f[c]?=M a:=⟨_,Gf e9⟩;let⟨g8,g9,h,e⟩:=(g2.o.jR o.1 a8.o).bZ;simp only[Gy] at h;obtain⟨rfl,_,rfl⟩:=h;obtain⟨j6,l5,rfl,k1,i3⟩:=e c a l;let⟨f7,b3,l2⟩:=V.1 a (Gl l);let⟨l6,y⟩:=JW.1 b3;let⟨i5,d,n,_,b0,_⟩:=e2.o _ (cx y);simp only[Hf] at b0;obtain⟨_,rfl⟩:=b0;have ab:a.size<=Ie:=by unfold Ie;omega
  have a1:=g3.o.jR o.1 h6;have k4:∀I,(Instr.lookup 179 (KD (M b6)) (β a) σ).run N (wr.drewN I)=Je (ξ (M ⟨d,0,ζ⟩)) (wr.drewN I):=λI=>by
   have q:=(a1.aM (w':=wr.drewN I) A).jE dH Hh (dv _) (dW ab);rw[y] at q;exact q
  have n9:(Instr.lookup 179 (KD (M b6)) (β a) σ).run N wr.drew=Je (ξ (M ⟨d,0,ζ⟩)) wr.drew:=k4 1;let⟨_,c1⟩:=(ah.o.jR o.1 o.2 (e4.o c) (c2.o c)).aV;have k3:((f.take c).foldl (oX u) t).length<Ie:=by have:=c2.o c;unfold Ie;omega
  have i8:=F (eT l);have j0:=F y;clear e l y f7 b3 a1;go_upto_region 13 with fail;go_still_tail 8,Qz;go_wp2_with (at_mapUpdate;refine wS dH Hh (by exact o.2) k3 (dW ab) ?_;intro m3 k5 b2);have l1:hA j wr m3:=⟨(hA.dD b2).os,(hA.dD b2).cb,(hA.dD b2).aW,(hA.dD b2).aH,(hA.dD b2).aG⟩;go_roundw
  .exact⟨c+1,om,gN,F ⟨o.1.aJ l1,by rw[i8.o,KY];show bj _ _ _ _ (oX u _ a);rw[oX,j0.o];exact k5⟩⟩
  simp[QI];omega
 obtain rfl:c=(f:D):=om;have b7:=F (κ o.1 o.2);rw[Iy] at b7;have b9:=e4.o (f:D);have ag:=c2.o (f:D);rw[Iy] at b9 ag;let⟨v,e7⟩:∃v,v=f.foldl (oX u) t:=⟨_,A⟩;rw[<-e7] at b7 b9 ag P;have e5:=F b9;have o4:(v:D)<=(t:D)+(f:D):=e7▸mT u f t;have o6:(f:D)<=2000:=om;clear o e4 c2 e7 b9;go_wp2;go_loopw [61] (λiv wr=>∃c:D,c<=(f:D)/\iv=G c/\Φ (hA j w4 wr/\bj N wr 9 j v)) (λiv _=>(f:D)-(QI iv).toNat)
 .exact⟨0,QK,A,b7⟩
 clear b7;obtain⟨c,k0,rfl,o⟩:=hrel;by_cases e9:c<(f:D)
 .let⟨a,l⟩:∃a,f[c]?=M a:=⟨_,Gf e9⟩;let⟨g8,g9,h,e⟩:=(g2.o.jR o.1 a8.o).bZ;simp only[Gy] at h;obtain⟨rfl,_,rfl⟩:=h;obtain⟨j6,l5,rfl,k1,i3⟩:=e c a l;let⟨f7,b3,l2⟩:=V.1 a (Gl l);let⟨l6,y⟩:=JW.1 b3;let⟨i5,d,n,_,b0,af⟩:=e2.o _ (cx y);simp only[Hf] at b0;obtain⟨_,rfl⟩:=b0;have ab:a.size<=Ie:=by unfold Ie;omega
  have a1:=g3.o.jR o.1 h6;let⟨p2,hd,d0,aj,a0,c7,d5⟩:=(af.jR o.1 a8.o).aV;obtain⟨p0,p1,rfl,_⟩:=af.jJ.bZ;have j1:=F af.jJ;have o0:=af.cB;have j2:=F af.UU;have i7:=F (V.2.2 a (Gl l) d y);clear e l f7 b3 af d0 aj c7 d5;go_wp2_with (at_lookup;apply wL dH Hh (dv _) a1 (dW ab);rw[y]);clear a1 y a0 i3;go_loopw [72] (λf9 wr=>∃i:D,i<=(T d:D)/\f9=G i/\Φ (hA j w4 wr/\bj N wr 9 j v)) (λf9 _=>(T d:D)-(QI f9).toNat)
  .exact⟨0,QK,A,o⟩
  clear o;obtain⟨i,a6,rfl,S⟩:=hrel;by_cases k2:i<(T d:D)
  .let⟨p,d6⟩:∃p,(T d)[i]?=M p:=⟨_,Gf k2⟩;let⟨g8,g9,h,e⟩:=(j1.o.jR S.1 a8.o).bZ;simp only[Gy] at h;obtain⟨rfl,_,rfl⟩:=h;obtain⟨n0,o8,rfl,n6,o9⟩:=e i p d6;have o1:=j2.o p (Gl d6);have l0:p.size<=Ie:=by unfold Ie;omega
   have U:=ah.o.jR S.1 S.2 e5.o ag;let⟨i6,c1⟩:=U.aV;let⟨r,m1,l9,l8,a2,a5⟩:=(U.jl p).resolve_left (λa7=>by
    rcases i7.o p (Gl d6) with q|q
    .by_cases m:p∈f
     .have:=(P.o p).1 m;rw[a7] at this;have g:=(V.1 p m).2.1;rw[<-this] at g;cases g
     have:=(P.o p).2 m;rw[a7] at this;rw[<-this] at q;cases q
    have:=(P.o p).1 q;rw[a7] at this;have g:=(V.1 p q).2.1;rw[<-this] at g;cases g)
   let⟨b5,a4,d0,aj,a0,c7,d5⟩:=a5.aV;have L:=S.2;have m6:=aI d0 2;have a3:=hA.ET (j:=2) (x:=G (Xd (b5+1))) d0 A j (U.le a2);have i9:=QC (hA j w4 (wr.setCell (r,2) (G (Xd (b5+1))))/\bj N (wr.setCell (r,2) (G (Xd (b5+1)))) 9 j v) ⟨S.1.aJ a3,L.aM ((aF (j:=2) (G (Xd (b5+1))) d0).old j (λk=>by subst k;exact L.bx _ _ _ d0))⟩;clear e d6 U a5 d0 aj a0 d5 a3;go_wp2_with (at_lookup;apply wL dH Hh (dv _) L (dW l0);rw[a2]);go_roundw
   .exact⟨i+1,om,gN,i9⟩
   simp[QI];omega
  go_wp2;go_roundw
  .exact⟨c+1,om,gN,S⟩
  simp[QI];omega
 have U:=ah.o.jR o.1 o.2 e5.o ag;let⟨i6,c1⟩:=U.aV;have d8:(aT v (kl (bn x0))).isSome=ψ:=by
  by_cases m:bn x0∈f
  .rw[(P.o _).1 m];exact(V.1 _ m).2.1
  rw[(P.o _).2 m];exact V.2.1.resolve_right m
 let⟨r,m1,l9,l8,a2,a5⟩:=(U.jl (bn x0)).resolve_left (λa7=>by rw[a7] at d8;cases d8);let⟨b5,a4,d0,aj,a0,c7,d5⟩:=a5.aV;have ab:(bn x0).size<=Ie:=by unfold Ie;omega
 have L:=o.2;have m7:=aI d0 3;have a3:=hA.ET (j:=3) (x:=G (Xd (a4+1))) d0 A j (U.le a2);have h2:bj N (wr.setCell (r,3) (G (Xd (a4+1)))) 9 j v:=L.aM ((aF (j:=3) (G (Xd (a4+1))) d0).old j (λk=>by subst k;exact L.bx _ _ _ d0));have e0:=o.1.aJ a3;have s:=QC (uY K X j J t z Z R (ι (χ #[β (bn x0),G 0])) (wr.setCell (r,3) (G (Xd (a4+1))))) (Θ ⟨x0,v,j4.o,A,ah.o.jR e0 h2 e5.o ag,j3.1.aJ e0,om,d8,λi a6=>(P.o i).2 (λm=>by rw[(V.1 i m).1] at a6;cases a6),λi d a6 d3=>by
  have m:i∈f:=Nx λm=>by rw[(P.o i).2 m,a6] at d3;cases d3
  rw[(P.o i).1 m] at d3
  let⟨a,j5,n,Y,g,w⟩:=e2.o _ (cx d3)
  simp only[Hf,KE,Gd,GS] at g
  obtain⟨g,rfl,_⟩:=g
  exact⟨a,n,_,Y,hI g,w.jR e0 a8.o⟩⟩)
 clear U a5 d0 aj a0 c7 a3 h2 e0 d8;go_wp2_with (at_lookup;apply wL dH Hh (dv _) L (dW ab);rw[a2]);go_ret2;exact s.o
def qd {K:Q Le}{M:E Le}{o:Le}{j:Act}{t:Exit->Act->L->Prop}{f:D}{caps:Q S}(U:∀i g,(Xa f i).run N g=Je (.enter f i) g)(X:o.guard=J)(O P:Kg)(y:Q Λ)
 (Z:o.op=.call {callee:=.value O,args:=#[P],argTypes:=y}) (x:j.eval O=Hl (Ic f) #[] caps) (z:S) (A:j.eval P=z) (u:S->L->Prop) (W:Y N f (#[z]++caps) g λl b=>∃a,l=ι a/\u a b)
 (V:∀a b,u a b->Ji N K t M (j.put o.dst a) b):Ji N K t (o::M) j g:=by
 refine Xt X λd c=>?_;simp only[Ld,Xb,Z,resolve,x,Deferred.ofValue,IE,Kb,Kv,invoke,PT,Ij,PI,A];simp[U,Oper.upon,A];go_call W as l b ⟨a,rfl,k⟩;exact c _ _ (V a b k)
def ix (z:L)(j:E (IA×S))(o A:B):Prop:=∃f u t,aT j (kl o)=V (M ⟨f,0,J⟩)/\It z f A u t
structure iO (w w':L):Prop where
 aH:w.heap.size<=w'.heap.size
 aM:∀(k:D) (cs:Q S) (t:Λ),w.heap[k]?=K cs t (0,0)->t≠33->t≠9->w'.heap[k]?=K cs t (0,0)
def iO.aJ (f:iO g s)(j:iO s l):iO g l:=⟨GB f.aH j.aH,λh d c k b a=>j.aM h d c (f.aM h d c k b a) b a⟩
def iO.aE (c:T g g s):iO g s:=⟨c.z,λ_ _ _ d _ _=>c.ke d⟩
structure lV (w0:L)(f:D)(caps:Q S)(J:E B->L->Prop):Prop where
 EW:∀args w,(Xa f args).run N w=Je (.enter f args) w
 gi:∀ts w,J ts w->T w0.heap.size w0 w
 aM:∀ts w w',J ts w->T w.heap.size w w'->J ts w'
 ew:∀ts (w w':L) g cs cs',J ts w->w0.heap.size<=g->w.heap[g]?=K cs 281 (0,0)->bd w w' g (K cs' 281 (0,0))->J ts w'
 tell:∀ts w x,J ts w->ts.length<=10000->x.size<=1000000->Y N f (#[O x]++caps) w λe w'=>∃v,e=ι v/\J (ts++[x]) w'/\iO w w'
def adh (m:L)(K:E (IA×S))(M:B)(V:B->Q S->C->Prop)(A:E B->L->Prop)(P:E B)(W:He)(U:L):Prop:=
 ∃j Z o,ct j Z/\W=f #[t j,z o]/\((aT K (kl M)=J/\o=X/\j=zc/\A P U)\/∃u O,ix m K M u/\V u j O/\o=(O==0)/\A (P++[u]) U)
theorem at_walk (u:ν)(W:D)(U:Q π)(J:E B->ν->Prop)(j:lV u W U J)(Z b2:D)(b3:C)(k:E (IA×π))(g:B)(r:B->Q π->C->Prop)(t:E B)(f:ν)(c3:eI u)(a8:bp u Z b2 b3 k)(e7:g.size<=1000000)
 (a0:∀c,ix u k g c->∀f,eI f->τ γ 155 #[O c] f λq a=>(∃p V s,ct p V/\q=ι (χ #[Γ p,ε η s])/\r c p s)/\ρ (f:D) f a) (L:J t f) (c6:(t:D)<=10000):
 τ γ 221 #[ξ (δ ⟨Z,0,ζ⟩),O g,Hl (Ic W) #[] U] f λq a=>adh u k g r J t q a/\iO f a:=by
 have d6:g.size<=Ie:=by unfold Ie;omega
 let⟨x,H,d⟩:=aU f (K zc 281);have N:=j.gi t f L;have b1:=d.aE;have ab:=N.t (b1.m N.z);have G:=j.aM t f x L b1;have m:ej x (f:D) bE:=d.at_;have w:=F (hV Z b2 b3 k g x (a8.aE ab) d6);have b5:=F H;have b7:=F a0;have b9:=F (λb c h e (Y:aT k (kl g)=δ (ξ (δ ⟨b,0,ζ⟩))) (d4:It x b c h e)=>show ix u k g c by
  let⟨I,e6,b4,e4,e2,a7,l,_⟩:=a8.fP _ (cx Y)
  simp only[Hf,KE,Gd,GS] at a7
  obtain⟨_,rfl,_⟩:=a7
  cases d4.dC (l.aE ab)
  exact⟨b,e4,e2,Y,l⟩)
 clear H d a0;go_enter func221,ntmps221;go_wp2_with fail;rw[show(K #[ε η 0,O ⟨#[]⟩,O ⟨#[]⟩,O ⟨#[]⟩,O ⟨#[]⟩,O ⟨#[]⟩,O ⟨#[]⟩,O ⟨#[]⟩,O ⟨#[]⟩,O ⟨#[]⟩,O ⟨#[]⟩,O ⟨#[]⟩,O ⟨#[]⟩,O ⟨#[]⟩,O ⟨#[]⟩,O ⟨#[]⟩,O ⟨#[]⟩,O ⟨#[]⟩,O ⟨#[]⟩] 281)=K zc 281 from A,b5.o];apply w.o.m;rintro q a ⟨v,rfl⟩;clear w;rcases v with⟨z,rfl⟩|⟨b,c,h,e,z,l,rfl⟩
 .have c0:=F z;clear z;go_wp2_with (apply tS cA m;intro o b0);apply tR b0.at_;have ae:ρ (f:D) f o:=b0.aE _ _ (Gb _) b1;exact⟨⟨zc,bE,σ,cA,A,Ξ ⟨c0.o,A,A,j.aM t f o L ae⟩⟩,iO.aE ae⟩
 have n:=b9.o b c h e z l;have e0:=l.aH;have R:=F (j.tell t a c G c6 e0);have S:=F (b7.o c n);have c7:=F n;clear z l n;go_wp2_with (apply qd (f:=W) (caps:=U) j.EW A _ _ _ A A (O c) A (λ_ y=>J (t++[c]) y/\iO a y) R.o;rintro e8 y ⟨af,a2⟩);have d3:=j.gi _ _ af;have a4:=a2.aM _ _ _ m dc dc;apply(S.o y (c3.aE d3)).m;rintro q o ⟨⟨p,V,s,hd,rfl,a1⟩,X⟩;have a5:=Below.ke X a4;have e1:=Gc o (K zc 281);have d2:=j.aM _ _ _ af X;have a9:=hd.aH;have d8:=aw a5;have b6:=F a1;clear R S a1 m a4 G;go_wp2_with (first|(apply tS hd e1;intro i P;have c2:=P.at_;have a6:=(P.old _ om).t ((GC o (K zc 281) _ d8).t a5);have T:ρ (o:D) o i:=P.aE _ _ (Gb _) ((Ge _ o).a (Gb _) _))|(refine tL c2 ?_ (f:=a9))|(apply tS hd a6;intro e5 M));refine tR M.at_ ?_ (h:=a9);have a3:iO f i:=(iO.aE b1).aJ (a2.aJ ((iO.aE X).aJ (iO.aE T)));exact⟨⟨p,V,s==0,hd,A,Θ ⟨c,s,c7.o,b6.o,A,j.ew _ i e5 _ _ _ (j.aM _ _ _ d2 T) N.z a6 M⟩⟩,⟨M.aH▸a3.aH,λI d9 b4 v c8 d1=>(M.old I (oA (aw v))).t (a3.aM I d9 b4 v c8 d1)⟩⟩
def MA (u:B)(j:L):Y N 338 #[u] j λb e=>(∃t,b=ι t)/\T j j e:=by
 go_enter func338,ntmps338;go_wp2;have o:T j j j:=Ge _ j;exact⟨A,f #[],by first|kernel_rfl|rfl|(simp[results];done),⟨_,A⟩,o⟩
def AS (a:ν):lV a 338 #[] (λ_ w=>ρ a a w) where
 EW args w:=by first|exact Sem.run_callFunc _|kernel_rfl|rfl|(simp[Xa];done)|(unfold Xa;rfl)
 gi _ _ h:=h
 aM _ _ _ h b:=h.t (b.m h.z)
 ew _ _ _ g _ _ h hg _ n:=n.aE _ _ hg h
 tell ts w x h _ _:=(MA x w).m λe w' ⟨⟨v,d⟩,c⟩=>⟨v,d,h.t (c.m h.z),iO.aE c⟩
def Dk (u:B)(j:L):Y N 271 #[u] j λb e=>(∃t,b=ι t)/\T j j e:=by
 go_enter func271,ntmps271;go_wp2;have o:T j j j:=Ge _ j;exact⟨A,f #[],by first|kernel_rfl|rfl|(simp[results];done),⟨_,A⟩,o⟩
def qe (a:ν):lV a 271 #[] (λ_ w=>ρ a a w) where
 EW args w:=by first|exact Sem.run_callFunc _|kernel_rfl|rfl|(simp[Xa];done)|(unfold Xa;rfl)
 gi _ _ h:=h
 aM _ _ _ h b:=h.t (b.m h.z)
 ew _ _ _ g _ _ h hg _ n:=n.aE _ _ hg h
 tell ts w x h _ _:=(Dk x w).m λe w' ⟨⟨v,d⟩,c⟩=>⟨v,d,h.t (c.m h.z),iO.aE c⟩
structure AT (w0:L)(c:D)(ts:E B)(w:L):Prop where
 gi:T w0 w0 w
 ge:w0.heap.size<=c
 jA:∃v,w.heap[c]?=K #[v] 33/\w.ownsRow w0.heap.size 9 1 v ts.length (ts.map O)
def AU {z:D×D}(t:g.ownsRow w 9 1 m a b)(u:g.heap[q]?=K h 33 z):∀j,m.ownBlock=M j->j≠q:=by
 intro j o f;subst f;rcases t.2 with⟨rfl,_⟩|⟨O,A,J,rfl,_,f,_⟩
 .cases o
 simp only[Ψ,Gd] at o;subst o;rw[u] at f;simp at f
def aR (o:g.ownsRow w q a m i b):∃f j,m=P f i j:=by
 rcases o.2 with⟨rfl,rfl⟩|⟨z,t,u,rfl,_⟩
 .exact⟨J,0,A⟩
 exact⟨_,_,A⟩
def MB (b:L)(j:D)(K:E B)(X:B)(W:L)(P:AT b j K W)(q:K.length<=10000):
 Y γ 176 #[X,ξ j] W λa v=>∃O,a=ι O/\AT b j (K++[X]) v/\iO W v:=by
 obtain⟨O,t,J⟩:=P.jA;have N:=cJ 0 t;have w:=AU J t;have U:=Ga P;have Z:=P.gi.z;go_enter func176,ntmps176;go_wp2_with (at_builtin;refine ym hO A _ _ A A J A #[X] A (by simp[φ]) om Z ?_;intro T g V z;obtain⟨k,e,y⟩:=aR V;subst y;have u:=z.aM t (λa=>w j a A);have I:g j=M O:=(cR u A);have m:=aI u 0);have i:=z.cT J U.o.gi Z;have o:=aF (j:=0) (ο k (K.length+1) e) u;have x:=AU V u;refine⟨A,f #[],by first|kernel_rfl|rfl|(simp[results];done),⟨_,A⟩,⟨o.aE _ _ U.o.ge i,U.o.ge,_,o.at_,?_⟩,?_⟩
 .rw[Gk,Io];exact aK V λs d=>o.old s (x s d)
 refine⟨GB z.aH (Iu o.aH.s),λn R S c F G=>?_⟩;have H:n≠j:=λa=>by subst a;rw[t] at c;simp at c;exact F c.2.s
 rw[o.old n H];refine z.aM c λh=>?_;have a:O.ownBlock=M n:=h;rcases J.2 with⟨rfl,_⟩|⟨p,r,l,rfl,_,d,_⟩
 .cases a
 simp only[Ψ,Gd] at a;subst a;rw[c] at d;simp at d;exact G d.2
def sa (f:ν)(c:Nat)(q:f.heap.size<=c):lV f 176 #[ξ c] (AT f c) where
 EW args w:=by first|exact Sem.run_callFunc _|kernel_rfl|rfl|(simp[Xa];done)|(unfold Xa;rfl)
 gi _ _ h:=h.gi
 aM ts w w' h b:=by
  obtain⟨a,j,v,d,e⟩:=h;exact⟨a.t (b.m a.z),j,v,b.ke d,aQ e b⟩
 ew ts w w' g cs cs' h hg hgc n:=by
  obtain⟨a,j,v,d,e⟩:=h;refine⟨n.aE _ _ hg a,j,v,(n.old c λi=>?_).t d,aK e λk l=>n.old k λi=>?_⟩
  .subst i;rw[d] at hgc;simp at hgc
  .subst i;rcases e.2 with⟨rfl,_⟩|⟨p,cap,o,rfl,_,m,_⟩
   .cases l
   .simp only[Ψ,Gd] at l;subst l;rw[hgc] at m;simp at m
 tell ts w x h hl _:=MB f c ts x w h hl
def sb {f:E QO}(t:Nib.bF f=U)(j:D):Nib.bF (f.drop j)=U:=by
 have o:Nib.bF (f.take j++f.drop j)=U:=by rwa[IZ]
 simp only[Nib.bF,List.all_append,Jc] at o;exact o.2
def Dl (f:Nib.bF (bs k)=U)(o:w<k.size):k[w].toNat<16:=by
 have j:=LN.1 f k[w] (Gl (fh o));have u:=Ki.1 (XG j);have t:(15:QO).toNat=15:=A;omega
def va:∀(b:E QO),Nib.bF (Nib.cU b)=U:=by
 intro b;rw[Nib.bF,Nib.cU,LN];intro t f;let⟨d,_,a⟩:=Jw.1 f;simp only[GF,Hv,Xf] at a;have o:=d.toNat_lt;have j:(15:QO).toNat=15:=A;rcases a with rfl|rfl<;>(refine Xr (Ki.2 ?_);first|(simp[UInt8.toNat_shiftRight,UInt8.toNat_and,Ng,Nf,PF];done)|(simp[UInt8.toNat_shiftRight,UInt8.toNat_and,Ng,Nf,PF,Nat.shiftRight_eq_div_pow];omega))
structure mU (w0 w:L)(J:E B->L->Prop)(g N:D)(ok:Bool)(path:B)(d:Nd)(ts:E B)(wr:L):Prop where
 fU:ej wr g d
 nd:ok=U->hU d/\∀k,k<16->(d.r k).size<=1000000
 kd:J ts wr
 fR:iO w wr
 dK:Nib.bF (bs path)=U
 cB:ts.length+path.size+(if ok=U then 1 else 0)<=N
def mU.fb {e w a h:ν}{f:Nat}{caps:QF π}{J:List QE->ν->Prop}(T:lV e f caps J){g N:Nat}{ok:Bool}{path:QE}{d d6:Nd}{ts:List QE}
 (b:bd a h g (θ (nc d6) 281)) (o:e.heap.size<=g/\w.heap.size<=g) (q:ej a g d) (n:J ts a) (j:iO w a) (r:ok=ψ->hU d6/\∀k,k<16->(d6.r k).size<=1000000) (s:Nib.bF (bs path)=ψ) (p:ts.length+path.size+(if ok=ψ then 1 else 0)<=N):
 mU e w J g N ok path d6 ts h where
 fU:=b.at_
 nd:=r
 kd:=T.ew ts a h g _ _ n o.1 q b
 fR:=⟨by rw[b.aH];exact j.aH,λk c t i l m=>(b.old k (by have:=aw i;omega)).t (j.aM k c t i l m)⟩
 dK:=s
 cB:=p
def mU.aE {c wr u:L}{j:E B->L->Prop}{z:Bool}{t:Nd}(f:mU c s j q a z k t v wr)(A:lV c w h j)(o:T wr wr u):mU c s j q a z k t v u:=
 ⟨o.ke f.fU,f.nd,A.aM _ _ _ f.kd o,f.fR.aJ (iO.aE o),f.dK,f.cB⟩
def mU.next {u:L}{f:E B->L->Prop}{z j:Bool}{o:B}{O d6:Nd}(t:mU g s f q a z k O v l)(M:lV g w h f)
 (P:bd l u q (K (nc d6) 281)) (V:g.heap.size<=q/\s.heap.size<=q) (W:j=U->hU d6/\∀n,n<16->(d6.r n).size<=1000000) (X:Nib.bF (bs o)=U) (A:f v l) (J:v.length+o.size+(if j=U then 1 else 0)<=a):mU g s f q a j o d6 v u:=
 mU.fb M P V t.fU A t.fR W X J
def ju (j:L)(o:As.cC j):Y N 212 #[I] j λb c=>b=f #[zc,z X]/\T j j c:=
 (fH ⟨#[]⟩ (λa=>fN 32 _ a r) j o).m λb c ⟨e,d⟩=>⟨e.resolve_left λ⟨_,i,_,_,_,h,_⟩=>absurd (h 0) (Nat.not_lt_zero _),d⟩
def AV {f:B}(j:Lib.hasPrefix k.data.toList f.data.toList=U):f.size<=k.size:=by
 have:=(List.isPrefixOf_iff_prefix.1 j).length_le;simpa using this
def at_next {u:B->Q S->C->Prop}{J:E B->L->Prop}{ts:E B}{f:Nd}{o:Bool}(K:∀c h,u c h 0->∃f,ct h f/\hU f/\∀b,(f.r b).size<=1000000)(hd:ct h f)
 (M:(aT n (kl k)=ζ/\o=X/\h=zc/\J ts s)\/∃c j,ix g n k c/\u c h j/\o=(j==0)/\J (ts++[c]) s):∃z,z.length<=ts.length+1/\J z s/\(o=U->hU f/\∀b,b<16->(f.r b).size<=1000000):=by
 rcases M with⟨_,rfl,_,t⟩|⟨c,j,_,A,rfl,t⟩
 .exact⟨ts,H,t,nF⟩
 refine⟨ts++[c],R,t,λk=>?_⟩;obtain rfl:j=0:=sU k;let⟨y,r,d,i⟩:=K _ _ A;let⟨a,x,v,w⟩:=hd.inj r;exact⟨⟨a▸d.bq,x▸d.bA,x▸d.dK,v▸d.bL,by rw[a,x];exact d.ext,by rw[a,x];exact d.branch⟩,λb e=>w b e▸i b⟩
def lk:S->D|z U=>1|_=>0
def yH (j:E B->L->Prop)(o:He)(t:L):Prop:=∃(b:B) (a:C) (c:E B),o=f #[b,a]/\b.size<=80/\0<=a/\a<=12/\(a=0->0<b.size\/True)/\j c t/\c.length<=9000
def sc (b:ν)(c7:Nat)(c0:Q π)(V:List B->ν->Prop)(d2:lV b c7 c0 V)(d1 e1:Nat)(e2:C)(a2:List (IA×π))(e0 P:B)(a3:B->Q π->C->Prop)(k:ν)(g7:eI b)(g6:bp b d1 e1 e2 a2)(j2:e0.size<=1000000)(k2:P.size<=4000)
 (g1:∀c8 I,ix b a2 c8 I->∀k,eI k->τ γ 155 #[β I] k λa e4=>(∃n c i3,ct n c/\a=χ #[Γ n,ϑ i3]/\a3 I n i3)/\ρ k k e4)
 (h6:∀I n,a3 I n 0->∃c,ct n c/\hU c/\∀g,(c.r g).size<=1000000) (f7:V [] k):
 τ γ 175 #[ξ d1,β e0,β P,Hl (Ic c7) #[] c0] k λa e4=>yH V a e4/\iO k e4:=by
 have s:=F (at_walk b c7 c0 V d2 d1 e1 e2 a2 e0 a3 [] k g7 g6 j2 (λI b7=>g1 e0 I b7) f7 sm);have j:=F d2;have e7:=F h6;have h2:=F g1;have h5:=F g6;have w:=F g7;have i8:=(d2.gi _ _ f7).z;clear g1 h6 g6 g7 d2 f7;go_enter func175,ntmps175;go_wp2_with fail;go_call s.o as a D ⟨⟨n,c,a1,hd,rfl,R⟩,f6⟩;clear s;let⟨b9,d9,h7,h9⟩:=at_next e7.o hd R;clear R;have a0:=Gc D (K zc 281);have f0:=F (j.o.aM _ _ _ h7 ((Ge _ D).a QD (K zc 281)));have f1:=F (f6.aJ (iO.aE ((Ge _ D).a QD (K zc 281))));have h3:=F h9;have j4:=f6.aH;let⟨i,f9⟩:∃i,i=(D:Nat):=⟨_,A⟩;have y:=QC ((b:Nat)<=i/\(k:Nat)<=i) ⟨H,H⟩;have h4:=F (λk=>Nib.ga P k H);clear h7 h9 f6;cases a1 with
 |false=>
  have d3:∀T,bd (D.alloc (K zc 281)) T D.heap.size (K (nc c) 281)->yH V (ι (χ #[eS,ϑ 4])) T/\iO k T:=λT d=>by
   have i2:=a0;rw[<-f9] at d i2;have S:=mU.fb (N:=5) (path:=⟨#[]⟩) (d:=bE) (ok:=σ) j.o d y.o i2 f0.o f1.o (λc8=>by cases c8) A (by show b9.length+0+0<=5;simp at d9 ⊢;omega);exact⟨⟨⟨#[]⟩,4,b9,A,dc,H,H,λc8=>H,S.kd,by simp at d9;omega⟩,S.fR⟩
  have h:=F hd.eq;have i4:=F d3;clear d3;go_wp2_with (refine tS hd a0 ?_;intro T d);go_ret2;refine i4.o _ ?_;have j8:bd (D.alloc (K zc 281)) T (D:Nat) (K n 281):=d;rwa [h.o] at j8
 |true=>
  go_wp2_with (refine tS hd a0 ?_;intro T d);go_call h4.o _ as a g0 ⟨rfl,c3⟩;have d:bd (D.alloc (K zc 281)) T (D:Nat) (K n 281):=d;rw[hd.eq] at d;rw[<-f9] at d a0 ⊢;have S:=mU.fb (N:=2*P.size+5) (path:=⟨#[]⟩) (d:=bE) (ok:=U) j.o d y.o a0 f0.o f1.o (λ_=>h3.o (by trivial)) A (by show (b9:Nat)+0+1<=_;simp at d9 ⊢;omega);have i1:mU b k V i (2*P.size+5) U (Nib.bK (Nib.cU P.data.toList)) c b9 g0:=⟨Below.ke c3 S.fU,S.nd,j.o.aM _ _ _ S.kd c3,S.fR.aJ (iO.aE c3),by show Nib.bF (Nib.cU _)=U;exact va _,by
   have:(Nib.bK (Nib.cU P.data.toList)).size=2*P.size:=by show(Nib.cU P.data.toList).toArray.size=_;rw[GZ,Nib.pt];simp
   rw[this];simp at d9 ⊢;omega⟩
  have f3:=F i1;clear S i1 d a0 f0 f1 h3 h4 c3 hd f9 j4 i8;generalize Nib.bK (Nib.cU P.data.toList)=i5 at f3;go_wp2;go_loopw [11,12] (λg8 g9 wr=>∃a1 t c M,g8=υ a1/\g9=β t/\Φ (mU b k V i (2*P.size+5) a1 t c M wr)) (λg8 g9 _=>ir g9+lk g8);case atStart=>exact⟨U,i5,c,b9,A,A,f3⟩
  case round=>
   clear f3 c;obtain⟨a1,t,c,M,rfl,rfl,u⟩:=hrel;cases a1 with
   |false=>
    have d3:=QC (yH V (ι (χ #[eS,ϑ 9])) wr/\iO k wr) ⟨⟨⟨#[]⟩,9,M,A,dc,H,H,λc8=>H,u.o.kd,oA u.o.cB⟩,u.o.fR⟩;go_wp2;go_ret2;exact d3.o
   |true=>
    have b2:=(u.o.nd A).1;have i9:=b2.bq;have g5:=F (u.o.nd A).2;have b0:=u.o.dK;have a9:=b2.ext;have d4:wr ⟨i,0,ζ⟩=ϑ c.bq:=cR u.o.fU A;have c1:wr ⟨i,1,ζ⟩=β c.bA:=cR u.o.fU A;have k0:wr ⟨i,2,ζ⟩=β c.bL:=cR u.o.fU A;have e6:=QC (∀g,g<16->wr ⟨i,3+g,ζ⟩=β (c.r g)) λg q=>by rw[QH u.o.fU];exact(jN c).qF g q
    have i0:t.size<=2*P.size+5:=oA u.o.cB;have ag:=QC (yH V (ι (χ #[β c.bL,ϑ 0])) wr/\iO k wr) ⟨⟨c.bL,0,M,A,b2.bL,H,H,λ_=>Θ trivial,u.o.kd,oA u.o.cB⟩,u.o.fR⟩;have k1:=b2.bA;clear b2;rcases i9 with q|q|q|q
    .rw[q] at d4;clear a9 q b0 i0;have W:=F (λG=>iu ⟨#[]⟩ G dc);go_wp2_with (first|((with_reducible go_call W.o _ as a w5 ⟨rfl,v⟩);have o:=F (u.o.aE j.o v);have X:=F (ju w5 (w.o.aE (j.o.gi _ _ o.o.kd)).dm))|((with_reducible go_call X.o as a l ⟨rfl,E⟩);have f:=F (o.o.aE j.o E);have z:l.heap[i]?=K (nc c) 281:=f.o.fU)|(refine tS cA z ?_;intro x J));go_roundw;case rel=>exact⟨σ,t,bE,M,A,A,F (f.o.next j.o (d6:=bE) J y.o nF f.o.dK f.o.kd (by have:=f.o.cB;simp at this ⊢;omega))⟩
     case measure=>simp[ir,lk]
    .rw[q] at d4;clear a9 q b0 i0;cases i7:(c.bA.toList==t.toList) with
     |true=>
      clear g5 e6;go_wp2;go_ret2;exact ag.o
     |false=>
      have W:=F (λG=>iu ⟨#[]⟩ G dc);go_wp2_with (first|((with_reducible go_call W.o _ as a w5 ⟨rfl,v⟩);have o:=F (u.o.aE j.o v);have X:=F (ju w5 (w.o.aE (j.o.gi _ _ o.o.kd)).dm))|((with_reducible go_call X.o as a l ⟨rfl,E⟩);have f:=F (o.o.aE j.o E);have z:l.heap[i]?=K (nc c) 281:=f.o.fU)|(refine tS cA z ?_;intro x J));go_roundw;case rel=>exact⟨σ,t,bE,M,A,A,F (f.o.next j.o (d6:=bE) J y.o nF f.o.dK f.o.kd (by have:=f.o.cB;simp at this ⊢;omega))⟩
      case measure=>simp[ir,lk]
    .rw[q] at d4;have d8:=a9 q;have c2:=F (λk=>Tryz.strings_HasPrefix t c.bA k);clear a9 q;cases a7:Lib.hasPrefix t.data.toList c.bA.data.toList with
     |true=>
      have k3:=AV a7;rw[a7] at c2;have f4:=e6.o 0 H;have j6:(c.bA.size:C)<=(t.size:C):=H;have j7:(0:C)<=(c.bA.size:C):=H;have g4:=g5.o 0 H;let⟨p,L⟩:∃p,p=t.extract c.bA.size t.size:=⟨_,A⟩;have ae:Nib.bF (bs p)=U:=by rw[L,dt];exact sb b0 _
      have j5:p.size<t.size:=by rw[L,ax];omega
      have j1:=L.s;let⟨m,a8⟩:∃m,m=c.r 0:=⟨_,A⟩;rw[<-a8] at f4 g4;clear a7 L a8 ag;go_wp2_with ((with_reducible go_call c2.o _ as a g0 ⟨rfl,ab⟩);have ab:=ab.s;subst ab);go_quiet (fail);generalize b4:wr.drewN _=h1;have a4:=QC (mU b k V i (2*P.size+5) U t c M h1) (by rw[<-b4];exact u.o.aE j.o (Below.sI QG _));clear b4 u;have u:=a4;clear a4;have W:=F (λG=>gL m G H);go_wp2_with fail;go_call W.o _ as a w5 ⟨e8,v⟩;clear W;rcases e8 with rfl|⟨b6,j3,rfl⟩
      .have o:=F (u.o.aE j.o v);have X:=F (fH m (λa6=>fN 32 _ a6 H) w5 (w.o.aE (j.o.gi _ _ o.o.kd)).dm);go_wp2_with fail;go_call X.o as a l ⟨e9,E⟩;clear X;have f:=F (o.o.aE j.o E);have z:l.heap[i]?=K (nc c) 281:=f.o.fU;rcases e9 with⟨N,af,Z,b3,g2,b5,a6,rfl⟩|rfl
       .have h:=F Z.eq;have a5:=F (κ b3 b5);clear b3 b5 g2;go_wp2_with (refine tS Z z ?_;intro x J);go_roundw;case rel=>
         have e:bd l x i (K N 281):=J;rw[h.o] at e;exact⟨U,p,af,M,A,A,F (f.o.next j.o e y.o (λ_=>⟨a5.1,λg _=>oA (a5.2 g)⟩) ae f.o.kd (by have:=f.o.cB;simp at this ⊢;omega))⟩
        case measure=>simp[ir,lk];omega
       go_wp2_with (refine tS cA z ?_;intro x J);go_roundw;case rel=>exact⟨σ,p,bE,M,A,A,F (f.o.next j.o (d6:=bE) J y.o nF ae f.o.kd (by have:=f.o.cB;simp at this ⊢;omega))⟩
       case measure=>simp[ir,lk];omega
      have o:=F (u.o.aE j.o v);have s:=F (at_walk b c7 c0 V j.o d1 e1 e2 a2 b6 a3 M w5 w.o h5.o H (λI b7=>h2.o b6 I b7) o.o.kd (oA o.o.cB));go_wp2_with fail;go_call s.o as a l ⟨⟨N,af,O,Z,rfl,R⟩,Y⟩;clear s;have z:l.heap[i]?=K (nc c) 281:=Y.aM _ _ _ o.o.fU dc dc;have f2:=F (o.o.fR.aJ Y);have e5:=F R;have h:=F Z.eq;clear R Y;go_wp2_with (refine tS Z z ?_;intro x J);go_roundw;case rel=>
       let⟨h0,j0,f8,g3⟩:=at_next e7.o Z e5.o;have e:bd l x i (K N 281):=J;rw[h.o] at e;refine⟨O,p,af,h0,A,A,F (mU.fb j.o e y.o z f8 f2.o g3 ae ?_)⟩;have d8:=o.o.cB;have f5:(if O=U then 1 else 0)<=1:=pO;simp only[if_true] at d8;omega
      case measure=>
       have f5:lk (υ O)<=1:=by cases O<;>decide
       simp only[ir];have i6:lk (υ U)=1:=A;omega
     |false=>
      rw[a7] at c2;clear a7 ag;have W:=F (λG=>iu ⟨#[]⟩ G dc);go_wp2_with (first|((with_reducible go_call W.o _ as a w5 ⟨rfl,v⟩);have o:=F (u.o.aE j.o v);have X:=F (ju w5 (w.o.aE (j.o.gi _ _ o.o.kd)).dm))|((with_reducible go_call X.o as a l ⟨rfl,E⟩);have f:=F (o.o.aE j.o E);have z:l.heap[i]?=K (nc c) 281:=f.o.fU)|(refine tS cA z ?_;intro x J)|((with_reducible go_call c2.o _ as a g0 ⟨rfl,ab⟩);have ab:=ab.s;subst ab));go_roundw;case rel=>exact⟨σ,t,bE,M,A,A,F (f.o.next j.o (d6:=bE) J y.o nF f.o.dK f.o.kd (by have:=f.o.cB;simp at this ⊢;omega))⟩
      case measure=>simp[ir,lk]
    rw[q] at d4;clear a9 q;by_cases c6:t.size=0
    .have j9:=cj c6;cases i7:c.bL.toList.isEmpty with
     |true=>
      clear ag;have W:=F (λG=>iu ⟨#[]⟩ G dc);go_wp2_with (first|((with_reducible go_call W.o _ as a w5 ⟨rfl,v⟩);have o:=F (u.o.aE j.o v);have X:=F (ju w5 (w.o.aE (j.o.gi _ _ o.o.kd)).dm))|((with_reducible go_call X.o as a l ⟨rfl,E⟩);have f:=F (o.o.aE j.o E);have z:l.heap[i]?=K (nc c) 281:=f.o.fU)|(refine tS cA z ?_;intro x J));go_roundw;case rel=>exact⟨σ,t,bE,M,A,A,F (f.o.next j.o (d6:=bE) J y.o nF f.o.dK f.o.kd (by have:=f.o.cB;simp at this ⊢;omega))⟩
      case measure=>simp[ir,lk]
     |false=>
      go_wp2;go_ret2;exact ag.o
    have c6:0<t.size:=H;have j9:=cp c6;have h8:=Dl b0 c6;have k4:(0:C)<(t.size:C):=H;have j6:(1:C)<=(t.size:C):=H;have j7:((t[0].toNat:Nat):C)<16:=H;have k5:(0:C)<=((t[0].toNat:Nat):C):=H;have f4:=e6.o t[0].toNat h8;have g4:=g5.o t[0].toNat h8;let⟨p,L⟩:∃p,p=t.extract 1 t.size:=⟨_,A⟩;have ae:Nib.bF (bs p)=U:=by rw[L,dt];exact sb b0 _
    have j5:p.size<t.size:=by rw[L,ax];omega
    have j1:=L.s;let⟨m,a8⟩:∃m,m=c.r t[0].toNat:=⟨_,A⟩;rw[<-a8] at f4 g4;clear L a8 ag;go_wp2;go_quiet (fail);generalize b4:wr.drewN _=h1;have a4:=QC (mU b k V i (2*P.size+5) U t c M h1) (by rw[<-b4];exact u.o.aE j.o (Below.sI QG _));clear b4 u;have u:=a4;clear a4;have W:=F (λG=>gL m G H);go_wp2_with fail;go_call W.o _ as a w5 ⟨e8,v⟩;clear W;rcases e8 with rfl|⟨b6,j3,rfl⟩
    .have o:=F (u.o.aE j.o v);have X:=F (fH m (λa6=>fN 32 _ a6 H) w5 (w.o.aE (j.o.gi _ _ o.o.kd)).dm);go_wp2_with fail;go_call X.o as a l ⟨e9,E⟩;clear X;have f:=F (o.o.aE j.o E);have z:l.heap[i]?=K (nc c) 281:=f.o.fU;rcases e9 with⟨N,af,Z,b3,g2,b5,a6,rfl⟩|rfl
     .have h:=F Z.eq;have a5:=F (κ b3 b5);clear b3 b5 g2;go_wp2_with (refine tS Z z ?_;intro x J);go_roundw;case rel=>
       have e:bd l x i (K N 281):=J;rw[h.o] at e;exact⟨U,p,af,M,A,A,F (f.o.next j.o e y.o (λ_=>⟨a5.1,λg _=>oA (a5.2 g)⟩) ae f.o.kd (by have:=f.o.cB;simp at this ⊢;omega))⟩
      case measure=>simp[ir,lk];omega
     go_wp2_with (refine tS cA z ?_;intro x J);go_roundw;case rel=>exact⟨σ,p,bE,M,A,A,F (f.o.next j.o (d6:=bE) J y.o nF ae f.o.kd (by have:=f.o.cB;simp at this ⊢;omega))⟩
     case measure=>simp[ir,lk];omega
    have o:=F (u.o.aE j.o v);have s:=F (at_walk b c7 c0 V j.o d1 e1 e2 a2 b6 a3 M w5 w.o h5.o H (λI b7=>h2.o b6 I b7) o.o.kd (oA o.o.cB));go_wp2_with fail;go_call s.o as a l ⟨⟨N,af,O,Z,rfl,R⟩,Y⟩;clear s;have z:l.heap[i]?=K (nc c) 281:=Y.aM _ _ _ o.o.fU dc dc;have f2:=F (o.o.fR.aJ Y);have e5:=F R;have h:=F Z.eq;clear R Y;go_wp2_with (refine tS Z z ?_;intro x J);go_roundw;case rel=>
     let⟨h0,j0,f8,g3⟩:=at_next e7.o Z e5.o;have e:bd l x i (K N 281):=J;rw[h.o] at e;refine⟨O,p,af,h0,A,A,F (mU.fb j.o e y.o z f8 f2.o g3 ae ?_)⟩;have d8:=o.o.cB;have f5:(if O=U then 1 else 0)<=1:=pO;simp only[if_true] at d8;omega
    case measure=>
     have f5:lk (υ O)<=1:=by cases O<;>decide
     simp only[ir];have i6:lk (υ U)=1:=A;omega
def wk (_:B)(o:Q S)(j:C):Prop:=(j=0/\∃f,ct o f/\hU f/\∀t,(f.r t).size<=1000000)\/j=2
def vc (U K:B)(X:ix g n U K)(z:L)(W:eI z):Y N 155 #[K] z λa i=>(∃u J P,ct u J/\a=f #[t u,G P]/\wk K u P)/\T z z i:=by
 let⟨v,x,w,_,c⟩:=X;have Z:=c.aH;refine(mS K Z z W.dm).m λa i ⟨b,l⟩=>⟨?_,l⟩;rcases b with⟨u,J,hd,V,O,M⟩|M
 .refine⟨u,J,0,hd,M,o ⟨A,J,hd,V,λq=>?_⟩⟩;rcases O with⟨_,rfl⟩|⟨_,O⟩
  .exact QK
  have:=O q;omega
 exact⟨zc,bE,2,cA,M,j A⟩
def yI (u:B)(j:Q S)(o:wk u j 0):∃f,ct j f/\hU f/\∀t,(f.r t).size<=1000000:=(o.resolve_right dc).2
def yJ (j:He):Prop:=∃(b:B) (a:C),j=f #[b,a]/\b.size<=80/\0<=a/\a<=12
def SL (t z:D)(J:C)(u:E (IA×S))(o j:B)(f:L)(M:eI f)(K:bp f t z J u)(X:o.size<=1000000)(P:j.size<=4000):
 Y N 299 #[V t,o,j] f λa i=>yJ a/\T f f i:=by
 have U:=F (sc f 338 #[] _ (AS f) t z J u o j wk f M K X P vc yI (Ge _ f));go_enter func299,ntmps299;go_wp2_with ((with_reducible apply U.o.m);rintro a i ⟨⟨b,s,c,rfl,Z,r,W,_,O,_⟩,_⟩);go_ret2;exact⟨⟨b,s,A,Z,r,W⟩,O⟩
def vd (j:He)(o:L):Prop:=∃(b:S) (c:E B) (a:C),j=f #[b,a]/\bS o b c/\c.length<=9000/\0<=a/\a<=12
theorem MC (u Z:D)(a:C)(K:E (IA×S))(t o:B)(f:ν)(W:eI f)(V:bp f u Z a K)(p:t.size<=1000000)(x:o.size<=4000):
 Y γ 102 #[ξ u,O t,O o] f λk v=>vd k v/\T f f v:=by
 let⟨s,g,e⟩:=aU f (θ #[P J 0 0] 33);have j:AT f (f:D) [] s:=⟨e.aE,d,_,e.at_,QN⟩;have M:=F (sc f 176 _ _ (sa f (f:D) d) u Z a K t o wk s W V p x vc yI j);clear V W j e;go_enter func102,ntmps102;go_wp2_with fail;apply M.o.m;rintro k l ⟨⟨R,r,b,rfl,I,q,G,_,j,y⟩,_⟩;let⟨m,_,L,n,c⟩:=j;obtain⟨h,i,rfl⟩:=aR c;have Q:l f=P h (b:D) i:=cR n A;have U:=F m;have w:=F (da c);clear M c n m g;by_cases z:r=4
 .subst z;go_wp2;go_ret2;exact⟨⟨_,[],4,A,Ξ ⟨J,0,A,A⟩,sm,H,H⟩,U.o⟩
 have N:(r==4)=X:=by simp[z]
 go_wp2;go_ret2;exact⟨⟨_,b,0,A,w.o,y,H,H⟩,U.o⟩
structure lW (w:L)(rb s:D)(left:D)(T:Pt)(ok:Bool)(l':D)(w':L):Prop where
 rd:w'.heap[rb]?=K #[V s,l'] 392
 le:l'<=left
 only:aL (· =rb) w w'
 od:ok=U->T≠.nil/\T.At w'/\T.fG/\T.dZ/\(∀x,T.fT x->w.heap.size<=x)/\T.bw+l'<=left/\T.bu+20*l'<=20*left
def dU (K:L)(A J left:D)(t:He)(M:L):Prop:=∃j o u,t=f #[Pt.cm j,z o]/\lW K A J left j o u M
def lW.AW {left:D}{j:Pt}{t:Bool}(f:lW s w q left j t i l)(o:T g g s):lW g w q left j t i l:=
 ⟨f.rd,f.le,(aL.aE o _).aJ f.only,λe=>by
  obtain⟨z,u,A,J,K,M⟩:=f.od e
  exact⟨z,u,A,J,λb r=>GB o.z (K b r),M⟩⟩
def dU.AW {left:D}{f:He}(u:dU s w q left f l)(t:T g g s):dU g w q left f l:=by
 obtain⟨j,J,o,z,A⟩:=u;exact⟨j,J,o,z,A.AW t⟩
def SM (o:L)(f j left:D):Prop:=o.heap[f]?=K #[V j,left] 392
def dU.bad {left:D}(o:SM g w q left)(j:T g g s):dU g w q left (ι (f #[ω,z X])) s:=
 ⟨.nil,X,left,A,j.ke o,d,aL.aE j _,nF⟩
def qf (f:L)(o left:D):Prop:=∀(a:D) (e:Q S) (d:Nd) (b:L),f.heap.size<=a->T f f b->SM b a o left->ct e d->hU d->(∀j,j<16->(d.r j).size<=1000000)->
 Y N 272 #[V a,e] b (dU b a o left)
def AX (f:L)(j left:D):Prop:=∀(a:D) (d:B) (b:L),f.heap.size<=a->T f f b->SM b a j left->d.size<=1000000->
 Y N 218 #[V a,d] b (dU b a j left)
def EX (f:L)(j left:D):Prop:=∀(a:D) (d:B) (b:L),f.heap.size<=a->T f f b->SM b a j left->d.size<=1000000->
 Y N 320 #[V a,d] b (dU b a j left)
def at_idle (u K:D)(M:C)(A:E (IA×S))(o:B)(j:L)(X:eI j)(W:bp j u K M A)(P:o.size<=1000000):
 Y N 221 #[V u,O o,Hl (Ic 271) #[] #[]] j λh l=>(∃d b e,ct d b/\h=f #[t d,z e]/\(e=U->hU b/\∀J,J<16->(b.r J).size<=1000000))/\T j j l:=by
 refine(at_walk j 271 #[] _ (qe j) u K M A o wk [] j X W P (vc o) (Ge _ j) R).m λh l ⟨⟨d,b,e,hd,p,n⟩,_⟩=>?_;let⟨v,_,a,r⟩:=at_next (ts:=[]) (J:=λ_ c=>T j j c) yI hd n;exact⟨⟨d,b,e,hd,p,r⟩,a⟩
def EY (t:L)(u W:D)(x:C)(O:E (IA×S))(left:D)(p:eI t)(n:bp t u W x O)(l:qf t u left):AX t u left:=by
 intro q g M k z V h;have s:=cJ 0 V;have w:=F V;have X:=F z;go_enter func218,ntmps218;go_wp2_with fail;apply (F (at_idle u W x O g M (p.aE z) (n.aE z) h)).o.m;rintro r c ⟨⟨d,H,J,hd,rfl,f⟩,b1⟩;have e:=Gc c (K zc 281);have j:=F (b1.a b1.z (K zc 281));have o:=b1.z;cases J with
 |false=>
  go_wp2_with (apply tS hd e;intro b a);have I:T M M b:=a.aE _ _ o j.o;go_ret2;exact (F (dU.bad w.o I)).o
 |true=>
  have f:=(F f).o A;have N:=F (λb (a:bd (c.alloc (K zc 281)) b c (K d 281))=>(F l).o q d H b k (X.o.t ((a.aE _ _ o j.o).m X.o.z)) ((a.aE _ _ o j.o).ke w.o) hd f.1 f.2);go_wp2_with (first|(apply tS hd e;intro b a;have Z:=y (bd (c.alloc (K zc 281)) b c (K d 281)) a;have i:b.heap[(c:D)]?=K d 281:=a.at_)|(refine tL i ?_ (f:=hd.aH))|((with_reducible apply(N.o _ Z.o).m);rintro r v ⟨P,J,G,rfl,m⟩;have U:=F (dU.AW ⟨P,J,G,A,m⟩ (Z.o.aE _ _ o j.o));generalize P.cm=Q at U ⊢));go_ret2;exact U.o
def ZV (z:ν)(Z:D)(left:D)(n:eI z)(m:qf z Z left)(v:AX z Z left):EX z Z left:=by
 intro C x w i G l a1;have U:=F l;have f:=F G;go_enter func320,ntmps320;go_wp2_with fail;apply (F (gL x w H)).o.m;rintro W e ⟨N,b1⟩;have O:=F b1;rcases N with rfl|⟨T,a0,rfl⟩
 .have r:=F (fH x (λy=>fN 32 _ y H) e ((F n).o.aE (f.o.t (b1.m f.o.z))).dm);go_wp2_with fail;apply r.o.m;rintro W c ⟨p,B⟩;have d:=Gc c (K zc 281);have M:=O.o.t (B.m O.o.z);have t:=F (M.a M.z (K zc 281));have u:=M.z;rcases p with⟨h,R,hd,I,Y,L,y,rfl⟩|rfl
  .have g:=F (κ I L);have P:=F (λb (a:bd (c.alloc (K zc 281)) b c (K h 281))=>(F m).o C h R b i (f.o.t ((a.aE _ _ u t.o).m f.o.z)) ((a.aE _ _ u t.o).ke U.o) hd g.1 (λS _=>oA (g.2 S)));go_wp2_with (first|(apply tS hd d;intro b a;have E:=QC (bd (c.alloc (K zc 281)) b c (K h 281)) a;have Q:b.heap[(c:D)]?=K h 281:=a.at_)|(refine tL Q ?_ (f:=hd.aH))|((with_reducible apply(P.o _ E.o).m);rintro W s ⟨j,V,X,rfl,J⟩;have o:=F (dU.AW ⟨j,V,X,A,J⟩ (E.o.aE _ _ u t.o));generalize j.cm=q at o ⊢));go_ret2;exact o.o
  go_wp2_with (apply tS cA d;intro b a);have k:ρ w w b:=a.aE _ _ u t.o;go_ret2;exact (F (dU.bad U.o k)).o
 have P:=F ((F v).o C T e i (f.o.t (b1.m f.o.z)) (b1.ke U.o) H);go_wp2_with ((with_reducible apply P.o.m);rintro W s ⟨j,V,X,rfl,J⟩;have o:=F (dU.AW ⟨j,V,X,A,J⟩ O.o);generalize j.cm=q at o ⊢);go_ret2;exact o.o
def Pt.nU (f:Pt):f.cm=ω\/∃t u,f.cm=Δ t u:=by
 cases f
 .exact o A
 all_goals exact j ⟨_,_,A⟩
def EZ:(N.info? 279).map (·.size)=M 16:=e
structure ve (w:L)(rb s l bb:D)(bv:B)(i:D)(k:D->Pt)(lc:D)(wr:L):Prop where
 dK:rb<w.heap.size
 rd:SM wr rb s lc
 le:lc<=l
 only:aL (· =rb) w wr
 eg:(Pt.branch bb bv k).At wr
 fG:(Pt.branch bb bv k).fG
 dZ:(Pt.branch bb bv k).dZ
 Wf:∀j,i<=j->k j=.nil
 cn:∀x,(Pt.branch bb bv k).fT x->w.heap.size<=x
 bw:(di λj=>(k j).bw)+lc<=l
 bu:(di λj=>(k j).bu)+20*lc<=20*l
def ve.skip {wr:L}{o j:D}{t:D->Pt}(f:ve g w q a i k o t j wr):ve g w q a i k (o+1) t j wr:=⟨f.dK,f.rd,f.le,f.only,f.eg,f.fG,f.dZ,λc l=>f.Wf c H,f.cn,f.bw,f.bu⟩
def ve.ne {wr:L}{o u:D}{z:D->Pt}(j:ve g w q a i k o z u wr):i≠w:=by
 intro t;subst t;have A:=j.eg.1;have f:=j.rd;unfold SM at f;rw[A] at f;simp at f
def ve.set {wr:L}{t W V:D}{z:D->Pt}{T1:Pt}(f:ve g w q a i k t z W wr)(O:t<16)(u:lW wr w q W T1 U V l):
 ve g w q a i k (t+1) (cZ z t T1) V (l.setCell (i,1+t) T1.cm):=by
 obtain⟨R,e,m,n,K,S,T⟩:=u.od A;have d:=f.ne;have Y:=aw f.eg.1;have N:=u.only.aM f.eg.1 d;have M:=aF (j:=1+t) T1.cm N;have P:=f.Wf t QD;have F:g<=i:=f.cn i (Ξ A);have X:∀x,T1.fT x->x≠i:=λx b h=>by have:=K x b;omega
 have s:=f.dK;have J:∀j,j<16->∀x,(z j).fT x->x<wr/\x≠w/\x≠i:=λj c x b=>⟨Pt.hR (f.eg.2 j c) b,λh=>by have:=f.cn x (Θ ⟨j,c,b⟩);omega,λh=>(f.fG.1 j c).1 (by subst h;exact b)⟩;refine⟨s,(M.old w (λh=>d h.s)).t u.rd,GB u.le f.le,(f.only.gU u.only λ_ _ h=>h).bV (λv=>by exact absurd v (by show¬i<_;omega)) _,⟨?_,λj c=>?_⟩,⟨λj c=>?_,λj r c I y x b G=>?_⟩,λj c=>?_,λj c=>?_,λx b=>?_,?_,?_⟩
 .rw[M.at_,Pt.uh _ _ O,du Pt.cm]
 .by_cases o:j=t
  .subst o;rw[cy];exact Pt.at_frame e λx b=>M.old x (X x b)
  rw[bX _ _ o];exact Pt.at_frame (f.eg.2 j c) λx b=>(M.old x (J j c x b).2.2).t (u.only.aG x (J j c x b).1 (J j c x b).2.1)
 .by_cases o:j=t
  .subst o;rw[cy];exact⟨λb=>X _ b A,m⟩
  rw[bX _ _ o];exact f.fG.1 j c
 .by_cases o:j=t
  .subst o;rw[cy] at b;rw[bX _ _ (λh=>y h.s)] at G;have:=K x b;have:=(J r I x G).1;omega
  rw[bX _ _ o] at b;by_cases Z:r=t
  .subst Z;rw[cy] at G;have:=K x G;have:=(J j c x b).1;omega
  rw[bX _ _ Z] at G;exact f.fG.2 j r c I y x b G
 .by_cases o:j=t
  .subst o;rw[cy];exact n
  rw[bX _ _ o];exact f.dZ j c
 .rw[bX _ _ H];exact f.Wf j H
 .rcases b with b|⟨j,c,b⟩
  .subst b;exact F
  by_cases o:j=t
  .subst o;rw[cy] at b;exact GB f.only.aH (K x b)
  rw[bX _ _ o] at b;exact f.cn x (Θ ⟨j,c,b⟩)
 .have v:=dS (f:=λj=>(z j).bw) O T1.bw;rw[<-du Pt.bw] at v;have p:=f.bw;try simp only at v
  rw[P] at v;simp only[Pt.bw] at v;omega
 have v:=dS (f:=λj=>(z j).bu) O T1.bu;rw[<-du Pt.bu] at v;have p:=f.bu;try simp only at v
 rw[P] at v;simp only[Pt.bu] at v;omega
theorem Fa (aj:ν)(u left:D)(h0:left<=1000)(am:∀b,b<left->EX aj u b):qf aj u left:=by
 intro o a8 j d ag I P hd af a4;have f6:=aw P;let⟨ak,h2,k⟩:=aU d (θ a8 281);have d1:o≠(d:D):=H;have a9:=F I;have g2:=F P;have N:SM ak o u left:=k.aE.ke P;have f8:=hd.aH;have g0:ak (o,1)=left:=cR N A;have e7:=aI N 1;have e2:=F k;have W:=F af;have ae:=F a4;have a0:=F am;cases left with
 |zero=>
  have K:=y (dU d o u 0 (ι (f #[ω,υ X])) ak) (dU.bad P k.aE);clear I P af a4 am N k;go_enter NT,ND;go_wp2;go_ret2;exact K.o
 |succ b=>
  have g4:(((b+1:D):C)==0)=X:=QB;have h4:η.wrap (((b+1:D):C)-1)=(b:C):=by rw[QQ H];omega
  have R:=aF (j:=1) (ϑ b) N;let⟨c,d3⟩:∃c,ak.setCell (o,1) (ϑ b)=c:=⟨_,A⟩;rw[d3] at R;have c2:SM c o u b:=R.at_;have a3:aL (· =o) d c:=d3▸aL.bV (p:=⟨o,1,J⟩) (aL.aE k.aE (· =o)) (λ_=>rfl) _;have a2:c.heap[(d:D)]?=θ a8 281:=(R.old _ (λr=>d1 r.s)).t k.at_;have e4:=F a2;have L:∀G al,a8[G]?=δ al->c ⟨(d:D),G,J⟩=δ al:=λG al q=>QH a2▸q;have S:=L 0 _ hd.bq;have c1:=L 1 _ hd.bA;have b3:=L 2 _ hd.bL;have ao:=y (∀g,g<16->c ⟨(d:D),3+g,J⟩=(j.r g)) λg n=>L _ _ (hd.qF g n);have V:=F a3;have Z:=F c2;have b9:ρ aj aj c:=I.t (a3.cE I.z λi r=>by subst r;exact ag);have d4:=F b9;have d2:(d:D)+1=(c:D):=by rw[R.aH,k.aH]
  have f5:=af.bq;clear I P af a4 am N k L a2 a3 c2 b9 R d1;rcases f5 with n|n|n|n
  .rw[n] at S;have K:=y (dU d o u (b+1) (ι (f #[Δ 502 (Γ #[]),υ U])) c) ⟨.none,U,b,A,Z.o,H,V.o,λ_=>⟨sm,tV,tV,tV,λY q=>q.elim,(H:0+b<=b+1),(H:0+20*b<=_)⟩⟩;go_enter NT,ND;go_wp2;go_ret2;exact K.o
  .rw[n] at S;have K:=y (∀h,gJ c h (θ #[O j.bA,O j.bL] 493)->dU d o u (b+1) (ι (f #[Δ 491 (ξ ((c:D),0)),υ U])) h) λh x=>⟨.leaf (c:D) j.bA j.bL,U,b,A,x.aE.ke Z.o,H,V.o.then x.aE,λ_=>⟨sm,x.at_,tV,W.o.dK,λY q=>by have:Y=(c:D):=q;omega,(H:1+b<=b+1),by
    have:=W.o.bA
    show j.bA.size+2+20*b<=_;omega⟩⟩
   go_enter NT,ND;go_wp2;go_ret2;exact K.o _ (dj _ _)
  .rw[n] at S;have g3:=ao.o 0 H;have a1:=F (a0.o b H o (j.r 0) c ag d4.o Z.o (ae.o 0 H));have c8:∀h,aL (· =o) c h->h ((d:D),1)=j.bA:=λh f7=>f7.dN c1 (H:(d:D)≠o);have e0:=F c8;have K:=y (∀T1 l a h m,lW c o u b T1 l a h->gJ h m (θ #[O j.bA,T1.cm] 496)->dU d o u (b+1) (ι (f #[Δ 494 (ξ ((h:D),0)),υ l])) m) λT1 l a h m e ai=>⟨.ext (h:D) j.bA T1,l,a,A,ai.aE.ke e.rd,oA e.le,(V.o.gU e.only λ_ _ r=>r).then ai.aE,λf4=>by
    let⟨e8,b4,e9,f0,f1,g5,g6⟩:=e.od f4
    have g7:=e.only.aH
    refine⟨sm,⟨ai.at_,Pt.at_below b4 ai.aE⟩,⟨λq=>oA (Pt.hR b4 q),e9⟩,⟨W.o.dK,e8,f0⟩,λY v=>?_,(H:1+T1.bw+a<=b+1),by
     have:=W.o.bA
     show j.bA.size+1+T1.bu+20*a<=_;omega⟩
    rcases v with v|v
    .omega
    have:=f1 Y v;omega⟩
   clear c8 b3;go_enter NT,ND;go_wp2_with ((with_reducible apply a1.o.m);rintro r h ⟨T1,l,a,rfl,M⟩;have g8:=e0.o h M.only;have b2:=F (K.o T1 l a h _ M (dj h _));clear M;rcases Pt.nU T1 with s|⟨a6,a7,s⟩<;>rw[s] at b2 ⊢);all_goals
    go_wp2;go_ret2;exact b2.o
  rw[n] at S;let⟨p,ab⟩:∃p:E π,p=[O (j.r 0),O (j.r 1),O (j.r 2),O (j.r 3),O (j.r 4),O (j.r 5),O (j.r 6),O (j.r 7),O (j.r 8),O (j.r 9),O (j.r 10),O (j.r 11),O (j.r 12),O (j.r 13),O (j.r 14),O (j.r 15)]:=⟨_,A⟩;have b7:(p:D)=16:=ab▸rfl;have b6:∀g,g<16->p[g]?=(j.r g):=λg n=>by rw[ab];have:=Au j.r n;rw[<-IQ] at this;exact this
  have e1:=y (∀g:D,g<16->∀d,(Instr.index 279 (Γ p.toArray) (ϑ (g:C))).run γ d=Je (O (j.r g)) d) λg n d=>ab▸jM j.r n d;let⟨h,h3,x⟩:=aU c (θ #[O j.bL,ω,ω,ω,ω,ω,ω,ω,ω,ω,ω,ω,ω,ω,ω,ω,ω] 500);have c3:h.rangeAt (d:D) 3 p:=λG al s=>by
   have c7:G<16:=b7▸(Gg.1 s).1;rw[b6 G c7] at s;cases Gm s;exact x.aE.ce (ao.o G c7)
  have b0:=y (ve d o u b (c:D) j.bL 0 (λ_=>.nil) b h) ⟨f6,x.aE.ke Z.o,QD,V.o.then x.aE,⟨x.at_,λ_ _=>trivial⟩,⟨λ_ _=>⟨λq=>q,tV⟩,λ_ _ _ _ _ _ q=>q.elim⟩,λ_ _=>trivial,λ_ _=>rfl,λY v=>by
   rcases v with v|⟨_,_,v⟩
   .omega
   exact v.elim,(H:0+b<=b),(H:0+20*b<=_)⟩
  have d9:=F (λa (q:a<=b)=>a0.o a H);have ae:=ae;clear ab b6 e4 ao Z V c1 x a0 e2 W hd f8;go_enter NT,ND;go_wp2_with (apply Xj A 279 _ A (d:D) 3 A p _ c3 underlying279 A (b7▸EZ));clear c3 S b3 g0 e7 d2;go_loopw [61] (λiv wr=>∃(i:D) (g:D->Pt) (w:D),i<=16/\iv=ϑ i/\Φ (ve d o u b (c:D) j.bL i g w wr)) (λiv _=>16-(QI iv).toNat);case atStart=>exact⟨0,_,b,H,A,b0⟩
  case round=>
   clear b0;obtain⟨i,g,w,g9,rfl,t⟩:=hrel;by_cases ah:i<16
   .have f3:=e1.o i ah;have f9:(i:C)<16:=H;have c6:=ae.o i ah;let⟨T,b5⟩:∃T,T=j.r i:=⟨_,A⟩;rw[<-b5] at f3 c6;clear b5;by_cases f2:T.size=0
    .have g1:=cj f2;go_wp2;go_roundw;case rel=>exact⟨i+1,g,w,H,gN,F t.o.skip⟩
     case measure=>simp[QI];omega
    have g1:=cp (H:0<T.size);have a1:=F (d9.o w t.o.le o T wr ag (a9.o.t (t.o.only.cE a9.o.z λi r=>by subst r;exact ag)) t.o.rd c6);have d6:=y (∀T1 a m,lW wr o u w T1 X a m->dU d o u (b+1) (ι (f #[ω,υ X])) m) λT1 a m e=>⟨.nil,X,a,A,e.rd,oB e.le t.o.le,t.o.only.gU e.only (λ_ _ r=>r),nF⟩;have e6:=y (∀T1 a m,lW wr o u w T1 U a m->ve d o u b (c:D) j.bL (i+1) (cZ g i T1) a (m.setCell ⟨(c:D),1+i,J⟩ T1.cm)/\m ⟨(c:D),1+i,J⟩=ω/\m.frozen? ⟨(c:D),1+i,J⟩=X/\∃a6 a7,T1.cm=Δ a6 a7) λT1 a m e=>by
     have c0:=e.only.aM t.o.eg.1 t.o.ne;refine⟨t.o.set ah e,?_,aI c0 _,Pt.fA (e.od A).1⟩;rw[QH c0,Pt.lL _ _ ah,t.o.Wf i QD];rfl
    go_wp2_with ((with_reducible apply a1.o.m);rintro r m ⟨T1,l,a,rfl,M⟩;cases l;all_goals first|(have d8:=F (d6.o T1 a m M);clear M;generalize T1.cm=V1)|(let⟨a5,d2,h1,a6,a7,s⟩:=e6.o T1 a m M;rw[s] at a5;rw[s];have e5:=F a5;clear M a5 s))
    .go_ret2;exact d8.o
    go_roundw;case rel=>exact⟨i+1,_,_,H,gN,e5⟩
    case measure=>simp[QI];omega
   have f9:¬((i:C)<16):=H;have K:=y (dU d o u (b+1) (ι (f #[Δ 497 (ξ ((c:D),0)),υ U])) wr) ⟨.branch (c:D) j.bL g,U,w,A,t.o.rd,oA t.o.le,t.o.only,λ_=>⟨sm,t.o.eg,t.o.fG,t.o.dZ,t.o.cn,by have:=t.o.bw;show 1+_+w<=_;omega,by have:=t.o.bu;show 3+_+20*w<=_;omega⟩⟩;go_wp2;go_ret2;exact K.o
namespace Pt
structure cD (T:Pt)(w w':L)(T':Pt):Prop where
 eg:T'.At w'
 fG:T'.fG
 dZ:T'.dZ
 cn:∀x,T'.fT x->T.fT x\/w.heap.size<=x
 only:aL T.fT w w'
 some:T'≠nil
 bu:T'.bu<=T.bu
 bw:T'.bw<=T.bw
def cD.cI {j:Pt}{n:D}{o:Pt}(f:j.cD (g.drewN n) s o):j.cD g s o:=⟨f.eg,f.fG,f.dZ,f.cn,aL.eM f.only,f.some,f.bu,f.bw⟩
def vf (f:Pt):Prop:=∀(b:B) (c:L),f.At c->f.fG->f.dZ->Nib.bF (bs b)=U->b.size<=100000->f.bu<=100000->
 Y N f.wW #[f.kF,b] c λe a=>∃j,e=ι j.cm/\f.cD c a j
end Pt
def xv (j:B)(f:L):Y N 422 #[t #[],O j] f λc e=>c=Pt.none.cm/\T f f e:=by
 go_enter func422,ntmps422;go_wp2;go_ret;exact⟨A,(Ge _ f).a d _⟩
def MD (j:D)(u J M:B)(z:L)(K:(Pt.leaf j u J).At z)(O:Nib.bF (bs u)=U):
 Y N 408 #[V j,M] z λk l=>∃f,k=ι f.cm/\(Pt.leaf j u J).cD z l f:=by
 let⟨n,c1⟩:=at_ptr2 K;have H1:=y (∃f,ι (Δ 502 (t #[]))=ι f.cm/\(Pt.leaf j u J).cD z z f) ⟨.none,A,tV,tV,tV,λm a=>a.elim,aL.bQ _ _,R,QK,QK⟩;have P:=y (∃f,ι (Δ 491 (V j))=ι f.cm/\(Pt.leaf j u J).cD z z f) ⟨.leaf j u J,A,K,tV,O,λm a=>Ξ a,aL.bQ _ _,R,d,d⟩;cases W:(M.toList==u.toList) with
 |true=>
  go_enter func408,ntmps408;go_wp2;go_ret;exact H1.o
 |false=>
  go_enter func408,ntmps408;go_wp2;go_ret;exact P.o
def vg (f:D->S)(o:w<16)(j:L):(Instr.index 498 (t #[f 0,f 1,f 2,f 3,f 4,f 5,f 6,f 7,f 8,f 9,f 10,f 11,f 12,f 13,f 14,f 15]) (G (w:C))).run N j=Je (f w) j:=by
 apply C6 w;refine⟨?_,?_,?_,?_,?_,?_,?_,?_,?_,?_,?_,?_,?_,?_,?_,?_⟩<;>kernel_rfl
def qg:(N.info? 498).map (·.size)=M 16:=e
def rk (f:D->Pt):∃j:E S,(j:D)=16/\(∀b,b<16->j[b]?=M (f b).cm)/\∀b:D,b<16->∀c:L,(Instr.index 498 (t j.toArray) (G (b:C))).run N c=Je (f b).cm c:=
 ⟨[(f 0).cm,(f 1).cm,(f 2).cm,(f 3).cm,(f 4).cm,(f 5).cm,(f 6).cm,(f 7).cm,(f 8).cm,(f 9).cm,(f 10).cm,(f 11).cm,(f 12).cm,(f 13).cm,(f 14).cm,(f 15).cm],A,λb e=>by
  apply C6 b;refine⟨?_,?_,?_,?_,?_,?_,?_,?_,?_,?_,?_,?_,?_,?_,?_,?_⟩<;>rfl,λb e c=>vg (λa=>(f a).cm) e c⟩
def oY {f:D->Pt}(t:(Pt.branch w k f).At g)(o:(b:D)=16)(u:∀a,a<16->b[a]?=M (f a).cm):g.rangeAt w 1 b:=λa l d=>by
 have j:a<16:=o▸(Gg.1 d).1;rw[u a j] at d;cases Gm d;show g ⟨w,1+a,J⟩=_;rw[QH t.1];exact Pt.lL _ _ j
def Wg (j:w<16):Nib.bF (bs (tx [Ka w]))=U:=by
 rw[Ys];simp only[Nib.bF,List.all_cons,List.all_nil,Bool.and_true];refine Xr (Ki.2 ?_);have f:(15:QO).toNat=15:=A;rw[UInt8.toNat_ofNat',f];omega
theorem rl (j:D)(o:B)(f:D->Pt)(M:ν)(a:(Pt.branch j o f).At M)(c:(Pt.branch j o f).fG)(n:(Pt.branch j o f).dZ)(q:(Pt.branch j o f).bu<=100000):
 τ γ 421 #[ξ j] M λs v=>∃g,s=ι g.cm/\(Pt.branch j o f).cD M v g:=by
 let⟨a0,R,I,L⟩:=rk f;have T:=oY a R I;have af:=F L;have d1:M j=o:=cR a.1 A;have U:=F (κ a (κ c (κ n q)));clear I L a c n q;go_enter func421,ntmps421;go_wp2_with (apply Xj A 498 _ A j 1 A a0 _ T LX A (R▸qg));clear T;go_loopw [3,4,11] (λcv b0 iv wr=>∃(b k e:D),b<=16/\k<=b/\cv=ϑ k/\b0=ϑ e/\iv=ϑ b/\wr=M/\Φ (0<k->e<16/\f e≠.nil)) (λ_ _ iv _=>16-(QI iv).toNat)
 .exact⟨0,0,0,H,H,A,A,A,A,F λp=>H⟩
 obtain⟨b,k,e,b6,J,rfl,rfl,rfl,rfl,P⟩:=hrel;by_cases X:b<16
 .have a9:(b:C)<16:=H;have Z:=af.o b X;rcases Pt.nU (f b) with l|⟨c7,c8,l⟩
  .rw[l] at Z;clear l;go_wp2;go_roundw
   .exact⟨b+1,k,e,H,H,A,A,gN,tV,P⟩
   simp[QI];omega
  rw[l] at Z;have ai:=y (f b≠.nil) λs=>by rw[s] at l;cases l
  clear l;go_wp2;go_roundw
  .exact⟨b+1,k+1,b,H,H,gN,A,gN,tV,F λ_=>⟨X,ai.o⟩⟩
  simp[QI];omega
 have a9:¬((b:C)<16):=H;let⟨a,c,n,q⟩:=U.o;by_cases u:k=0
 .have a2:((k:C)==0)=ψ:=by simp[u]
  cases a4:o.toList.isEmpty with
  |true=>
   have t:=y (∃g,ι (Δ 502 (Γ #[]))=ι g.cm/\(Pt.branch j o f).cD wr wr g) ⟨.none,A,tV,tV,tV,λh p=>p.elim,aL.bQ _ _,sm,QK,QK⟩;clear a c n q u J;go_wp2;go_ret;exact t.o
  |false=>
   have t:=y (∀G,gJ wr G (K #[O ⟨#[]⟩,O o] 493)->∃g,ι (Δ 491 (ξ ((wr:D),0)))=ι g.cm/\(Pt.branch j o f).cD wr G g) λG Y=>⟨.leaf (wr:D) ⟨#[]⟩ o,A,Y.at_,tV,A,λh p=>Θ (by have:h=(wr:D):=p;omega),aL.aE Y.aE _,sm,(H:0+2<=3+_),(H:1<=1+_)⟩;clear a c n q u J;go_wp2;go_ret;exact t.o _ (dj _ _)
 have a2:((k:C)==0)=σ:=QB;have V:=y (∃g,ι (Δ 497 (ξ j))=ι g.cm/\(Pt.branch j o f).cD wr wr g) ⟨.branch j o f,A,a,c,n,λh p=>Ξ p,aL.bQ _ _,sm,QD,QD⟩;by_cases z:k=1
 .have a3:((k:C)==1)=ψ:=by simp[z]
  cases a4:o.toList.isEmpty with
  |true=>
   let⟨r,S⟩:=P.o H;let⟨ae,ab,l⟩:=Pt.fA S;have c1:wr (j,1+e)=Δ ae ab:=by rw[<-l,QH a.1];exact Pt.lL _ _ r
   have b9:(e:C)<16:=H;have c0:(0:C)<=(e:C):=H;have ag:=y (∀w:B,w.size=1->Nib.bF (bs w)=ψ->∀i,ρ wr wr i->τ γ 413 #[O w,Δ ae ab] i λs v=>(∃g,s=ι g.cm/\(Pt.branch j o f).cD wr v g)) λw b7 a7 i x=>by
    rw[<-l];have z:=ht (f:=λb=>(f b).bu) r;have b2:=ht (f:=λb=>(f b).bw) r;have b3:(Pt.branch j o f).bu=3+di λb=>(f b).bu:=A;have b4:(Pt.branch j o f).bw=1+di λb=>(f b).bw:=A;refine(iN w (f e) S i (Pt.at_below (a.2 e r) x) (c.1 e r).2 (n e r) a7 H H).m λs v ⟨⟨g,a6,d⟩,a1⟩=>⟨g,a6,d.eg,d.fG,d.dZ,λh a8=>?_,aL.aE (x.t (a1.m x.z)) _,d.some,oA d.bu,oA d.bw⟩;have:=x.z;exact(d.cn h a8).imp (λp=>Θ ⟨e,r,p⟩) (λp=>H)
   have b5:j<(wr:D):=aw a.1;have u1:Ix.wrap (e:C)=(e:C):=Nj _ H;have W:=rL wr.drew e H;have a5:(convert 288 9 (ο ((wr:D),0) 1 1)).run γ (wr.alloc (K #[ε Ix (e:C)] 5)).drew=Je (O (tx [Ka e])) (wr.alloc (K #[ε Ix (e:C)] 5)).drew:=W;let⟨t1,m⟩:∃t1,t1=tx [Ka e]:=⟨_,A⟩;rw[<-m] at a5;have ah:=F (ag.o t1 (m▸rfl) (m▸Wg r) (wr.alloc (K #[ε Ix (e:C)] 5)).drew ((Ge _ wr).a QD _).d);clear a c n q u J z P U W m l;go_upto_region 14 with fail;go_region_with (with_reducible go_call ah.o as s i ⟨g,rfl,N⟩)
   all_goals
    have t:=F N;clear N;go_wp2;go_ret;exact⟨g,A,t.o⟩
  |false=>
   clear a c n q u J z;go_wp2;go_ret;exact V.o
 have a3:((k:C)==1)=σ:=QB;clear a c n q u J z;go_wp2;go_ret;exact V.o
def ZW {f:D->Pt}(J:q<16)(A:f q=.none)(O:(Pt.branch w k f).At g)(z:(Pt.branch w k f).fG)(U:(Pt.branch w k f).dZ):
 let o:=cZ f q .nil
 (Pt.branch w k o).At (g.setCell (w,1+q) ω)/\(Pt.branch w k o).fG/\(Pt.branch w k o).dZ/\(∀c,(Pt.branch w k o).fT c↔(Pt.branch w k f).fT c)/\(Pt.branch w k o).bu=(Pt.branch w k f).bu/\(Pt.branch w k o).bw=(Pt.branch w k f).bw:=by
 intro o;have P:=aF (j:=1+q) ω O.1;have u:∀a c,(o a).fT c↔(f a).fT c:=λa c=>by
  by_cases j:a=q
  .subst j;show(cZ f a Pt.nil a).fT c↔_;rw[cy,A];exact Iff.rfl
  show(cZ f q Pt.nil a).fT c↔_;rw[bX _ _ j]
 refine⟨⟨?_,λa h=>?_⟩,⟨λa h=>⟨λl=>(z.1 a h).1 ((u a w).1 l),?_⟩,λa s h d y c r b=>z.2 a s h d y c ((u a c).1 r) ((u s c).1 b)⟩,λa h=>?_,λc=>?_,?_,?_⟩
 .rw[P.at_,Pt.uh _ _ J];show M (K _ _ _)=K (Pt.bc k λa=>(cZ f q Pt.nil a).cm) _ _;rw[du Pt.cm];rfl
 .by_cases j:a=q
  .subst j;show(cZ f a Pt.nil a).At _;rw[cy];trivial
  show(cZ f q Pt.nil a).At _;rw[bX _ _ j];exact Pt.at_frame (O.2 a h) λc r=>P.old c λe=>(z.1 a h).1 (by subst e;exact r)
 .by_cases j:a=q
  .subst j;show(cZ f a Pt.nil a).fG;rw[cy];trivial
  show(cZ f q Pt.nil a).fG;rw[bX _ _ j];exact(z.1 a h).2
 .by_cases j:a=q
  .subst j;show(cZ f a Pt.nil a).dZ;rw[cy];trivial
  show(cZ f q Pt.nil a).dZ;rw[bX _ _ j];exact U a h
 .exact or_congr Iff.rfl ⟨λ⟨a,h,l⟩=>⟨a,h,(u a c).1 l⟩,λ⟨a,h,l⟩=>⟨a,h,(u a c).2 l⟩⟩
 .have t:=dS (f:=λa=>(f a).bu) J Pt.nil.bu;rw[<-du Pt.bu] at t;show 3+(di λa=>(cZ f q Pt.nil a).bu)=3+(di λa=>(f a).bu);simp only[A,Pt.bu] at t ⊢;omega
 have t:=dS (f:=λa=>(f a).bw) J Pt.nil.bw;rw[<-du Pt.bw] at t;show 1+(di λa=>(cZ f q Pt.nil a).bw)=1+(di λa=>(f a).bw);simp only[A,Pt.bw] at t ⊢;omega
def ME {f:D->Pt}{o:Pt}(z:q<16)(M:(Pt.branch w k f).At g)(J:(Pt.branch w k f).fG)(O:(Pt.branch w k f).dZ)(j:(f q).cD g s o):
 (Pt.branch w k f).cD g (s.setCell (w,1+q) o.cm) (.branch w k (cZ f q o)):=by
 have t:=uL (p:=⟨#[0]⟩) (q:=⟨#[]⟩) z A M J O ⟨j.eg,j.fG,j.dZ,j.cn,j.only,j.some,by have:=j.bu;omega,by have:=j.bw;omega⟩;refine⟨t.eg,t.fG,t.dZ,t.cn,t.only,t.some,?_,?_⟩
 .have u:=dS (f:=λb=>(f b).bu) z o.bu;rw[<-du Pt.bu] at u;have K:=j.bu;show 3+(di λb=>(cZ f q o b).bu)<=3+(di λb=>(f b).bu);try simp only at u
  omega
 have u:=dS (f:=λb=>(f b).bw) z o.bw;rw[<-du Pt.bw] at u;have K:=j.bw;show 1+(di λb=>(cZ f q o b).bw)<=1+(di λb=>(f b).bw);try simp only at u
 omega
def Pt.cD.aJ {t T1 u:Pt}(o:t.cD g s T1)(f:T1.cD s l u):t.cD g l u:=
 ⟨f.eg,f.fG,f.dZ,λc a=>(f.cn c a).elim (o.cn c) (λd=>j (GB o.only.aH d)),o.only.gU f.only (λc a d=>(o.cn c d).elim id (λk=>by omega)),f.some,GB f.bu o.bu,GB f.bw o.bw⟩
def Pt.cD.then {j T1:Pt}(f:j.cD g s T1)(o:T s s l):j.cD g l T1:=⟨Pt.at_below f.eg o,f.fG,f.dZ,f.cn,f.only.then o,f.some,f.bu,f.bw⟩
def Pt.cD.adi {f:Pt}(z:f≠.nil)(u:f.At g)(A:f.fG)(t:f.dZ)(j:T g g s):f.cD g s f:=⟨Pt.at_below u j,A,t,λa e=>o e,aL.aE j _,z,d,d⟩
def rm (f:B):f.data.toList.length=f.size:=by rw[JG];rfl
def MF {q:B}(f:Nib.bF (bs k)=U):Nib.bF (bs ⟨(Lib.trimPrefix k.data.toList q.data.toList).toArray⟩)=U/\(⟨(Lib.trimPrefix k.data.toList q.data.toList).toArray⟩:B).size<=k.size:=by
 unfold Lib.trimPrefix;split
 .refine⟨?_,?_⟩
  .show Nib.bF ((k.data.toList.drop _).toArray.toList)=U;rw[Nk];exact fq f _
  show(k.data.toList.drop _).toArray.size<=_;rw[GZ,JD];have:=rm k;omega
 exact⟨by show Nib.bF (k.data.toList.toArray.toList)=U;rw[Nk];exact f,by show k.data.toList.toArray.size<=_;rw[GZ,rm k];exact d⟩
def MG (t:D)(f:B)(o:Pt)(z:B)(g:ν)(U:(Pt.ext t f o).At g)(M:(Pt.ext t f o).fG)(K:(Pt.ext t f o).dZ)(s:Nib.bF (bs z)=ψ)(ae:z.size<=100000)(a9:(Pt.ext t f o).bu<=100000)(Z:o.vf):
 Y N 414 #[ξ t,O z] g λi h=>∃e,i=ι e.cm/\(Pt.ext t f o).cD g h e:=by
 obtain⟨af,w⟩:=at_ptr2 U.1;have aa:(Pt.ext t f o).bu=f.size+1+o.bu:=A;obtain⟨a0,R,v,I,hF,G,a3,a2⟩:=Pt.qZ K.2.1;rw[I] at w;have J:=F (λg=>Tryz.strings_CutPrefix z f g);obtain⟨X,r⟩:=MF (q:=f) s;obtain⟨P,q⟩:∃P:B,P=⟨(Lib.trimPrefix z.data.toList f.data.toList).toArray⟩:=⟨_,A⟩;rw[<-q] at X r J;have x:=y (∃e,ι (Δ 494 (ξ t))=ι e.cm/\(Pt.ext t f o).cD g g e) ⟨.ext t f o,A,Pt.cD.adi sm U M K QG⟩;have S:=y (Y N R #[v,O P] g.drew λi h=>∃b,i=ι b.cm/\o.cD g h b) (by
  rw[<-hF,<-G]
  exact(Z P g.drew (Pt.at_frame U.2 (λ_ _=>rfl)) M.2 K.2.2 X H H).m λi h ⟨b,n,l⟩=>⟨b,n,l.cI (n:=1)⟩)
 have a7:=y (∀b a,o.cD g a b->Y N 413 #[O f,b.cm] a λi h=>(∃e,i=ι e.cm/\b.gF f a h e)/\ρ a a h) λb a c=>iN f b c.some a c.eg c.fG c.dZ K.1 H (by have:=c.bu;omega);have T:=y (∀b a,o.cD g a b->a t=f/\a (t,1)=Δ a0 v) λb a c=>⟨c.only.dN af (λd=>M.1 d),c.only.dN w (λd=>M.1 d)⟩;have a5:=y (∀b a e p,o.cD g a b->b.gF f a p e->ρ a a p->(Pt.ext t f o).cD g p e) λb a e p c k m=>by
  have a4:=c.only.aH;refine⟨k.eg,k.fG,k.dZ,λL ab=>?_,(c.only.cz λ_ _ d=>j d).then m,k.some,?_,?_⟩
  .rcases k.cn L ab with d|d
   .exact(c.cn L d).imp_left λd=>j d
   exact j H
  .have n:=k.bu;have l:=c.bu;omega
  have n:=k.bw;have l:=c.bw;show e.bw<=1+o.bw;omega
 clear U M K s a9 aa Z I hF G q X r ae;cases W:Lib.hasPrefix z.data.toList f.data.toList with
 |false=>
  rw[W] at J;clear W;go_enter func414,ntmps414;go_wp2_with ((with_reducible go_call J.o _ as i V ⟨rfl,u⟩);have u:=u.s;subst u);go_ret;exact x.o
 |true=>
  rw[W] at J;clear W x;go_enter func414,ntmps414;go_upto_region 4 with((with_reducible go_call J.o _ as i V ⟨rfl,u⟩);have u:=u.s;subst u);go_region_with (first|((with_reducible go_call S.o as i a ⟨b,rfl,c⟩);obtain⟨d0,a1⟩:=T.o b a c;have a8:=F (a7.o b a c))|(with_reducible go_call a8.o as i p ⟨⟨e,rfl,k⟩,m⟩))
  all_goals
   have a6:=F (a5.o b a e p c k m);clear c k;go_wp2;go_ret;exact⟨e,A,a6.o⟩
def ZX (j:D)(A:S)(u:j=491\/j=494\/j=497)(o:L):(Kf (Δ j A) 299 502 U).run N o=Je (f #[t #[],z X]) o:=by
 rcases u with rfl|rfl|rfl<;>kernel_rfl
def Wh (j:L):(Kf (Δ 502 (t #[])) 299 502 U).run N j=Je (f #[t #[],z U]) j:=e
def Pt.Wj (f:Pt)(u:f≠.nil):f=.none\/∃t z,f.cm=Δ t z/\(t=491\/t=494\/t=497):=by
 cases f with
 |nil=>exact absurd A u
 |none=>exact o A
 |leaf c e g=>exact j ⟨491,_,A,o A⟩
 |ext c e i=>exact j ⟨494,_,A,j (o A)⟩
 |branch c g h=>exact j ⟨497,_,A,j (j A)⟩
def AY (f:Nat)(t:B)(j:Nat->Pt)(W:B)(z:L)(Z:W.size=0)(J:(Pt.branch f t j).At z)(M:(Pt.branch f t j).fG)(U:(Pt.branch f t j).dZ)(v:(Pt.branch f t j).bu<=100000):
 Y N 418 #[V f,W] z λh i=>∃K,h=ι K.cm/\(Pt.branch f t j).cD z i K:=by
 have m:=cj Z;have G:=cJ 0 J.1;have k:=aI J.1 0;have O:=aF (j:=0) I J.1;obtain⟨u,X⟩:∃u,z.setCell f I=u:=⟨_,A⟩;have w:aL (Pt.branch f t j).fT z u:=by rw[<-X];exact aL.bV (p:=f) (aL.bQ _ _) (λ_=>Ξ A) _
 rw[X] at O;have P:(Pt.branch f ⟨#[]⟩ j).At u:=⟨O.at_,λl a=>Pt.at_frame (J.2 l a) λb e=>O.old b λh=>(M.1 l a).1 (by subst h;exact e)⟩;have g:=F (rl f ⟨#[]⟩ j u P M U v);have H1:=y ((Pt.branch f t j).cD z u (.branch f ⟨#[]⟩ j)) ⟨P,M,U,λb c=>Ξ c,w,by simp,d,d⟩;go_enter func418,ntmps418;go_wp2_with (with_reducible go_call g.o as h D ⟨K,rfl,s⟩);have x:=F (H1.o.aJ s);go_ret;exact⟨K,A,x.o⟩
def MH (j:D)(t:B)(o:D->Pt)(f:B)(g:ν)(R:0<f.size)(T:Nib.bF (bs f)=ψ)(d8:f.size<=100000)(O:(Pt.branch j t o).At g)(W:(Pt.branch j t o).fG)(G:(Pt.branch j t o).dZ)(ae:(Pt.branch j t o).bu<=100000)
 (ab:(o f[0].toNat).vf):
 τ γ 418 #[ξ j,f] g λa k=>∃z,a=ι z.cm/\(Pt.branch j t o).cD g k z:=by
 have e5:=cp R;have J:f[0].toNat<16:=nO T R;have e0:(0:C)<(f.size:C):=H;have e4:(1:C)<=(f.size:C):=H;have e2:((f[0].toNat:D):C)<16:=H;have e1:(0:C)<=((f[0].toNat:D):C):=H;have c1:g (j,1+f[0].toNat)=δ (o f[0].toNat).cm:=by rw[QH O.1];exact Pt.lL _ _ H
 have c7:=aI O.1 (1+f[0].toNat);by_cases S:o f[0].toNat=.nil
 .have i:(o f[0].toNat).cm=ω:=by rw[S];rfl
  rw[i] at c1;have b3:=y (∃z,ι (Δ 497 (ξ j))=ι z.cm/\(Pt.branch j t o).cD g g z) ⟨.branch j t o,A,Pt.cD.adi sm O W G QG⟩;go_enter func418,ntmps418;go_wp2;go_ret;exact b3.o
 obtain⟨b7,a5,Y,i,hF,ag,d6,d4⟩:=Pt.qZ S;rw[i] at c1;have c2:=ht (f:=λb=>(o b).bu) J;have d2:(Pt.branch j t o).bu=3+di λb=>(o b).bu:=A;have a6:=y (τ γ a5 #[Y,β (f.extract 1 f.size)] g.drew λa k=>∃d,a=ι d.cm/\(o f[0].toNat).cD g k d) (by
  rw[<-hF,<-ag]
  exact(ab _ g.drew (Pt.at_frame (O.2 _ J) (λ_ _=>rfl)) (W.1 _ J).2 (G _ J) (by rw[dt];exact fq T 1) (by rw[ax];omega) H).m λa k ⟨d,b4,b5⟩=>⟨d,b4,b5.cI (n:=1)⟩)
 have v:=F (W.1 f[0].toNat J).1;have b2:=y (∀d k,(o f[0].toNat).cD g k d->k (j,1+f[0].toNat)=Δ b7 Y/\k.frozen? (j,1+f[0].toNat)=σ/\∃K M,d.cm=Δ K M) λd k h=>by
  obtain⟨K,M,b6⟩:=Pt.fA h.some;exact⟨h.only.dN c1 (λx=>v.o x),aI (h.only.aM O.1 (λx=>v.o x)) _,K,M,b6⟩
 have a9:=y (∀d s,(o f[0].toNat).cD g s d->(Pt.branch j t o).cD g (s.setCell (j,1+f[0].toNat) d.cm) (.branch j t (cZ o f[0].toNat d))) λd s h=>ME J O W G h;have b0:=F ae;go_enter func418,ntmps418;go_upto_region 7 with fail;go_region_with ((with_reducible go_call a6.o as a s ⟨d,rfl,h⟩);obtain⟨c8,d1,K,M,U⟩:=b2.o d s h;rw[U])
 have V:=F (a9.o d s h);have af:=h.some;rw[U] at V;generalize c0:s.setCell (j,1+f[0].toNat) (Δ K M)=n at V ⊢;obtain⟨P,L⟩:∃P,P=cZ o f[0].toNat d:=⟨_,A⟩;have I:P f[0].toNat=d:=by rw[L];exact cy _ _ _
 rw[<-L] at V;have c1:n (j,1+f[0].toNat)=Δ K M:=by rw[QH V.o.eg.1,<-U,<-I];exact Pt.lL _ _ J
 obtain⟨c,d9,m⟩:=aU n (θ #[] 502);have c4:=m.aE.ce c1;have u:=V.o.then m.aE;have d3:=aI u.eg.1 (1+f[0].toNat);have r:=F (GB u.bu b0.o);rcases Pt.Wj d af with rfl|⟨e6,e7,w,a2⟩
 .cases U;have c3:=Wh;obtain⟨l,p,N,a3,q,a4⟩:=ZW J I u.eg u.fG u.dZ;generalize a1:c.setCell (j,1+f[0].toNat) ω=e at l;have a0:aL (Pt.branch j t P).fT c e:=by rw[<-a1];exact aL.bV (p:=⟨j,1+f[0].toNat,ζ⟩) (aL.bQ _ _) (λ_=>Ξ A) _
  have a8:=y ((Pt.branch j t o).cD g e (.branch j t (cZ P f[0].toNat .nil))) (u.aJ ⟨l,p,N,λb9 x=>Ξ ((a3 b9).1 x),a0,by simp,Iu q,Iu a4⟩);have Z:=F (rl j t _ e l p N (by rw[q];exact r.o));go_wp2_with (with_reducible go_call Z.o as a c6 ⟨z,rfl,h⟩);have X:=F (a8.o.aJ h);go_ret;exact⟨z,A,X.o⟩
 rw[U] at w;cases w;have c3:=λg=>ZX K M a2 g;have Z:=F (rl j t P c u.eg u.fG u.dZ r.o);have a7:=F u;go_wp2_with (with_reducible go_call Z.o as a c6 ⟨z,rfl,h⟩);have X:=F (a7.o.aJ h);go_ret;exact⟨z,A,X.o⟩
def vh:∀f:Pt,f.vf
 |.nil=>λa c _ _ _ _ _ _=>(xv a c).m λv x ⟨l,b⟩=>⟨.none,l,trivial,trivial,trivial,λy k=>k.elim,aL.aE b _,by simp,d,d⟩
 |.none=>λa c _ _ _ _ _ _=>(xv a c).m λv x ⟨l,b⟩=>⟨.none,l,trivial,trivial,trivial,λy k=>k.elim,aL.aE b _,by simp,d,d⟩
 |.leaf b p w=>λa c e _ g _ _ _=>MD b p w a c e g
 |.ext b p s=>λa c e i g m n h=>MG b p s a c e i g m n h (vh s)
 |.branch b q r=>λa c e i g m n h=>by
  by_cases j:a.size=0
  .exact AY b q r a c j e i g h
  exact MH b q r a c H m n e i g h (vh _)
def hC (f:D->D):D->D
 |0=>0
 |b+1=>hC f b+f b
def iP (f:D->D):hC f 16=di f:=by simp[hC,di]
def mV (f:D->D):∀{a b:D},a<=b->hC f a<=hC f b
 |a,0,e=>by
  obtain rfl:a=0:=H;exact d
 |a,b+1,e=>by
  by_cases j:a=b+1
  .subst j;exact d
  exact GB (mV f (by omega:a<=b)) (by show _<=hC f b+f b;omega)
namespace Pt
structure mW (T:Pt)(B:D)(es:E dh)(w:L)(v':S)(es':E dh)(w':L):Prop where
 cT:w'.ownsRow B 73 2 v' es'.length (es'.flatMap λe=>[O e.1,O e.2])
 cB:es'.length<=es.length+T.bw
 aE:ρ B w w'
 jn:T=none->es'=es
def yK (f:Pt):Prop:=∀(B:D) (e:QE) (a:S) (d:E dh) (b:L),f.At b->f.dZ->(∀o,f.fT o->o<B)->B<=b.heap.size->b.ownsRow B 73 2 a d.length (d.flatMap λc=>[O c.1,O c.2])->e.size+f.bu<=1000000->d.length+f.bw<=100000->
 Y N f.IN #[f.kF,e,a] b λc g=>∃j t,c=ι j/\f.mW B d b j t g
end Pt
def AZ (o:B)(j:S)(f:L):Y N 423 #[t #[],O o,j] f λa b=>a=j/\T f f b:=by
 go_enter func423,ntmps423;go_wp2;go_ret;exact⟨A,(Ge _ f).a d _⟩
def SN (z:D)(f u o:QE)(B:D)(M:S)(j:E dh)(t:L)(a:(Pt.leaf z f u).At t)(X:B<=t.heap.size)(s:t.ownsRow B 73 2 M j.length (j.flatMap λe=>[O e.1,O e.2]))(m:o.size+f.size<=1000000)(I:j.length+1<=100000):
 Y N 409 #[V z,o,M] t λe x=>∃J v,e=ι J/\(Pt.leaf z f u).mW B j t J v x:=by
 obtain⟨r,c1⟩:=at_ptr2 a;have d:o.size<=1000000:=H;have C:f.size<=1000000:=H;have G:(o++f).size=o.size+f.size:=R;have K:=F (Nib.px (o++f) t H);have W:=F s;generalize i:Nib.gm (o++f).data.toList=w at K;generalize Nib.bK (Nib.pw (o++f).data.toList)=Z at K;cases w with
 |false=>
  go_enter func409,ntmps409;go_wp2_with (with_reducible go_call K.o as e n ⟨rfl,b1⟩);have P:=y ((Pt.leaf z f u).mW B j t M j n) ⟨aQ W.o b1,by omega,b1.m X,(λl=>by cases l)⟩;go_ret;exact⟨M,j,A,P.o⟩
 |true=>
  go_enter func409,ntmps409;go_wp2_with (first|((with_reducible go_call K.o as e n ⟨rfl,b1⟩);have U:=aQ W.o b1;have g:=b1.z;have d0:=b1.ce r;have k:=b1.ce c1)|(at_builtin;refine ym ue A _ _ A A U A #[Z,u] A (by simp[φ]) H H ?_;intro J c h b));have P:=y ((Pt.leaf z f u).mW B j t J (j++[(Z,u)]) c) ⟨by rwa[Gk,Hj],by simp[Pt.bw],b.cT U (b1.m X) H,(λl=>by cases l)⟩;go_ret;exact⟨J,A,_,P.o⟩
def Wk (o:D)(j:QE)(f:Pt)(z:QE)(B:D)(K:S)(u:E dh)(t:ν)(M:(Pt.ext o j f).At t)(d:f≠.nil)(i:f.dZ)(v:∀P,f.fT P->P<B)(W:B<=t.heap.size)(w:t.ownsRow B 73 2 K u.length (u.flatMap λe=>[O e.1,O e.2]))(m:z.size+(Pt.ext o j f).bu<=1000000)(T:u.length+(Pt.ext o j f).bw<=100000)(Z:f.yK):
 Y N 415 #[V o,z,K] t λe n=>∃c g,e=ι c/\(Pt.ext o j f).mW B u t c g n:=by
 obtain⟨r,c1⟩:=at_ptr2 M.1;have F:(Pt.ext o j f).bu=j.size+1+f.bu:=A;have G:(Pt.ext o j f).bw=1+f.bw:=A;obtain⟨R,y,X,x,hF,s,p,I⟩:=Pt.hS d;rw[x] at c1;have L:z.size<=1000000:=H;have q:j.size<=1000000:=H;have k:=QC (Y N y #[X,O (z++j),K] t.drew λe n=>∃c g,e=ι c/\(Pt.ext o j f).mW B u t c g n) (by
  rw[<-hF,<-s]
  exact(Z B (z++j) K u t.drew (Pt.at_frame M.2 (λ_ _=>rfl)) i v W w QB H).m λe n ⟨c,g,b,h⟩=>⟨c,g,b,h.cT,by have:=h.cB;omega,⟨h.aE.os,h.aE.tape,h.aE.output,h.aE.z,h.aE.b⟩,(λa=>by cases a)⟩)
 go_enter func415,ntmps415;go_upto_region 1 with fail;go_region_with (with_reducible go_call k.o as e J ⟨c,g,rfl,l⟩)
 all_goals
  have U:=Ga l;go_wp2;go_ret;exact⟨c,g,A,U.o⟩
structure sB (B:D)(f:D->D)(n0:D)(w:L)(i:D)(v:S)(es:E dh)(wr:L):Prop where
 cT:wr.ownsRow B 73 2 v es.length (es.flatMap λe=>[O e.1,O e.2])
 cB:es.length<=n0+1+hC f i
 aE:T B w wr
theorem Dm (z:D)(M:QE)(f:D->Pt)(J:QE)(B:D)(a4:π)(u:E dh)(o:ν)(a2:(Pt.branch z M f).At o)(c8:(Pt.branch z M f).dZ)(a7:∀q,(Pt.branch z M f).fT q->q<B)(f1:B<=(o:D))(d6:o.ownsRow B 73 2 a4 (u:D) (u.flatMap λb=>[β b.1,β b.2]))(e0:J.size+(Pt.branch z M f).bu<=1000000)(c3:(u:D)+(Pt.branch z M f).bw<=100000)(a8:∀a,a<16->(f a).yK):
 τ γ 419 #[ξ z,β J,a4] o λb g=>∃i k,b=ι i/\(Pt.branch z M f).mW B u o i k g:=by
 have c6:(Pt.branch z M f).bu=3+di λa=>(f a).bu:=A;have d3:(Pt.branch z M f).bw=1+di λa=>(f a).bw:=A;let⟨a1,a3,b6,b7⟩:=rk f;have b9:=a7 z (Ξ A);have d9:∀e,ρ B o e->e.rangeAt z 1 a1:=λe b1 f5 f6 f2=>(GQ (w:=o) (b1.b z b9)).t (oY a2 a3 b6 f5 f6 f2);have a5:=F b7;have d1:o z=M:=cR a2.1 A;have c0:∀e,ρ B o e->e z=M:=λe b1=>(GQ (w:=o) (b1.b z b9)).t d1;have v:J.size<=1000000:=H;have a0:=F (Nib.px J o H);generalize Nib.gm J.data.toList=f3 at a0;generalize Nib.bK (Nib.pw J.data.toList)=e8 at a0;have O:=F (κ a2 (κ a7 (κ a8 c8)));have s:=F (κ e0 (κ c3 (κ c6 d3)));have a6:=F d9;have e9:=F c0;have f0:=F d6;have f8:(u:D)+1<=1000000:=H;clear b6 b7 c8 a2 a7 a8 e0 c3 c6 d3 d9 c0 d6 d1;go_enter func419,ntmps419;go_wp2_with fail;apply a0.o.m;rintro b e ⟨rfl,b1⟩;clear a0;have b5:=b1.m f1;have d0:=e9.o e b5;have f9:=b1.z;have r:=aQ f0.o b1;have N:=F b5;cases f3 with
 |false=>
  have U:=y (sB B (λa=>(f a).bw) (u:D) o 0 a4 u e) ⟨r,H,N.o⟩;clear N r d0;have L:=F U.o.aE;have l:=a6.o _ L.o;go_wp2_with (apply Xj A 498 _ A z 1 A a1 _ l LX A (a3▸qg));clear l L;go_loopw [2,37] (λT iv wr=>∃(a:D) (d:E dh),a<=16/\iv=ϑ a/\Φ (sB B (λa=>(f a).bw) (u:D) o a T d wr)) (λ_ iv _=>16-(QI iv).toNat);case atStart=>exact⟨0,_,H,A,U⟩
  case round=>
   clear U;obtain⟨a,d,c2,rfl,j⟩:=hrel;by_cases t:a<16
   .have v:(a:C)<16:=H;have X:=a5.o a t;by_cases P:f a=.nil
    .have p:(f a).cm=ω:=P▸rfl;rw[p] at X;have K:=y (sB B (λa=>(f a).bw) (u:D) o (a+1) u2 d wr) ⟨j.o.cT,by have:=j.o.cB;show _<=_+1+(hC _ a+(f a).bw);omega,j.o.aE⟩;clear p P;go_wp2;go_roundw;case rel=>exact⟨a+1,d,H,gN,K⟩
     case measure=>simp[QI];omega
    let⟨e6,w,af,p,hF,h,d2,c7⟩:=Pt.hS P;rw[p] at X;have u1:Ix.wrap (a:C)=(a:C):=Nj _ H;have ab:=rL wr a H;have I:(tx [Ka a]).size=1:=A;generalize tx [Ka a]=t1 at ab I;have n:=s.o;have ae:=j.o.aE.z;have R:=y (τ γ w #[af,β (J++t1),u2] (wr.alloc (θ #[ε Ix (a:C)] 5)) λb g=>∃i k,b=ι i/\sB B (λa=>(f a).bw) (u:D) o (a+1) i k g) (by
     rw[<-hF,<-h]
     have V:ρ wr wr (wr.alloc (θ #[ε Ix (a:C)] 5)):=QG.a QD _
     have W:=j.o.aE.t (V.m H)
     have a9:=ht (f:=λa=>(f a).bu) t
     have G:=mV (λa=>(f a).bw) (H:a+1<=16)
     rw[iP] at G
     have b0:hC (λa=>(f a).bw) (a+1)=hC (λa=>(f a).bw) a+(f a).bw:=A
     have b2:=j.o.cB
     have b3:(J++t1).size=J.size+1:=by simp[I]
     let⟨e1,e2,e4,e5⟩:=n
     refine(O.2.2.1 a t B (J++t1) u2 d _ (Pt.at_frame (O.1.2 a t) λq c=>W.b q (O.2.1 q (Θ ⟨a,t,c⟩))) (O.2.2.2 a t) (λq c=>O.2.1 q (Θ ⟨a,t,c⟩)) QB (aQ j.o.cT V) H H).m λb g ⟨i,k,Y,x⟩=>⟨i,k,Y,x.cT,?_,W.t x.aE⟩
     have b4:=x.cB
     omega)
    clear p P hF h ae n;go_wp2_with ((with_reducible apply R.o.m);rintro b e7 ⟨i,k,rfl,Z⟩;have S:=F Z;clear Z);go_roundw;case rel=>exact⟨a+1,k,H,gN,S⟩
    case measure=>simp[QI];omega
   have v:¬((a:C)<16):=H;have m:a=16:=H;have K:=y ((Pt.branch z M f).mW B u o u2 d wr) ⟨j.o.cT,by have ag:=j.o.cB;rw[m,iP] at ag;have:=s.2.2.2;omega,j.o.aE,nF⟩;clear m;go_wp2;go_ret;first|exact⟨_,d,A,K.o⟩|exact⟨_,A,d,K.o⟩|exact⟨d,K.o⟩
 |true=>
  cases f7:M.toList.isEmpty with
  |true=>
   have U:=y (sB B (λa=>(f a).bw) (u:D) o 0 a4 u e) ⟨r,H,N.o⟩;go_upto_region 4 with fail;clear N r;have L:=F U.o.aE;have l:=a6.o _ L.o;go_wp2_with (apply Xj A 498 _ A z 1 A a1 _ l LX A (a3▸qg));clear l L;go_loopw [2,37] (λT iv wr=>∃(a:D) (d:E dh),a<=16/\iv=ϑ a/\Φ (sB B (λa=>(f a).bw) (u:D) o a T d wr)) (λ_ iv _=>16-(QI iv).toNat);case atStart=>exact⟨0,_,H,A,U⟩
   case round=>
    clear U;obtain⟨a,d,c2,rfl,j⟩:=hrel;by_cases t:a<16
    .have v:(a:C)<16:=H;have X:=a5.o a t;by_cases P:f a=.nil
     .have p:(f a).cm=ω:=P▸rfl;rw[p] at X;have K:=y (sB B (λa=>(f a).bw) (u:D) o (a+1) u2 d wr) ⟨j.o.cT,by have:=j.o.cB;show _<=_+1+(hC _ a+(f a).bw);omega,j.o.aE⟩;clear p P;go_wp2;go_roundw;case rel=>exact⟨a+1,d,H,gN,K⟩
      case measure=>simp[QI];omega
     let⟨e6,w,af,p,hF,h,d2,c7⟩:=Pt.hS P;rw[p] at X;have u1:Ix.wrap (a:C)=(a:C):=Nj _ H;have ab:=rL wr a H;have I:(tx [Ka a]).size=1:=A;generalize tx [Ka a]=t1 at ab I;have n:=s.o;have ae:=j.o.aE.z;have R:=y (τ γ w #[af,β (J++t1),u2] (wr.alloc (θ #[ε Ix (a:C)] 5)) λb g=>∃i k,b=ι i/\sB B (λa=>(f a).bw) (u:D) o (a+1) i k g) (by
      rw[<-hF,<-h]
      have V:ρ wr wr (wr.alloc (θ #[ε Ix (a:C)] 5)):=QG.a QD _
      have W:=j.o.aE.t (V.m H)
      have a9:=ht (f:=λa=>(f a).bu) t
      have G:=mV (λa=>(f a).bw) (H:a+1<=16)
      rw[iP] at G
      have b0:hC (λa=>(f a).bw) (a+1)=hC (λa=>(f a).bw) a+(f a).bw:=A
      have b2:=j.o.cB
      have b3:(J++t1).size=J.size+1:=by simp[I]
      let⟨e1,e2,e4,e5⟩:=n
      refine(O.2.2.1 a t B (J++t1) u2 d _ (Pt.at_frame (O.1.2 a t) λq c=>W.b q (O.2.1 q (Θ ⟨a,t,c⟩))) (O.2.2.2 a t) (λq c=>O.2.1 q (Θ ⟨a,t,c⟩)) QB (aQ j.o.cT V) H H).m λb g ⟨i,k,Y,x⟩=>⟨i,k,Y,x.cT,?_,W.t x.aE⟩
      have b4:=x.cB
      omega)
     clear p P hF h ae n;go_wp2_with ((with_reducible apply R.o.m);rintro b e7 ⟨i,k,rfl,Z⟩;have S:=F Z;clear Z);go_roundw;case rel=>exact⟨a+1,k,H,gN,S⟩
     case measure=>simp[QI];omega
    have v:¬((a:C)<16):=H;have m:a=16:=H;have K:=y ((Pt.branch z M f).mW B u o u2 d wr) ⟨j.o.cT,by have ag:=j.o.cB;rw[m,iP] at ag;have:=s.2.2.2;omega,j.o.aE,nF⟩;clear m;go_wp2;go_ret;first|exact⟨_,d,A,K.o⟩|exact⟨_,A,d,K.o⟩|exact⟨d,K.o⟩
  |false=>
   go_upto_region 4 with(at_builtin;apply aP ue r H;intro i f4 d8 d4);have U:=y (sB B (λa=>(f a).bw) (u:D) o 0 i (u++[(e8,M)]) f4) ⟨by rw[Gk,Hj];exact d8,sm,d4.cT r N.o H⟩;clear d8 d4;clear N r d0;have L:=F U.o.aE;have l:=a6.o _ L.o;go_wp2_with (apply Xj A 498 _ A z 1 A a1 _ l LX A (a3▸qg));clear l L;go_loopw [2,37] (λT iv wr=>∃(a:D) (d:E dh),a<=16/\iv=ϑ a/\Φ (sB B (λa=>(f a).bw) (u:D) o a T d wr)) (λ_ iv _=>16-(QI iv).toNat);case atStart=>exact⟨0,_,H,A,U⟩
   case round=>
    clear U;obtain⟨a,d,c2,rfl,j⟩:=hrel;by_cases t:a<16
    .have v:(a:C)<16:=H;have X:=a5.o a t;by_cases P:f a=.nil
     .have p:(f a).cm=ω:=P▸rfl;rw[p] at X;have K:=y (sB B (λa=>(f a).bw) (u:D) o (a+1) u2 d wr) ⟨j.o.cT,by have:=j.o.cB;show _<=_+1+(hC _ a+(f a).bw);omega,j.o.aE⟩;clear p P;go_wp2;go_roundw;case rel=>exact⟨a+1,d,H,gN,K⟩
      case measure=>simp[QI];omega
     let⟨e6,w,af,p,hF,h,d2,c7⟩:=Pt.hS P;rw[p] at X;have u1:Ix.wrap (a:C)=(a:C):=Nj _ H;have ab:=rL wr a H;have I:(tx [Ka a]).size=1:=A;generalize tx [Ka a]=t1 at ab I;have n:=s.o;have ae:=j.o.aE.z;have R:=y (τ γ w #[af,β (J++t1),u2] (wr.alloc (θ #[ε Ix (a:C)] 5)) λb g=>∃i k,b=ι i/\sB B (λa=>(f a).bw) (u:D) o (a+1) i k g) (by
      rw[<-hF,<-h]
      have V:ρ wr wr (wr.alloc (θ #[ε Ix (a:C)] 5)):=QG.a QD _
      have W:=j.o.aE.t (V.m H)
      have a9:=ht (f:=λa=>(f a).bu) t
      have G:=mV (λa=>(f a).bw) (H:a+1<=16)
      rw[iP] at G
      have b0:hC (λa=>(f a).bw) (a+1)=hC (λa=>(f a).bw) a+(f a).bw:=A
      have b2:=j.o.cB
      have b3:(J++t1).size=J.size+1:=by simp[I]
      let⟨e1,e2,e4,e5⟩:=n
      refine(O.2.2.1 a t B (J++t1) u2 d _ (Pt.at_frame (O.1.2 a t) λq c=>W.b q (O.2.1 q (Θ ⟨a,t,c⟩))) (O.2.2.2 a t) (λq c=>O.2.1 q (Θ ⟨a,t,c⟩)) QB (aQ j.o.cT V) H H).m λb g ⟨i,k,Y,x⟩=>⟨i,k,Y,x.cT,?_,W.t x.aE⟩
      have b4:=x.cB
      omega)
     clear p P hF h ae n;go_wp2_with ((with_reducible apply R.o.m);rintro b e7 ⟨i,k,rfl,Z⟩;have S:=F Z;clear Z);go_roundw;case rel=>exact⟨a+1,k,H,gN,S⟩
     case measure=>simp[QI];omega
    have v:¬((a:C)<16):=H;have m:a=16:=H;have K:=y ((Pt.branch z M f).mW B u o u2 d wr) ⟨j.o.cT,by have ag:=j.o.cB;rw[m,iP] at ag;have:=s.2.2.2;omega,j.o.aE,nF⟩;clear m;go_wp2;go_ret;first|exact⟨_,d,A,K.o⟩|exact⟨_,A,d,K.o⟩|exact⟨d,K.o⟩
def yL:∀f:Pt,f.yK
 |.nil=>λB g b e h _ _ _ c d _ _=>(AZ g b h).m λx C ⟨p,a⟩=>⟨b,e,p,aQ d a,H,a.m c,λ_=>rfl⟩
 |.none=>λB g b e h _ _ _ c d _ _=>(AZ g b h).m λx C ⟨p,a⟩=>⟨b,e,p,aQ d a,H,a.m c,λ_=>rfl⟩
 |.leaf a l s=>λB g b e h i _ _ c d n k=>SN a l s g B b e h i c d (by have:(Pt.leaf a l s).bu=l.size+2:=A;omega) k
 |.ext a l r=>λB g b e h i m q c d n k=>by
  exact Wk a l r g B b e h i m.2.1 m.2.2 (λD y=>q D (j y)) c d n k (yL r)
 |.branch a w v=>λB g b e h i m q c d n k=>Dm a w v g B b e h i m q c d n k (λE _=>yL _)
structure eF (w w':L):Prop where
 aM:∀(k:D) (cs:Q S) (t:Λ) (fr:D×D),w.heap[k]?=K cs t fr->t≠308->t≠9->w'.heap[k]?=K cs t fr
def eF.aJ (j:eF g s)(f:eF s l):eF g l:=⟨λh d i a k e b=>f.aM h d i a (j.aM h d i a k e b) e b⟩
def eF.aE (c:T g g s):eF g s:=⟨λ_ _ _ _ d _ _=>c.ke d⟩
def eF.ek {t:Obj}(u:bd g s w t)(j:g.heap[w]?=K h p)(o:p=308\/p=9):eF g s:=⟨λb e q d a i c=>by
 by_cases f:b=w
 .subst f;rw[j] at a;simp at a;obtain⟨_,rfl,_⟩:=a;rcases o with rfl|rfl
  .exact absurd A i
  exact absurd A c
 exact(u.old b f).t a⟩
def eF.cT (o:aL (λa=>m.ownBlock=M a) g s)(t:g.ownsRow w 9 1 m q b):eF g s:=⟨λe n i r d h k=>o.aM d λc=>by
 rcases t.2 with⟨rfl,_⟩|⟨j,A,z,rfl,_,f,_⟩
 .cases c
 have u:j=e:=by simpa[Ψ] using c
 subst u
 rw[d] at f;simp at f;exact k f.2.1⟩
structure iQ (w:L)(B wb:D)(xs:E QE):Prop where
 ge:B<=wb
 jA:∃v,w.heap[wb]?=K #[v] 308/\w.ownsRow B 9 1 v xs.length (xs.map O)
 aH:∀x∈xs,x.size<=4000
def iQ.aE {B:D}(c:iQ g B q v)(f:T g g s):iQ s B q v:=by
 obtain⟨j,⟨z,o,t⟩,u⟩:=c;exact⟨j,⟨z,f.ke o,aQ t f⟩,u⟩
def iQ.ek {M:Obj}(P:iQ g w q v)(u:bd g s a M)(f:g.heap[a]?=K h p)(t:p≠308/\p≠9):iQ s w q v:=by
 obtain⟨O,⟨U,o,z⟩,B⟩:=P;refine⟨O,⟨U,(u.old q λb=>?_).t o,aK z λl c=>u.old l λb=>?_⟩,B⟩
 .subst b;rw[o] at f;simp at f;exact t.1 f.2.s
 subst b;rcases z.2 with⟨rfl,_⟩|⟨A,V,W,rfl,_,j,_⟩
 .cases c
 have J:A=l:=by simpa[Ψ] using c
 subst J;rw[f] at j;simp at j;exact t.2 j.2
namespace Pt
structure yM (T:Pt)(B wb:D)(xs:E QE)(w:L)(cs:Q S)(w':L):Prop where
 nd:∃d,ct cs d/\((cs=zc/\d=bE)\/d.bq=1\/d.bq=2\/d.bq=3)/\d.bA.size<=1000000/\(∀k,(d.r k).size<=40)
 wr:∃xs',iQ w' B wb xs'/\(xs'.length+1<=xs.length+T.bw\/(T=none/\xs'=xs/\cs=zc))
 aE:ρ B w w'
 fR:eF w w'
 leaf:∀b q u,T=leaf b q u->ct cs ⟨1,q,u,λ_=>⟨#[]⟩⟩/\iQ w' B wb xs
def qh (f:Pt):Prop:=∀(B c:D) (d:E QE) (b:L),eI b->2<=B->f.At b->f.dZ->(∀o,f.fT o->o<B)->B<=b.heap.size->iQ b B c d->d.length+f.bw<=10000->f.bu<=100000->
 Y N f.wX #[f.kF,V c] b λg h=>∃j,g=t j/\f.yM B c d b j h
end Pt
def kp {j:Func}{o:Tmp}(u:j.results=#[.cell o 281]){f:Q S}(J:h.getD o undef=V w)(M:f.size=19)
 (z:g.heap[w]?=K f 281):(results j h).run N g=Je (t f) g:=
 results_cell_row u h g w 281 f (0,0) _ J z Jn A (M▸hT)
def MJ (J:D)(f:L):Y N 424 #[Γ #[],V J] f λg k=>g=Γ zc/\T f f k:=by
 let⟨c,l,a⟩:=aU f (K #[] 502);have z:=Gc c (K zc 281);have o:=F a.aE;have u:=a.aE.z;go_enter func424,ntmps424;go_wp2_with (apply tS cA z;intro M j);apply QM (kp A A A j.at_) A;exact⟨A,j.aE _ _ H (o.o.t (((Ge _ c).a d _).m u))⟩
def xw (j:D)(z J:B)(W:D)(f:L)(M:(Pt.leaf j z J).At f):Y N 410 #[V j,V W] f λl p=>(∃o,l=t o/\ct o ⟨1,z,J,λ_=>⟨#[]⟩⟩)/\T f f p:=by
 let⟨a,n,b⟩:=aU f (K zc 281);have O:=Pt.at_below M b.aE;let⟨c,c1⟩:=at_ptr2 O;have P:=F b.aE;have X:=b.aE.z;have U:a.drew.heap[(f:D)]?=K zc 281:=b.at_;have Z:f.alloc (K #[G 0,I,I,I,I,I,I,I,I,I,I,I,I,I,I,I,I,I,I] 281)=a:=n;go_enter func410,ntmps410;go_upto_region 1 with fail;go_still_tail 9,e;apply tS (lM _ _) (by exact U);intro s u;go_wp2;apply QM (kp A A A u.at_) A;exact⟨⟨_,A,lM _ _⟩,u.aE _ _ QD P.o.d⟩
def MK (f:B)(j:L)(o:f.size<32):Y N 348 #[f] j λc d=>c=O f/\T j j d:=by
 have t:(f.size:C)<32:=H;go_enter func348,ntmps348;go_wp2_with fail;go_ret;exact⟨A,QG⟩
namespace Pt
structure SO (T:Pt)(B wb:D)(xs:E QE)(w:L)(t:QE)(w':L):Prop where
 aH:t.size<=4000
 wr:∃xs',iQ w' B wb xs'/\(xs'.length+1<=xs.length+T.bw\/(T=none/\xs'=xs/\t=⟨#[128]⟩))
 aE:ρ B w w'
 fR:eF w w'
def yN (f:Pt):Prop:=∀(B c:D) (d:E QE) (b:L),eI b->2<=B->f.At b->f.dZ->(∀o,f.fT o->o<B)->B<=b.heap.size->iQ b B c d->d.length+f.bw<=10000->f.bu<=100000->
 Y N 174 #[V c,f.cm] b λg h=>∃j,g=O j/\f.SO B c d b j h
end Pt
def eI.at (f:eI g)(j:T w g s)(o:2<=w):eI s:=⟨(GQ (w:=g) (j.b 0 H)).t f.dm,f.kO.aE j H⟩
def Dn (f:Pt)(T:f≠.nil)(hF:f.qh):f.yN:=by
 intro B j z o X Z a3 r G U L H I;let⟨a7,N,Y,s,a4,q,a6,a5⟩:=Pt.wY T;rw[s];have J:=y (τ γ N #[Y,ξ j] o λg a2=>∃t,g=Γ t/\f.yM B j z o t a2) (by
  rw[<-a4,<-q]
  exact hF B j z o X Z a3 r G U L H I)
 have R:=F X;go_enter func174,ntmps174;go_wp2_with fail;go_call J.o as g e ⟨t,rfl,P⟩;let⟨⟨a1,hd,v,a0,w⟩,⟨i,m,h⟩,c,k,_⟩:=P;have u:=R.o.at c Z;rcases h with h|⟨l,p,S⟩
 .have M:=F (hK t a1 hd v om w e u.dm);have K:=y (∀d b,d.size<=4000->ρ e e b->f.SO B j z o d b) λd b x a=>⟨x,⟨i,m.aE a,Ξ h⟩,c.t (a.m (GB U c.z)),k.aJ (eF.aE a)⟩;clear J hd v w m c k u h;go_wp2_with (with_reducible go_call M.o as g b ⟨⟨d,n,rfl,x,V,W⟩,a⟩);have O:=F (K.o d b x a);go_ret;exact⟨d,A,O.o⟩
 subst S;have M:=F (AK e u.dm);have K:=y (∀b,ρ e e b->f.SO B j z o ⟨#[128]⟩ b) λb a=>⟨dc,⟨i,m.aE a,Θ ⟨l,p,A⟩⟩,c.t (a.m (GB U c.z)),k.aJ (eF.aE a)⟩;clear J hd v w m c k u l p;go_wp2_with (with_reducible go_call M.o as g b ⟨rfl,a⟩);have O:=F (K.o b a);go_ret;exact⟨_,A,O.o⟩
namespace Pt
structure Ba (T:Pt)(B wb:D)(xs:E QE)(w:L)(t:QE)(w':L):Prop where
 aH:t.size<=40
 wr:∃xs',iQ w' B wb xs'/\xs'.length<=xs.length+T.bw
 aE:ρ B w w'
 fR:eF w w'
def SP (f:Pt):Prop:=∀(B c:D) (d:E QE) (b:L),eI b->2<=B->f.At b->f.dZ->B<=b.heap.size->iQ b B c d->d.length+f.bw<=10000->f.bu<=100000->
 Y N 383 #[V c,f.cm] b λa g=>∃j,a=O j/\f.Ba B c d b j g
end Pt
def ZY :∀a∈v.map O,a.oneCell'=U:=λa b=>by
 obtain⟨f,_,rfl⟩:=GL.1 b;rfl
def jB (z:g.ownsRow w 9 1 m a b)(u:g.heap[q]?=K h 308):¬m.ownBlock=q:=by
 intro j;rcases z.2 with⟨rfl,_⟩|⟨t,A,J,rfl,_,f,_⟩
 .cases j
 have o:t=q:=by simpa[Ψ] using j
 subst o;rw[u] at f;simp at f
def iQ.Wl {ys:E QE}{f:S}(t:iQ g w q v)(P:g.heap[q]?=K #[m] 308)(u:aL (λk=>m.ownBlock=M k) g s)(z:g.ownsRow w 9 1 m (v:D) (v.map O))(V:s.ownsRow w 9 1 f ((v:D)+(ys:D)) (v.map O++ys.map O))(B:∀X∈ys,X.size<=4000)(U:w<=(g:D)):
 iQ (s.setCell q f) w q (v++ys)/\T w g (s.setCell q f)/\eF g (s.setCell q f):=by
 have W:=jB z P;have J:=u.aM P W;have j:=aF (j:=0) f J;refine⟨⟨t.ge,⟨f,j.at_,?_⟩,λr d=>(GO.1 d).elim (t.aH r) (B r)⟩,?_,?_⟩
 .rw[Gk,Io];exact aK V λk a=>j.old k λe=>jB V J (by subst e;exact a)
 .exact j.aE _ _ t.ge (u.cT z (QG|>.m U) U)
 exact(eF.cT u z).aJ (eF.ek j J (o A))
def Fb (N:Pt)(h0:N≠.nil)(g8:N.yN):N.SP:=by
 intro B j f z c7 i0 c3 e1 c6 f2 i3 e5;let⟨g0,i5,l⟩:=aU z (θ #[P ζ 0 0] 308);have a5:iQ g0 (z:Nat) (z:Nat) []:=⟨QD,⟨_,l.at_,QN⟩,nF⟩;have h3:2<=(z:Nat):=c7.kO.1;have b4:=F (g8 (z:Nat) (z:Nat) [] g0 (c7.aE l.aE) h3 (Pt.at_below c3 l.aE) e1 (λj2 L=>Pt.hR c3 L) l.aE.z a5 QB e5);have g5:=F c7;have d4:=F f2;let⟨i2,⟨j1,d1,b2⟩,f3⟩:=f2;obtain⟨X,Z,rfl⟩:=aR b2;have e4:∀d,(P X (f:Nat) Z).ownBlock=δ d->d<(z:Nat):=λd i=>(bG b2 i).2;have i6:=aw d1;have g:=F (κ d1 (κ b2 (κ f3 e4)));have g3:=F l.aE;let⟨i7,i8,f0⟩:=Pt.fA h0;rw[f0] at b4 ⊢;clear c3 e1 e5 f0 l a5 d1 b2 f3 e4;go_enter func383,ntmps383;go_wp2_with fail;go_call b4.o as v g2 ⟨t,rfl,h4,⟨h,d6,L⟩,b9,e2⟩;clear b4;have a7:=g3.o.t b9;have a0:=F a7;have d8:=F d6;rcases L with L|⟨i1,f4,e9⟩
 .have d9:=F L;have S:=F (EF t g2 H (g5.o.aE a7).kO);clear b9 e2 a7 d6 L;go_wp2_with fail;go_call S.o as v d3 ⟨⟨r,rfl,e8⟩,D⟩;have R:=F (gL r d3 H);have m:=F (a0.o.t (D.m a0.o.z));have b5:=F (d8.o.aE D);clear S D;go_wp2_with fail;go_call R.o as v w4 ⟨h2,E⟩;have J:=F (m.o.t (E.m m.o.z));have b6:=F (b5.o.aE E);let⟨b7,⟨h8,c,p⟩,ab⟩:=b6.o;obtain⟨e,G,rfl⟩:=aR p;have u:=J.o.ke g.1;have M:=aQ g.2.1 J.o;have b3:=d9.o;simp only[Hy,GU] at b3;have a6:B<=(w4:Nat):=oA J.o.z;have a2:=QC (iQ w4 B j f) (d4.o.aE J.o);have a3:=F ab;clear R E d9 ab b7;rcases h2 with rfl|⟨t2,i4,rfl⟩
  .have x:=a6;have ae:w4 j=P X (f:Nat) Z:=cR u A;have af:=aI u 0;have u1:w4 z=P e (h:Nat) G:=cR c A;have y:=jB M u;have U:=F (κ M u);go_upto_region 7 with fail;go_region_law (apply nN hO A _ _ rf rf (by exact M) rf (by exact p) ZY H (by exact x);intro f9 a V o;obtain⟨s,w,rfl⟩:=aR V;have K:aL (λd=>(P X (f:Nat) Z).ownBlock=δ d) w4 a:=⟨o.os,o.cb,o.aW,o.aH,o.aG⟩;have f6:=K.dN ae y;have f8:=(Jf (w:=w4) (a:=j) (K.aG j (aw u) y)).t af)
   all_goals
    have O:=F (a2.o.Wl U.2 K U.1 V a3.o x);have n:=QC (N.Ba B j f z r (a.setCell j (P s ((f:Nat)+(h:Nat)) w))) ⟨e8,⟨_,O.1,by rw[Gk];omega⟩,(J.o.m c6).t O.2.1,(eF.aE J.o).aJ O.2.2⟩;clear V o K M p u c U;go_wp2;go_ret;exact⟨r,A,n.o⟩
  have a9:=jB M u;have f5:w4 j=P X (f:Nat) Z:=cR u A;have f7:=aI u 0;go_upto_region 7 with(at_builtin;apply ym hO rfl _ _ rfl rfl M rfl #[β t] rfl QA H a6;intro i9 d2 c0 b0;let⟨I,c5,h1⟩:=aR c0;subst h1;have h6:=b0.dN f5 a9;have h7:=(Jf (w:=w4) (a:=j) (b0.aG j (aw u) a9)).t f7);have Y:aL (λd=>(P X (f:Nat) Z).ownBlock=δ d) w4 d2:=b0;have T:=aF (j:=0) (P I ((f:Nat)+1) c5) (Y.aM u a9);have q:=a2.o.Wl (ys:=[t]) u Y M c0 (λj3 h5=>by cases GA.1 h5;exact h4) a6;have e6:¬(P X (f:Nat) Z).ownBlock=(z:Nat):=λv=>oA (g.2.2.2 _ v);have c8:∀d,(P e (h:Nat) G).ownBlock=δ d->d2.heap[d]?=w4.heap[d]?/\d≠j:=λd i=>by
   have a5:=bG p i;exact⟨Y.aG d a5.2 (λv=>oA (g.2.2.2 _ v)),H⟩
  generalize g1:d2.setCell j (P I ((f:Nat)+1) c5)=W at T q ⊢;have b:W.heap[j]?=θ #[P I ((f:Nat)+1) c5] 308:=T.at_;have k:W.ownsRow B 9 1 (P I ((f:Nat)+1) c5) (f++[t]:Nat) ((f++[t]).map β):=by
   let⟨j0,c2,h9⟩:=q.1.jA;rw[b] at c2;simp only[Gd,Hq,IU,GN,QW] at c2;rwa[c2]
  have f1:W.heap[(z:Nat)]?=θ #[P e (h:Nat) G] 308:=(T.old _ H).t (Y.aM c e6);have e7:W.ownsRow (z:Nat) 9 1 (P e (h:Nat) G) (h:Nat) (h.map β):=aK p λd i=>(T.old d (c8 d i).2).t (c8 d i).1;have a1:=F q;have x:B<=(W:Nat):=GB a6 q.2.1.z;have a8:(f++[t]:Nat)=(f:Nat)+1:=sm;clear q c8 e6 b0 Y c0 M p u c f5 f7 h6 h7 a9 T g1;generalize g7:f++[t]=a4 at a1 k a8;rw[<-a8] at b k ⊢;have g9:(a4:Nat)+(h:Nat)<=1000000:=H;have g4:=F a8;clear g7 a8;have ae:W j=P I (a4:Nat) c5:=cR b A;have af:=aI b 0;have u1:W z=P e (h:Nat) G:=cR f1 A;have y:=jB k b;have U:=F (κ k b);go_upto_region 7 with fail;go_region_law (apply nN hO A _ _ rf rf (by exact k) rf (by exact e7) ZY H (by exact x);intro f9 a V o;obtain⟨s,w,rfl⟩:=aR V;have K:aL (λd=>(P I (a4:Nat) c5).ownBlock=δ d) W a:=⟨o.os,o.cb,o.aW,o.aH,o.aG⟩;have f6:=K.dN ae y;have f8:=(Jf (w:=W) (a:=j) (K.aG j (aw b) y)).t af)
  all_goals
   have O:=F (a1.1.Wl U.2 K U.1 V a3.o x);have n:=QC (N.Ba B j f z r (a.setCell j (P s ((a4:Nat)+(h:Nat)) w))) ⟨e8,⟨_,O.1,by rw[Gk];have:=g4.o;omega⟩,((J.o.m c6).t a1.2.1).t O.2.1,((eF.aE J.o).aJ a1.2.2).aJ O.2.2⟩;clear V o K k e7 b f1 U;go_wp2;go_ret;exact⟨r,A,n.o⟩
 have b3:(h:Nat)=0:=f4▸rfl;have e0:t.size<32:=by rw[e9];decide
 have S:=F (MK t g2 e0);clear b9 e2 a7 d6 e9 f4;go_wp2_with fail;go_call S.o as v d3 ⟨rfl,D⟩;have R:=F (iu t d3 e0);have m:=F (a0.o.t (D.m a0.o.z));have b5:=F (d8.o.aE D);clear S D;go_wp2_with fail;go_call R.o as v w4 ⟨rfl,E⟩;have J:=F (m.o.t (E.m m.o.z));have b6:=F (b5.o.aE E);let⟨b7,⟨h8,c,p⟩,ab⟩:=b6.o;obtain⟨e,G,rfl⟩:=aR p;have u:=J.o.ke g.1;have M:=aQ g.2.1 J.o;have x:B<=(w4:Nat):=oA J.o.z;have a2:=QC (iQ w4 B j f) (d4.o.aE J.o);have a3:=F ab;have g6:=F b3;have g9:(f:Nat)+(h:Nat)<=1000000:=H;clear R E ab b7 b3;have ae:w4 j=P X (f:Nat) Z:=cR u A;have af:=aI u 0;have u1:w4 z=P e (h:Nat) G:=cR c A;have y:=jB M u;have U:=F (κ M u);go_upto_region 7 with fail;go_region_law (apply nN hO A _ _ rf rf (by exact M) rf (by exact p) ZY H (by exact x);intro f9 a V o;obtain⟨s,w,rfl⟩:=aR V;have K:aL (λd=>(P X (f:Nat) Z).ownBlock=δ d) w4 a:=⟨o.os,o.cb,o.aW,o.aH,o.aG⟩;have f6:=K.dN ae y;have f8:=(Jf (w:=w4) (a:=j) (K.aG j (aw u) y)).t af)
 all_goals
  have O:=F (a2.o.Wl U.2 K U.1 V a3.o x);have n:=QC (N.Ba B j f z t (a.setCell j (P s ((f:Nat)+(h:Nat)) w))) ⟨H,⟨_,O.1,by rw[Gk,g6.o];omega⟩,(J.o.m c6).t O.2.1,(eF.aE J.o).aJ O.2.2⟩;clear V o K M p u c U;go_wp2;go_ret;exact⟨t,A,n.o⟩
def eF.iY {o:Obj}(f:eF g s)(j:bd s l w o)(t:g.heap.size<=w):eF g l:=⟨λe h n k b i a=>(j.old e (by have:=aw b;omega)).t (f.aM e h n k b i a)⟩
def Bb {d:Nd}{i:D}(j:i<16)(f:B):(nc d).setIfInBounds (3+i) (O f)=nc ⟨d.bq,d.bA,d.bL,cZ d.r i f⟩:=by
 apply C6 i;repeat' constructor
def Fc {r:D->B}{i:D}(j:∀a,(r a).size<=40)(o:k.size<=40):∀a,(cZ r i k a).size<=40:=λa=>by
 by_cases f:a=i
 .subst f;rwa[cy]
 rw[bX _ _ f];exact j a
def SQ (u:D)(g:QE)(j:Pt)(hF:j≠.nil->j.SP):(Pt.ext u g j).qh:=by
 intro B O Z f a2 b5 W U b9 S a3 c0 Y;have ab:(Pt.ext u g j).bu=g.size+1+j.bu:=A;have af:(Pt.ext u g j).bw=1+j.bw:=A;have c3:f.alloc (K #[ϑ 0,I,I,I,I,I,I,I,I,I,I,I,I,I,I,I,I,I,I] 281)=f.alloc (K zc 281):=A;let⟨e,a4,v⟩:=aU f (K zc 281);rw[a4] at c3;have c8:=U.2.1;let⟨a7,a8,h⟩:=Pt.fA U.2.1;have R:=Pt.at_below W v.aE;let⟨d3,c1⟩:=at_ptr2 R.1;rw[h] at c1;have a5:(e:D)=(f:D)+1:=v.aH;have a6:=Gc e (K zc 281);have m:=F (λb (w:bd (e.alloc (K zc 281)) b (e:D) (K (nc ⟨2,g,⟨#[]⟩,λ_=>⟨#[]⟩⟩) 281))=>show T f f b/\b.heap[(f:D)]?=K zc 281/\b (u,1)=Δ a7 a8/\b.heap[(e:D)]?=δ (K (nc ⟨2,g,⟨#[]⟩,λ_=>⟨#[]⟩⟩) 281) by
  have l:T e e b:=w.aE _ _ QD ((Ge _ e).a QD _)
  exact⟨v.aE.t (l.m H),l.ke v.at_,l.ce c1,w.at_⟩)
 have N:=QC (∀b,T f f b->τ γ 383 #[ξ O,Δ a7 a8] b λq d2=>∃t,q=β t/\j.Ba B O Z b t d2) λb c=>by
  rw[<-h];exact hF c8 B O Z b (a2.aE c) b5 (Pt.at_below W.2 c) U.2.2 (GB S c.z) (a3.aE c) H H
 have J:=F (κ ab (κ af (κ Y S)));show τ γ 416 #[ξ u,ξ O] f _;have n:=F a5;clear W R U b9 a3 c0 Y ab af h hF a2 c1 a4 a5;go_enter func416,ntmps416;go_upto_region 2 with(refine tS (ES g) a6 ?_;intro b w);let⟨l,ae,b3,a1⟩:=m.o b w;have k:=F l;have a9:=F (N.o b l);clear m N w a6 v l;go_upto_region 3 with((with_reducible go_call a9.o as q G ⟨t,rfl,z⟩);have a0:=z.fR.aM _ _ _ _ ae dc dc;have M:=z.fR.aM _ _ _ _ a1 dc dc;have P:=F z;have e3:G ⟨e,3,ζ⟩=I:=(cR M rfl);have b4:=aI M 3;clear z);let⟨p,i⟩:∃p,G.setCell ⟨e,3,ζ⟩ (β t)=p:=⟨_,A⟩;have o:=aF (j:=3) (β t) M;rw[i] at o;have X:=Bb (d:=⟨2,g,⟨#[]⟩,λ_=>⟨#[]⟩⟩) (i:=0) H t;rw[(rfl:3+0=3)] at X;rw[X] at o;rw[i];let⟨d5,s⟩:∃d5:Nd,d5=⟨2,g,⟨#[]⟩,cZ (λ_=>⟨#[]⟩) 0 t⟩:=⟨_,A⟩;let⟨CS,d⟩:∃CS,CS=nc d5:=⟨_,A⟩;have V:ct CS d5:=d▸jN d5;have ag:=V.aH;have c7:p.heap[(e:D)]?=K CS 281:=by rw[d,s];exact o.at_
 have L:p.heap[(f:D)]?=K zc 281:=(o.old _ (oA n.o)).t a0;have x:T B f G:=(k.o.m J.2.2.2).t P.o.aE;have b0:=QC (∀y,bd p y (f:D) (K CS 281)->(Pt.ext u g j).yM B O Z f CS y) λy a=>by
  have d9:=n.o;have b6:=J.2.2.2;have b7:T B f p:=o.aE _ _ H x;let⟨c6,c2,d8⟩:=P.o.wr;refine⟨⟨d5,V,Θ (Θ (Ξ (by rw[s]))),by have d4:=J.1;have d6:=J.2.2.1;rw[s];show g.size<=_;omega,λd1=>s▸Fc (r:=λ_=>⟨#[]⟩) (i:=0) (λ_=>(H:0<=40)) P.o.aH d1⟩,⟨c6,(c2.ek o M dc).ek a L dc,Ξ (oA J.2.1)⟩,a.aE _ _ b6 b7,?_,nF⟩;exact(((eF.aE k.o).aJ P.o.fR).iY o H).iY a QD
 have b2:=F V;clear d s X o V ae a1 a0 M x i b3 e3 b4;go_wp2_with (first|(refine tL c7 ?_ (f:=ag))|(refine tS b2.o L ?_;intro y a));apply QM (kp A A ag a.at_) A;exact⟨CS,A,b0.o y a⟩
structure Bc (B wb:D)(xs:E QE)(f:D->D)(g5:D)(w:L)(i:D)(d:Nd)(wr:L):Prop where
 fU:ej wr g5 d
 dN:wr.heap[w.heap.size]?=K zc 281
 bq:d.bq=3
 bA:d.bA.size=0
 AL:∀k,(d.r k).size<=40
 ZZ:∃ys,iQ wr B wb ys/\ys.length<=xs.length+hC f i
 aE:T B w wr
 fR:eF w wr
theorem Bd (t:D)(a:QE)(d:D->Pt)(hF:∀b,b<16->d b≠.nil->(d b).SP):(Pt.branch t a d).qh:=by
 intro B o u f a9 Y J ah a2 T b2 d4 a5;have a6:(Pt.branch t a d).bu=3+di λb=>(d b).bu:=A;have a7:(Pt.branch t a d).bw=1+di λb=>(d b).bw:=A;have e0:f.alloc (K #[ϑ 0,O ⟨#[]⟩,O ⟨#[]⟩,O ⟨#[]⟩,O ⟨#[]⟩,O ⟨#[]⟩,O ⟨#[]⟩,O ⟨#[]⟩,O ⟨#[]⟩,O ⟨#[]⟩,O ⟨#[]⟩,O ⟨#[]⟩,O ⟨#[]⟩,O ⟨#[]⟩,O ⟨#[]⟩,O ⟨#[]⟩,O ⟨#[]⟩,O ⟨#[]⟩,O ⟨#[]⟩] 281)=f.alloc (K zc 281):=A;let⟨g,b3,x⟩:=aU f (K zc 281);rw[b3] at e0;let⟨L,ag,ae,af⟩:=rk d;have c8:=F af;have S:=Pt.at_below J x.aE;have d3:g t=a:=cR S.1 A;have b5:(g:D)=(f:D)+1:=x.aH;have b6:=Gc g (K zc 281);have W:=F (λv (y:bd (g.alloc (K zc 281)) v (g:D) (K (nc ⟨3,⟨#[]⟩,a,λ_=>⟨#[]⟩⟩) 281))=>show v.rangeAt t 1 L/\Bc B o u (λb=>(d b).bw) (g:D) f 0 ⟨3,⟨#[]⟩,a,λ_=>⟨#[]⟩⟩ v by
  have ai:ρ g g v:=y.aE _ _ QD ((Ge _ g).a QD _)
  have M:=x.aE.t (ai.m H)
  exact⟨oY (Pt.at_below J M) ag ae,y.at_,Below.ke ai x.at_,A,A,λ_=>(H:0<=40),⟨u,b2.aE M,(H:_<=_+0)⟩,M.m T,eF.aE M⟩)
 have b9:=QC (∀(b:D) (i:b<16) (p:d b≠.nil) e wr,Bc B o u (λb=>(d b).bw) (g:D) f b e wr->τ γ 383 #[ξ o,(d b).cm] wr λs n=>∃q,s=O q/\n ⟨g,3+b,ζ⟩=O (e.r b)/\n.frozen? ⟨g,3+b,ζ⟩=σ/\Bc B o u (λb=>(d b).bw) (g:D) f (b+1) ⟨e.bq,e.bA,e.bL,cZ e.r b q⟩ (n.setCell ⟨g,3+b,ζ⟩ (O q))) λb i p e wr c=>by
  let⟨l,G,b4⟩:=c.ZZ;have N:=ht (f:=λb=>(d b).bu) i;have R:=mV (λb=>(d b).bw) (H:b+1<=16);rw[iP] at R;have e6:hC (λb=>(d b).bw) (b+1)=hC (λb=>(d b).bw) b+(d b).bw:=A;have e9:=c.aE.z;have c2:(d b).At wr:=Pt.at_frame (J.2 b i) λb7 d9=>c.aE.b b7 (a2 b7 (Θ ⟨b,i,d9⟩));refine(hF b i p B o l wr (a9.at c.aE Y) Y c2 (ah b i) H G H H).m λs n ⟨q,c6,k⟩=>⟨q,c6,?_⟩;have P:=k.fR.aM _ _ _ _ c.fU dc dc;have d6:=k.fR.aM _ _ _ _ c.dN dc dc;have z:=aF (j:=3+b) (O q) P;rw[Bb i] at z;let⟨e2,e1,f0⟩:=k.wr;have c3:=c.aE.t k.aE;refine⟨QH P▸(jN e).qF b i,aI P _,z.at_,(z.old _ H).t d6,c.bq,c.bA,Fc c.AL k.aH,⟨e2,e1.ek z P dc,H⟩,z.aE _ _ H c3,(c.fR.aJ k.fR).iY z H⟩
 have Z:=F (κ a6 (κ a7 (κ a5 T)));have e5:=F b5;show τ γ 420 #[ξ t,ξ o] f _;clear J S ah a2 b2 d4 a5 a6 a7 hF a9 b3 b5 ae af;go_enter func420,ntmps420;go_upto_region 2 with(refine tS (jN ⟨3,⟨#[]⟩,a,λ_=>⟨#[]⟩⟩) b6 ?_;intro v y);let⟨a8,ab⟩:=W.o v y;have X:=F ab;clear W y b6 x ab d3;go_wp2_with (apply Xj A 498 _ A t 1 A L _ a8 LX A (ag▸qg));clear a8;go_loopw [17] (λiv wr=>∃(b:D) (e:Nd),b<=16/\iv=ϑ b/\Φ (Bc B o u (λb=>(d b).bw) (g:D) f b e wr)) (λiv _=>16-(QI iv).toNat);case atStart=>exact⟨0,_,H,A,X⟩
 case round=>
  clear X;obtain⟨b,e,i,rfl,c⟩:=hrel;by_cases a0:b<16
  .have e4:(b:C)<16:=H;have f1:(0:C)<=(b:C):=H;have a4:=c8.o b a0;by_cases p:d b=.nil
   .have w:(d b).cm=ω:=p▸rfl;rw[w] at a4;have c0:=QC (Bc B o u (λb=>(d b).bw) (g:D) f (b+1) e wr) ⟨c.o.fU,c.o.dN,c.o.bq,c.o.bA,c.o.AL,by
     let⟨l,N,R⟩:=c.o.ZZ
     exact⟨l,N,(H:_<=_+(hC _ b+(d b).bw))⟩,c.o.aE,c.o.fR⟩
    clear w p;go_wp2;go_roundw;case rel=>exact⟨b+1,e,H,gN,c0⟩
    case measure=>simp[QI];omega
   let⟨f2,f3,w⟩:=Pt.fA p;have V:=F (b9.o b a0 p e wr c.o);rw[w] at a4 V;clear w p;go_wp2_with ((with_reducible apply V.o.m);rintro s f4 ⟨q,rfl,e7,e8,k⟩;have d2:=F k;clear k);go_roundw;case rel=>exact⟨b+1,_,H,gN,d2⟩
   case measure=>simp[QI];omega
  have e4:¬((b:C)<16):=H;have a3:b=16:=H;let⟨CS,I⟩:∃CS,CS=nc e:=⟨_,A⟩;have U:ct CS e:=I▸jN e;have b0:=U.aH;have d8:wr.heap[(g:D)]?=K CS 281:=I▸c.o.fU;have a1:=c.o.dN;have c7:=QC (∀m,bd wr m (f:D) (K CS 281)->(Pt.branch t a d).yM B o u f CS m) λm h=>by
   let⟨l,G,b4⟩:=c.o.ZZ;rw[a3,iP] at b4;exact⟨⟨e,U,Θ (Θ (Θ c.o.bq)),oA c.o.bA,c.o.AL⟩,⟨l,G.ek h a1 dc,Ξ (oA Z.2.1)⟩,h.aE _ _ Z.2.2.2 c.o.aE,c.o.fR.iY h QD,nF⟩
  have d1:=F U;clear I U a3;go_wp2_with (first|(refine tL d8 ?_ (f:=b0))|(refine tS d1.o a1 ?_;intro m h));apply QM (kp A A b0 h.at_) A;exact⟨CS,A,c7.o m h⟩
def rn:∀f:Pt,f≠.nil->f.qh
 |.nil,h=>absurd A h
 |.none,_=>λB l n m _ _ _ _ _ i g _ _=>(MJ l m).m λx C ⟨k,a⟩=>⟨zc,k,⟨bE,cA,o ⟨A,A⟩,QK,λ_=>QK⟩,⟨n,g.aE a,j ⟨A,A,A⟩⟩,a.m i,eF.aE a,nF⟩
 |.leaf a c r,_=>λB l n m _ _ y _ _ i g _ D=>(xw a c r l m y).m λx C ⟨⟨s,k,hd⟩,e⟩=>⟨s,k,⟨_,hd,j (o A),by have:(Pt.leaf a c r).bu=c.size+2:=A;show c.size<=_;omega,λ_=>QK⟩,⟨n,g.aE e,o d⟩,e.m i,eF.aE e,λ_ _ _ h=>by cases h;exact⟨hd,g.aE e⟩⟩
 |.ext a c p,_=>SQ a c p λb=>Fb _ b (Dn _ b (rn p b))
 |.branch a w q,_=>Bd a w q λv _ b=>Fb _ b (Dn _ b (rn (q v) b))
def Wm (f:Pt)(j:f≠.nil):f.yN:=Dn f j (rn f j)
def Be (f:L)(j u:D)(z:C)(o:E (IA×S))(t:eI f)(J:bp f j u z o):∀h left:D,left<=h->left<=1000->qf f j left
 |0,left,l,e=>Fa f j left e λc m=>by omega
 |h+1,left,l,e=>Fa f j left e λc m=>
  have A:=Be f j u z o t J h c H H
  ZV f j c t A (EY f j u z o c t J A)
structure nV (w:L)(T:Pt)(ok:Bool)(w':L):Prop where
 aE:ρ w w w'
 od:ok=U->T≠.nil/\T.At w'/\T.fG/\T.dZ/\(∀x,T.fT x->w.heap.size<=x)/\T.bw<=160/\T.bu<=3200
def ML (o M:D)(O:C)(u:E (IA×S))(J:B)(j:L)(W:eI j)(U:bp j o M O u)(q:J.size<=1000000):
 Y N 171 #[V o,J] j λh k=>∃b c,h=f #[Pt.cm b,υ c]/\nV j b c k:=by
 obtain⟨P,r,t⟩:=aU j (K #[V o,G 160] 392);have X:=F (EY j o M O u 160 W U (Be j o M O u W U 160 160 H H) j J P d t.aE t.at_ q);have Z:=y (∀b c i a,lW P j o 160 b c i a->nV j b c a) λb c i a g=>⟨t.aE.t (g.only.cE t.aE.z λI h=>by subst h;exact d),λp=>by
  obtain⟨m,n,v,w,x,Q,R⟩:=g.od p
  exact⟨m,n,v,w,λl e=>GB t.aE.z (x l e),by omega,by omega⟩⟩
 go_enter func171,ntmps171;go_wp2_with ((with_reducible refine X.o.m ?_);rintro h a ⟨b,c,i,rfl,g⟩;have s:=F (Z.o b c i a g));go_ret2;exact⟨b,c,A,s.o⟩
def Pt.yO :∀{o:Pt} {d a:D} {l:Bool},o.At g->o.fT d->g (d,a)≠M (z l)
 |.leaf h i r,d,a,l,c,b=>by
  obtain rfl:d=h:=b;rw[QH c];match a with
  |0=>simp
  |1=>simp
  |k+2=>simp
 |.ext h i k,d,a,l,c,b=>by
  rcases b with rfl|b
  .rw[QH c.1];match a with
   |0=>simp
   |1=>rcases Pt.nU k with f|⟨A,J,f⟩<;>simp[f]
   |e+2=>simp
  exact yO c.2 b
 |.branch h r e,d,a,l,c,b=>by
  rcases b with rfl|⟨j,u,b⟩
  .rw[QH c.1];by_cases t:a=0
   .subst t;simp[Pt.bc]
   by_cases K:a<17
   .obtain⟨j,rfl⟩:∃j,a=1+j:=⟨a-1,by omega⟩;rw[Pt.lL _ _ H];rcases Pt.nU (e j) with f|⟨A,J,f⟩<;>simp[f]
   rw[LG (by rw[Pt.VM];omega)];simp
  exact yO (c.2 j u) b
def SR {f:Pt}{J:E fj}(t:eh g m J)(V:f.At g)(z:aL f.fT g s):eh s m J:=by
 rcases t with t|⟨K,W,O,M,P,U⟩
 .exact o t
 refine j ⟨K,W,O,M,P,λp l r=>?_⟩;obtain⟨X,Z,A⟩:=U p l r;have u:¬f.fT K:=λa=>Pt.yO V a A;exact⟨z.dN X u,z.dN Z u,z.dN A u⟩
structure wm (w:L)(v:S)(cs:E fj)(i:D)(T:Pt)(wr:L):Prop where
 some:T≠.nil
 eg:T.At wr
 fG:T.fG
 dZ:T.dZ
 cn:∀x,T.fT x->w.heap.size<=x
 bw:T.bw<=160+3*i
 bu:T.bu<=3200+16*i
 aE:ρ w w wr
 chg:eh wr v cs
def wm.iY {wr:L}{t:E fj}{o:Pt}(f:wm g m t w o wr)(j:T wr wr l):wm g m t w o l:=
 ⟨f.some,Pt.at_below f.eg j,f.fG,f.dZ,f.cn,f.bw,f.bu,f.aE.t (j.m f.aE.z),f.chg.aE j⟩
def wm.turn {wr:L}{t:E fj}{o j:Pt}(f:wm g m t w o wr)(u:j≠.nil)(z:j.At l)(A:j.fG)(J:j.dZ)(K:∀c,j.fT c->o.fT c\/(wr:D)<=c)(d:aL o.fT wr l)(M:j.bw<=o.bw+3)(O:j.bu<=o.bu+16):wm g m t (w+1) j l:=
 ⟨u,z,A,J,λc k=>(K c k).elim (f.cn c) (λq=>GB f.aE.z q),oA f.bw,oA f.bu,f.aE.t (d.cE f.aE.z f.cn),SR f.chg f.eg d⟩
def mX (t:Prop)(tx:B)(A:L)(u:He)(K:L):Prop:=T A A K/\((¬t/\∃o:C,o≠0/\0<=o/\o<=12/\u=f #[P J 0 0,o])\/
 ∃z j,u=f #[z,G 0]/\bS K z j/\j≠[]/\j.length<=780/\(∀M∈j,M.size<=4000)/\(t->j=[tx]))
def mX.OQ {F:Prop}{tx:B}(hF:¬F)(t:T g g s){n:C}(j:n≠0/\0<=n/\n<=12):mX F tx g (ι (f #[P J 0 0,n])) s:=⟨t,o ⟨hF,n,j.1,j.2.1,j.2.2,A⟩⟩
structure Fst (root:QE)(cs0:E fj)(tx:QE)(c:fj):Prop where
 oZ:root=bn ⟨#[128]⟩
 cs:cs0=[c]
 ok:c.wC=U
 eB:c.eB=X
 aH:tx.size<=4000
 top:∀(w:L) (b wb:D) (B:D),eI w->(Pt.leaf b (Nib.bK (Nib.cU c.fe.data.toList)) c.cm).At w->B<=w.heap.size->iQ w B wb []->Y N 174 #[V wb,(Pt.leaf b (Nib.bK (Nib.cU c.fe.data.toList)) c.cm).cm] w λe w'=>e=O tx/\iQ w' B wb []/\T B w w'
def Bf:bD []:=⟨λc b a=>by simp at a,R⟩
structure ll (w:L)(B mm:D)(vt:S)(xs:E QE)(i:D)(nv:S)(ns:E QE)(M:E (IA×S))(wr:L):Prop where
 cT:wr.ownsRow B 9 1 nv ns.length (ns.map O)
 cB:ns.length<=1+i
 Rk:0<ns.length
 sz:∀x∈ns,x.size<=4000
 cS:bj N wr 9 mm M
 Wn:M.length<=i
 qi:∀p∈M,∃n:C,p.2=G n
 Fe:bS wr vt xs
 aE:T w w wr
def ll.iY {wr:L}{t:S}{o:E B}(f:ll g w q m v a t o n wr)(j:T wr wr l):ll g w q m v a t o n l:=
 ⟨aQ f.cT j,f.cB,f.Rk,f.sz,f.cS.aM (j.b _ f.cS.lt),f.Wn,f.qi,f.Fe.hQ j,f.aE.t (j.m f.aE.z)⟩
def ll.aaa {wr:L}{u:S}{t:E QE}(f:ll g w q m v a u t n wr)(B:bj N l 9 q ((kl k,G c)::be (kl k) n))(o:wr.mapTurned l q)(M:g.heap.size<=q):
 ll g w q m v (a+1) u t ((kl k,G c)::be (kl k) n) l:=by
 have j:=aL.dD (aL.bQ (· =q) wr) o (λ_=>rfl);refine⟨aK f.cT λi b=>j.aG i (bG f.cT b).2 λe=>?_,by have:=f.cB;omega,f.Rk,f.sz,B,?_,λh d=>?_,f.Fe.jR (hA.dD o) f.cS.bx,f.aE.t (j.cE f.aE.z λa e=>by subst e;exact M)⟩
 .subst e;rcases f.cT.2 with⟨rfl,_⟩|⟨K,O,P,rfl,_,z,_⟩
  .cases b
  have J:K=i:=by simpa[Ψ] using b
  subst J;exact f.cS.bx _ _ _ z
 .have:=bB (kl k) n;have:=f.Wn;simp only[Gx];omega
 rcases GF.1 d with rfl|d
 .exact⟨c,A⟩
 exact f.qi h (GX.1 d).1
def ll.mP {wr:L}{j:D}{z K:S}{t:E QE}(f:ll g w j m v a z t n wr)(G:t.length<=a)(U:k.size<=4000)(I:l.ownsRow w 9 1 K (t.length+1) (t.map O++[O k]))(u:aL (λq=>z.ownBlock=M q) wr l)(x:g.heap.size<=w)(s:∀q i c V,m=P (M ⟨q,i,J⟩) V c->q<w):
 ll g w j m v a K (t++[k]) n l:=by
 have A:∀q,z.ownBlock=M q->w<=q:=λq e=>(bG f.cT e).1;refine⟨by rwa[Gk,Io],by rw[Gk];simp;omega,by rw[Gk];simp,λr p=>(GO.1 p).elim (f.sz r) λd=>by obtain rfl:=GA.1 d;exact U,f.cS.aM (u.aG j f.cS.lt λb=>?_),f.Wn,f.qi,?_,f.aE.t (u.cE f.aE.z λq e=>GB x (A q e))⟩
 .rcases f.cT.2 with⟨rfl,_⟩|⟨X,N,F,rfl,_,y,_⟩
  .cases b
  have W:X=j:=by simpa[Ψ] using b
  subst W;exact f.cS.bx _ _ _ y
 rcases f.Fe with d|⟨q,i,c,d,Z,H,B⟩
 .exact o d
 have e:=s q i c _ d;exact Θ ⟨q,i,c,d,λh r p=>u.dN (Z h r p) (λb=>by have:=A q b;omega),GP H u.aH,B⟩
def MM {f:fj}{o:E dh}(A:f.eB=X)(u:(o.map mk).Perm ([f].foldl ji (([]:E dh).foldl iJ []))):o=[(f.fe,f.cm)]:=by
 have z:[f].foldl ji (([]:E dh).foldl iJ [])=[mk (f.fe,f.cm)]:=by simp[ji,iJ,A,be]
 rw[z] at u;have j:=List.perm_singleton.1 u;obtain⟨t,rfl⟩:∃t,o=[t]:=List.length_eq_one_iff.1 (sU (Xl List.length j));simp only[Ij,PI,GN,QW] at j;rw[Rh j]
def MN (j:Prop)(tx:B)(J:fj)(d2 i9:D)(j0:Int)(f2:E (IA×π))(u:B)(d3:π)(e5:E fj)(k:ν)(i2:eI k)(n4:bp k d2 i9 j0 f2)(u8:u.size=32)(n5:eh k d3 e5)(q9:(e5:D)<=1000)
 (z:j->Fst u e5 tx J) (n3:τ N 171 #[ξ d2,u] k λd m=>∃e c7,d=ι (χ #[Pt.cm e,υ c7])/\nV k e c7 m/\(j->e=.none/\c7=ψ)):
 τ N 96 #[ξ d2,u,d3] k (mX j tx k):=by
 have k0:=Ga n3;have M:=Ga z;clear n3 z;have a8:=Ga i2;have k2:=Ga n4;have p8:=Ga n5;have v7:2<=(k:D):=i2.kO.1;clear i2 n4 n5;go_enter func96,ntmps96;go_wp2_with fail;go_call k0.o as d d1 ⟨e,c7,rfl,⟨b1,h4⟩,e8⟩;clear k0;have j2:=Ga b1;cases c7 with
 |false=>
  have a3:=Ga (mX.OQ (F:=j) (tx:=tx) (λa=>by cases (e8 a).2) b1 (n:=4) H);clear b1 h4 e8;generalize e.cm=v4;go_wp2;go_ret2;exact a3.o
 |true=>
  let⟨g8,e6,l3,g9,l4,L,l5⟩:=h4 A;have g0:=y (j->e=.none) λa=>(e8 a).1;clear e8;have K:=Ga (W g8 (W e6 (W l3 (W g9 (W l4 (W L l5))))));let⟨v3,o9,o7,i4,hF,m2,r6,q5⟩:=Pt.hS g8;have j5:=y (τ N o9 #[o7,eS,P ζ 0 0] d1 λd m=>∃o8 q0,d=ι o8/\e.mW (d1:D) [] d1 o8 q0 m) (by
   rw[<-hF,<-m2]
   exact yL e d1 ⟨#[]⟩ (P ζ 0 0) [] d1 e6 g9 (λh w=>Pt.hR e6 w) QD QN (H:0+_<=_) QB)
  have k8:=Ga i4;clear h4 g8 e6 l3 g9 l4 L l5 hF m2 b1;rw[i4];clear i4;go_wp2_with fail;go_call j5.o as d o2 ⟨v,es,rfl,h8,h7,h0,_⟩;clear j5 r6 q5;have f5:=Ga (j2.o.t (h0.m j2.o.z));have u0:(es:D)<=160:=by have:=K.2.2.2.2.2.1;simp at h7;omega
  have j7:=Ga (lS h8);have a4:=y (j->es=[]) λa=>by
   have f1:(es:D)<=0+e.bw:=sU h7;rw[g0.o a] at f1;exact GH (Nat.le_zero.1 f1)
  have j1:=Ga (xm v d3 es e5 o2 j7.o (p8.o.aE f5.o) H q9);have k4:=y (e.At o2) (Pt.at_below K.2.1 h0);obtain⟨x2,x3,rfl⟩:=aR h8;clear h8 h7 h0;go_wp2_with fail;go_call j1.o as d o3 ⟨q4,e2⟩;clear j1;have d4:=Ga (f5.o.t (e2.m f5.o.z));have j8:=Ga (j7.o.aE e2);have k5:=y (e.At o3) (Pt.at_below k4.o e2);clear e2;rcases q4 with⟨l,rfl,r9,s5,m3⟩|⟨v8,g7,rfl,i0,m4,i1⟩
  .have f1:(l !=0)=ψ:=QB;have a3:=Ga (mX.OQ (F:=j) (tx:=tx) (λa=>m3 (by
    rw[a4.o a,(M.o a).cs]
    exact⟨Bf,λc I=>by cases GA.1 I;exact(M.o a).ok,sm⟩)) d4.o (n:=l) H)
   clear m3;go_wp2;go_ret2;exact a3.o
  have f1:((0:Int) !=0)=X:=dc;have k1:=Ga (SF _ es o3 (a8.o.aE d4.o) j8.o H);have e1:=Ga (W i0 m4);have p2:=y (j->g7=[(J.fe,J.cm)]) λa=>by
   rw[a4.o a,(M.o a).cs] at i1;exact MM (M.o a).eB i1
  let⟨w9,x1,t0,_⟩:=i0.bZ;subst t0;clear i0 m4 i1;go_wp2_with fail;go_call k1.o as d w4 ⟨s2,Q⟩;clear k1;have f6:=Ga (d4.o.t (Q.m d4.o.z));have Z:=y (¬j->mX j tx k (ι (χ #[P ζ 0 0,G 4])) w4) λa=>mX.OQ a f6.o (n:=4) H;rcases s2 with⟨l,u6,r9,s5,m9,rfl⟩|⟨U,m5,i3,rfl⟩
  .have l2:u.toList.isEmpty=X:=cp H;have r3:u.toList≠[]:=λa=>by rw[a] at l2;cases l2
   have r4:(([]:E QO)==u.toList)=X:=by
    rw[Xk];exact λa=>r3 a.s
   have e3:(([]:E QO) !=u.toList)=ψ:=by rw[bne,r4];rfl
   have Z:=Ga (Z.o λa=>m9 (a4.o a▸Bf));clear Q m9;go_wp2;go_ret2;exact Z.o
  cases a9:((bn U).toList==u.toList) with
  |false=>
   have l8:((bn U).toList !=u.toList)=ψ:=by rw[bne,a9];rfl
   have Z:=Ga (Z.o λa=>by
    rw[i3 (a4.o a),<-(M.o a).oZ] at a9
    simp at a9)
   clear Q i3;go_wp2;go_ret2;exact Z.o
  |true=>
   have l8:((bn U).toList !=u.toList)=X:=by rw[bne,a9];rfl
   have u1:(g7:D)<=40:=e1.2.aH;have j4:=Ga (AH _ _ es g7 w4 (j8.o.aE Q) (e1.1.aE Q) H H);have k6:=y (e.At w4) (Pt.at_below k5.o Q);have p3:=Ga m5;clear Q m5 i3;go_wp2_with fail;go_call j4.o as d w5 ⟨⟨w2,cs,rfl,⟨h2,-⟩,w0,m0,l9⟩,g5⟩;have j3:=y (j->cs=[J]) λa=>by
    rw[m0 e1.2 (a4.o a),p2.o a];have:=(M.o a).eB;cases J;simp at this ⊢;exact this
   clear m0;let⟨l1,e4,i5,S⟩:=h2.bZ;subst i5;have p0:=Ga (f6.o.t (g5.m f6.o.z));have a5:=y (wm k (P l1 (cs:D) e4) cs 0 e w5) ⟨K.1,Pt.at_below k6.o g5,K.2.2.1,K.2.2.2.1,K.2.2.2.2.1,oA K.2.2.2.2.2.1,oA K.2.2.2.2.2.2,p0.o,h2⟩;have p1:=Ga (l9 p3.o e1.2);clear h2 l9 g5 j4 Z S;let⟨w6,w7,i5⟩:=Pt.fA K.1;have n6:Δ v3 o7=e.cm:=k8.o.s;rw[n6];clear i5 n6;go_wp2_with fail;go_loopw [8,56] (λt7 iv wr=>∃(b:D) (e:Pt),b<=(cs:D)/\t7=e.cm/\iv=G b/\Φ (wm k (P l1 (cs:D) e4) cs b e wr/\(j->(b=0/\e=.none)\/(b=1/\∃ag,e=.leaf ag (Nib.bK (Nib.cU J.fe.data.toList)) J.cm)))) (λ_ iv _=>(cs:D)-(QI iv).toNat)
   .exact⟨0,e,H,A,A,Ga ⟨a5.o,λa=>Ξ ⟨A,g0.o a⟩⟩⟩
   clear a5 K k8 k4 k5 k6 a9 l8 g0;obtain⟨b,e,q7,rfl,rfl,V⟩:=hrel;have f:=Ga V.1;have k9:=Ga V.2;clear V;by_cases ae:b<(cs:D)
   .let⟨c,I⟩:∃c,cs[b]?=δ c:=⟨_,Gf ae⟩;let⟨r0,r1,b4,S⟩:=f.o.chg.bZ;simp only[Gy] at b4;obtain⟨rfl,_,rfl⟩:=b4;obtain⟨L,b6,rfl,q8,t8,w3,o4⟩:=S b c I;clear S;have u3:=p1.o c (Gl I);have d8:=y (j->c=J/\b=0/\e=.none) λa=>by
     rw[j3.o a] at I ae;obtain rfl:b=0:=sU ae;simp at I;rcases k9.o a with⟨-,q⟩|⟨q,-⟩
     .exact⟨I.s,A,q⟩
     cases q
    have j9:=y (j->Nib.bK (Nib.cU c.fe.data.toList)=Nib.bK (Nib.cU J.fe.data.toList)) λa=>by rw[(d8.o a).1]
    have g2:=Ga (λk=>Nib.ga c.fe k H);have s9:(Nib.bK (Nib.cU c.fe.data.toList)).size<=12:=by
     show(Nib.cU c.fe.data.toList).toArray.size<=12;rw[GZ,Nib.pt];have:=rm c.fe;omega
    have ak:Nib.bF (bs (Nib.bK (Nib.cU c.fe.data.toList)))=ψ:=va _;generalize Nib.bK (Nib.cU c.fe.data.toList)=ah at g2 s9 ak j9;have m7:b<=200:=H;have r:=dj wr (θ #[O c.fe,O c.cm,υ c.eB] 56);have d9:=Ga (f.o.iY r.aE);have o6:=cJ 0 r.at_;have al:=cJ 1 r.at_;have a0:=cJ 2 r.at_;clear I r;cases h6:c.eB with
    |true=>
     have aj:=y (j->QZ) λa=>by
      have q:=(M.o a).eB;rw[<-(d8.o a).1,h6] at q;cases q
     rw[h6] at o4 o6 al a0 d9;let⟨t9,f4,i8,c3,b0,b2,r7,q6⟩:=Pt.qZ f.o.some;have f8:=y (∀g,ρ (wr.alloc (θ #[O c.fe,O c.cm,υ ψ] 56):D) (wr.alloc (θ #[O c.fe,O c.cm,υ ψ] 56)) g->τ N f4 #[i8,O ah] g λd m=>∃p,d=ι p.cm/\wm k (P (L,b6) (cs:D) e4) cs (b+1) p m) λg x=>by
      have o:=d9.o.iY x;rw[<-b0,<-b2];exact(vh e ah g o.eg o.fG o.dZ ak H (oA o.bu)).m λd m ⟨p,b3,i⟩=>⟨p,b3,o.turn i.some i.eg i.fG i.dZ i.cn i.only (oA i.bw) (oA i.bu)⟩
     clear b0 b2 ak;rw[c3];clear c3;go_wp2_with (first|((with_reducible go_call g2.o _ as d g ⟨rfl,x⟩);have f9:=Ga (f8.o g x);have al:=Below.ce x al;have a0:=Below.ce x a0)|((with_reducible go_call f9.o as d w8 ⟨p,rfl,c2⟩);have e0:=Ga c2;clear c2));go_roundw
     .exact⟨b+1,p,H,A,gN,Ga ⟨e0.o,λa=>(aj.o a).elim⟩⟩
     simp[QI];omega
    |false=>
     rw[h6] at o4 o6 al a0 d9;let⟨t9,f4,i8,c3,b0,b2,r7,q6⟩:=Pt.pK f.o.some;have f8:=y (∀g,ρ (wr.alloc (θ #[O c.fe,O c.cm,υ X] 56):D) (wr.alloc (θ #[O c.fe,O c.cm,υ X] 56)) g->τ N f4 #[i8,O ah,O c.cm] g λd m=>∃p,d=ι p.cm/\wm k (P (L,b6) (cs:D) e4) cs (b+1) p m/\(j->∃ag,p=.leaf ag ah J.cm)) λg x=>by
      have o:=d9.o.iY x;rw[<-b0,<-b2];by_cases z:j
      .obtain⟨rfl,-,rfl⟩:=d8.o z;exact(pY ah c.cm g ak).m λd m ⟨⟨ag,b3,i⟩,_⟩=>⟨_,b3,o.turn i.some i.eg i.fG i.dZ i.cn i.only (oA i.bw) (oA i.bu),λ_=>⟨ag,A⟩⟩
      exact(yA e ah c.cm g o.eg o.fG o.dZ ak H (oA o.bu)).m λd m ⟨p,b3,i⟩=>⟨p,b3,o.turn i.some i.eg i.fG i.dZ i.cn i.only (oA i.bw) (oA i.bu),λa=>absurd a z⟩
     clear b0 b2 ak;rw[c3];clear c3;go_wp2_with (first|((with_reducible go_call g2.o _ as d g ⟨rfl,x⟩);have f9:=Ga (f8.o g x);have al:=Below.ce x al;have a0:=Below.ce x a0)|((with_reducible go_call f9.o as d w8 ⟨p,rfl,c2⟩);have e0:=Ga c2;clear c2));go_roundw
     .exact⟨b+1,p,H,A,gN,Ga ⟨e0.1,λa=>Θ ⟨by rw[(d8.o a).2.1],j9.o a▸e0.2 a⟩⟩⟩
     simp[QI];omega
   have m6:¬((b:Int)<((cs:D):Int)):=H;have m7:b<=200:=H;have g3:=Ga (W f.o.some (W (show e.bw<=760 by have:=f.o.bw;omega) (show e.bu<=10000 by have:=f.o.bu;omega)));let⟨b7,u9,r⟩:=aU wr (θ #[P ζ 0 0] 308);have t3:2<=(wr:D):=oA f.o.aE.z;have d6:=Ga (f.o.aE.t (r.aE.m f.o.aE.z));have i6:iQ b7 wr wr []:=⟨QD,⟨_,r.at_,QN⟩,nF⟩;have k7:=y (τ N 174 #[ξ ((wr:D),0),e.cm] b7 λd m=>∃U,d=ι (O U)/\U.size<=4000/\(∃b9,iQ m (wr:D) (wr:D) b9/\(b9:D)<=760/\(j->b9=[]/\U=tx))/\ρ wr b7 m) (by
    by_cases z:j
    .rcases k9.o z with⟨q,-⟩|⟨-,ag,rfl⟩
     .have R:=m6;rw[j3.o z] at R;simp[q] at R
     go_call ((M.o z).top b7 ag wr wr (a8.o.aE d6.o) (Pt.at_below f.o.eg r.aE) r.aE.z i6) as d m ⟨rfl,q,R⟩
     exact⟨tx,A,(M.o z).aH,⟨[],q,sm,λ_=>⟨A,A⟩⟩,R⟩
    go_call Wm e f.o.some wr wr [] b7 (a8.o.aE d6.o) t3 (Pt.at_below f.o.eg r.aE) f.o.dZ (λh w=>Pt.hR f.o.eg w) r.aE.z i6 (oS g3.2.1) (oA g3.2.2) as d m ⟨U,rfl,q,⟨b9,R,q1⟩,q2,-⟩
    refine⟨U,A,q,⟨b9,R,?_,λa=>absurd a z⟩,q2⟩
    have:=g3.2.1
    rcases q1 with a|⟨_,a,_⟩
    .simp at a;omega
    rw[a];simp)
   have t4:=d6.o.z;have o1:=f.o.aE.z;clear f r;go_wp2_with fail;go_call k7.o as d g ⟨c8,rfl,s3,⟨xs,s6,v2,n8⟩,l7⟩;have l0:=Ga n8;clear k7 n8 i6;let⟨_,⟨x4,n7,e9⟩,f0⟩:=s6;obtain⟨f3,a2,rfl⟩:=aR e9;have f7:=y (ρ k k g) (d6.o.t (l7.m o1));let⟨w8,v6,c6⟩:=aU g (θ #[c8] 9);have u5:=@run_makeMap N;let⟨ai,o0⟩:∃ai,w8.alloc (Lz #[] 0)=ai:=⟨_,A⟩;have h3:ρ w8 w8 ai:=o0▸QG.a QD _;have e7:=c6.aE.t (h3.m c6.aE.z);have m1:bj N ai 9 w8 []:=o0▸bj.pk w8 N 9;have n2:ai.ownsRow g 9 1 (P ((g:D),0) 1 1) 1 [O c8]:=⟨A,Θ ⟨g,1,#[c8],A,QD,Below.ke h3 c6.at_,QD,dc,A,A⟩⟩;have n9:=Below.ke e7 n7;have r2:=cJ 0 n9;have a5:=y (ll k (g:D) (w8:D) (P f3 (xs:D) a2) xs 0 (P ((g:D),0) 1 1) [c8] [] ai) ⟨n2,sm,sm,λh w=>by cases GA.1 w;exact s3,m1,sm,nF,(da e9).hQ e7,f7.o.t (e7.m f7.o.z)⟩;have p9:=Ga f0;have p7:=y (∀c0 o5 c l,(P f3 (xs:D) a2)=P (δ ⟨c0,o5,ζ⟩) l c->c0<(g:D)) λc0 o5 c l a=>(bG e9 (by simp only[Gy] at a;rw[a.1];rfl)).2;have l6:=c6.aH;have g6:=Ga (W f7.o.z l6);clear l7 n7 e9 f0 c6 h3 e7 m1 n2 n9 l6 t4 o1;go_wp2_with fail;go_loopw [19,86] (λt5 iv v1=>∃(b:D) (n:E B) (T:E (IA×π)),b<=(xs:D)/\iv=G b/\Φ (ll k (g:D) (w8:D) (P f3 (xs:D) a2) xs b t5 n T v1/\(j->n=[tx]))) (λ_ iv _=>(xs:D)-(QI iv).toNat)
   .exact⟨0,[c8],[],H,A,Ga ⟨a5.o,λa=>by rw[(l0.o a).2]⟩⟩
   clear a5 r2 m6 m7;obtain⟨b,n,T,q7,rfl,V⟩:=hrel;have f:=Ga V.1;have p4:=Ga V.2;clear V;by_cases ae:b<(xs:D)
   .have aj:=y (j->QZ) λa=>by rw[(l0.o a).1] at ae;simp at ae
    let⟨h,w⟩:∃h,xs[b]?=δ h:=⟨_,Gf ae⟩;let⟨r0,r1,b4,S⟩:=f.o.Fe.bZ;simp only[Gy] at b4;obtain⟨rfl,_,rfl⟩:=b4;obtain⟨L,b6,rfl,q8,t8⟩:=S b h w;have f0:=p9.o h (Gl w);have b5:h.size<=Ie:=by unfold Ie;omega
    have h1:=f.o.cS;have m8:(T:D)<Ie:=by have:=f.o.Wn;unfold Ie;omega
    let⟨l,u4⟩:∃l:Int,(Instr.lookup 182 (KD (δ (w8:D))) (O h) X).run N wr=Je (G l) wr:=by
     have a:=h1.jE dH GY (lj wr) (dW b5);cases h9:aT T (kl h) with
     |none=>rw[h9] at a;exact⟨0,a⟩
     |some d3=>
      rw[h9] at a;obtain⟨l,rfl⟩:∃l:Int,d3=G l:=f.o.qi _ (cx h9);exact⟨l,a⟩
    have r8:(k:D)<=(w8:D):=oA g6.o;have k3:=y (∀s,bj N s 9 (w8:D) ((kl h,G (Xd (l+1)))::be (kl h) T)->wr.mapTurned s (w8:D)->ll k (g:D) (w8:D) (P (L,b6) (xs:D) a2) xs (b+1) u19 n ((kl h,G (Xd (l+1)))::be (kl h) T) s) λs Y ab=>f.o.aaa Y ab r8;have j6:=Ga (ec h);have u7:=f.o.cB;clear S w;cases v5:(Xd (l+1)==1) with
    |true=>
     go_wp2_with (first|(at_mapUpdate;refine wS dH GY h1 m8 (dW b5) ?_;intro s Y ab;have a6:=Ga (k3.o s Y ab);have g1:=Ga (cV h s H (a8.o.aE a6.o.aE).kO);clear Y ab)|((with_reducible go_call g1.o as d C ⟨rfl,g4⟩);have t:=Ga (a6.o.iY g4);have a7:=Ga (hV d2 i9 j0 f2 (bn h) C (k2.o.aE t.o.aE) (by have:=j6.o;unfold Ie;omega))));go_call a7.o as d t6 ⟨h5,af⟩;have af:=af.s;subst af;clear a7;have r5:(Instr.lookup 182 (KD (δ (w8:D))) (O h) X).run N C=Je (G (Xd (l+1))) C:=by
      have a:=t.o.cS.jE dH GY (lj C) (dW b5);rw[bY (gV h)] at a;exact a
     rcases h5 with⟨_,rfl⟩|⟨_,_,_,_,_,_,rfl⟩
     .have s8:=t.o.cT;have q3:(g:D)<=(C:D):=oB t.o.cS.lt g6.o;have p6:=y (∀i7 a1,a1.ownsRow (g:D) 9 1 i7 ((n:D)+1) (n.map O++[O h])->aL (λc0=>(u19:π).ownBlock=δ c0) C a1->ll k (g:D) (w8:D) (P (L,b6) (xs:D) a2) xs (b+1) i7 (n++[h]) ((kl h,G (Xd (l+1)))::be (kl h) T) a1) λi7 a1 q R=>t.o.mP H f0 q R g6.1 p7.o;go_wp2_with (at_builtin;refine aP hO s8 q3 ?_;intro v0 a1 n1 n0;have p5:=Ga (p6.o v0 a1 n1 n0);clear n1 n0);go_roundw
      .exact⟨b+1,_,_,H,gN,Ga ⟨p5.o,λa=>(aj.o a).elim⟩⟩
      simp[QI];omega
     go_wp2;go_roundw
     .exact⟨b+1,n,_,H,gN,Ga ⟨t.o,λa=>(aj.o a).elim⟩⟩
     simp[QI];omega
    |false=>
     go_wp2_with (first|(at_mapUpdate;refine wS dH GY h1 m8 (dW b5) ?_;intro s Y ab;have a6:=Ga (k3.o s Y ab);have g1:=Ga (cV h s H (a8.o.aE a6.o.aE).kO);clear Y ab)|((with_reducible go_call g1.o as d C ⟨rfl,g4⟩);have t:=Ga (a6.o.iY g4);have a7:=Ga (hV d2 i9 j0 f2 (bn h) C (k2.o.aE t.o.aE) (by have:=j6.o;unfold Ie;omega))));go_call a7.o as d t6 ⟨h5,af⟩;have af:=af.s;subst af;clear a7;have r5:(Instr.lookup 182 (KD (δ (w8:D))) (O h) X).run N C=Je (G (Xd (l+1))) C:=by
      have a:=t.o.cS.jE dH GY (lj C) (dW b5);rw[bY (gV h)] at a;exact a
     rcases h5 with⟨_,rfl⟩|⟨_,_,_,_,_,_,rfl⟩
     .go_wp2;go_roundw
      .exact⟨b+1,n,_,H,gN,Ga ⟨t.o,λa=>(aj.o a).elim⟩⟩
      simp[QI];omega
     go_wp2;go_roundw
     .exact⟨b+1,n,_,H,gN,Ga ⟨t.o,λa=>(aj.o a).elim⟩⟩
     simp[QI];omega
   have u2:¬((b:Int)<((xs:D):Int)):=H;let⟨v9,w1,s7⟩:=aR f.o.cT;have a3:=y (mX j tx k (ι (χ #[u19,G 0])) wr) ⟨f.o.aE,Θ ⟨u19,n,A,da f.o.cT,λd=>by have:=f.o.Rk;rw[d] at this;simp at this,oA f.o.cB,f.o.sz,p4.o⟩⟩;clear s7;go_wp2;go_ret2;exact a3.o
def sT (P:Prop)(tx:B)(K:L)(a Z:D)(n:C)(z:E (IA×S))(W:He)(u:L):Prop:=
 (¬P/\∃t:C,t≠0/\0<=t/\t<=12/\W=f #[I,G t]/\T K K u)\/
 ∃o j,W=f #[O o,G 0]/\o.size=32/\bp u a Z n j/\hA Z K u/\j.length<=z.length+780/\(aT j (kl o)).isSome=U/\(∀A,(aT z (kl A)).isSome=U->aT j (kl A)=aT z (kl A))/\(P->o=bn tx/\∃X m l,aT j (kl o)=V (M ⟨X,0,J⟩)/\It u X tx m l)
structure adj (room:C)(L:E (IA×S))(root:B)(cs0:E fj)(tx:B)(c:fj):Prop where
 fst:Fst root cs0 tx c
 afh:xr (λrefs=>refs=[]) QZ tx
 cg:(L.length:C)+1<=room
 no:aT L (kl (bn tx))=J
def Dp (O:Prop)(tx:B)(ae:fj)(t K:D)(o:C)(J:E (IA×π))(V:B)(n:π)(w:E fj)(u:ν)(s:eI u)(I:bp u t K o J)(a8:V.size=32)(aj:eh u n w)(a3:(w:D)<=1000)(b6:(J:D)+780<=40000)(Y:0<=o)(T:o<=9223372036854775807)
 (P:O->adj o J V w tx ae) (ai:τ γ 171 #[ξ t,V] u λc b5=>∃k m,c=χ #[Pt.cm k,υ m]/\nV u k m b5/\(O->k=.none/\m=ψ)):
 τ γ 48 #[ξ t,V,n] u (sT O tx u t K o J):=by
 have ah:=F (MN O tx ae t K o J V n w u s I a8 aj a3 (λa=>(P a).fst) ai);have a1:=F P;have N:=F s;have v:=F I;go_enter func48,ntmps48;go_wp2_with fail;go_call ah.o as c p ⟨b1,h⟩;rcases h with⟨a6,U,S,a4,a5,rfl⟩|⟨G,b2,rfl,l,b9,c0,R,a7⟩
 .have ab:(U !=0)=ψ:=by simp[S]
  have a0:=QC (sT O tx u t K o J (ι (χ #[eS,ϑ U])) p) (Ξ ⟨a6,U,S,a4,a5,A,b1⟩);go_wp2;go_ret2;exact a0.o
 have ab:((0:C) !=0)=σ:=dc;have ag:=QC (τ γ 42 #[ξ t,G] p (sT O tx u t K o J)) (by
  by_cases P:O
  .have x:=a1.o P
   have ab:=x.fst.aH
   cases a7 P
   go_call uZ t K o J G [tx] (λg=>g=[]) QZ p (N.o.aE b1) (v.o.aE b1) l sm QB Y T (λd b=>by
    cases GA.1 b
    exact⟨x.afh,H⟩) as c q (⟨U,_,_,_,_,_,a|a|⟨g,r,h,e,_⟩|a⟩|⟨x0,W,b,j,f,y,M,i,z,X⟩)
   .exact a.elim
   .cases a
   .rw[h] at e;cases e
   .have:=x.cg;simp at a;omega
   cases Gm b
   refine Θ ⟨_,W,j,ec _,f,(hA.aE b1 K).aJ y,by simp at M;omega,i,z,λ_=>⟨A,?_⟩⟩
   rcases f.jl (bn tx) with a|⟨af,d3,d2,g,a,b7⟩
   .rw[a] at i;cases i
   let⟨d,b4,b3,b0,_,a2⟩:=X _ af x.no a
   cases GA.1 b0
   exact⟨af,b4,b3,a,a2⟩
  go_call uZ t K o J G b2 (λ_=>True) True p (N.o.aE b1) (v.o.aE b1) l H H Y T (λd b=>⟨Mz d (oA (R d b)),oA (R d b)⟩) as c q (⟨U,h,e,f,j,Z,_⟩|⟨x0,W,_,j,f,y,M,i,z,_⟩)
  .exact Ξ ⟨P,U,h,e,f,j,b1.t (Z.m b1.z)⟩
  exact Θ ⟨bn x0,W,j,ec x0,f,(hA.aE b1 K).aJ y,H,i,z,λa=>absurd a P⟩)
 let⟨c8,d1,a9,_⟩:=l.bZ;subst a9;go_wp2_with fail;go_call ag.o as c q e;have L:=F e;rcases L.o with⟨_,U,_,_,_,rfl,_⟩|⟨c7,W,rfl,_⟩
 all_goals
  go_wp2;go_ret2;exact L.o
theorem Dq (z Z:D)(k:C)(K:E (IA×S))(u X:B)(j:L)(p:eI j)(M:bp j z Z k K)(x:u.size<=1000000)(d:X.size<=4000):
 Y N 51 #[V z,O u,O X] j λa b=>vd a b/\T j j b:=by
 have q:=F (hV z Z k K u j M (by unfold Ie;omega));have r:=F (MC z Z k K u X j p M x d);clear M p;go_enter func51,ntmps51;go_wp2_with fail;apply q.o.m;rintro a h ⟨s,U⟩;have U:=U.s;subst U;rcases s with⟨_,rfl⟩|⟨_,_,_,_,_,_,rfl⟩
 .have t:=y (vd (ι (f #[P J 0 0,G 4])) j/\T j j j) ⟨⟨_,[],4,A,Ξ ⟨J,0,A,A⟩,R,H,H⟩,QG⟩;go_wp2;go_ret2;exact t.o
 go_wp2_with ((with_reducible apply r.o.m);rintro a i ⟨⟨e,g,c,rfl,n,m,v,w⟩,l⟩;have t:=F (W n (W m l));clear n m l);go_ret2;exact⟨⟨e,g,c,A,t.1,t.2.1,v,w⟩,t.2.2⟩
def pE (o:L)(k:As.cC o):Y N 155 #[O ⟨#[128]⟩] o λb h=>b=f #[zc,G 0]/\T o o h:=by
 refine(pU ⟨#[128]⟩ (λb=>b=f #[zc,z U]) (λ_ b=>b=z U) (λ_ b=>b=O ⟨#[128]⟩) o (λb a=>⟨zc,bE,U,cA,a⟩) (λ_ b a=>⟨_,a⟩) (λ_ b a=>⟨_,a⟩)
  (λc b1=>(pT ⟨#[128]⟩ c r (k.aE b1)).m λb h ⟨a,d⟩=>⟨?_,d⟩) ?_ ?_).m ?_
 .cases a with
  |none a e=>exact e
  |bad a _ _=>exact absurd A a
  |pair _ _ _ a _ _ _=>exact absurd A a
  |branch _ _ a _ _ _ _=>exact absurd A a
 .intro j a c b1;simp only[Ii,Ku,IU,GN,Kt] at a;obtain⟨rfl,_⟩:=a;exact jO 0 257 R zc bE cA A _ (λb a=>⟨_,a⟩) c λg i=>um g
 .intro j a _ c b1;simp only[Ii,Ku,IU,GN,Kt] at a;obtain⟨rfl,_⟩:=a;exact lN 0 261 R zc bE cA A _ (λb a=>⟨_,a⟩) c λg i=>lO zc g
 rintro b h ⟨⟨j,u,_,a,_,_,rfl⟩|⟨_,a⟩,d⟩
 .simp only[Ii,Ku,IU,GN,Kt] at a;obtain⟨rfl,_⟩:=a;exact⟨A,d⟩
 rcases a with⟨j,a⟩|⟨j,a⟩|⟨j,J,t,a⟩
 .simp at a
 .simp at a
 simp only[Ii,IT] at a;exact absurd a t
def at_zero (J K:D)(M:C)(t:E (IA×S))(o:B)(u:D)(W:S)(P:E B)(j:L)(y:eI j)(w:bp j J K M t)(d:aT t (kl o)=V u)(Z:It j u ⟨#[128]⟩ W P)(v:o.size<=1000000):
 Y N 221 #[V J,O o,Hl (Ic 271) #[] #[]] j λb a=>b=f #[zc,z U]/\T j j a:=by
 refine(at_walk j 271 #[] _ (qe j) J K M t o (λ_ k n=>k=zc/\n=0) [] j y w v (λe l g x=>?_) (Ge _ j) R).m λb a ⟨⟨k,H,I,hd,i,s⟩,_⟩=>?_
 .let⟨p,G,F,h,q⟩:=l;have b:p=u:=by rw[d] at h;simp at h;exact h.s
  subst b;cases q.dC Z;exact(pE g x.dm).m λb a ⟨c,d⟩=>⟨⟨zc,bE,0,cA,c,A,A⟩,d⟩
 rcases s with⟨c,-⟩|⟨e,n,_,⟨rfl,rfl⟩,rfl,X⟩
 .rw[d] at c;cases c
 exact⟨sU i,X⟩
def Oc (j W:D)(o:L)(O:SM o j W 160):Y N 272 #[V j,zc] o λa s=>a=f #[Δ 502 (Γ #[]),z U]/\aL (· =j) o s:=by
 have w:=aw O;let⟨k,x,e⟩:=aU o (K zc 281);have q:j≠o:=H;have M:SM k j W 160:=e.aE.ke O;have d:=cJ 1 M;have v:=aI M 1;have P:=aF (j:=1) (G 159) M;generalize X:k.setCell (j,1) (G 159)=u at P;have Z:=y (∀g,T u u g->aL (· =j) o g) λg b=>by
  have r:aL (· =j) o u:=X▸aL.bV (p:=⟨j,1,J⟩) (aL.aE e.aE (· =j)) (λ_=>rfl) _;exact r.aJ (aL.aE b _)
 have c:u o=G 0:=cR ((P.old _ (λa=>q a.s)).t e.at_) A;go_enter NT,ND;go_wp2;go_ret2;exact⟨A,Z.o _ QG⟩
def Od (J Z:D)(q:C)(M:List (IA×S))(u:B)(O:D)(p:S)(a:List B)(o:D)(j:L)(m:eI j)(x:bp j J Z q M)(v:aT M (kl u)=V O)(w:It j O ⟨#[128]⟩ p a)(r:u.size<=1000000)(W:SM j o J 160):
 Y N 218 #[V o,u] j λh e=>h=f #[Δ 502 (t #[]),υ U]/\aL (· =o) j e:=by
 have k:=F (at_zero J Z q M u O p a j m x v w r);have I:=cJ 0 W;have g:=F W;go_enter func218,ntmps218;go_wp2_with fail;go_call k.o as h d ⟨rfl,b1⟩;have i:=Gc d (K zc 281);have H:=F (b1.a b1.z (K zc 281));have s:=b1.z;go_wp2_with (first|(apply tS cA i;intro P n;have X:=y (T j j P) (n.aE _ _ s H.o);have G:P.heap[(d:D)]?=K zc 281 (0,0):=n.at_;have b:=F (Oc o J P (X.o.ke g.o)))|(apply tL G)|((with_reducible go_call b.o as h E ⟨rfl,l⟩);have c:=F ((aL.aE X.o (· =o)).aJ l)));go_ret2;exact⟨A,c.o⟩
def DH (t W:D)(Z:C)(J:E (IA×S))(o:B)(M:D)(X:S)(P:E B)(j:L)(q:eI j)(p:bp j t W Z J)(n:aT J (kl o)=V M)(a:It j M ⟨#[128]⟩ X P)(e:o.size<=1000000):
 Y N 171 #[V t,o] j λc w=>c=f #[Pt.cm .none,υ U]/\T j j w:=by
 let⟨v,y,b⟩:=aU j (K #[V t,G 160] 392);have r:=F (Od t W Z J o M X P j v (q.aE b.aE) (p.aE b.aE) n (a.aE b.aE) e b.at_);have O:=F b.aE;go_enter func171,ntmps171;go_wp2_with ((with_reducible go_call r.o as c u ⟨rfl,h⟩);have s:=F (O.o.t (h.cE O.o.z λx c=>by subst c;exact d)));go_ret2;exact⟨A,s.o⟩
def nV.OW (f:T g g s):nV g .none U s:=⟨f,λ_=>⟨by simp,trivial,trivial,trivial,λ_ c=>c.elim,QK,QK⟩⟩
end Go.Proofs.YtajnhfklchlahaaGreatDoor
