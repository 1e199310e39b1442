import Derived.Test.YtajnhfklchlahaaGreatDoorMAJ
import Derived.Test.YtajnhfklchlahaaGreatDoorMAK
set_option linter.all false
set_option maxHeartbeats 3200000
set_option maxRecDepth 100000
namespace Go.Proofs.YtajnhfklchlahaaGreatDoor
open Go.Proofs.Tryz Go.RowKit Go.Shelf
open Go.Maps (Keyed)
open And renaming intro->κ,intro->W
open Bool renaming false->σ,true->ψ,false->X,true->U
open Go renaming Addr->JM,Calls->τ,Value->π,World->ν,Calls->Y,Value->S,World->L,binOp->Xc,Lit->IA,TypeId->Λ,Oper->Le,Operand->Kg,maxLen->Ie,wpList->Ji,execOp->Xb,wpList_plain->Xt,wpList_load_mid->Xj,zeroValue->Xs,Ending->He,FrameMode->XB,leaves_cons->XI,yielded->Xg,bodyPost_ret->QM,callFunc->Xa
open Go.Ending renaming returned->ι
open Go.IntKind renaming i64->η,i64->u
open Go.Obj renaming cells->θ,cells->K,map->Lz
open Go.Proofs.Tryz renaming prog->γ,prog->N
open Go.Result renaming ok->Je,andThen->Ω
open Go.RowKit renaming Below->ρ,Hid->Φ,Below->T,intOf->QI,wrap64->Xd
open Go.Value renaming agg->Γ,bool->υ,slice->ο,string->β,agg->t,bool->z,int->Z,slice->P,string->O,map->KD,oneCell'->φ,tuple->χ,tuple->f,pointer->ξ,pointer->V,func->Hl,ownBlock->Ψ,nilFunc->IY
open Option renaming none->ζ,some->δ,none->J,some->M
open _root_ renaming rfl->A,Nat->D,List->E,Option->QV,or_false->Xf,ByteArray->B,Int->C,ByteArray->QE,Array->Q,Array->QF,and_true->QW,if_neg->QT,if_pos->QU,False->QZ,congrArg->Xl
open YtajnhfklchlahaaGreatDoor renaming Ga->F,ϑ->G,om->H,eS->I,sm->R,QD->d,Qz->e,dc->r,QC->y
open Or renaming inl->Ξ,inr->Θ,inl->o,inr->j
open Go.Oper renaming wp->Ld
open Go.Region renaming wanted->Jb
open Go.Fn renaming func->Ic
variable {w q a i:Nat}{g s l:ν}{m:π}
def YK:hD 44 32 7:=.of (z:=t Fm.dz.cs) (bytes:=72) underlying44 e r A r
def Tx:hD 82 373 2:=.of (z:=t #[G 0,I]) (bytes:=24) underlying82 e r A r
def ze (u:QV JM)(j K:D)(o:E S)(f:L)(G:(o:D)=j*7)(R:j<=1000000)(p:u=J->j=0)(q:∀d,u=M d->∀c b,o[c]?=M b->f (d.add c)=M b)(r:∀b∈o,b.oneCell'=U):
 Y N 35 #[P u j K] f λw a=>(∃O,w=ι O/\a.ownsRow f 32 7 O j o)/\T f f a:=by
 cases u with
 |none=>
  cases p A;have i:o=[]:=GH H;subst i;have t:=QC (f.ownsRow f 32 7 (P J 0 0) 0 []/\T f f f) ⟨QN,QG⟩;have y:(Xc .eql 44 (P J 0 K) (P J 0 0)).run N f=Je (υ U) f:=e;go_enter func35,ntmps35;go_wp2;go_ret;exact⟨⟨_,A,t.1⟩,t.2⟩
 |some d=>
  let⟨n,h,k⟩:=aU f (θ #[] 32);have Z:n.ownsRow f 32 7 (P f 0 0) 0 []:=h▸nW 32 7 f;have s:∀c b,o[c]?=M b->n (d.add c)=M b:=λc b x=>k.aE.ce (q d A c b x);have m:=F k.aE;have g:=k.aE.z;have v:=F s;have y:(Xc .eql 44 (P (M d) j K) (P J 0 0)).run N f=Je (υ X) f:=e;go_enter func35,ntmps35;go_wp2_with (at_builtin;apply SS YK A _ _ A A Z d K A G v.o r H H;intro O I V l);rw[GU,Ho] at V;have t:=F (W V (l.cT Z m.o g));go_ret;exact⟨⟨O,A,t.1⟩,t.2⟩
def Ty (u:QV JM)(j K:D)(o:E S)(f:L)(G:(o:D)=j*2)(R:j<=1000000)(p:u=J->j=0)(q:∀d,u=M d->∀c b,o[c]?=M b->f (d.add c)=M b)(r:∀b∈o,b.oneCell'=U):
 Y N 239 #[P u j K] f λw a=>(∃O,w=ι O/\a.ownsRow f 373 2 O j o)/\T f f a:=by
 cases u with
 |none=>
  cases p A;have i:o=[]:=GH H;subst i;have t:=QC (f.ownsRow f 373 2 (P J 0 0) 0 []/\T f f f) ⟨QN,QG⟩;have y:(Xc .eql 82 (P J 0 K) (P J 0 0)).run N f=Je (υ U) f:=e;go_enter func239,ntmps239;go_wp2;go_ret;exact⟨⟨_,A,t.1⟩,t.2⟩
 |some d=>
  let⟨n,h,k⟩:=aU f (θ #[] 373);have Z:n.ownsRow f 373 2 (P f 0 0) 0 []:=h▸nW 373 2 f;have s:∀c b,o[c]?=M b->n (d.add c)=M b:=λc b x=>k.aE.ce (q d A c b x);have m:=F k.aE;have g:=k.aE.z;have v:=F s;have y:(Xc .eql 82 (P (M d) j K) (P J 0 0)).run N f=Je (υ X) f:=e;go_enter func239,ntmps239;go_wp2_with (at_builtin;apply SS Tx A _ _ A A Z d K A G v.o r H H;intro O I V l);rw[GU,Ho] at V;have t:=F (W V (l.cT Z m.o g));go_ret;exact⟨⟨O,A,t.1⟩,t.2⟩
namespace Gt
def jX (f:Fm.gR):E S:=f.cs.toList
def nl (f:Fm.gR):(jX f:D)=7:=rfl
def jY (A:L)(K:S)(f:E Fm.gR):Prop:=∃j u t,K=P (M ⟨j,u,J⟩) f.length t/\f.length<=t/\eN A j 32/\∀(a:D) o,f[a]?=M o->∀(e:D) z,(jX o)[e]?=M z->A.cell? ⟨j,u+a*7+e,J⟩=M z
theorem jY.cT {f:E Fm.gR}(j:g.ownsRow w 32 7 m (f:D) (f.flatMap jX))(J:f≠[]):jY g m f:=by
 rcases fy (enc:=jX) nl j with⟨_,u⟩|⟨z,t,rfl,o,_,_,K⟩
 .exact absurd u J
 refine⟨z,0,t,A,o,iZ.cT j _ _ _ A,λn a q d r c=>?_⟩;have M:d<7:=by have:=(Gg.1 c).1;rwa [nl] at this
 rw[GU,K n a d q M,c]
def jY.aG {j:E Fm.gR}(A:jY g m j)(f:∀a,eN g a 32->s.heap[a]?=g.heap[a]?):jY s m j:=by
 obtain⟨a,P,J,K,M,u,O⟩:=A;refine⟨a,P,J,K,M,?_,λq k b p x c=>(GQ (w:=g) (f a u)).t (O q k b p x c)⟩;obtain⟨t,z,o⟩:=u;exact⟨t,z,(f a ⟨t,z,o⟩).t o⟩
def jY.aV {f:E Fm.gR}(K:jY g m f)(j:D):∃u o t,m=P (M ⟨u,o,J⟩) f.length t/\f.length<=t/\∀a i,((f.drop j).flatMap jX)[a]?=M i->g ((⟨u,o+j*7,J⟩:JM).add a)=M i:=by
 obtain⟨u,o,t,O,U,x,V⟩:=K;refine⟨u,o,t,O,U,λa i k=>?_⟩;have X:((f.drop j).flatMap jX).length=(f.drop j).length*7:=by
  generalize f.drop j=Z;induction Z with
  |nil=>rfl
  |cons l w b=>rw[GV,Gk,b,nl];simp;omega
 have W:=(Gg.1 k).1;rw[X] at W;obtain⟨l,z⟩:∃l,(f.drop j)[a/7]?=M l:=⟨_,Gf H⟩;have A:=hP (enc:=jX) (s:=7) nl (f.drop j) (a/7) l (a%7) z H;rw[show a/7*7+a%7=a by omega,k] at A;rw[JV] at z;rw[Nv];rw[show o+j*7+a=o+(j+a/7)*7+a%7 by omega];exact V _ _ z _ _ A.s
def Tz (f:E Fm.gR):(f.flatMap jX:D)=(f:D)*7:=by
 induction f with
 |nil=>rfl
 |cons d c b=>rw[GV,Gk,b,nl];simp;omega
def TB (f:E Fm.gR):∀b∈f.flatMap jX,b.oneCell'=U:=λb d=>by
 let⟨e,_,a⟩:=Jw.1 d;simp only[jX,Fm.gR.cs,GF,Hv,Xf] at a;rcases a with rfl|rfl|rfl|rfl|rfl|rfl|rfl<;>rfl
end Gt
namespace Gt
open Fd (bh)
structure Gs where
 p:Pl
 md:Md.dY
 R:E (IA×π)
 L:E (IA×π)
 ca:Cc.Ca
 G:Nat
 t:Nat
 T:Ls.Tb
 f:Nat
 m:Nat
 fr:C
 FL:E (IA×π)
 u:Nat
 d:Nat
 fV:C
 U:E QE
 D:E QE
 q:Nat
 QL:E (IA×π)
 os:E (C×QE)
 cg:C
 aY:C
def qx (f:C×QE):E π:=[G f.1,O f.2]
def vG (w:L)(B g:D)(S:Gs):Prop:=∃f,w.heap[g]?=K #[bh S.p.c,bh S.t,bh S.f,bh S.u,bh S.d,KD (δ S.q),G S.cg,G S.aY,f] 84/\w.ownsRow B 373 2 f S.os.length (S.os.flatMap qx)
def jZ (w:L)(t:E (IA×π)):Prop:=∀z∈t,∃u j f,z=(il u,j)/\jY w j f/\f≠[]/\f.length<=4/\∀o∈f,Fm.gh o
structure Gs.Ok (S:Gs)(B g:Nat):Prop where
 b:S.p.b=B/\2<=B
 lo:B<=g/\B<=S.t/\B<=S.u/\B<=S.d/\B<=S.q/\B<=S.m
 fV:1<=S.fV/\S.fV<=64/\S.U.length<=64/\S.D.length<=64
 ep:∀s∈S.U,s.size<=4096
 ud:S.u≠S.d
 ma:S.q≠S.p.r/\S.q≠S.p.m/\S.q≠S.p.k/\S.q≠S.m/\S.m≠S.p.r/\S.m≠S.p.m/\S.m≠S.p.k
 os:S.os.length<=2
 cg:1<=S.cg/\S.cg<=4
 aY:0<=S.aY/\S.aY<=1073741824
 cB:S.FL.length<=S.G/\S.QL.length<=S.G
 qH:S.T.Ok
structure cw (w:ν)(B g:Nat)(S:Gs):Prop where
 bO:vG w B g S
 cl:bt w S.p S.md S.R S.L S.ca S.G
 mc:Ls.cc w S.t S.T
 dy:Fd.bz w B S.f S.m S.fr S.FL
 up:Ms.bU w S.u S.fV S.U
 hX:Ms.bU w S.d S.fV S.D
 oz:bj N w 3 S.q S.QL
 qv:jZ w S.QL
 ok:S.Ok B g
 sk:eI w
variable {w w':ν}{B B' g:Nat}{S:Gs}{T:List Λ}{M:List Nat}
def vG.fz (o:vG w B g S)(j:Fz B' T M w w')(f:cM w M)(t:84∉T)(u:373∉T):vG w' B g S:=by
 let⟨l,d,e⟩:=o;exact⟨l,j.aM d t (λb=>f _ b _ _ _ d),aK e λm h=>by
  let⟨n,a⟩:=Fd.cH e h
  rw[j.aM a u (λb=>f _ b _ _ _ a),a]⟩
def jZ.fz {f:E (IA×π)}(j:jZ w f)(u:Fz B' T M w w')(t:cM w M)(o:32∉T):jZ w' f:=λn l=>by
 let⟨d,m,b,c,a,h⟩:=j n l;exact⟨d,m,b,c,a.aG λp k=>u.jJ t k o,h⟩
def dV {t:D}{o:C}{f:E QE}(z:Ms.bU w t o f)(u:Fz B' T M w w')(j:cM w M)(A:154∉T)(J:9∉T):Ms.bU w' t o f:=by
 let⟨d,e,c⟩:=z;exact⟨d,u.aM e A (λb=>j _ b _ _ _ e),aK c λp k=>by
  let⟨q,a⟩:=Fd.cH c k
  rw[u.aM a J (λb=>j _ b _ _ _ a),a]⟩
def kI {o:D}{j:Ls.Tb}(f:Ls.cc w o j)(z:Fz B' T M w w')(u:cM w M)(t:149∉T):Ls.cc w' o j:=⟨z.aM f.bO t (λa=>u _ a _ _ _ f.bO),f.cB,f.dx⟩
def cw.lt (f:cw w B g S):B<=w.heap.size:=by
 obtain⟨o,j,_⟩:=f.bO;have:=aw j;have:=f.ok.lo;omega
def cw.qy (f:cw w B g S):cM w [S.p.r,S.p.m,S.p.k]:=λq c=>by
 simp only[GF,Hv,Xf] at c;rcases c with rfl|rfl|rfl
 .exact f.cl.df.cS.bx
 .exact f.cl.cO.cS.bx
 obtain⟨bm,W,t,J,P,rfl,O,⟨A,z,o,_⟩,U⟩:=f.cl.gO;intro u V K j;rw[o] at j;cases j
def cw.fz (o:cw w B g S)(t:Fz B T M w w')(u:cM w M)(A:eI w')(f:∀h∈[84,373,32,149,152,158,178,154,101,107,73,56,181,192,9,185,518],h∉T)(z:∀k∈[S.m,S.q,S.p.r,S.p.m,S.p.k],k∉M):cw w' B g S:=
 ⟨o.bO.fz t u (f _ R) (f _ R),o.cl.fz t u (z _ R) (z _ R) (z _ R) (λh i=>f h (by simp only[GF,Hv,Xf] at i ⊢;rcases i with j|j|j|j|j|j|j|j|j<;>simp[j])),kI o.mc t u (f _ R),o.dy.fz t u (z _ R) (f _ R) (f _ R) (f _ R) (f _ R),dV o.up t u (f _ R) (f _ R),dV o.hX t u (f _ R) (f _ R),t.hW o.oz (z _ R),o.qv.fz t u (f _ R),o.ok,A⟩
def cw.aE (f:cw w B g S)(j:ρ w w w'):cw w' B g S:=
 f.fz (Fz.aE j B [] []) (λ_ c=>by cases c) (f.sk.aE j) R R
def cw.rC {P:Md.dY}{A z:E (IA×π)}{J:Cc.Ca}{u:D}(f:cw w B g S)(j:Fz B [101,192,185,518] [S.p.r,S.p.m,S.p.k] w w')(U:bt w' S.p P A z J u)(K:S.G<=u):cw w' B g {S with md:=P,R:=A,L:=z,ca:=J,G:=u}:=by
 have t:=f.qy;have o:=f.ok.ma;have V:=f.cl.dK;have O:=f.ok.b;exact⟨f.bO.fz j t sm sm,U,kI f.mc j t sm,f.dy.fz j t (by simp;exact⟨o.2.2.2.2.1,o.2.2.2.2.2.1,o.2.2.2.2.2.2⟩) sm sm sm sm,dV f.up j t sm sm,dV f.hX j t sm sm,j.hW f.oz (by simp;exact⟨o.1,o.2.1,o.2.2.1⟩),f.qv.fz j t sm,
  ⟨O,f.ok.lo,f.ok.fV,f.ok.ep,f.ok.ud,o,f.ok.os,f.ok.cg,f.ok.aY,⟨GB f.ok.cB.1 K,GB f.ok.cB.2 K⟩,f.ok.qH⟩,f.sk.at (j.dn (λp l=>by
   simp only[GF,Hv,Xf] at l
   rcases l with rfl|rfl|rfl<;>omega) f.lt) O.2⟩
def cw.WT {A:Ls.Tb}(f:cw w B g S)(z:aL (· =S.t) w w')(O:Ls.cc w' S.t A)(K:A.Ok):cw w' B g {S with T:=A}:=by
 have t:Fz B [149] [] w w':=⟨z.os,z.cb,z.aW,z.aH,λh i=>by
  by_cases J:h=S.t
  .exact j (o (J▸⟨_,_,_,f.mc.bO,by simp,f.ok.lo.2.1⟩))
  exact o (z.aG h i J)⟩
 have u:cM w []:=λ_ l=>by cases l
 exact⟨f.bO.fz t u R R,f.cl.fz t u R R R R,O,f.dy.fz t u R R R R R,dV f.up t u R R,dV f.hX t u R R,t.hW f.oz R,f.qv.fz t u R,
  ⟨f.ok.b,f.ok.lo,f.ok.fV,f.ok.ep,f.ok.ud,f.ok.ma,f.ok.os,f.ok.cg,f.ok.aY,f.ok.cB,K⟩,f.sk.at (t.dn R f.lt) f.ok.b.2⟩
def cw.BF {u:E (IA×π)}(f:cw w B g S)(j:Fz B [158,178] [S.m] w w')(z:Fd.bz w' B S.f S.m S.fr u)(A:u.length<=S.G):cw w' B g {S with FL:=u}:=by
 have o:cM w [S.m]:=eH f.dy.cS.bx;have t:=f.ok.ma;exact⟨f.bO.fz j o R R,f.cl.fz j o (by simp;exact λd=>t.2.2.2.2.1 d.s) (by simp;exact λd=>t.2.2.2.2.2.1 d.s) (by simp;exact λd=>t.2.2.2.2.2.2 d.s) R,kI f.mc j o R,z,dV f.up j o R R,dV f.hX j o R R,j.hW f.oz (by simp;exact t.2.2.2.1),f.qv.fz j o R,
  ⟨f.ok.b,f.ok.lo,f.ok.fV,f.ok.ep,f.ok.ud,f.ok.ma,f.ok.os,f.ok.cg,f.ok.aY,⟨A,f.ok.cB.2⟩,f.ok.qH⟩,f.sk.at (j.dn (by simp;exact f.ok.lo.2.2.2.2.2) f.lt) f.ok.b.2⟩
def qz {t:D}{K:C}{z:E QE}(A:Ms.bU w t K z)(f:Ms.aL w w' (· =t))(J:B<=t):Fz B [154] [] w w':=by
 let⟨m,a,l⟩:=A;exact⟨f.os,f.cb,f.aW,f.aH,λd i=>by
  by_cases u:d=t
  .exact j (o (u▸⟨_,_,_,a,R,J⟩))
  exact o (f.aG d i u)⟩
def vH {j f:D}{J t:C}{u o:E QE}(z:Ms.bU w j J u)(hd:Ms.bU w f t o)(K:Ms.aL w w' (· =j))(A:j≠f):Ms.bU w' f t o:=
 K.yj hd λn h=>by
  let⟨q,k,p⟩:=z;subst h;exact⟨A,λa d=>by rw[k] at d;cases d⟩
def cw.TZ {t:E QE}(f:cw w B g S)(u:Ms.aL w w' (· =S.u))(J:Ms.bU w' S.u S.fV t)(z:t.length<=64)(A:∀k∈t,k.size<=4096):cw w' B g {S with U:=t}:=by
 have j:=qz f.up u f.ok.lo.2.2.1;have o:cM w []:=λ_ a=>by cases a
 exact⟨f.bO.fz j o R R,f.cl.fz j o R R R R,kI f.mc j o R,f.dy.fz j o R R R R R,J,vH f.up f.hX u f.ok.ud,j.hW f.oz R,f.qv.fz j o R,
  ⟨f.ok.b,f.ok.lo,⟨f.ok.fV.1,f.ok.fV.2.1,z,f.ok.fV.2.2.2⟩,A,f.ok.ud,f.ok.ma,f.ok.os,f.ok.cg,f.ok.aY,f.ok.cB,f.ok.qH⟩,f.sk.at (j.dn R f.lt) f.ok.b.2⟩
def cw.BG {t:E QE}(f:cw w B g S)(u:Ms.aL w w' (· =S.d))(hd:Ms.bU w' S.d S.fV t)(z:t.length<=64):cw w' B g {S with D:=t}:=by
 have j:=qz f.hX u f.ok.lo.2.2.2.1;have o:cM w []:=λ_ h=>by cases h
 exact⟨f.bO.fz j o R R,f.cl.fz j o R R R R,kI f.mc j o R,f.dy.fz j o R R R R R,vH f.hX f.up u f.ok.ud.symm,hd,j.hW f.oz R,f.qv.fz j o R,
  ⟨f.ok.b,f.ok.lo,⟨f.ok.fV.1,f.ok.fV.2.1,f.ok.fV.2.2.1,z⟩,f.ok.ep,f.ok.ud,f.ok.ma,f.ok.os,f.ok.cg,f.ok.aY,f.ok.cB,f.ok.qH⟩,f.sk.at (j.dn R f.lt) f.ok.b.2⟩
def cw.Fu {t:E (IA×π)}(f:cw w B g S)(J:w.mapTurned w' S.q)(A:bj N w' 3 S.q t)(K:jZ w t)(z:t.length<=S.G):cw w' B g {S with QL:=t}:=by
 have j:Fz B [] [S.q] w w':=Fd.gC J;have o:cM w [S.q]:=eH f.oz.bx;have u:=f.ok.ma;exact⟨f.bO.fz j o R R,f.cl.fz j o (by simp;exact λc=>u.1 c.s) (by simp;exact λc=>u.2.1 c.s) (by simp;exact λc=>u.2.2.1 c.s) R,kI f.mc j o R,f.dy.fz j o (by simp;exact λc=>u.2.2.2.1 c.s) R R R R,dV f.up j o R R,dV f.hX j o R R,A,K.fz j o R,
  ⟨f.ok.b,f.ok.lo,f.ok.fV,f.ok.ep,f.ok.ud,f.ok.ma,f.ok.os,f.ok.cg,f.ok.aY,⟨f.ok.cB.1,z⟩,f.ok.qH⟩,f.sk.at (j.dn (by simp;exact f.ok.lo.2.2.2.2.1) f.lt) f.ok.b.2⟩
def cw.WU {u:E (C×QE)}{t:C}(f:cw w B g S)(j:Fz B [84,373] [] w w')(z:vG w' B g {S with os:=u,aY:=t})(J:u.length<=2)(A:0<=t/\t<=1073741824):cw w' B g {S with os:=u,aY:=t}:=by
 have o:cM w []:=λ_ a=>by cases a
 exact⟨z,f.cl.fz j o R R R R,kI f.mc j o R,f.dy.fz j o R R R R R,dV f.up j o R R,dV f.hX j o R R,j.hW f.oz R,f.qv.fz j o R,
  ⟨f.ok.b,f.ok.lo,f.ok.fV,f.ok.ep,f.ok.ud,f.ok.ma,J,f.ok.cg,A,f.ok.cB,f.ok.qH⟩,f.sk.at (j.dn R f.lt) f.ok.b.2⟩
def cw.up1 (f:cw w B g S)(j:S.G+1<=51):cw w B g {S with G:=S.G+1}:=
 ⟨f.bO,f.cl.up j,f.mc,f.dy,f.up,f.hX,f.oz,f.qv,⟨f.ok.b,f.ok.lo,f.ok.fV,f.ok.ep,f.ok.ud,f.ok.ma,f.ok.os,f.ok.cg,f.ok.aY,⟨by have:=f.ok.cB.1;show S.FL.length<=S.G+1;omega,by have:=f.ok.cB.2;show S.QL.length<=S.G+1;omega⟩,f.ok.qH⟩,f.sk⟩
end Gt
namespace Gt
open Fd (bh)
structure St where
 e:C
 bk:C
 YM:Bool
 lz:Fm.gR
 cN:E QE
 got:QE
def St.cs (x:St)(f:π):Q π:=#[x.e,x.bk,x.YM,x.lz.bq,x.lz.bI,x.lz.oT,x.lz.at_,x.lz.fe,x.lz.pJ,x.lz.ho,f,x.got]
def iG (w:L)(t:E (IA×π))(A:D):Prop:=∀x∈t,∃f O j U u,x.2=bh f/\w.heap[f]?=K #[O,j,U,u] 192/\∀o J z,j=P (δ o) J z->o.block≠A
structure cY (w:ν)(B g:D)(S:Gs)(s:D)(x:St):Prop where
 aO:cw w B g S
 st:∃v,w.heap[s]?=K (x.cs v) 35/\w.ownsRow B 9 1 v x.cN.length (x.cN.map O)/\∀k,v.ownBlock=δ k->Ms.mL w S.u k/\Ms.mL w S.d k/\iG w S.L k
 sl:x.cN.length<=1000
 lo:B<=s
structure me (S S':Gs):Prop where
 p:S'.p=S.p
 t:S'.t=S.t
 f:S'.f=S.f
 m:S'.m=S.m
 u:S'.u=S.u
 d:S'.d=S.d
 q:S'.q=S.q
 fV:S'.fV=S.fV
 cg:S'.cg=S.cg
 fr:S'.fr=S.fr
def me.bQ (S:Gs):me S S:=⟨A,A,A,A,A,A,A,A,A,A⟩
def me.aJ {z A J:Gs}(j:me z A)(o:me A J):me z J:=⟨o.p.t j.p,o.t.t j.t,o.f.t j.f,o.m.t j.m,o.u.t j.u,o.d.t j.d,o.q.t j.q,o.fV.t j.fV,o.cg.t j.cg,o.fr.t j.fr⟩
def Gz (B:D)(S:Gs)(s:D)(w w':L):Prop:=Fz B [84,373,149,158,178,154,101,192,185,518,9] [s,S.m,S.q,S.p.r,S.p.m,S.p.k] w w'
variable {w w' w2:ν}{B g s:Nat}{S S':Gs}{x:St}{T:List Λ}{M:List Nat}
def Gz.of (z:Fz B T M w w')(j:∀o∈T,o∈[84,373,149,158,178,154,101,192,185,518,9])(f:∀c∈M,c∈[s,S.m,S.q,S.p.r,S.p.m,S.p.k]):Gz B S s w w':=z.cz j f
def Gz.aJ (o:Gz B S s w w')(j:Gz B S' s w' w2)(f:me S S'):Gz B S s w w2:=by
 unfold Gz at j;rw[f.m,f.q,f.p] at j;exact Fz.aJ o j
def Gz.aE (f:ρ w w w'):Gz B S s w w':=Fz.aE f _ _ _
def iG.rv {f j:E (IA×π)}{o:D}(c:iG w f o)(u:Rv w w')(t:SI j f):iG w' j o:=λx m=>by
 let⟨e,q,d,r,c,a,i,k⟩:=c x (t x m);let⟨n,h,b⟩:=u _ _ _ _ _ i;exact⟨e,q,d,n,h,a,b,k⟩
def iG.iY {J K o:D}{O:C}{f:E (IA×π)}(z:bp w J K O f)(U:w.heap.size<=o):iG w f o:=λx k=>by
 obtain⟨V,t,Z,P,W,u,j,_⟩:=z.fP x k;obtain⟨X,hd,A⟩:=j.bO;refine⟨t,_,P,_,_,by rw[u],A,λa n e h=>?_⟩;have:=(j.adf a n e h).lt;omega
def iV {f j:D}(t:Ms.mL w f j)(o:w'.heap[f]?=w.heap[f]?):Ms.mL w' f j:=λa e=>t a (o.s.t e)
def eY {f:D}{t:C}{j:E QE}(o:Ms.bU w f t j):∃u,w.heap[f]?=K u 154:=let⟨h,e,_⟩:=o;⟨_,e⟩
def cY.turn (f:cY w B g S s x)(O:cw w' B g S')(P:Fz B T M w w')(J:cM w M)(W:35∉T)(X:9∉T)(A:154∉T)(V:Rv w w')(Z:SI S'.L S.L)(z:me S S'):cY w' B g S' s x:=by
 let⟨c,a,k,e⟩:=f.st;have aM:∀{j:D} {u:Q π} {t:Λ},w.heap[j]?=K u t->t∉T->w'.heap[j]?=w.heap[j]?:=fun{j u t} o U=>by rw[P.aM o U (λF=>J _ F _ _ _ o),o]
 let⟨i,n⟩:=eY f.aO.up;let⟨I,hd⟩:=eY f.aO.hX;refine⟨O,⟨c,(aM a W).t a,aK k λl d=>?_,λl d=>?_⟩,f.sl,f.lo⟩
 .let⟨H,b⟩:=Fd.cH k d;exact aM b X
 let⟨q,r,h⟩:=e l d;rw[z.u,z.d];exact⟨iV q (aM n A),iV r (aM hd A),h.rv V Z⟩
def cY.aE (a:cY w B g S s x)(f:ρ w w w'):cY w' B g S s x:=
 a.turn (a.aO.aE f) (Fz.aE f B [] []) (λ_ c=>by cases c) R R R (.aE f) (λ_ a=>a) (.bQ S)
def cY.Bs (j:cw w B g S)(t:w.heap[s]?=K (x.cs (P J 0 0)) 35)(f:x.cN=[])(o:B<=s):cY w B g S s x:=
 ⟨j,⟨_,t,by rw[f];exact QN,λa b=>by cases b⟩,by rw[f];simp,o⟩
def cY.Fv (a:cY w B g S s x)(j:Fz B T [] w w')(f:∀t∈[84,373,32,149,152,158,178,154,101,107,73,56,181,192,9,185,518],t∉T)(o:35∉T):cY w' B g S s x:=
 a.turn (a.aO.fz j (λ_ b=>by cases b) (a.aO.sk.at (j.dn R a.aO.lt) a.aO.ok.b.2) f R) j (λ_ b=>by cases b) o (f _ R) (f _ R) (.fz j (λ_ b=>by cases b) (f _ R)) (λ_ a=>a) (.bQ S)
def On {k A m:Nat}{room:Int}{L:List (IA×π)}{D:QF π}(a:bp w A m room L)(o:aL (· =k) w w')(i:w.heap[k]?=θ D 9)(N:iG w L k):bp w' A m room L where
 bO:=o.aM a.bO (Fd.fQ a.bO i dc)
 cS:=a.cS.aM (o.aG _ a.cS.lt (λe=>by subst e;exact a.cS.bx _ _ _ i))
 fP x hx:=by
  let⟨j4,b,j9,G,k1,e,d,j2⟩:=a.fP x hx;refine⟨j4,b,j9,G,k1,e,?_,j2⟩;let⟨C,j6,R,j5,Q,l,h,k0⟩:=N x hx;let⟨j3,hd,j7⟩:=d.bO;obtain rfl:b=C:=by rw[e] at l;exact Fd.nZ l
  rw[j7] at h;simp only[Gd,Hq,IU,GN] at h;obtain⟨⟨-,rfl,-⟩,-⟩:=h;have v:km w' G k1:=⟨by
   rcases d.jJ with E|⟨g,q,c,rfl,F,I,H⟩
   .exact Ξ E
   .exact Θ ⟨g,q,c,rfl,λj8 y j0=>o.dN (F j8 y j0) (k0 ⟨g,q,ζ⟩ _ _ rfl),GP I o.aH,H⟩,λp n c r=>by
   let⟨cs,fr,j1⟩:=d.adf p n c r
   exact⟨cs,fr,o.aM j1 (k0 p n c r)⟩⟩
  exact⟨⟨j3,hd,o.aM j7 (Fd.fQ j7 i dc)⟩,v.1,d.aH,d.cB,d.UU,v.2⟩
 cB:=a.cB
def cw.aaz {z:D}{U:Q π}(f:cw w B g S)(t:aL (· =z) w w')(J:w.heap[z]?=K U 9)(X:B<=z)(b:Ms.mL w S.u z)(hd:Ms.mL w S.d z)(q:iG w S.L z):cw w' B g S:=by
 have u:Fz B [9] [] w w':=⟨t.os,t.cb,t.aW,t.aH,λa p=>by
  by_cases O:a=z
  .exact j (o (O▸⟨_,_,_,J,by simp,X⟩))
  exact o (t.aG a p O)⟩
 have A:cM w []:=λ_ c=>by cases c
 have P:Ms.aL w w' (· =z):=⟨t.os,t.cb,t.aW,t.aH,t.aG⟩;obtain⟨h,v⟩:=eY f.up;obtain⟨e,d⟩:=eY f.hX;have Z:bt w' S.p S.md S.R S.L S.ca S.G:=by
  obtain⟨y,V,W⟩:=f.cl.bO;exact⟨⟨y,u.aM V sm sm,W.fz u A sm sm sm⟩,f.cl.ok,f.cl.df.fz u sm,On f.cl.cO t J q,bM.fz f.cl.gO u A sm sm sm,f.cl.fc,f.cl.cg,f.cl.next,f.cl.rq,f.cl.ru,f.cl.ry,f.cl.rz,f.cl.dK,f.cl.ep⟩
 exact⟨f.bO.fz u A sm sm,Z,kI f.mc u A sm,f.dy.fz u A sm sm sm sm sm,P.tT f.up (Fd.fQ v J r) b,P.tT f.hX (Fd.fQ d J r) hd,u.hW f.oz sm,f.qv.fz u A sm,f.ok,f.sk.at (u.dn sm f.lt) f.ok.b.2⟩
def cY.cN {t o:π}{l:QE}(d:cY w B g S s x)(U:w.heap[s]?=K (x.cs t) 35)(u:w.ownsRow B 9 1 t (x.cN:D) (x.cN.map O))(Z:∀a,t.ownBlock=δ a->Ms.mL w S.u a/\Ms.mL w S.d a/\iG w S.L a)
 (f:aL (λa=>t.ownBlock=δ a) w w') (G:w'.ownsRow B 9 1 o ((x.cN:D)+1) (x.cN.map O++[O l])) (Y:o.ownBlock=t.ownBlock\/o.ownBlock=δ ((w:D)+1)) (a1:(x.cN:D)+1<=1000):
 w' (s,10)=t/\w'.frozen? (s,10)=σ/\cY (w'.setCell (s,10) o) B g S s {x with cN:=x.cN++[l]}/\Gz B S s w (w'.setCell (s,10) o):=by
 have a0:t.ownBlock≠δ s:=λb=>by
  let⟨e,c⟩:=Fd.cH u b;exact Fd.fQ U c r A
 have V:cw w' B g S:=by
  cases J:t.ownBlock with
  |none=>exact d.aO.aE ⟨f.os,f.cb,f.aW,f.aH,λa h=>f.aG a h (by simp[J])⟩
  |some a=>
   let⟨e,c⟩:=Fd.cH u J;let⟨m,n,y⟩:=Z a J;exact d.aO.aaz (f.cz λa7 _ b=>by rw[J] at b;exact(Gm b).s) c (bG u J).1 m n y
 have P:w'.heap[s]?=K (x.cs t) 35:=f.aM U a0;have z:=aF (j:=10) o P;have I:Fz B [35] [] w' (w'.setCell (s,10) o):=Fz.cV z P R d.lo [];have N:cM w' []:=λ_ a2=>by cases a2
 have L:cw (w'.setCell (s,10) o) B g S:=V.fz I N (V.sk.at (I.dn R V.lt) V.ok.b.2) R R;have a3:∀a,o.ownBlock=δ a->a≠s:=λa b=>by
  let⟨e,c⟩:=Fd.cH G b;exact(Fd.fQ P c r).symm
 let⟨a6,v⟩:=eY d.aO.up;let⟨a5,q⟩:=eY d.aO.hX;have W:∀{k:D} {F:Q π},w.heap[k]?=K F 154->(w'.setCell (s,10) o).heap[k]?=w.heap[k]?:=fun{k F} X=>(z.old k (Fd.fQ X U r)).t (f.aG k (aw X) λb=>by
  let⟨e,c⟩:=Fd.cH u b
  exact Fd.fQ X c r A)
 have i:Rv w (w'.setCell (s,10) o):=λk l i a4 hd b=>⟨a4,hd,by
  rw[z.old k (Fd.fQ b U r),f.aM b λp=>by
   let⟨e,c⟩:=Fd.cH u p
   exact Fd.fQ b c r A]⟩
 refine⟨cR P A,aI P 10,⟨L,⟨o,z.at_,aK (sU G) λa h=>z.old a (a3 a h),λa h=>?_⟩,sU a1,d.lo⟩,?_⟩
 .rcases Y with b|b
  .let⟨m,n,y⟩:=Z a (b▸h);exact⟨iV m (W v),iV n (W q),y.rv i (λ_ d=>d)⟩
  rw[b] at h;have h:=Gm h;exact⟨Ms.qV d.aO.up (W v) H,Ms.qV d.aO.hX (W q) H,(iG.iY d.aO.cl.cO H).rv i (λ_ d=>d)⟩
 refine⟨f.os,f.cb,f.aW,z.aH▸f.aH,λa h=>?_⟩;by_cases b:a=s
 .exact Θ (Θ (by simp[b]))
 by_cases p:t.ownBlock=δ a
 .let⟨e,c⟩:=Fd.cH u p;exact Θ (Ξ ⟨_,_,_,c,R,(bG u p).1⟩)
 exact Ξ ((z.old a b).t (f.aG a h p))
def cY.hX {t:QE}(a:cY w B g S s x)(f:Ms.aL w w' (· =S.d))(hd:Ms.bU w' S.d S.fV (Ms.iM S.fV S.D t))(h:Ms.RR w w' S.d S.fV\/w'.heap[S.d]?=w.heap[S.d]?):cY w' B g {S with D:=Ms.iM S.fV S.D t} s x/\Gz B S s w w':=by
 have P:(Ms.iM S.fV S.D t).length<=64:=by
  unfold Ms.iM;have:=a.aO.ok.fV;split
  .rw[Gk];simp;omega
  exact this.2.2.2
 obtain⟨O,J,o,V⟩:=a.st;obtain⟨G,U⟩:=eY a.aO.up;obtain⟨F,A⟩:=eY a.aO.hX;have K:=qz a.aO.hX f a.aO.ok.lo.2.2.2.1;have W:Rv w w':=.fz K (λ_ b=>by cases b) R;refine⟨⟨a.aO.BG f hd P,⟨O,f.aM J (Fd.fQ J A r),aK o λc e=>?_,λc e=>?_⟩,a.sl,a.lo⟩,Gz.of K R R⟩
 .obtain⟨i,u⟩:=Fd.cH o e;exact f.aG c (aw u) (Fd.fQ u A r)
 obtain⟨X,Z,d⟩:=V c e;refine⟨iV X (f.aG S.u (aw U) a.aO.ok.ud),?_,d.rv W (λ_ a=>a)⟩;rcases h with⟨I,v,y⟩|j
 .intro k b H z j;rw[v] at b;simp only[Gd,Hq,QW] at b;subst b;simp only[List.mem_toArray,GF,Hv,Xf] at z;rcases z with rfl|rfl
  .cases j
  have:=y c j;have:=(bG o e).2;omega
 exact iV Z j
end Gt
section
variable {t e size base n:Nat}{v:π}{xs:List π}{W w:ν}
def ad7 {J:Q Le}{O:E Le}{j:Le}{o:Act}{z:Exit->Act->ν->Prop}(u:hD t e size)(Z:j.guard=ζ)(s x:Kg)(R:j.op=.call {callee:=.builtin .append,args:=#[s,x],argTypes:=#[t,t]})
 (i:o.eval s=v) (T:W.ownsRow base e size v n xs) (P:o.eval x=ο W 1 1) (f:Q π) (X:f.size=size) (V:∀a∈f.toList,a.oneCell'=ψ) (a1:n+1<=1000000) (a0:base<=(W:D))
 (U:∀b w',w'.ownsRow base e size b (n+1) (xs++f.toList)->aL (λg=>v.ownBlock=M g) W w'->(b.ownBlock=v.ownBlock\/b.ownBlock=M ((W:D)+1))->Ji N J z O (o.put j.dst b) w'):Ji N J z (j::O) o (W.alloc (K f e)):=by
 refine Xt Z λY p=>?_;let⟨m,q,y,F,h,r,G⟩:=u.inf;let⟨b,w',d,l,c,_,L⟩:=run_append_own_at (P:=N) (W.alloc (K f e)) base t j.type e m q size m.bytes u.ut y F h A G u.Rk v n xs (T.alloc _) W 1 1 f.toList (sU X) (λa2 a k=>by
  rw[Jg,GU,QH (Gc W _)];simpa using k) V (by unfold Ie;omega) (oA (No (om:n+1<=1000000) r)) QB
 simp[Ld,Xb,R,resolve,invoke,builtin,i,P,d,Ω];refine p _ _ (U b w' l ⟨c.os,c.tape,c.output,?_,λH I i=>?_⟩ (sU L))
 .have:=c.size;simp at this;omega
 exact(c.block H QB (λe=>i e.s)).t (QP I)
end
namespace Gt
open Fd (bh)
variable {w w' w2:ν}{B g s:Nat}{S S':Gs}{x:St}
def cw.aV (j:cw w B g S):w g=bh S.p.c/\w (g,1)=bh S.t/\w (g,2)=bh S.f/\w (g,3)=bh S.u/\w (g,4)=bh S.d/\w (g,5)=KD (M S.q)/\w (g,6)=S.cg/\w (g,7)=S.aY:=by
 obtain⟨o,f,_⟩:=j.bO;exact⟨cR f A,cR f A,cR f A,cR f A,cR f A,cR f A,cR f A,cR f A⟩
def WV (w:L)(B g:Nat)(S:Gs)(s:Nat)(x:St)(t:QE)(w':L):Prop:=cY w' B g {S with D:=Ms.iM S.fV S.D t} s {x with cN:=x.cN++[t]}/\Gz B S s w w'
def nw (t:QE)(w:ν)(J:cY w B g S s x)(H:(x.cN:Nat)+1<=1000):Y γ 72 #[bh g,t,bh s] w λe w'=>e=f #[]/\WV w B g S s x t w':=by
 let⟨v,k,h,m⟩:=J.st;obtain⟨Z,a,rfl⟩:=aR h;have p:=cJ 10 k;have i:=J.aO.lt;have o:=F (κ J (κ k (κ h m)));generalize U:(x.cN:Nat)=K at p H;have j:=F U;have X:w.ownsRow B 9 1 (P Z K a) K (x.cN.map β):=by rwa[<-U]
 go_enter func72,ntmps72;go_wp2_with (at_builtin;apply ad7 hO A _ _ A A X A #[t] A QA om i;intro T I b l L;obtain⟨d,c5,rfl⟩:=aR b;obtain⟨q,R,e3,O⟩:=o.1.cN o.2.1 o.2.2.1 o.2.2.2 (by rwa[j.o]) (by rwa[j.o]) (by rwa[j.o]) (by rwa[j.o]);rw[j.o] at q;generalize N:I.setCell (s,10) (P d (K+1) c5)=c at e3 O;have u:=F (κ e3 O);have c4:=e3.aO.aV.2.2.2.2.1);have G:=F (Ms.tU S.d S.fV t S.D c u.1.aO.hX u.1.aO.ok.fV.2.1);go_call G.o as e M ⟨rfl,y,z,r⟩;have V:=F (u.1.hX z y r);go_wp2;go_end0;exact⟨A,V.1,Gz.aJ u.2 V.2 (.bQ S)⟩
end Gt
namespace Gt
open Fd (bh)
variable {w w' w2:ν}{B g s:Nat}{S S':Gs}{x x':St}
def cY.Ua {j:D}{u:π}(a:cY w B g S s x)(e:∀b,(x.cs b).setIfInBounds j u=x'.cs b)(z:x'.cN=x.cN):w.frozen? (s,j)=X/\cY (w.setCell (s,j) u) B g S s x'/\Gz B S s w (w.setCell (s,j) u):=by
 let⟨b,c,m,y⟩:=a.st;have f:=aF (j:=j) u c;have t:Fz B [35] [] w (w.setCell (s,j) u):=Fz.cV f c R a.lo [];let⟨H,v⟩:=eY a.aO.up;let⟨G,l⟩:=eY a.aO.hX;have J:(w.setCell (s,j) u).ownsRow B 9 1 b (x.cN:D) (x.cN.map O):=aK m λd i=>f.old d λh=>by
  let⟨F,q⟩:=Fd.cH m i;exact Fd.fQ q c r h
 refine⟨aI c j,⟨a.aO.fz t (λ_ e=>by cases e) (a.aO.sk.at (t.dn R a.aO.lt) a.aO.ok.b.2) R R,⟨b,by rw[<-e];exact f.at_,by rwa[z],λd i=>?_⟩,z▸a.sl,a.lo⟩,?_⟩
 .let⟨n,k,p⟩:=y d i;exact⟨iV n (f.old _ (Fd.fQ v c r)),iV k (f.old _ (Fd.fQ l c r)),p.rv (.fz t (λ_ e=>by cases e) R) (λ_ a=>a)⟩
 refine⟨A,A,A,Iu f.aH.s,λd i=>?_⟩;by_cases h:d=s
 .exact Θ (Θ (by simp[h]))
 exact o (f.old d h)
def cY.Ub (o:cY w B g S s x){f:D}{j:π}(u:f≠10)(t:∀b,(x.cs b)[f]?=j):w (s,f)=j:=let⟨b,a,_⟩:=o.st;cR a (t b)
def afr (f:Fm.gR)(j:C):Fm.Rp:=⟨f.bI,f.oT,j,0,⟨#[]⟩,P J 0 0,⟨#[]⟩,X⟩
def Fw (w:L)(B g:Nat)(S:Gs)(s:Nat)(x:St)(w':L):Prop:=∃j f,cY w' B g {S with D:=j} s {x with cN:=f}/\f.length<=x.cN.length+1/\Gz B S s w w'
def mf (j:Fm.Rp)(o:E dh)(w:L)(u:cq w j.es o)(t:(o:D)<=1000000):Y N 133 #[j.cs] w λe w'=>(∃(a:QE) (i:C),e=f #[a,i])/\T w w w':=by
 go_call Fm.sf (λd=>d=U->Fm.WB j o) j o w u t (λb=>b A) (λw b=>(Fm.DB j o w b t).m λe w' b=>b) as e w' ⟨⟨_,rfl⟩|⟨_,rfl⟩,d⟩<;>exact⟨⟨_,_,A⟩,d⟩
def eR (M:Fm.gR)(z:C)(w:L)(V:cY w B g S s x)(b:(x.cN:Nat)+1<=1000):Y N 148 #[bh g,M.cs,z,bh s] w λl w'=>l=f #[]/\Fw w B g S s x w':=by
 let⟨c,a,e,aa,i,h,d⟩:=M;have Z:=bo w (K #[c,a,e,aa,i,h,d] 32);have p:=F (λv=>mf (afr ⟨c,a,e,aa,i,h,d⟩ z) [] v (Ξ ⟨J,0,A,A⟩) R);have u:=F (W V Z.aE);show Y N 148 #[bh g,Γ #[c,a,e,aa,i,h,d],G z,bh s] w _;go_enter func148,ntmps148;go_wp2_with fail;go_call p.o _ as l m ⟨⟨t,n,rfl⟩,b1⟩;have O:T w w m:=u.2.t (b1.m u.2.z);have j:=F (W (u.1.aE O) O);by_cases P:n=0
 .subst P;have y:=F (nw t m j.1 b);go_wp2_with fail;go_call y.o as l w2 ⟨rfl,k,o⟩;have U:=F (W k ((Gz.aE j.2).aJ o (.bQ S)));go_wp2;go_end0;exact⟨A,_,_,U.1,R,U.2⟩
 have E:(n==0)=X:=by simp[P]
 go_wp2;go_end0;exact⟨A,S.D,x.cN,j.1,H,Gz.aE j.2⟩
def vI (S:Gs)(f:C):D:=if f<0 then S.d else S.u
def jf (f:C):C:=if f<0 then -1-f else f
def zl (j:C)(w:L)(z:cw w B g S)(J: -9223372036854775808<=j/\j<=9223372036854775807):Y N 73 #[bh g,j] w λe w'=>e=f #[bh (vI S j),G (jf j)]/\w=w':=by
 let⟨_,_,_,a,c4,_⟩:=z.aV;by_cases t:j<0
 .have K:η.wrap (-1-j)= -1-j:=QQ H;have o:=y (vI S j=S.d/\jf j= -1-j) ⟨QU t,QU t⟩;go_enter func73,ntmps73;go_wp2;go_ret2;exact⟨by rw[o.1,o.2];rfl,A⟩
 have o:=y (vI S j=S.u/\jf j=j) ⟨QT t,QT t⟩;go_enter func73,ntmps73;go_wp2;go_ret2;exact⟨by rw[o.1,o.2];rfl,A⟩
end Gt
def rD (w:L):(Xs 44).run N w=Je (P J 0 0) w:=e
def vJ {w:L}{B f j t o:D}{u:π}{z:E π}(a:w.ownsRow f j t u o z)(A:B<=f):w.ownsRow B j t u o z:=⟨a.1,a.2.imp (λa=>a) λ⟨g,l,m,i,b,k⟩=>⟨g,l,m,i,GB A b,k⟩⟩
namespace Gt
open Fd (bh)
variable {w w' w2:ν}{B g s:Nat}{S S':Gs}{x x':St}
def oh (o j:E (IA×π)):Prop:=∀f,f∈o.map Prod.fst->f∈j.map Prod.fst
def oh.bQ (f:E (IA×π)):oh f f:=λ_ b=>b
def oh.aJ {f j o:E (IA×π)}(t:oh f j)(u:oh j o):oh f o:=λx e=>u x (t x e)
def oh.be (kl:IA)(f:E (IA×π)):oh (be kl f) f:=λe b=>by
 obtain⟨o,j,rfl⟩:=GL.1 b;exact GL.2 ⟨o,(GX.1 j).1,A⟩
def jg (f:E (IA×π))(id:C):D:=match aT f (il id) with
 |some (P _ b _)=>b
 |_=>0
def aa0:π->QV D
 |P (M a) _ _=>M a.block
 |_=>J
def sH (f:E (IA×π))(j:D):Prop:=∀x∈f,aa0 x.2≠M j
def iW (w:L)(B g:D)(S:Gs)(id:C)(o:Fm.gR)(t:Bool)(w':L):Prop:=
 (t=X/\aT S.QL (il id)=J/\T w w w')\/
 (t=U/\∃f u z,aT S.QL (il id)=M u/\jY w u (o::z)/\Fm.gh o/\cw w' B g {S with QL:=f}/\Fz B [] [S.q] w w'/\oh f S.QL/\f.length<=S.QL.length/\jg f id<jg S.QL id/\∀j,j<w.heap.size->sH S.QL j->sH f j)
def jZ.aT {j:E (IA×π)}(t:jZ w j){id:C}{f:π}(o:Go.Proofs.YtajnhfklchlahaaGreatDoor.aT j (il id)=f):∃b a,jY w f (b::a)/\(b::a).length<=4/\∀x∈b::a,Fm.gh x:=by
 unfold Go.Proofs.YtajnhfklchlahaaGreatDoor.aT at o;obtain⟨O,M,rfl⟩:=Jd.1 o;obtain⟨P,f,a,rfl,u,z,J,K⟩:=t O (Lm M);cases a with
 |nil=>exact absurd A z
 |cons b a=>exact⟨b,a,u,J,K⟩
def jZ.be {f:E (IA×π)}(j:jZ w f)(kl:IA):jZ w (be kl f):=λx c=>j x (GX.1 c).1
def jZ.fR {f:E (IA×π)}(t:jZ w f)(A:∀a,eN w a 32->w'.heap[a]?=w.heap[a]?):jZ w' f:=λx b=>by
 obtain⟨J,K,j,o,u,z⟩:=t x b;exact⟨J,K,j,o,u.aG A,z⟩
def lh {f:E (IA×π)}{kl:IA}{u:π}(j:aT f kl=u):(be kl f:D)<(f:D):=by
 unfold aT at j;obtain⟨t,o,rfl⟩:=Jd.1 j;refine List.length_filter_lt_length_iff_exists.2 ⟨t,Lm o,?_⟩;simpa using Qa o
def cw.fzq {J:E Λ}{A:E D}(o:cw w B g S)(t:Fz B J A w w')(u:cM w A)(M:eI w')(K:jZ w' S.QL)(f:∀i∈[84,373,149,152,158,178,154,101,107,73,56,181,192,9,185,518],i∉J)(z:∀x∈[S.m,S.q,S.p.r,S.p.m,S.p.k],x∉A):cw w' B g S:=
 ⟨o.bO.fz t u (f _ R) (f _ R),o.cl.fz t u (z _ R) (z _ R) (z _ R) (λi k=>f i (by simp only[GF,Hv,Xf] at k ⊢;rcases k with j|j|j|j|j|j|j|j|j<;>simp[j])),kI o.mc t u (f _ R),o.dy.fz t u (z _ R) (f _ R) (f _ R) (f _ R) (f _ R),dV o.up t u (f _ R) (f _ R),dV o.hX t u (f _ R) (f _ R),t.hW o.oz (z _ R),K,o.ok,M⟩
def xK {id:C}{O:Fm.gR}{W:E Fm.gR}{V:π}{j:D}{l:Q π}{f:E (IA×π)}{u t:L}(X:cw w B g S)(Y:aT S.QL (il id)=V)(r:jY w V (O::W))(d:Fm.gh O)(N:cw u B g S)(k:ρ w w u)(a0:(w:D)<=j)
 (P:u.mapTurned t S.q) (c:bj γ t 3 S.q f) (Z:∀o:L,(∀b,b<(u:D)->b≠j->b≠S.q->o.heap[b]?=u.heap[b]?)->jZ o f) (G:oh f S.QL) (a:(f:D)<=(S.QL:D)) (h:jg f id<jg S.QL id) (F:∀j,j<(w:D)->sH S.QL j->sH f j) {o:L} (T:t.heap[j]?=K l 32) {I:Q π} (U:bd t o j (K I 32)):iW w B g S id O ψ o:=by
 have a1:=X.lt;have M:cw t B g {S with QL:=f}:=N.Fu P c (Z u λ_ _ _ _=>rfl) (oA X.ok.cB.2);have z:Fz B [32] [] t o:=Fz.cV U T R H [];have p:cw o B g {S with QL:=f}:=M.fzq z (λ_ i=>by cases i) (M.sk.at (z.dn R M.lt) M.ok.b.2) (Z o λb y m n=>(U.old b m).t ((Fd.gC (B:=B) P).aG b y|>.elim (λe=>e) λe=>e.elim (λ⟨_,_,_,_,e,_⟩=>by cases e) λe=>absurd (GA.1 e) n)) R R;refine Θ ⟨A,f,V,W,Y,r,d,p,?_,G,a,h,F⟩;have J:Fz B [] [S.q] w t:=(Fz.aE k B [] [S.q]).aJ (Fd.gC P);exact⟨z.os.t J.os,z.cb.t J.cb,z.aW.t J.aW,GB J.aH z.aH,λq v=>U.old q H▸J.aG q v⟩
def rE (id:C)(w:ν)(M:cw w B g S)(f9: -9223372036854775808<=id/\id<=9223372036854775807):τ γ 68 #[bh g,G id] w λh w'=>∃Y V,h=χ #[Γ Y.cs,υ V]/\iW w B g S id Y V w':=by
 have u:=bo w (K #[G 0,G 0,G 0,G 0,I,I,G 0] 32);have t:=M.aE u.aE;have z:=t.oz;let⟨_,_,_,_,_,c5,_⟩:=t.aV;have k:=kG f9;have f7:=u.at_;cases o:aT S.QL (il id) with
 |none=>
  have b6:=Ga (κ o u.aE);have o:(aT S.QL (il id)).getD (ο ζ 0 0)=ο ζ 0 0:=by rw[o];rfl
  go_enter func68,ntmps68;go_wp2_with (at_lookup;refine wL eX JX (rD _) z k ?_;rw[o]);exact qG kf f7 ⟨Fm.dz,σ,A,Ξ ⟨A,b6.1,b6.2⟩⟩
 |some d1=>
  let⟨Y,c0,b9,f4,b5⟩:=M.qv.aT o;have e0:=b5 Y sm;have f:=Ga (κ o (κ b9 (κ e0 (κ f4 b5))));let⟨ab,ag,af,c8,d6,g3,d8⟩:=b9;let⟨g4,h5,c1,b2,g7,g2⟩:=f.2.1.aV 1;rw[c8] at b2;simp only[Gy,Gd,GS,QW,true_and] at b2;obtain⟨⟨rfl,rfl⟩,rfl⟩:=b2;subst c8;let⟨a,c,b,aa,e,d,i⟩:=Y;have o:(aT S.QL (il id)).getD (ο ζ 0 0)=ο (ab,ag) (c0.length+1) af:=by rw[o];rfl
  have W:=bo (w.alloc (K #[G 0,G 0,G 0,G 0,I,I,G 0] 32)) (K #[G a,G c,G b,G aa,O e,O d,G i] 32);have s1:=u.aH;have c7:(w.alloc (K #[G 0,G 0,G 0,G 0,I,I,G 0] 32)).rangeAt ab ag (jX ⟨a,c,b,aa,e,d,i⟩):=λb4 d1 a9=>u.aE.ce (by simpa using d8 0 _ A b4 d1 a9);have g1:=M.lt;have X:cw ((w.alloc (K #[G 0,G 0,G 0,G 0,I,I,G 0] 32)).alloc (K #[G a,G c,G b,G aa,O e,O d,G i] 32)) B g S/\ρ w w ((w.alloc (K #[G 0,G 0,G 0,G 0,I,I,G 0] 32)).alloc (K #[G a,G c,G b,G aa,O e,O d,G i] 32))/\((w.alloc (K #[G 0,G 0,G 0,G 0,I,I,G 0] 32)).alloc (K #[G a,G c,G b,G aa,O e,O d,G i] 32)).heap[w.heap.size]?=K #[G 0,G 0,G 0,G 0,I,I,G 0] 32/\((w.alloc (K #[G 0,G 0,G 0,G 0,I,I,G 0] 32)).alloc (K #[G a,G c,G b,G aa,O e,O d,G i] 32)).heap[w.heap.size+1]?=K #[G a,G c,G b,G aa,O e,O d,G i] 32/\((w.alloc (K #[G 0,G 0,G 0,G 0,I,I,G 0] 32)).alloc (K #[G a,G c,G b,G aa,O e,O d,G i] 32)).heap.size=w+2:=by
   have F:ρ w w ((w.alloc (K #[G 0,G 0,G 0,G 0,I,I,G 0] 32)).alloc (K #[G a,G c,G b,G aa,O e,O d,G i] 32)):=u.aE.t (W.aE.m H);have c3:=W.at_;rw[s1] at c3;exact⟨M.aE F,F,(W.old _ H).t u.at_,c3,by rw[W.aH,s1]⟩
  have c5:=X.1.aV.2.2.2.2.2.1;have d4:=X.1.oz;have j:=Ga (κ M X);have Z:=Ga d6;cases c0 with
  |nil=>
   have c6:=QC (∀l,bj γ l 3 S.q (be (il id) S.QL)->((w.alloc (K #[G 0,G 0,G 0,G 0,I,I,G 0] 32)).alloc (K #[G a,G c,G b,G aa,O e,O d,G i] 32)).mapTurned l S.q->l.heap[w.heap.size]?=K #[G 0,G 0,G 0,G 0,I,I,G 0] 32/\l.heap[w.heap.size+1]?=K #[G a,G c,G b,G aa,O e,O d,G i] 32/\∀m,bd l m w (K #[G a,G c,G b,G aa,O e,O d,G i] 32)->iW w B g S id ⟨a,c,b,aa,e,d,i⟩ ψ m) λl q ai=>by
    let⟨ae,F,e3,v,am⟩:=j.2;have z:=eH ae.oz.bx;have P:=Fd.gC (B:=B) ai;have y:=P.aM e3 sm (λq=>z _ q _ _ _ e3);have U:=lh f.1;refine⟨y,P.aM v sm (λq=>z _ q _ _ _ v),λm a2=>?_⟩;refine xK j.1 f.1 f.2.1 f.2.2.1 ae F QD ai q (λm ao=>?_) (.be _ _) H ?_ (λn _ k x f6=>k x (GX.1 f6).1) y a2
    .refine(j.1.qv.be _).fR λn k=>?_;let⟨e7,f8,h⟩:=k;have U:=aw h;exact(ao n H H λL=>j.1.oz.bx _ _ _ (L▸h)).t (F.b n U)
    unfold jg;rw[qJ,f.1];simp
   go_enter func68,ntmps68;go_wp2_with (first|(at_lookup;refine wL eX JX (rD _) z k ?_;rw[o])|(refine Xj A 32 _ A ab ag A [G a,G c,G b,G aa,O e,O d,G i] _ c7 KI A kf.aH ?_)|(at_delete;refine kJ A _ _ 81 3 A 44 eX JX S.q S.QL A d4 _ _ A k ?_;intro l d9 e1;let⟨b3,y,a5⟩:=c6.o l d9 e1;have a8:=Ga a5)|(refine oc kf y ?_)|(refine ia kf b3 ?_;intro m a2));exact qG kf a2.at_ ⟨⟨a,c,b,aa,e,d,i⟩,ψ,A,a8.o m a2⟩
  |cons x p=>
   have e4:=QC (∀l,ρ ((w.alloc (K #[G 0,G 0,G 0,G 0,I,I,G 0] 32)).alloc (K #[G a,G c,G b,G aa,O e,O d,G i] 32)).heap.size ((w.alloc (K #[G 0,G 0,G 0,G 0,I,I,G 0] 32)).alloc (K #[G a,G c,G b,G aa,O e,O d,G i] 32)) l->l (g,5)=KD (δ S.q)/\∀r,l.ownsRow ((w.alloc (K #[G 0,G 0,G 0,G 0,I,I,G 0] 32)).alloc (K #[G a,G c,G b,G aa,O e,O d,G i] 32)).heap.size 32 7 r (x::p).length ((x::p).flatMap jX)->∃m,(Instr.mapUpdate 81 (KD (δ S.q)) (G id) r).run γ l=Je () m/\m (g,5)=KD (δ S.q)/\m.heap[w.heap.size]?=K #[G 0,G 0,G 0,G 0,I,I,G 0] 32/\m.heap[w.heap.size+1]?=K #[G a,G c,G b,G aa,O e,O d,G i] 32/\∀aj,bd m aj w (K #[G a,G c,G b,G aa,O e,O d,G i] 32)->iW w B g S id ⟨a,c,b,aa,e,d,i⟩ ψ aj) λl R=>by
    let⟨ae,F,e3,v,am⟩:=j.2;have J:=ae.aE R;refine⟨J.aV.2.2.2.2.2.1,λr N=>?_⟩;let⟨m,b0,q,ai⟩:=J.oz.cO eX JX (by have:=ae.ok.cB.2;have:=ae.cl.rz;unfold Ie;omega) k (val:=r);have z:=eH J.oz.bx;have P:=Fd.gC (B:=B) ai;have e3:=R.ke e3;have v:=R.ke v;have y:=P.aM e3 sm (λq=>z _ q _ _ _ e3);have U:=lh f.1;refine⟨m,b0,P.dN J.aV.2.2.2.2.2.1 (λh6 f3=>by cases GA.1 f3;exact J.oz.gb) (λ_ _ _ _=>by simp),y,P.aM v sm (λq=>z _ q _ _ _ v),λaj a3=>?_⟩;obtain⟨d2,e2,rfl⟩:=aR N;refine xK j.1 f.1 f.2.1 f.2.2.1 J (F.t (R.m F.z)) QD ai q (λm ao=>?_) ?_ (by rw[Gx];omega) ?_ (λn k f5 ak T=>by
     rcases GF.1 T with rfl|T
     .cases d2 with
      |none=>intro h;cases h
      |some ah=>
       intro h
       have t:ah.block=n:=Gm h
       rcases N.2 with⟨L,_⟩|⟨b7,g0,e8,L,g6,_⟩
       .cases L
       have e3:ah=b7:=by simpa using(Value.slice.inj L).1
       rw[e3] at t
       change b7=n at t
       omega
     exact f5 ak (GX.1 T).1) y a3
    .intro ak T;rcases GF.1 T with rfl|T
     .refine⟨id,_,x::p,A,jY.cT (aK N λn h=>ao n ?_ ?_ ?_) sm,by simp,?_,λY f1=>f.2.2.2.2 Y (GK _ f1)⟩
      .exact(bG N h).2
      .have:=(bG N h).1;omega
      .intro L;let⟨e8,f2⟩:=Fd.cH N h;exact J.oz.bx _ _ _ (L▸f2)
      have:=f.2.2.2.1;simp at this ⊢;omega
     refine(j.1.qv.be _).fR (λn k=>?_) ak T;let⟨e7,f8,h⟩:=k;have U:=aw h;have:=R.z;exact(ao n H H λL=>j.1.oz.bx _ _ _ (L▸h)).t ((R.b n H).t (F.b n U))
    .exact λn k=>by
      rcases GF.1 k with rfl|k
      .have:=f.1;unfold Go.Proofs.YtajnhfklchlahaaGreatDoor.aT at this;let⟨ah,a0,_⟩:=Jd.1 this;have e9:ah.1.sameKey (il id)=ψ:=by simpa using Qa a0
       have t:=JJ e9;exact GL.2 ⟨ah,Lm a0,t⟩
      exact oh.be _ _ _ k
    unfold jg;rw[bY (iz id),f.1];simp
   have e5:=QC (∀a1,ρ ((w.alloc (K #[G 0,G 0,G 0,G 0,I,I,G 0] 32)).alloc (K #[G a,G c,G b,G aa,O e,O d,G i] 32)).heap.size ((w.alloc (K #[G 0,G 0,G 0,G 0,I,I,G 0] 32)).alloc (K #[G a,G c,G b,G aa,O e,O d,G i] 32)) a1->τ γ 35 #[ο (ab,ag+7) (p.length+1) (af-1)] a1 λh w'=>(∃r,h=ι r/\w'.ownsRow ((w.alloc (K #[G 0,G 0,G 0,G 0,I,I,G 0] 32)).alloc (K #[G a,G c,G b,G aa,O e,O d,G i] 32)).heap.size 32 7 r (x::p).length ((x::p).flatMap jX))/\ρ ((w.alloc (K #[G 0,G 0,G 0,G 0,I,I,G 0] 32)).alloc (K #[G a,G c,G b,G aa,O e,O d,G i] 32)).heap.size ((w.alloc (K #[G 0,G 0,G 0,G 0,I,I,G 0] 32)).alloc (K #[G a,G c,G b,G aa,O e,O d,G i] 32)) w') λa1 al=>by
    have e6:=j.2.2.1.t (al.m j.2.2.1.z);let⟨g5,h4,e2,c2,_,f0⟩:=f.2.1.aV 1;simp only[Gy,Gd,GS,QW,true_and] at c2;obtain⟨⟨rfl,rfl⟩,rfl⟩:=c2;refine(ze (ab,ag+7) (x::p).length (af-1) ((x::p).flatMap jX) a1 (Tz _) (by have:=f.2.2.2.1;simp at this ⊢;omega) (λh=>by cases h) (λah a0 b4 ak a9=>?_) (TB _)).m ?_
    .cases Gm a0;exact e6.ce (f0 b4 ak a9)
    rintro h w' ⟨⟨r,rfl,t⟩,V⟩;exact⟨⟨r,A,vJ t al.z⟩,al.t (V.m al.z)⟩
   go_enter func68,ntmps68;go_wp2_with (first|(at_lookup;refine wL eX JX (rD _) z k ?_;rw[o])|(refine Xj A 32 _ A ab ag A [G a,G c,G b,G aa,O e,O d,G i] _ c7 KI A kf.aH ?_)|fail);have g8:(1:C)<=(p.length:C)+1+1:=H;have g9:(p.length:C)+1+1<=(af:C):=by have:=Z.o;simp at this;omega
   have h0:(0:C)<=(p.length:C)+1+1:=H;have h1:1<=p.length+1+1:=H;have h3:(af=1)=QZ:=by have:=Z.o;simp at this ⊢;omega
   have h2:p.length+1+1<=af:=by have:=Z.o;simpa using this
   go_region_held3 (λw'=>w' (g,5)=KD (δ S.q)) (first|exact c5|exact v|exact am|go_keep) (first|(go_at_call 35;go_call e5.o _ QG.d as h l ⟨⟨r,rfl,N⟩,R⟩;let⟨v,d3⟩:=e4.o l R;let⟨m,b0,am,b3,y,a5⟩:=d3 r N;have a8:=Ga a5));clear v am b0;go_wp2_with (first|(refine oc kf y ?_)|(apply ia kf b3;intro aj a3));exact qG kf a3.at_ ⟨⟨a,c,b,aa,e,d,i⟩,ψ,A,a8.o aj a3⟩
end Gt
namespace Gt
open Fd (bh)
variable {w w' w2:ν}{B g s:Nat}{S S':Gs}{x x':St}
def iW.gI {id:C}{K:Fm.gR}{f:Bool}(b:cY w B g S s x)(M:iW w B g S id K f w'):∃a,cY w' B g {S with QL:=a} s x/\Gz B S s w w'/\oh a S.QL/\a.length<=S.QL.length/\(f=X->a=S.QL/\aT a (il id)=J)/\(f=U->jg a id<jg S.QL id)/\∀t,t<w.heap.size->sH S.QL t->sH a t:=by
 rcases M with⟨rfl,u,j⟩|⟨rfl,a,c,q,u,j,r,O,o,P,V,W,Z⟩
 .exact⟨S.QL,b.aE j,Gz.aE j,.bQ _,d,λ_=>⟨A,u⟩,R,λ_ _ b=>b⟩
 have z:=eH b.aO.oz.bx;exact⟨a,b.turn O o z R R R (.fz o z R) (λ_ b=>b) ⟨A,A,A,A,A,A,A,A,A,A⟩,Gz.of o R R,P,V,R,λ_=>W,Z⟩
def jZ.off {f:E (IA×π)}{a:D}{o:Obj}(P:jZ w f)(u:bd w w' a o)(X:sH f a):jZ w' f:=λx b=>by
 obtain⟨O,Z,z,rfl,⟨g,o,J,rfl,U,j,V⟩,W⟩:=P x b;have t:g≠a:=λn=>X _ b (by rw[<-n];rfl);obtain⟨K,M,j⟩:=j;exact⟨O,_,z,A,⟨g,o,J,A,U,⟨K,M,(u.old g t).t j⟩,λa i y p c d=>(GQ (w:=w) (u.old g t)).t (V a i y p c d)⟩,W⟩
def sH.iY {j:E (IA×π)}{f:D}(o:jZ w j)(V:w.heap.size<=f):sH j f:=λx a c=>by
 obtain⟨M,X,u,rfl,⟨g,W,z,rfl,O,⟨A,J,t⟩,P⟩,U⟩:=o x a;have:=aw t;have K:g=f:=Gm c;omega
def cY.jA {f:D}{M z:Q π}(a:cY w B g S s x)(A:w.heap[f]?=K M 32)(u:B<=f)(J:sH S.QL f)(t:bd w w' f (K z 32)):cY w' B g S s x:=by
 have j:Fz B [32] [] w w':=Fz.cV t A R u [];have o:cM w []:=λ_ k=>by cases k
 exact a.turn (a.aO.fzq j o (a.aO.sk.at (j.dn R a.aO.lt) a.aO.ok.b.2) (a.aO.qv.off t J) R R) j o R R R (.fz j o R) (λ_ a=>a) (.bQ S)
def Gz.jA {t:D}{z:Obj}(f:Gz B S s w w')(o:bd w' w2 t z)(u:w.heap.size<=t):Gz B S s w w2:=by
 have j:=o.aE w w' u (Lh QG f.aH);exact⟨j.os.t f.os,j.tape.t f.cb,j.output.t f.aW,by rw[o.aH];exact f.aH,λd a=>by rw[o.old d H];exact f.aG d a⟩
def Gz.aM {z:D}{A:Q π}{o:Λ}{u:D×D}(O:Gz B S s w w')(j:cY w B g S s x)(f:w.heap[z]?=K A o u)(M:o∉[84,373,149,158,178,154,101,192,185,518,9])(J:o≠35):w'.heap[z]?=K A o u:=by
 apply Fz.aM O f M;let⟨n,l,_⟩:=j.st;have t:=j.aO.qy;simp only[GF,Hv,Xf,not_or];exact⟨Fd.fQ f l J,λa=>j.aO.dy.cS.bx _ _ _ (a▸f),λa=>j.aO.oz.bx _ _ _ (a▸f),λa=>t S.p.r R _ _ _ (a▸f),λa=>t S.p.m R _ _ _ (a▸f),λa=>t S.p.k R _ _ _ (a▸f)⟩
structure EI (w:L)(B g:Nat)(S:Gs)(s:Nat)(x:St)(id:C)(k:Nat)(a:Fm.gR)(b:Bool)(D':E QE)(QL':E (IA×π))(l:E QE)(wr:L):Prop where
 gI:cY wr B g {S with D:=D',QL:=QL'} s {x with cN:=l}
 jA:wr.heap[k]?=K a.cs 32
 iY:w.heap.size<=k
 off:sH QL' k
 Ce:oh QL' S.QL
 z:Gz B S s w wr
 n:l.length+(if b then 1 else 0)+jg QL' id<=x.cN.length+jg S.QL id
 none:b=X->aT QL' (il id)=J
def afs:π->D
 |P _ a _=>a
 |_=>0
noncomputable def qOf (f:D) (id:C) (w:L):D:=match (Instr.lookup 81 (KD (M f)) (G id) X).run N w with
 |Je b _=>afs b
 |_=>0
def aa2:π->D
 |z U=>1
 |_=>0
def Uc (f:Bool):aa2 (z f)=if f then 1 else 0:=by cases f<;>rfl
def Ud {id:C}(f:cw w B g S)(o: -9223372036854775808<=id/\id<=9223372036854775807):qOf S.q id w=jg S.QL id:=by
 rw[qOf,jg,f.oz.jE eX JX (rD w) (kG o)];cases j:aT S.QL (il id) with
 |none=>rfl
 |some i=>
  obtain⟨t,u,⟨g,A,z,rfl,_⟩,_⟩:=f.qv.aT j;rfl
def Ue (w:L)(B g:Nat)(S:Gs)(s:Nat)(x:St)(id:C)(w':L):Prop:=∃o f j,cY w' B g {S with D:=o,QL:=f} s {x with cN:=j}/\j.length<=x.cN.length+jg S.QL id/\aT f (il id)=J/\oh f S.QL/\Gz B S s w w'
def xL (id r:C)(w:ν)(Z:cY w B g S s x)(a5: -9223372036854775808<=id/\id<=9223372036854775807)(t:(x.cN:Nat)+jg S.QL id<=1000):τ γ 80 #[bh g,id,ϑ r,bh s] w λI w'=>I=χ #[]/\Ue w B g S s x id w':=by
 have b2:=F (rE id w Z.aO a5);have j:=F (W Z (W a5 t));go_enter func80,ntmps80;go_wp2_with fail;go_call b2.o as I u ⟨n,k,rfl,p⟩;have f:=QC (∃b,EI w B g S s x id u n k S.D b x.cN (u.alloc (K n.cs 32))) (by
  let⟨b,a1,a4,s1,d9,ak,t1,e0⟩:=iW.gI j.1 p
  have X:=bo u (K n.cs 32)
  refine⟨b,a1.aE X.aE,X.at_,a4.aH,.iY a1.aO.qv QD,s1,a4.then X.aE,?_,λr=>(ak r).2⟩
  cases k with
  |false=>rw[(ak A).1];simp
  |true=>have:=t1 A;simp;omega)
 let⟨d,a,e,aa,i,h,l⟩:=n;change Φ (∃b,EI w B g S s x id u ⟨d,a,e,aa,i,h,l⟩ k S.D b x.cN (u.alloc (K #[d,a,e,aa,i,h,l] 32))) at f;dsimp only[Fm.gR.cs];go_wp2;go_loopw [8,9] (λb6 T wr=>∃(G:Nat) (n:Fm.gR) (k:Bool) (L:E QE) (b:E (IA×π)) (H:E QE),b6=ξ G/\T=υ k/\Φ (EI w B g S s x id G n k L b H wr)) (λ_ T wr=>aa2 T+qOf S.q id wr)
 .exact⟨_,_,_,_,_,_,A,A,F f.o.choose_spec⟩
 obtain⟨G,⟨d,a,e,aa,i,h,l⟩,k,L,b,H,rfl,rfl,f⟩:=hrel;have ab:wr.heap[G]?=K #[d,a,e,aa,i,h,l] 32:=f.o.jA;cases k with
 |false=>
  go_wp2;go_end0;exact⟨A,L,b,H,f.o.gI,oP f.o.n,f.o.none A,f.o.Ce,f.o.z⟩
 |true=>
  have a6:=F (eR ⟨d,a,e,aa,i,h,l⟩ r wr f.o.gI (by have:=f.o.n;have:=j.2.2;simp at *;omega));go_wp2_with (apply oc kf ab);go_call a6.o as I m ⟨rfl,a3,U,Y,V,J⟩;have b5:m.heap[G]?=K #[d,a,e,aa,i,h,l] 32:=by
   exact J.aM f.o.gI ab R R
  have o:=F (W Y (W V J));have M:=bo m (K #[d,a,e,aa,i,h,l] 32);generalize c0:m.alloc (K #[d,a,e,aa,i,h,l] 32)=b9 at M;have a7:=M.at_;have ah:=F M;have ae:=o.1.aE M.aE;have b3:=F (rE id b9 ae.aO j.2.1);have ai:=F ae;go_wp2_with (first|(apply oc kf b5)|fail);go_call b3.o as I w5 ⟨a',v,rfl,p⟩;let⟨q,a9,ag,b0,c7,N,af,a8⟩:=iW.gI ai.o p;have a0:=ag.aM ai.o a7 R R;have aj:=QC (∀c,bd w5 c m (K a'.cs 32)->EI w B g S s x id m a' v a3 q U c/\aa2 (υ v)+qOf S.q id c<1+qOf S.q id wr) (λc y=>by
   have c6:=f.o.z.aH
   have d8:=o.2.2.aH
   have c3:=f.o.gI.aO.lt
   have al:=a8 m (oA ah.o.aH) (sH.iY o.1.aO.qv QD)
   have a2:=a9.jA a0 om al y
   have b7:Gz B S s w c:=Gz.jA (S:=S) (Fz.aJ (Fz.then (Fz.aJ f.o.z o.2.2) ah.o.aE) ag) y om
   have b4:=f.o.n
   have t:=o.2.1
   simp only[if_true] at b4
   have t:(U:Nat)<=(H:Nat)+1:=t
   have O:=Ud a2.aO j.2.1
   have P:=Ud f.o.gI.aO j.2.1
   have O:qOf S.q id c=jg q id:=O
   have P:qOf S.q id wr=jg b id:=P
   refine⟨⟨a2,y.at_,om,al,b0.aJ f.o.Ce,b7,?_,λr=>(N r).2⟩,?_⟩
   .cases v with
    |false=>have z:q=b:=(N A).1;subst z;simp;omega
    |true=>have z:jg q id<jg b id:=af A;simp;omega
   rw[O,P,Uc]
   cases v with
   |false=>have z:q=b:=(N A).1;subst z;simp
   |true=>have z:jg q id<jg b id:=af A;simp;omega)
  let⟨d1,d4,d3,c8,c2,d6,d2⟩:=a';dsimp only[Fm.gR.cs];go_wp2_with (apply ia kf a0;intro c y);exact⟨⟨_,_,_,_,_,_,A,A,F (aj.o c y).1⟩,(aj.o c y).2⟩
def cY.mc {t:Ls.Tb}(a:cY w B g S s x)(f:aL (· =S.t) w w')(M:Ls.cc w' S.t t)(K:t.Ok):cY w' B g {S with T:=t} s x/\Gz B S s w w':=by
 have u:Fz B [149] [] w w':=⟨f.os,f.cb,f.aW,f.aH,λh i=>by
  by_cases z:h=S.t
  .exact j (o (z▸⟨_,_,_,a.aO.mc.bO,R,a.aO.ok.lo.2.1⟩))
  exact o (f.aG h i z)⟩
 have J:cM w []:=λ_ l=>by cases l
 exact⟨a.turn (a.aO.WT f M K) u J R R R (.fz u J R) (λ_ a=>a) ⟨A,A,A,A,A,A,A,A,A,A⟩,Gz.of u R R⟩
def cY.cl {J:Md.dY}{u j:E (IA×π)}{z:Cc.Ca}{f:D}(o:cY w B g S s x)(t:Fz B [101,192,185,518] [S.p.r,S.p.m,S.p.k] w w')(O:bt w' S.p J u j z f)(K:S.G<=f)(P:Rv w w')(M:SI j S.L):cY w' B g {S with md:=J,R:=u,L:=j,ca:=z,G:=f} s x/\Gz B S s w w':=
 ⟨o.turn (o.aO.rC t O K) t o.aO.qy sm sm sm P M ⟨A,A,A,A,A,A,A,A,A,A⟩,Gz.of t sm sm⟩
def cY.dy {j:E (IA×π)}(a:cY w B g S s x)(f:Fz B [158,178] [S.m] w w')(t:Fd.bz w' B S.f S.m S.fr j)(u:j.length<=S.G):cY w' B g {S with FL:=j} s x/\Gz B S s w w':=by
 have o:cM w [S.m]:=eH a.aO.dy.cS.bx;exact⟨a.turn (a.aO.BF f t u) f o R R R (.fz f o R) (λ_ a=>a) ⟨A,A,A,A,A,A,A,A,A,A⟩,Gz.of f R R⟩
def cY.bO {os':E (C×QE)}{c':C}(a:cY w B g S s x)(f:Fz B [84,373] [] w w')(o:vG w' B g {S with os:=os',aY:=c'})(u:(os':D)<=2)(t:0<=c'/\c'<=1073741824):cY w' B g {S with os:=os',aY:=c'} s x/\Gz B S s w w':=by
 have j:cM w []:=λ_ h=>by cases h
 exact⟨a.turn (a.aO.WU f o u t) f j R R R (.fz f j R) (λ_ a=>a) ⟨A,A,A,A,A,A,A,A,A,A⟩,Gz.of f R R⟩
def gcs (S:Gs)(f:π):Q π:=#[bh S.p.c,bh S.t,bh S.f,bh S.u,bh S.d,KD (M S.q),G S.cg,G S.aY,f]
def cY.YN {os':E (C×QE)}{f t:π}(P:cY w B g S s x)(U:w.heap[g]?=K (gcs S f) 84)(V:w.ownsRow B 373 2 f S.os.length (S.os.flatMap qx))(u:aL (λa=>f.ownBlock=M a) w w')(Z:w'.ownsRow B 373 2 t os'.length (os'.flatMap qx))(v:os'.length<=2):
 w' (g,8)=f/\w'.frozen? (g,8)=X/\cY (w'.setCell (g,8) t) B g {S with os:=os'} s x/\Gz B S s w (w'.setCell (g,8) t):=by
 have d:f.ownBlock≠M g:=λb=>by
  obtain⟨W,z⟩:=Fd.cH V b;exact Fd.fQ U z r A
 have J:w'.heap[g]?=K (gcs S f) 84:=u.aM U d;have O:=aF (j:=8) t J;have y:Fz B [84,373] [] w (w'.setCell (g,8) t):=⟨u.os,u.cb,u.aW,by rw[O.aH];exact u.aH,λa e=>by
  by_cases b:a=g
  .exact Θ (o ⟨_,_,_,b▸U,by simp,b▸P.aO.ok.lo.1⟩)
  by_cases c:f.ownBlock=M a
  .obtain⟨W,z⟩:=Fd.cH V c
   exact Θ (o ⟨_,_,_,z,by simp,(bG V c).1⟩)
  exact o ((O.old a b).t (u.aG a e c))⟩
 have q:vG (w'.setCell (g,8) t) B g {S with os:=os',aY:=S.aY}:=⟨t,O.at_,aK Z λa b=>O.old a λc=>by
  obtain⟨W,z⟩:=Fd.cH Z b
  exact Fd.fQ z J r c⟩
 exact⟨cR J A,aI J 8,P.bO y q v P.aO.ok.aY⟩
def wx (f:Ls.Se):C×C×C:=(f.id,f.aG,f.dl)
structure qA (T T':Ls.Tb):Prop where
 most:T'.most=T.most
 gM:T'.gM=T.gM
 cK:T'.cK=T.cK
 ls:T'.ls.map wx=T.ls.map wx
def gj (w:L)(f:D):T w w (w.drewN f):=((aL.bQ (λ_=>QZ) w).cI f).jn
def qA.bQ (f:Ls.Tb):qA f f:=⟨A,A,A,A⟩
def qB (w:L)(B g:D)(S:Gs)(s:D)(x:St)(w':L):Prop:=∃f j,cY w' B g {S with T:=f,os:=j} s x/\qA S.T f/\Gz B S s w w'
def BH {a:C}{t:QE}{j w5:L}{f v':π}(o:cY w B g S s x)(P:Gz B S s j w)(u:w.heap[g]?=K (gcs S f) 84)(z:w.ownsRow B 373 2 f (S.os:D) (S.os.flatMap qx))(J:aL (λb=>f.ownBlock=M b) w w5)(U:w5.ownsRow B 373 2 v' ((S.os:D)+1) (S.os.flatMap qx++[G a,O t]))(A:(S.os:D)+1<=2):
 w5 (g,8)=f/\w5.frozen? (g,8)=X/\qB j B g S s x (w5.setCell (g,8) v'):=let⟨i,k,l,m⟩:=o.YN (os':=S.os++[(a,t)]) u z J (by rwa[Hj,Gk]) (sU A);⟨i,k,S.T,_,l,.bQ _,P.aJ m (.bQ S)⟩
def mg {J:Type}{j:E Ls.Se}{o:D}{t y':Ls.Se}(f:Ls.Se->J)(A:j[o]?=t)(u:f y'=f t):(j.set o y').map f=j.map f:=by
 rw[NQ,u];refine LC λa=>?_;rw[List.getElem?_set];split
 .rename_i z;subst z;rw[Ip,A];split<;>simp_all
 rfl
def vK {j:Ls.Tb}{t:D}{u o:Ls.Se}(f:j.Ok)(J:j.ls[t]?=u)(z:o.id=u.id)(M:0<=o.st/\o.st<=2):({j with ls:=j.ls.set t o}:Ls.Tb).Ok:=by
 have A:∀c∈j.ls.set t o,c∈j.ls\/c=o:=λc b=>JE b;have P:u∈j.ls:=GI.2 ⟨t,J⟩;refine⟨f.most,f.gM,sU f.cB,λc b=>?_,f.cK,sU f.eu,?_,λc b=>?_⟩
 .rcases A c b with b|rfl
  .exact f.st c b
  exact M
 .have O:=mg Ls.Se.id J z;have K:=f.kx;rw[<-Jy (f:=Ls.Se.id) (R:=(· < ·))] at K ⊢;rwa[O]
 rcases A c b with b|rfl
 .exact f.ZO c b
 rw[z];exact f.ZO u P
def WW {f:Ls.Tb}{t:D}{o j:Ls.Se}(J:f.Ok)(z:f.ls[t]?=o)(u:j.id=o.id)(K:j.aG=o.aG)(M:j.dl=o.dl)(O:0<=j.st/\j.st<=2):({f with ls:=f.ls.set t j}:Ls.Tb).Ok/\qA f {f with ls:=f.ls.set t j}:=
 ⟨vK J z u O,A,A,A,mg wx z (by simp[wx,u,K,M])⟩
def pZ (N:Fm.gR)(o:QE)(w:ν)(b6:cY w B g S s x):τ γ 198 #[bh g,N.cs,o] w λe w'=>e=χ #[]/\qB w B g S s x w':=by
 let⟨q,l,d,aa,a6,a5,a4⟩:=N;show τ γ 198 #[bh g,Γ #[q,l,d,aa,a6,a5,a4],β o] w _;have j:=bo w (θ #[q,l,d,aa,a6,a5,a4] 32);generalize b7:w.alloc (θ #[q,l,d,aa,a6,a5,a4] 32)=b at j;have f:=b6.aE j.aE;have g9:=cJ 0 j.at_;have c7:=cJ 1 j.at_;have J:=cJ 2 j.at_;have c1:=f.aO.aV.2.1;have U:=F (κ f j);by_cases a7:q=9
 .subst a7;have M:=F (show qB w B g S s x b from⟨S.T,S.os,f,.bQ _,Gz.aE j.aE⟩);go_enter func198,Qw;go_wp2;go_end0;exact⟨A,M.o⟩
 by_cases a8:q=0
 .subst a8;let⟨f8,i,a⟩:=f.aO.bO;obtain⟨W,P,rfl⟩:=aR a;have b2:=f.aO.ok.os;have u:=cJ 8 i;by_cases t:S.os.length=2
  .let⟨c6,c,e9⟩:∃c6 c,S.os=[c6,c]:=by
    match ag:S.os with
    |[]=>rw[ag] at t;simp at t
    |[_]=>rw[ag] at t;simp at t
    |[N,n]=>exact⟨N,n,A⟩
    |_::_::_::_=>rw[ag] at t;simp at t
   let⟨k,e8,h3,c8⟩:∃k,W=δ ⟨k,0,ζ⟩/\2<=P/\∀r v,(qx c)[r]?=δ v->b ⟨k,2+r,ζ⟩=δ v:=by
    rcases fy (enc:=qx) (λ_=>rfl) a with⟨e,J⟩|⟨k,g6,e,h2,_,_,e2⟩
    .rw[J] at t;simp at t
    simp only[Gy] at e;refine⟨k,e.1,by rw[e.2.2];omega,λr v y=>?_⟩;have e4:r<2:=(Gg.1 y).1;rw[e2 1 c r (by rw[e9];rfl) e4,y]
   subst e8;rw[t] at u;have b9:=F (Ty (δ ⟨k,2,ζ⟩) 1 (P-1) (qx c) b A H (λe=>by cases e) (λh9 f0 r v y=>by obtain rfl:=Gm f0;rw[Nv];exact c8 r v y) (λv L=>by simp[qx] at L;rcases L with rfl|rfl<;>rfl));have c0:=F (λw2 p (n:ρ b b w2) (G:w2.ownsRow b.heap.size 373 2 p 1 (qx c))=>f.YN (os':=[c]) i a (aL.aE n _) (vJ (B:=B) (by simpa using G) f.aO.lt) R);have h4:(2:C)<=(P:C):=H;have h5:(P=1)=QZ:=by simp;omega
   go_enter func198,Qw;go_wp2_with fail;go_call b9.o as e w2 ⟨⟨p,rfl,a1⟩,a9⟩;obtain⟨d8,e1,rfl⟩:=aR a1;let⟨h0,h1,I,Y⟩:=c0.o w2 _ a9 a1;generalize d1:w2.setCell (g,8) (ο d8 1 e1)=z at I Y;have c2:=Y.aM U.1 U.2.at_ R R;have J:=cJ 2 c2;let⟨f8,i,a⟩:=I.aO.bO;obtain⟨W,c3,rfl⟩:=aR a;have u:=cJ 8 i;have Z:=F (λp h ae a0=>BH (a:=d) (t:=o) I (show Gz B S s w z from Fz.aJ (Gz.aE (B:=B) (S:=S) (s:=s) U.2.aE) Y) i a (v':=p) (w5:=h) a0 ae R);have af:=I.aO.lt;have X:=QC (z.ownsRow B 373 2 (ο W 1 c3) 1 ([c].flatMap qx)) a;have e7:g<z.heap.size:=bH u;have e6:w.heap.size<z.heap.size:=bH J;have e0:=((Ge _ z).a QD (θ #[d,o] 373)).ce u;go_wp2_with fail;clear d1 b7;go_region_law (apply nL Tx A (.tmp 41) (.tmp 46) A A X.o A #[d,o] A (by simp[φ]) H af;intro p h K V;obtain⟨d9,c5,rfl⟩:=aR K;let⟨a2,a3,T⟩:=Z.o _ h K V;have M:=F T)
   all_goals
    go_wp2;go_end0;let⟨m,g3,g4,g1,g5⟩:=M.o;exact⟨A,m,g3,g4,g1,g5⟩
  have Z:=F (λp h ae a0=>BH (a:=d) (t:=o) f (Gz.aE j.aE) i a (v':=p) (w5:=h) a0 ae H);have af:=f.aO.lt;have b2:S.os.length+1<=1000000:=H;have h6:((S.os.length:C)==2)=σ:=by simp;omega
  generalize S.os.length=h7 at *;have X:=F a;go_enter func198,Qw;go_wp2_with fail;have e7:g<b.heap.size:=bH u;have e6:w.heap.size<b.heap.size:=bH J;have e0:=((Ge _ b).a QD (θ #[d,o] 373)).ce u;go_region_law (apply nL Tx A (.tmp 41) (.tmp 46) A A X.o A #[d,o] A (by simp[φ]) b2 af;intro p h K V;obtain⟨d9,c5,rfl⟩:=aR K;let⟨a2,a3,T⟩:=Z.o _ h K V;have M:=F T)
  all_goals
   go_wp2;go_end0;exact⟨A,M.o⟩
 have g8:(q==9)=σ:=by simpa using a7
 have g7:(q==0)=σ:=by simpa using a8
 have ab:ρ b b b.drew:=QG.d;have d6:=QC (τ γ 240 #[bh S.t,l,d,o] b.drew λe w'=>∃O:C,e=O/\qB w B g S s x w'/\w' (g,1)=bh S.t/\w' (w,1)=l/\w' (w,2)=d) ((Ls.Om S.t S.T l d o b.drew (f.aO.mc.aE ab) f.aO.ok.qH).m (by
  rintro e w' ⟨O,rfl,f1⟩
  have b0:∀m,cY w' B g {S with T:=m} s x->qA S.T m->Gz B S s b w'->∃g2:C,ι O=g2/\qB w B g S s x w'/\w' (g,1)=bh S.t/\w' (w,1)=l/\w' (w,2)=d:=λm b3 e5 b5=>by
   have i:=b5.aM f j.at_ R R
   exact⟨O,A,⟨m,S.os,b3,e5,Gz.aJ (Gz.aE j.aE) b5 (.bQ S)⟩,b3.aO.aV.2.1,cR i A,cR i A⟩
  rcases f1 with n|⟨h8,v,i0,L,f3,f4,f5,f6,f7,f2,G⟩
  .have n:=ab.t n
   exact b0 S.T (f.aE n) (.bQ _) (Gz.aE n)
  have G:aL (· =S.t) b w':=(aL.aE ab _).aJ G
  let⟨a2,a3⟩:=WW f.aO.ok.qH L f3 f4 f5 ⟨f6,f7⟩
  let⟨f9,g0⟩:=f.mc G f2 a2
  exact b0 _ f9 a3 g0))
 go_enter func198,Qw;go_wp2_with fail;go_region_held3 (λw'=>w' (g,1)=bh S.t/\w' (w,1)=l/\w' (w,2)=d) (first|exact⟨c1,c7,J⟩|exact⟨d2,e3,d4⟩|go_keep) (first|(go_at_call 240;go_call d6.o as e z ⟨O,rfl,b4,d2,e3,d4⟩;have d3:=F b4));go_wp2;go_end0;exact⟨A,d3.o⟩
def DV (w:L)(S:Gs)(u:D)(z:Fm.Rp)(f:C)(t:He)(w':L):Prop:=
 (∃j:QE,j.size=32/\(∃o∈S.md.vs,o.aG=f)/\aT S.R (il f)=j/\t=G 0/\w'.heap[u]?=K ({z with v:=f,r:=j}:Fm.Rp).cs 136/\aL (· =u) w w')\/
 (t=G 4/\T w w w'/\∀o∈S.md.vs,o.aG≠f)
def ny (t:D)(z:Fm.Rp)(j:C)(w:ν)(P:cw w B g S)(Z:w.heap[t]?=θ z.cs 136)(V: -9223372036854775808<=j/\j<=9223372036854775807):Y γ 200 #[bh g,j,bh t] w (DV w S t z j):=by
 let⟨T,_⟩:=P.aV;have X:=F (kY S.p S.md S.R S.L S.ca S.G j w P.cl V);have U:=F Z;go_enter func200,ntmps200;go_wp2_with fail;go_call X.o as e f ⟨⟨y,q,m,A,p,o,rfl⟩|⟨v,rfl⟩,b1⟩
 .have u:=b1.ke U.o;have N:=F (W b1 (W q (W m (W p o))));let⟨H,c,b,h,d,r,k,i⟩:=z;have I:=cJ 3 u;have R:=cJ 4 u;have n:=aI u 3;have L:=aI u 4;have J:=aF (j:=3) (ϑ j) u;have K:=aF (j:=4) (O A) J.at_;have M:=QC (DV w S t ⟨H,c,b,h,d,r,k,i⟩ j (ι (ϑ 0)) ((f.setCell (t,3) (ϑ j)).setCell (t,4) (O A))) (Ξ ⟨A,p,⟨y,q,m⟩,o,rfl,K.at_,⟨b1.os,b1.tape,b1.output,by rw[K.aH,J.aH];exact b1.z,λl a e=>(K.old l e).t ((J.old l e).t (b1.b l a))⟩⟩);go_wp2;go_ret;exact M.o
 have M:=QC (DV w S t z j (ι (ϑ 4)) f) (Θ ⟨rfl,b1,v⟩);go_wp2;go_ret;exact M.o
def Uf (S:Gs)(j:Fm.gR)(o:He):Prop:=∃(d:QE) (a:C),o=f #[d,a]/\0<=a/\a<=12/\(j.bq=0->S.os=[]->a=9)
def Oo (V:Fm.gR)(w:ν)(aj:cw w B g S):τ γ 150 #[bh g,Γ V.cs] w λa w'=>Uf S V a/\ρ w w w':=by
 let⟨q,h,c,aa,v,I,H⟩:=V;show τ γ 150 #[bh g,Γ #[q,h,c,aa,v,I,H]] w _;have J:=bo w (K #[q,h,c,aa,v,I,H] 32);generalize b5:w.alloc (K #[q,h,c,aa,v,I,H] 32)=j at J;have W:=aj.aE J.aE;have c0:=cJ 0 J.at_;have L:=cJ 1 J.at_;have Z:=cJ 2 J.at_;have c1:=W.aV.2.1;have U:=F J.aE;by_cases N:q=0
 .subst N;let⟨ah,a3,Y⟩:=W.bO;have ae:=QC ((∃V o,ah=ο V S.os.length o)/\(S.os=[]\/∃d o,ah=ο (δ ⟨d,0,ζ⟩) S.os.length o/\S.os.length<=o/\∀e b,S.os[e]?=δ b->j.rangeAt d (e*2) (qx b))) ⟨aR Y,by
   rcases fy (enc:=qx) (λ_=>rfl) Y with⟨_,a⟩|⟨d,o,a,R,_,_,m⟩
   .exact Ξ a
   refine Θ ⟨d,o,a,R,λe b r k ai i=>?_⟩
   have b0:k<2:=(Gg.1 i).1
   rw[m e b k r b0,i]⟩
  obtain⟨a4,a5,rfl⟩:=ae.1;have b6:=cJ 8 a3;have a6:=F W.ok.os;go_enter func150,ntmps150;go_wp2;go_loopw [27] (λiv wr=>∃f:D,f<=S.os.length/\iv=G f/\Φ (ρ j j wr)) (λiv _=>S.os.length-(QI iv).toNat)
  .exact⟨0,by omega,A,F QG⟩
  obtain⟨f,d1,rfl,u⟩:=hrel;have Z:=u.o.ce Z;by_cases y:f<S.os.length
  .let⟨b,r⟩:∃b,S.os[f]?=δ b:=⟨_,Gf y⟩;let⟨d,b3,c8,ak⟩:∃d,a4=δ ⟨d,0,ζ⟩/\S.os.length<=a5/\j.rangeAt d (f*2) (qx b):=by
    rcases ae.2 with a|⟨d,o,a,R,m⟩
    .rw[a] at y;simp at y
    simp only[Gy] at a;exact⟨d,a.1,by rwa[a.2.2],m f b r⟩
   subst b3;have p:wr.rangeAt d (f*2) [G b.1,O b.2]:=λk ai i=>u.o.ce (ak k ai i);have d3:(f:C)<(S.os.length:C):=om;have d2:(0:C)<=(f:C):=om;have X:=bo wr (K #[G b.1,O b.2] 373);generalize a0:wr.alloc (K #[G b.1,O b.2] 373)=b4 at X;have d0:=cJ 0 X.at_;have b7:=cJ 1 X.at_;have b9:=X.aE.ce Z;have ab:=F X.aE;have c7:η.wrap ((f:C)+1)=(f:C)+1:=QQ (by have:=a6.o;omega);by_cases ag:b.1=c
   .rw[ag] at p a0 d0;have b2:S.os≠[]:=λa=>by rw[a] at y;simp at y
    go_wp2_with (apply Xj A 373 _ A d (f*2) A [G c,O b.2] _ p underlying373 A Qz);go_ret2;exact⟨⟨b.2,0,A,by omega,by omega,λ_ a=>absurd a b2⟩,U.o.t ((u.o.t (ab.o.m u.o.z)).m U.o.z)⟩
   have c2:(b.1==c)=σ:=by simpa using ag
   go_wp2_with (apply Xj A 373 _ A d (f*2) A [G b.1,O b.2] _ p underlying373 A Qz);go_roundw
   .exact⟨f+1,by omega,by simp,F (u.o.t (ab.o.m u.o.z))⟩
   simp[QI];omega
  have d4:¬((f:C)<(S.os.length:C)):=om;go_wp2;go_ret2;exact⟨⟨⟨#[]⟩,9,A,by omega,by omega,λ_ _=>rfl⟩,U.o.t (u.o.m U.o.z)⟩
 have a8:(q !=0)=ψ:=by simpa using N
 have af:ρ j j j.drew:=QG.d;have a7:=QC (τ γ 205 #[bh S.t,h,c] j.drew λa w'=>Ls.xB a/\ρ j j w'/\w' (g,1)=bh S.t/\w' (w,1)=h/\w' (w,2)=c) ((Ls.Dx S.t S.T h c j.drew (W.mc.aE af) W.ok.qH).m (by
  rintro a w' ⟨a9,z⟩
  have z:=af.t z
  exact⟨a9,z,z.ce c1,z.ce L,z.ce Z⟩))
 go_enter func150,ntmps150;go_wp2_with fail;go_region_held3 (λw'=>w' (g,1)=bh S.t/\w' (w,1)=h/\w' (w,2)=c) (first|exact⟨c1,L,Z⟩|exact⟨a1,e3,a2⟩|go_keep) (first|(go_at_call 205;go_call a7.o as a b4 ⟨⟨t,n,rfl,P,Q⟩,M,a1,e3,a2⟩;have l:=F (κ M (κ P Q))));go_wp2;go_ret2;exact⟨⟨t,n,A,l.2.1,l.2.2,λa=>absurd a (by simpa using a8)⟩,U.o.t (l.1.m U.o.z)⟩
end Gt
namespace Gt
open Fd (bh)
variable {w w' w2:ν}{B g s:Nat}{S S' S2:Gs}{x x':St}
def Az (B:D)(S:Gs)(s:D)(w w':L):Prop:=Fz B [136,84,373,149,158,178,154,101,192,185,518,9] [s,S.m,S.q,S.p.r,S.p.m,S.p.k] w w'
theorem Gz.az (f:Gz B S s w w'):Az B S s w w':=Fz.cz f (λ_ a=>GK _ a) (λ_ a=>a)
def Az.aJ (o:Az B S s w w')(j:Az B S' s w' w2)(f:me S S'):Az B S s w w2:=by
 unfold Az at j;rw[f.m,f.q,f.p] at j;exact Fz.aJ o j
def Az.aE (f:T w w w'):Az B S s w w':=Fz.aE f _ _ _
structure ks (S S':Gs):Prop where
 dC:me S S'
 Oq:S'.md.aN=S.md.aN
 aY:S'.aY=S.aY
def ks.bQ (S:Gs):ks S S:=⟨.bQ S,A,A⟩
def ks.aJ (f:ks S S')(j:ks S' S2):ks S S2:=⟨f.dC.aJ j.dC,j.Oq.t f.Oq,j.aY.t f.aY⟩
structure bD (S:Gs)(P E F:List C):Prop where
 aZ:Md.bN S.md (P++S.T.ls.map Ls.Se.aG)
 ql:∀k∈S.QL.map Prod.fst,k=il 0\/(∃y∈S.T.ls,k=il y.id)\/∃i∈E,k=il i
 fl:∀k∈S.FL.map Prod.fst,(∃y∈S.T.ls,k=il y.id)\/∃i∈F,k=il i
 dl:∀y∈S.T.ls,y.dl<=S.aY+1000
structure kg (w:L)(r:D)(a:Fm.Rp):Prop where
 bO:w.heap[r]?=K a.cs 136
 es:∃es,dF w a.es es/\es.length<=8
def iX {M:π}{z:E dh}(f:dF w M z)(J:∀(d:D) (b:Q π) (c:D×D),w.heap[d]?=K b 73 c->w'.heap[d]?=K b 73 c):dF w' M z:=by
 refine⟨?_,λe r q a=>?_⟩
 .rcases f.1 with P|⟨g,V,O,rfl,U,u⟩
  .exact o P
  let⟨b,c,a⟩:=f.2 _ _ _ A;have t:w'.heap[g]?=w.heap[g]?:=(J _ _ _ a).t a.s;exact j ⟨g,V,O,A,U,λd x k=>⟨(GQ (w:=w) t).t (u d x k).1,(GQ (w:=w) t).t (u d x k).2⟩⟩
 let⟨b,c,a⟩:=f.2 _ _ _ a;exact⟨b,c,J _ _ _ a⟩
def kg.gz {t:D}{f:Fm.Rp}(j:kg w t f)(o:cY w B g S s x)(u:Gz B S s w w'):kg w' t f:=let⟨i,h,b⟩:=j.es;⟨u.aM o j.bO R R,i,iX h (λm k l a=>u.aM o a R R),b⟩
def kg.aE {o:D}{f:Fm.Rp}(c:kg w o f)(j:T w w w'):kg w' o f:=by
 obtain⟨z,t,u⟩:=c.es;exact⟨j.ke c.bO,z,t.aE j,u⟩
def pe {t:Md.dY}(j:Md.Ok t){f:Md.dp}(o:f∈t.vs):0<=f.aG/\f.aG<=1048576:=by
 have:=j.dK f o;have:=Md.jF j f o;have:=j.n2;omega
def aa3 (w:L)(B g:D)(S:Gs)(s:D)(x:St)(t:C)(u:He)(w':L):Prop:=∃(a:Md.dY) (b c:C),u=f #[b,c]/\0<=b/\b<=1048576/\cY w' B g {S with md:=a} s x/\Gz B S s w w'/\a.aN=S.md.aN/\((c=0/\(∀o,Md.bN S.md o->Md.bN a (b::o))/\a.next=S.md.next/\∃j∈a.vs,j.aG=b)\/(c≠0/\a=S.md/\(t= -1->∃j∈S.md.vs,j.aZ=1048576)))
def Fx (f:C)(w:ν)(a:cY w B g S s x):Y N 241 #[bh S.p.c,f] w (aa3 w B g S s x f):=by
 go_call Tp S.p S.md S.R S.L S.ca S.G f w a.aO.cl as c w' (⟨md',o,d,z,l,h,i,⟨y,e,rfl⟩,rfl⟩|⟨n,p,q,f,j,rfl⟩)
 .rw[a.aO.ok.b.1] at z;let⟨m,b⟩:=a.cl (Fz.cz z sm sm) d QD (.fz z (λ_ k=>by cases k) sm) (λ_ a=>a);have:=pe d.ok e;exact⟨md',_,0,A,this.1,this.2,m,b,l,Ξ ⟨A,i,h,y,e,A⟩⟩
 exact⟨S.md,0,n,A,H,H,a.aE f,Gz.aE f,A,Θ ⟨H,A,j⟩⟩
def aa4 (w:ν)(B g:D)(S:Gs)(s:D)(x:St)(o:C)(j:He)(w':ν):Prop:=∃(a:Md.dY) (d c:E (IA×π)) (h:C),j=G h/\cY w' B g {S with md:=a,R:=d,L:=c} s x/\Gz B S s w w'/\a.aN=S.md.aN/\∀f,Md.bN S.md (o::f)->Md.bN a f
def lx (f:C)(w:ν)(a:cY w B g S s x):Y N 79 #[bh S.p.c,f] w (aa4 w B g S s x f):=by
 go_call DG S.p S.md S.R S.L S.ca S.G f w a.aO.cl as d w' (⟨md',R',L',h,z,i,j,c,rfl,e,l⟩|⟨rfl,f,c⟩)
 .rw[a.aO.ok.b.1] at z;let⟨m,k⟩:=a.cl (Fz.cz z sm sm) h QD l e;exact⟨md',R',L',0,A,m,k,i,c⟩
 exact⟨S.md,S.R,S.L,4,A,a.aE f,Gz.aE f,A,λb a=>absurd a (c b)⟩
def Ug (w:L)(B g:D)(S:Gs)(s:D)(x:St)(o:C)(t:He)(w':L):Prop:=∃(b:Ls.Tb) (c d:C),t=f #[c,d]/\cY w' B g {S with T:=b} s x/\Gz B S s w w'/\((d=0/\∃j:Ls.Se,j.aG=o/\j.dl<=S.aY+1000/\(j.id=c/\c=S.T.cK+1)/\b.ls=S.T.ls++[j])\/(d≠0/\b=S.T/\(S.T.most<=S.T.ls.length\/1048576<=S.T.cK)))
def Ot (c:C)(w:L)(u:cY w B g S s x):Y N 242 #[bh S.t,G c,S.aY] w (Ug w B g S s x c):=by
 go_call Ls.vu S.t S.T c S.aY w u.aO.mc u.aO.ok.qH u.aO.ok.aY as f w' (⟨rfl,c,m⟩|⟨rfl,l,j,n,o⟩)
 .exact⟨S.T,0,12,A,u.aE c,Gz.aE c,Θ ⟨H,A,m⟩⟩
 have t:=u.aO.ok.qH;let⟨q,p⟩:=u.mc j l ⟨t.most,t.gM,QB,λe b=>by
  rcases GO.1 b with b|b
  .exact t.st e b
  .cases GA.1 b;simp,⟨oS t.cK,oS t.cK⟩,oS t.eu,by
   rw[LR]
   exact⟨t.kx,List.pairwise_singleton ..,λh i c k=>by
    cases GA.1 k
    have:=t.ZO h i;simp;omega⟩,λe b=>by
  rcases GO.1 b with b|b
  .have:=t.ZO e b;simp;omega
  cases GA.1 b;have:=t.cK;simp;omega⟩
 exact⟨_,_,0,A,q,p,Ξ ⟨A,_,A,oS t.gM,⟨A,A⟩,A⟩⟩
def Fy (w:L)(B g:D)(S:Gs)(s:D)(x:St)(t:C)(u:He)(w':L):Prop:=∃(a:Ls.Tb) (e b:C),u=f #[e,b]/\cY w' B g {S with T:=a} s x/\Gz B S s w w'/\((b=0/\∃o j,S.T.ls[o]?=M j/\j.aG=e/\a.ls=S.T.ls.set o {j with aG:=t})\/(b≠0/\a=S.T))
def DW (id u:C)(w:L)(t:cY w B g S s x):Y N 303 #[bh S.t,id,u,S.aY] w (Fy w B g S s x u):=by
 go_call Ls.re S.t S.T id u S.aY w t.aO.mc t.aO.ok.qH as d w' (⟨i,y,c,-,-,f,e,rfl⟩|⟨n,h,rfl,-,u⟩)
 .let⟨k,a⟩:=t.mc e f (vK t.aO.ok.qH c A (t.aO.ok.qH.st y (GI.2 ⟨i,c⟩)));exact⟨_,_,0,A,k,a,o ⟨A,i,y,c,A,A⟩⟩
 exact⟨S.T,0,n,A,t.aE u,Gz.aE u,j ⟨H,A⟩⟩
def FA (w:L)(B g:D)(S:Gs)(s:D)(x:St)(o:He)(w':L):Prop:=∃(a:Ls.Tb) (e:C),o=G e/\cY w' B g {S with T:=a} s x/\Gz B S s w w'/\(a=S.T\/∃f j,S.T.ls[f]?=M j/\a.ls=S.T.ls.set f {j with dl:=S.aY+S.T.gM})
def DX (id:C)(w:L)(t:cY w B g S s x):Y N 250 #[bh S.t,id,S.aY] w (FA w B g S s x):=by
 go_call Ls.Mg S.t S.T id S.aY w t.aO.mc t.aO.ok.qH t.aO.ok.aY as d w' (⟨i,y,c,-,-,f,e,rfl⟩|⟨n,h,rfl,b⟩)
 .let⟨k,a⟩:=t.mc e f (vK t.aO.ok.qH c A (t.aO.ok.qH.st y (GI.2 ⟨i,c⟩)));exact⟨_,0,A,k,a,j ⟨i,y,c,A⟩⟩
 exact⟨S.T,n,A,t.aE b,Gz.aE b,o A⟩
def Ou {f:Ls.Tb}(j:f.Ok)(t:D):({f with ls:=f.ls.eraseIdx t}:Ls.Tb).Ok:=have o:=NY f.ls t;have u:=o.length_le;⟨j.most,j.gM,by have:=j.cB;show((f.ls.eraseIdx t:D):C)<=f.most;omega,λa e=>j.st a (o.subset e),j.cK,by have:=j.eu;show 0<=f.eu/\f.eu+((f.ls.eraseIdx t:D):C)<=f.cK;omega,j.kx.sublist o,λa e=>j.ZO a (o.subset e)⟩
def YO (w:L)(B g:D)(S:Gs)(s:D)(x:St)(id:C)(t:He)(w':L):Prop:=∃(a:Ls.Tb) (e b:C),t=f #[e,b]/\cY w' B g {S with T:=a} s x/\Gz B S s w w'/\((b=0/\∃o j,S.T.ls[o]?=M j/\j.aG=e/\j.id=id/\a.ls=S.T.ls.eraseIdx o)\/(b≠0/\a=S.T))
def Uh (id:C)(w:L)(t:cY w B g S s x):Y N 304 #[bh S.t,id,S.aY] w (YO w B g S s x id):=by
 go_call Ls.ng S.t S.T id S.aY w t.aO.mc t.aO.ok.qH as c w' (⟨i,y,h,d,-,f,e,rfl⟩|⟨n,j,rfl,-,b⟩)
 .let⟨l,k⟩:=t.mc e f (Ou t.aO.ok.qH i);exact⟨_,_,0,A,l,k,o ⟨A,i,y,h,A,d,A⟩⟩
 exact⟨S.T,0,n,A,t.aE b,Gz.aE b,Θ ⟨H,A⟩⟩
end Gt
namespace Gt
open Fd (bh)
variable {w w' w2:ν}{B g s r:Nat}{S z S2:Gs}{x x':St}{a a':Fm.Rp}{P E F:List Int}
def ext (f:C)(E:List C):List C:=if f=0 then E else []
def sZ (f:C):ext f []=[]:=by unfold ext;split<;>rfl
def gG (w:L)(B g:D)(S:Gs)(s:D)(x:St)(r:D)(f:List C)(j:He)(w':L):Prop:=∃(b:C) (z:Gs) (a':Fm.Rp),j=ϑ b/\cY w' B g z s x/\ks S z/\Az B S s w w'/\kg w' r a'/\(∀P E F,bD S P E F->bD z P (ext b f++E) F)/\S.G<=z.G/\z.G<=S.G+1
def mh {f:He}(b:∃(c:C) (z:Gs) (a':Fm.Rp),f=ϑ c/\cY w' B g z s x/\ks S z/\Az B S s w w'/\kg w' r a'/\(∀P E F,bD S P E F->bD z P E F)/\S.G<=z.G/\z.G<=S.G+1):gG w B g S s x r [] f w':=let⟨c,y,a',e,d,h,i,k,l,m⟩:=b;⟨c,y,a',e,d,h,i,k,λP E F b=>by rw[sZ];exact l P E F b,m⟩
def pg (A:w.heap[r]?=K a.cs 136)(u:B<=r)(f:aL (· =r) w w'):Fz B [136] [] w w':=⟨f.os,f.cb,f.aW,f.aH,λd b=>by
 by_cases t:d=r
 .exact j (o (t▸⟨_,_,_,A,R,u⟩))
 exact o (f.aG d b t)⟩
def cY.DY (o:cY w B g S s x)(j:kg w r a)(t:B<=r)(J:aL (· =r) w w')(A:w'.heap[r]?=K a'.cs 136)(u:a'.es=a.es):cY w' B g S s x/\kg w' r a'/\Az B S s w w':=by
 have f:=pg j.bO t J;refine⟨o.Fv f R R,⟨A,?_⟩,Fz.cz f R R⟩;let⟨h,b,i⟩:=j.es;rw[u];exact⟨h,iX b λp n c d=>f.aM d R R,i⟩
def afu (w:L)(B g:D)(S:Gs)(s:D)(x:St)(r:D)(f:He)(w':L):Prop:=∃(c:C) (a':Fm.Rp),f=G c/\cY w' B g S s x/\kg w' r a'/\Az B S s w w'
def sn (f:C)(w:L)(j:cY w B g S s x)(t:kg w r a)(u:B<=r)(J: -9223372036854775808<=f/\f<=9223372036854775807):Y N 200 #[bh g,f,bh r] w (afu w B g S s x r):=by
 go_call ny r a f w j.aO t.bO J as e w' (⟨m,-,-,-,rfl,k,o⟩|⟨rfl,b⟩)
 .let⟨h,i,c⟩:=j.DY t u o k A;exact⟨0,_,A,h,i,c⟩
 exact⟨4,a,A,j.aE b.1,t.aE b.1,Az.aE b.1⟩
def zm (f:C)(w:L)(t:cY w B g S s x)(u:kg w r a)(J:B<=r)(K: -9223372036854775808<=f/\f<=9223372036854775807):Y N 200 #[bh g,f,bh r] w λd w'=>∃(c:C) (a':Fm.Rp),d=G c/\cY w' B g S s x/\kg w' r a'/\Az B S s w w'/\((∃i∈S.md.vs,i.aG=f)->∃j,aT S.R (il f)=O j/\c=0/\a'={a with v:=f,r:=j}):=by
 go_call ny r a f w t.aO u.bO K as d w' (⟨j,-,-,l,rfl,k,o⟩|⟨rfl,b,q⟩)
 .let⟨m,y,n⟩:=t.DY u J o k A;exact⟨0,_,A,m,y,n,λ_=>⟨j,l,A,A⟩⟩
 exact⟨4,a,A,t.aE b,u.aE b,Az.aE b,λ⟨i,e,d⟩=>absurd d (q i e)⟩
structure rF (S:Gs)(R:QE):Prop where
 next:S.md.next=1
 aZ:∀y∈S.md.vs,y.aZ≠1048576
 ls:S.T.ls=[]
 op:S.T.cK=0
 most:1<=S.T.most
 oZ:aT S.R (il 0)=R
def bD.cK {md':Md.dY}{d:Ls.Tb}{b:Int}{y:Ls.Se}(f:bD S P E F)(m:∀Q,Md.bN S.md Q->Md.bN md' (b::Q))(j:y.aG=b)(l:y.dl<=S.aY+1000)(h:d.ls=S.T.ls++[y]):bD {S with md:=md',T:=d} P E F where
 aZ:=by
  show Md.bN md' (P++d.ls.map Ls.Se.aG);rw[h,Io,Lw,j,<-Km];exact(m _ f.aZ).vT (List.perm_append_comm (l₁:=[b]))
 ql k hk:=by
  rcases f.ql k hk with e|⟨j0,c,i⟩|e
  .exact Ξ e
  .exact Θ (Ξ ⟨j0,by show j0∈d.ls;rw[h];exact Jq _ c,i⟩)
  .exact Θ (Θ e)
 fl k hk:=by
  rcases f.fl k hk with⟨j0,c,i⟩|e
  .exact Ξ ⟨j0,by show j0∈d.ls;rw[h];exact Jq _ c,i⟩
  .exact Θ e
 dl j0 c:=by
  have c:j0∈d.ls:=c;rw[h] at c;rcases GO.1 c with c|c
  .exact f.dl j0 c
  .obtain rfl:=GA.1 c;exact l
def bD.BI {t o:Md.dY}{A u:List (IA×π)}{j:C}(f:bD S P E F)(J:∀b,Md.bN S.md b->Md.bN t (j::b))(K:∀b,Md.bN t (j::b)->Md.bN o b):bD {S with md:=o,R:=A,L:=u} P E F:=
 ⟨K _ (J _ f.aZ),f.ql,f.fl,f.dl⟩
theorem vu (a:Fm.gR)(y:Fm.Rp)(w:ν)(q:cY w B g S s x)(c0:kg w r y)(b2:B<=r):τ γ 199 #[bh g,Γ a.cs,bh r] w λc w'=>gG w B g S s x r [] c w'/\∀e,rF S e->a.at_= -1->c=G 0/\kg w' r {y with s:=1,v:=0,r:=e}:=by
 obtain⟨ai,a2,a1,aa,a4,a3,a0⟩:=a;show τ γ 199 #[bh g,Γ #[G ai,G a2,G a1,G aa,O a4,O a3,G a0],bh r] w _;have t:=bo w (θ #[G ai,G a2,G a1,G aa,O a4,O a3,G a0] 32);obtain⟨u,g6⟩:∃u,w.alloc (θ #[G ai,G a2,G a1,G aa,O a4,O a3,G a0] 32)=u:=⟨_,A⟩;rw[g6] at t;have o:ρ u u u.drew:=QG.d;have V:=q.aE (t.aE.t (o.m t.aE.z));have e3:u (w,3)=aa:=cR t.at_ A;have e2:u g=bh S.p.c:=V.aO.aV.1;have c7:=c0.aE (t.aE.t (o.m t.aE.z));have K:=Ga (W V (W c7 (W b2 (t.aE.t (o.m t.aE.z)))));have a6:=QC (τ γ 241 #[bh S.p.c,G aa] u.drew λc w'=>aa3 u.drew B g S s x aa c w'/\w' g=bh S.p.c/\w' (w,3)=aa) ((Fx aa u.drew V).m (by
  rintro c w' b
  obtain⟨k,M,h,rfl,Z,f9,N,b0,h6⟩:=id b
  exact⟨b,N.aO.aV.1,cR (b0.aM V (Below.ke o t.at_) sm sm) A⟩))
 clear q V c0 c7 b2 t o;go_enter func199,ntmps199;go_wp2_with fail;go_region_held3 (λw'=>w' g=bh S.p.c/\w' (w,3)=aa) (first|exact⟨e2,e3⟩|exact⟨a8,a9⟩|go_keep) (first|(go_at_call 241;refine a6.o.m ?_;rintro c w2 ⟨⟨k,M,h,rfl,b⟩,a8,a9⟩;have f:=Ga b;clear b));clear a6;rcases f.2.2.2.2.2 with⟨rfl,b,ag,d1⟩|⟨af,g4,g5⟩
 .have o:ρ w2 w2 w2.drew:=QG.d;have Z:=f.2.2.1.aE o;have c8:=(K.2.1.gz K.1 f.2.2.2.1).aE o;have d2:Az B S s w w2.drew:=Fz.aJ (Fz.aJ (Az.aE (B:=B) (S:=S) (s:=s) K.2.2.2) (Gz.az f.2.2.2.1)) (Az.aE (B:=B) (S:=S) (s:=s) o);have f6:w2 (g,1)=bh S.t:=f.2.2.1.aO.aV.2.1;have d7:w2 (g,7)=S.aY:=f.2.2.1.aO.aV.2.2.2.2.2.2.2;have i:=Ga (W Z (W c8 (W d2 b)));have e6:=Ga (W ag d1);have a7:=QC (τ γ 242 #[bh S.t,G M,G S.aY] w2.drew λc w'=>Ug w2.drew B g {S with md:=k} s x M c w'/\w' (g,1)=bh S.t/\w' (g,7)=S.aY) ((Ot M w2.drew Z).m (by
   rintro c w' b
   obtain⟨p,h8,h,rfl,N,b0⟩:=id b
   exact⟨b,N.aO.aV.2.1,N.aO.aV.2.2.2.2.2.2.2⟩))
  clear Z c8 d2 b o a8 a9 ag d1;go_wp2_with fail;go_region_held3 (λw'=>w' (g,1)=bh S.t/\w' (g,7)=S.aY) (first|exact⟨f6,d7⟩|exact⟨f7,f8⟩|go_keep) (first|(go_at_call 242;apply a7.o.m;rintro c j ⟨⟨p,id,h,rfl,b⟩,f7,f8⟩;have L:=Ga b;clear b));clear a7;have J:=QC (cY j B g {S with md:=k,T:=p} s x/\kg j r y/\Az B S s w j) ⟨L.1,i.2.1.gz i.1 L.2.1,Fz.aJ i.2.2.1 (Gz.az L.2.1)⟩;rcases L.2.2 with⟨rfl,e1,c6,d4,⟨h1,d8⟩,d6⟩|⟨af,Y,g0⟩
  .obtain⟨f4,f2,e8,f5,f3,e9,f1,f0⟩:=y;have T:=J.2.1.bO;have h7:j r=f4:=cR T A;have h5:=aI T 0;have U:=aF (j:=0) (G id) T;obtain⟨n,g8⟩:∃n,j.setCell r (G id)=n:=⟨_,A⟩;rw[g8] at U;have b9:aL (· =r) j n:=⟨(U.aE 0 j QK ⟨A,A,A,QD,λ_ q=>om⟩).os,(U.aE 0 j QK ⟨A,A,A,QD,λ_ q=>om⟩).tape,(U.aE 0 j QK ⟨A,A,A,QD,λ_ q=>om⟩).output,Iu U.aH.s,λh3 _ c=>U.old h3 c⟩;obtain⟨d3,c2,c3⟩:=J.1.DY (a':=⟨id,f2,e8,f5,f3,e9,f1,f0⟩) J.2.1 K.2.2.1 b9 U.at_ A;have e7:=Ga (zm M n d3 c2 K.2.2.1 (oA f.o));have e4:=Ga d8;have a5:=QC (Az B S s w n/\∀P E F,bD S P E F->bD {S with md:=k,T:=p} P E F) ⟨Fz.aJ J.2.2 c3,λP E F ae=>ae.cK i.2.2.2 c6 d4 d6⟩;clear U b9 d3 c2 c3 T c6 d4 h1 d6 d8;go_wp2_with fail;go_call e7.o as c w5 ⟨m,d9,rfl,b5⟩;have X:=Ga b5;clear b5;go_wp2;go_ret;refine⟨mh ⟨m,_,d9,A,X.1,⟨⟨A,A,A,A,A,A,A,A,A,A⟩,f.2.2.2.2.1,A⟩,Fz.aJ a5.1 X.2.2.1,X.2.1,a5.2,QD,Ib _⟩,λe l _=>?_⟩;obtain⟨ag,I,ah,h0⟩:=e6.o;have b7:Md.Ok k:=X.1.aO.cl.ok;have b6:M=0:=by
    have V:=b7.dK I ah;have Z:=Md.jF b7 I ah;have f9:=l.next;omega
   obtain⟨e0,R,g1,ab⟩:=X.2.2.2 ⟨I,ah,h0⟩;have R:aT S.R (il M)=e0:=R;rw[b6,l.oZ] at R;obtain rfl:e=e0:=sU R;have h2:id=1:=by rw[e4.o];show S.T.cK+1=1;rw[l.op];rfl
   subst g1 b6 h2;rw[ab] at X;exact⟨A,X.2.1⟩
  have I:(h !=0)=ψ:=sU af;have h4:j g=bh S.p.c:=J.1.aO.aV.1;have e5:=Ga (lx M j J.1);go_wp2_with fail;go_call e5.o as c w5 ⟨g7,g3,g2,m,rfl,b4⟩;have H:=Ga b4;clear b4;go_wp2;go_ret;refine⟨mh ⟨7,_,y,A,H.1,⟨⟨A,A,A,A,A,A,A,A,A,A⟩,H.2.2.1.t f.2.2.2.2.1,A⟩,Fz.aJ J.2.2 (Gz.az H.2.1),J.2.1.gz J.1 H.2.1,λP E F ae=>?_,QD,Ib _⟩,λe l _=>?_⟩
  .have Y:p=S.T:=Y;subst Y;exact ae.BI i.2.2.2 H.2.2.2
  exfalso;have V:=l.most;have Z:=l.op;have b3:S.T.most<=(S.T.ls:D)\/1048576<=S.T.cK:=g0;rw[l.ls] at b3;simp[Hy] at b3;omega
 have I:(h !=0)=ψ:=sU af;go_wp2;go_ret;subst g4;refine⟨mh ⟨h,S,y,A,f.2.2.1,.bQ S,Fz.aJ (Az.aE (B:=B) (S:=S) (s:=s) K.2.2.2) (Gz.az f.2.2.2.1),K.2.1.gz K.1 f.2.2.2.1,λ_ _ _ q=>q,QD,Ib _⟩,λe l ab=>?_⟩;let⟨e1,g9,b⟩:=g5 ab;exact absurd b (l.aZ e1 g9)
end Gt
namespace Gt
open Fd (bh)
variable {w w' w2:ν}{B g s r:Nat}{S S' S2:Gs}{x x':St}{a a':Fm.Rp}{P E F:List Int}
def BJ:∀{ls:List Ls.Se} {i:D} {y y':Ls.Se},ls[i]?=y->(y'.aG::ls.map Ls.Se.aG).Perm (y.aG::(ls.set i y').map Ls.Se.aG)
 |[],i,y,y',b=>by simp at b
 |c::ls,0,y,y',b=>by
  obtain rfl:c=y:=sU b;simpa using List.Perm.swap _ _ _
 |c::ls,i+1,y,y',b=>by
  have f:=BJ (ls:=ls) (i:=i) (y:=y) (y':=y') (sU b);simp only[Ij,Gn];exact(List.Perm.swap _ _ _).trans ((f.cons _).trans (List.Perm.swap _ _ _))
def mi {j:List Ls.Se}{f:D}{z y' o:Ls.Se}(u:j[f]?=z)(J:y'.id=z.id)(M:o∈j):∃n∈j.set f y',n.id=o.id:=by
 let⟨i,e⟩:=GI.1 M;by_cases t:f=i
 .subst t;rw[u] at e;cases Gm e;have K:=(Gg.1 u).1;exact⟨y',GI.2 ⟨f,by rw[KH K]⟩,J⟩
 exact⟨o,GI.2 ⟨i,by rwa[La t]⟩,A⟩
def mj:∀{ls:List Ls.Se} {i:D} {d e:Ls.Se},ls[i]?=d->e∈ls->e∈ls.eraseIdx i\/e=d
 |[],i,d,e,c,b=>by cases b
 |h::ls,0,d,e,c,b=>by
  obtain rfl:h=d:=sU c;rcases GF.1 b with f|b
  .exact j f
  exact o b
 |h::ls,i+1,d,e,c,b=>by
  rcases GF.1 b with rfl|b
  .exact o (Hk ..)
  rcases mj (ls:=ls) (i:=i) (sU c) b with c|c
  .exact o (GK _ c)
  exact j c
def vL:∀{ls:List Ls.Se} {i:D} {y:Ls.Se},ls[i]?=y->(ls.map Ls.Se.aG).Perm (y.aG::(ls.eraseIdx i).map Ls.Se.aG)
 |[],i,y,b=>by simp at b
 |c::ls,0,y,b=>by
  obtain rfl:c=y:=sU b;simp
 |c::ls,i+1,y,b=>by
  have f:=vL (ls:=ls) (i:=i) (y:=y) (sU b);simp only[Ij,List.eraseIdx_cons_succ];exact(f.cons _).trans (List.Perm.swap _ _ _)
def bD.Ui {md' o:Md.dY}{R' L':List (IA×π)}{d:Ls.Tb}{b:Int}{i:Nat}{y:Ls.Se}(e:bD S P E F)(q:∀Q,Md.bN S.md Q->Md.bN md' (b::Q))(j:S.T.ls[i]?=y)(h:d.ls=S.T.ls.set i {y with aG:=b})(t:∀Q,Md.bN md' (y.aG::Q)->Md.bN o Q):bD {S with md:=o,T:=d,R:=R',L:=L'} P E F where
 aZ:=by
  refine t _ ?_;show Md.bN md' (y.aG::(P++d.ls.map Ls.Se.aG));rw[h];refine(q _ e.aZ).vT ?_;have p:=BJ (y':={y with aG:=b}) j;refine(Lg.symm.trans ?_).trans Lg;exact p.append_left P
 ql k hk:=by
  rcases e.ql k hk with f|⟨z,c,l⟩|f
  .exact Ξ f
  .obtain⟨z',n,m⟩:=mi (y':={y with aG:=b}) j rfl c;exact Θ (Ξ ⟨z',by show z'∈d.ls;rwa[h],by rwa[m]⟩)
  .exact Θ (Θ f)
 fl k hk:=by
  rcases e.fl k hk with⟨z,c,l⟩|f
  .obtain⟨z',n,m⟩:=mi (y':={y with aG:=b}) j rfl c;exact Ξ ⟨z',by show z'∈d.ls;rwa[h],by rwa[m]⟩
  .exact Θ f
 dl z c:=by
  have c:z∈d.ls:=c;rw[h] at c;rcases JE c with c|rfl
  .exact e.dl z c
  .exact e.dl y (GI.2 ⟨i,j⟩)
def bD.released {o:Md.dY}{R' L' FL':List (IA×π)}{d:Ls.Tb}{i:Nat}{y:Ls.Se}(f:bD S P E F)(m:S.T.ls[i]?=y)(h:d.ls=S.T.ls.eraseIdx i)(v:∀Q,Md.bN S.md (y.aG::Q)->Md.bN o Q)(hF:FL'=be (il y.id) S.FL):bD {S with md:=o,T:=d,R:=R',L:=L',FL:=FL'} P ([y.id]++E) F where
 aZ:=by
  refine v _ ?_;show Md.bN S.md (y.aG::(P++d.ls.map Ls.Se.aG));rw[h];exact f.aZ.vT (((vL m).append_left P).trans Lg)
 ql k e:=by
  rcases f.ql k e with l|⟨z,b,c⟩|⟨j,q,c⟩
  .exact Ξ l
  .rcases mj m b with b|rfl
   .exact Θ (Ξ ⟨z,by show z∈d.ls;rwa[h],c⟩)
   .exact Θ (Θ ⟨z.id,by simp,c⟩)
  .exact Θ (Θ ⟨j,LI _ q,c⟩)
 fl k e:=by
  have e:k∈FL'.map Prod.fst:=e;rw[hF] at e;obtain⟨p,t,rfl⟩:=GL.1 e;obtain⟨u,n⟩:=GX.1 t;rcases f.fl p.1 (GL.2 ⟨p,u,rfl⟩) with⟨z,b,c⟩|l
  .rcases mj m b with b|rfl
   .exact Ξ ⟨z,by show z∈d.ls;rwa[h],c⟩
   .rw[c] at n;simp[JT (iz z.id)] at n
  .exact Θ l
 dl z b:=by
  have b:z∈d.ls:=b;rw[h] at b;exact f.dl z ((NY ..).subset b)
def re (a:Fm.gR)(y:Fm.Rp)(w:ν)(c:cY w B g S s x)(a6:kg w r y)(a5:B<=r):τ γ 249 #[bh g,a.cs,bh r] w λd w'=>gG w B g S s x r [] d w':=by
 let⟨N,l,v,aa,Y,T,q⟩:=a;show τ γ 249 #[bh g,Γ #[N,l,v,aa,Y,T,q],bh r] w _;have t:=bo w (θ #[N,l,v,aa,Y,T,q] 32);let⟨h,c6⟩:∃h,w.alloc (θ #[N,l,v,aa,Y,T,q] 32)=h:=⟨_,A⟩;rw[c6] at t;have o:ρ h h h.drew:=QG.d;have X:=c.aE (t.aE.t (o.m t.aE.z));have e3:=cJ 3 t.at_;have d2:h g=bh S.p.c:=X.aO.aV.1;have a7:=a6.aE (t.aE.t (o.m t.aE.z));have J:=Ga (W X (W a7 (W a5 (t.aE.t (o.m t.aE.z)))));have a2:=QC (τ γ 241 #[bh S.p.c,aa] h.drew λd w'=>aa3 h.drew B g S s x aa d w'/\w' g=bh S.p.c/\w' (w,3)=aa/\w' (w,1)=l) ((Fx aa h.drew X).m (by
  rintro d w' j
  obtain⟨ab,M,K,rfl,V,d9,b,i,c2⟩:=id j
  have ah:=i.aM X (Below.ke o t.at_) R R
  exact⟨j,b.aO.aV.1,cR ah A,cR ah A⟩))
 have b5:=Ga (Below.ke o t.at_);go_enter func249,ntmps249;go_wp2_with fail;go_region_held3 (λw'=>w' g=bh S.p.c/\w' (w,3)=aa) (first|exact⟨d2,e3⟩|exact⟨ae,af⟩|go_keep) (first|(go_at_call 241;refine a2.o.m ?_;rintro d w2 ⟨⟨ab,M,K,rfl,j⟩,ae,af,b9⟩;have f:=Ga j));rcases f.2.2.2.2.2 with⟨rfl,j,-⟩|⟨n,c3,-⟩
 .have o:ρ w2 w2 w2.drew:=QG.d;have V:=f.2.2.1.aE o;have a0:=(J.2.1.gz J.1 f.2.2.2.1).aE o;have a1:Az B S s w w2.drew:=Fz.aJ (Fz.aJ (Az.aE (B:=B) (S:=S) (s:=s) J.2.2.2) (Gz.az f.2.2.2.1)) (Az.aE (B:=B) (S:=S) (s:=s) o);have b7:w2 (g,1)=bh S.t:=f.2.2.1.aO.aV.2.1;have d7:w2 (g,7)=S.aY:=f.2.2.1.aO.aV.2.2.2.2.2.2.2;have ag:=Below.ke o (f.2.2.2.1.aM J.1 b5.o R R);have U:=Ga (W V (W a0 (W a1 j)));have a4:=QC (τ γ 303 #[bh S.t,l,M,S.aY] w2.drew λd w'=>Fy w2.drew B g {S with md:=ab} s x M d w'/\w' (g,1)=bh S.t/\w' (g,7)=S.aY/\w' (w,1)=l) ((DW l M w2.drew V).m (by
   rintro d w' j
   obtain⟨I,d3,K,rfl,b,i,c2⟩:=id j
   exact⟨j,b.aO.aV.2.1,b.aO.aV.2.2.2.2.2.2.2,cR (i.aM V ag R R) A⟩))
  clear V a0 a1 j o ae af ag;go_wp2_with fail;go_region_held3 (λw'=>w' (g,1)=bh S.t/\w' (g,7)=S.aY/\w' (w,1)=l) (first|exact⟨b7,d7,b9⟩|exact⟨c0,c8,d1⟩|go_keep) (first|(go_at_call 303;apply a4.o.m;rintro d O ⟨⟨I,d4,K,rfl,j⟩,c0,c8,d1⟩;have Z:=Ga j));have u:=QC (cY O B g {S with md:=ab,T:=I} s x/\kg O r y/\Az B S s w O) ⟨Z.1,U.2.1.gz U.1 Z.2.1,Fz.aJ U.2.2.1 (Gz.az Z.2.1)⟩;have d8:O g=bh S.p.c:=u.1.aO.aV.1;rcases Z.2.2 with⟨rfl,d3,e0,a8,a9,b4⟩|⟨n,k⟩
  .have e:=Ga (lx d4 O u.1);have H:=Ga (W a8 (W a9 b4));go_wp2_with fail;go_call e.o as d w4 ⟨c7,b2,b0,m,rfl,p⟩;have z:=Ga p;have b6:=Ga (sn M w4 p.1 (u.2.1.gz u.1 p.2.1) J.2.2.1 (oA f.o));go_wp2_with fail;go_call b6.o as d w5 ⟨m,b3,rfl,a3⟩;have G:=Ga a3;go_wp2;go_ret;refine mh ⟨m,_,b3,A,G.1,⟨⟨A,A,A,A,A,A,A,A,A,A⟩,z.2.2.1.t f.2.2.2.2.1,A⟩,Fz.aJ (Fz.aJ u.2.2 (Gz.az z.2.1)) G.2.2,G.2.1,λP E F L=>?_,QD,Ib _⟩;exact L.Ui U.2.2.2 H.1 H.2.2 (H.2.1▸z.2.2.2)
  have d6:(K !=0)=ψ:=sU n;have e:=Ga (lx M O u.1);go_wp2_with fail;go_call e.o as d w5 ⟨c7,b2,b0,m,rfl,p⟩;have z:=Ga p;go_wp2;go_ret;refine mh ⟨K,_,y,A,z.1,⟨⟨A,A,A,A,A,A,A,A,A,A⟩,z.2.2.1.t f.2.2.2.2.1,A⟩,Fz.aJ u.2.2 (Gz.az z.2.1),u.2.1.gz u.1 z.2.1,λP E F L=>?_,QD,Ib _⟩;have k:I=S.T:=k;subst k;exact L.BI U.2.2.2 z.2.2.2
 have d6:(K !=0)=ψ:=sU n;go_wp2;go_ret;subst c3;exact mh ⟨K,S,y,A,f.2.2.1,.bQ S,Fz.aJ (Az.aE (B:=B) (S:=S) (s:=s) J.2.2.2) (Gz.az f.2.2.2.1),J.2.1.gz J.1 f.2.2.2.1,λ_ _ _ c=>c,QD,Ib _⟩
def ng (a:Fm.gR)(X:Fm.Rp)(w:ν)(i:cY w B g S s x)(a2:kg w r X)(d2: -9223372036854775808<=a.bI/\a.bI<=9223372036854775807):Y N 251 #[bh g,a.cs] w λc w'=>gG w B g S s x r [a.bI] c w':=by
 let⟨G,b,I,aa,n,m,H⟩:=a;show Y N 251 #[bh g,Γ #[G,b,I,aa,n,m,H]] w λc w'=>gG w B g S s x r [b] c w';have j:=bo w (θ #[G,b,I,aa,n,m,H] 32);let⟨d,c0⟩:∃d,w.alloc (θ #[G,b,I,aa,n,m,H] 32)=d:=⟨_,A⟩;rw[c0] at j;have f:ρ d d d.drew:=QG.d;have O:=i.aE (j.aE.t (f.m j.aE.z));have b4:=cJ 1 j.at_;have b3:d (g,1)=bh S.t:=O.aO.aV.2.1;have d7:d (g,7)=S.aY:=O.aO.aV.2.2.2.2.2.2.2;have a3:=a2.aE (j.aE.t (f.m j.aE.z));have K:=Ga (W O (W a3 (W d2 (j.aE.t (f.m j.aE.z)))));have af:=QC (Y N 304 #[bh S.t,b,S.aY] d.drew λc w'=>YO d.drew B g S s x b c w'/\w' (g,1)=bh S.t/\w' (g,7)=S.aY/\w' (w,1)=b) ((Uh b d.drew O).m (by
  rintro c w' z
  obtain⟨e,d3,M,rfl,t,b5,d6⟩:=id z
  exact⟨z,t.aO.aV.2.1,t.aO.aV.2.2.2.2.2.2.2,cR (b5.aM O (Below.ke f j.at_) sm sm) A⟩))
 have b0:=Ga (Below.ke f j.at_);go_enter func251,ntmps251;go_wp2_with fail;go_region_held3 (λw'=>w' (g,1)=bh S.t/\w' (g,7)=S.aY/\w' (w,1)=b) (first|exact⟨b3,d7,b4⟩|exact⟨ag,a0,a1⟩|go_keep) (first|(go_at_call 304;refine af.o.m ?_;rintro c Z ⟨⟨e,d4,M,rfl,z⟩,ag,a0,a1⟩;have U:=Ga z));have o:=QC (cY Z B g {S with T:=e} s x/\kg Z r X/\Az B S s w Z) ⟨U.1,K.2.1.gz K.1 U.2.1,Fz.aJ (Az.aE (B:=B) (S:=S) (s:=s) K.2.2.2) (Gz.az U.2.1)⟩;have c6:Z g=bh S.p.c:=o.1.aO.aV.1;rcases U.2.2 with⟨rfl,d3,e1,a6,a7,a8,a9⟩|⟨L,k⟩
 .have b2:=Ga (lx d4 Z o.1);have V:=Ga (W a6 (W a7 (W a8 a9)));go_wp2_with fail;apply b2.o.m;rintro c u ⟨c3,y,v,d9,rfl,J⟩;have f:ρ u u u.drew:=QG.d;have t:=J.1.aE f;have p:=Below.ke f (J.2.1.aM o.1 (U.2.1.aM K.1 b0.o sm sm) sm sm);have c2:u (g,2)=bh S.f:=J.1.aO.aV.2.2.1;have d1:=cJ 1 p;have a4:=(o.2.1.gz o.1 J.2.1).aE f;have a5:Az B S s w u.drew:=Fz.aJ (Fz.aJ o.2.2 (Gz.az J.2.1)) (Az.aE (B:=B) (S:=S) (s:=s) f);have ae:=QC (Y N 81 #[bh S.f,b] u.drew λc w'=>(∃M:C,c=M)/\(cY w' B g {S with T:=e,md:=c3,R:=y,L:=v,FL:=be (il b) S.FL} s x/\kg w' r X/\Az B S s w w')/\w' (g,2)=bh S.f/\w' (w,1)=b) ((Fd.vv b u.drew t.aO.dy K.2.2.1).m (by
   rintro c w' ⟨b6,b7,ab⟩
   let⟨T,l⟩:=t.dy (Fz.cz ab sm (λ_ i=>i)) b7 (by have:=bB (il b) S.FL;have i:=t.aO.ok.cB.1;show(be (il b) S.FL).length<=S.G;have i:S.FL.length<=S.G:=i;omega)
   exact⟨b6,⟨T,a4.gz t l,Fz.aJ a5 (Gz.az l)⟩,T.aO.aV.2.2.1,cR (l.aM t p sm sm) A⟩))
  have q:=Ga J;go_wp2_with fail;go_region_held3 (λw'=>w' (g,2)=bh S.f/\w' (w,1)=b) (first|exact⟨c2,d1⟩|exact⟨c8,c7⟩|go_keep) (first|(go_at_call 81;apply ae.o.m;rintro c e0 ⟨⟨d8,rfl⟩,z,c8,c7⟩;have h:=Ga z));go_wp2;go_ret;refine⟨0,_,X,A,h.1,⟨⟨A,A,A,A,A,A,A,A,A,A⟩,q.2.2.1,A⟩,h.2.2,h.2.1,λP E F b9=>?_,QD,Ib _⟩;have:=b9.released (R':=y) (L':=v) (FL':=be (il b) S.FL) V.1 V.2.2.2 (V.2.1▸q.2.2.2) (by rw[V.2.2.1]);rw[V.2.2.1] at this;exact this
 have ab:(M !=0)=ψ:=by simpa using L
 go_wp2;go_ret;have k:e=S.T:=k;subst k;exact⟨M,S,X,A,o.1,.bQ S,o.2.2,o.2.1,λ_ _ _ i=>by rw[ext,QT L];exact i,QD,Ib _⟩
def bd.only {b:D}{o:Obj}(j:bd w w' b o):aL (· =b) w w':=
 have f:=j.aE 0 w QK ⟨A,A,A,d,λ_ h=>by omega⟩
 ⟨f.os,f.tape,f.output,Iu j.aH.s,λb _ e=>j.old b e⟩
def cY.Uj {j:D}{u:π}(t:cY w B g S s x)(o:kg w r a)(z:B<=r)(J:a.cs.setIfInBounds j u=a'.cs)(A:a'.es=a.es):cY (w.setCell (r,j) u) B g S s x/\kg (w.setCell (r,j) u) r a'/\Az B S s w (w.setCell (r,j) u):=by
 have f:=aF (j:=j) u o.bO;rw[J] at f;exact t.DY o z (bd.only f) f.at_ A
def xM (a:Fm.gR)(ae:Fm.Rp)(w:ν)(i:cY w B g S s x)(Q:kg w r ae)(n:B<=r)(a0: -9223372036854775808<=ae.v/\ae.v<=9223372036854775807)(b9:a.fe.size<=6/\a.pJ.size<=6):τ γ 246 #[bh g,Γ a.cs,bh r] w λy w'=>gG w B g S s x r [] y w':=by
 obtain⟨W,v,q,aa,o,M,K⟩:=a;show τ γ 246 #[bh g,Γ #[ϑ W,ϑ v,ϑ q,ϑ aa,O o,O M,ϑ K],bh r] w _;have u:=bo w (θ #[ϑ W,ϑ v,ϑ q,ϑ aa,O o,O M,ϑ K] 32);generalize e9:w.alloc (θ #[ϑ W,ϑ v,ϑ q,ϑ aa,O o,O M,ϑ K] 32)=j at u;have h:ρ j j j.drew:=QG.d;have V:=i.aE (u.aE.t (h.m u.aE.z));have f0:j w=W:=cR u.at_ A;have b4:j (w,4)=o:=cR u.at_ A;have c2:j (w,5)=M:=cR u.at_ A;have c3:j (w,6)=K:=cR u.at_ A;have d8:j g=bh S.p.c:=V.aO.aV.1;have Z:=Q.aE (u.aE.t (h.m u.aE.z));obtain⟨m,H,D,t,I,l,e2,ab⟩:=ae;have d6:j (r,3)=t:=cR (u.aE.ke Q.bO) A;have a4:=aw Q.bO;have a9:=Ga (κ V (κ Z (κ n (u.aE.t (h.m u.aE.z)))));have e1:=Ga (κ (h.ke u.at_) a4);have a6:∀w',ρ j.drew.heap.size j.drew w'->∀(b:QE),(w' g=bh S.p.c/\w' (r,3)=t/\w' (w,4)=o/\w' (w,5)=M/\w' (w,6)=K)/\w' (r,6)=e2/\w'.frozen? (r,6)=σ/\
  ((w'.setCell (r,6) (O b)) g=bh S.p.c/\(w'.setCell (r,6) (O b)) (r,3)=t/\(w'.setCell (r,6) (O b)) (w,4)=o/\(w'.setCell (r,6) (O b)) (w,5)=M/\(w'.setCell (r,6) (O b)) (w,6)=K)/\cY (w'.setCell (r,6) (O b)) B g S s x/\kg (w'.setCell (r,6) (O b)) r ⟨m,H,D,t,I,l,b,ab⟩/\Az B S s w (w'.setCell (r,6) (O b))/\(w'.setCell (r,6) (O b)).heap[w.heap.size]?=θ #[ϑ W,ϑ v,ϑ q,ϑ aa,O o,O M,ϑ K] 32:=λw' a1 b=>by
  have af:=V.aE a1;have c:=Z.aE a1;have k:=a1.ke e1.1;obtain⟨R,T,a5⟩:=af.Uj (j:=6) (u:=O b) (a':=⟨m,H,D,t,I,l,b,ab⟩) c n A A;have U:=aF (j:=6) (O b) c.bO;have X:=(U.old w.heap.size om).t k;exact⟨⟨af.aO.aV.1,cR c.bO A,cR k A,cR k A,cR k A⟩,cR c.bO A,aI c.bO 6,⟨R.aO.aV.1,cR T.bO A,cR X A,cR X A,cR X A⟩,R,T,Fz.aJ (Az.aE (B:=B) (S:=S) (s:=s) (a9.2.2.2.t (a1.m a9.2.2.2.z))) a5,X⟩
 have b0:=Ga a6;by_cases b7:W=3
 .subst b7;have Y:=QC (τ γ 16 #[bh S.p.c,ϑ t,O o] j.drew λy w'=>vB y/\ρ j.drew.heap.size j.drew w') (DL S.p S.md S.R S.L S.ca S.G t o j.drew V.aO.sk V.aO.cl a0);clear i V Q Z n u h a6 a4 a0;go_enter func246,ntmps246;go_wp2_with fail;go_region_held3 (λw'=>w' g=bh S.p.c/\w' (r,3)=t/\w' (w,4)=o) (first|exact⟨d8,d6,b4⟩|exact⟨d0,b2,b3⟩|exact⟨L,b5,b6⟩|go_keep) (first|(go_at_call 16;go_call Y.o as y w2 ⟨⟨b,U,rfl,d2,c8,d1⟩,J⟩;obtain⟨⟨d0,b2,b3,-,-⟩,a7,a2,⟨L,b5,b6,-,-⟩,N⟩:=b0.o w2 J b;have f:=Ga N;clear N J));generalize d9:w2.setCell (r,6) (O b)=a8 at f ⊢;have e6:a8 (r,6)=O b:=cR f.2.1.bO A;clear Y d0 b2 b3 a7 a2 L b5 b6;by_cases p:U=0
  .subst p;by_cases a3:(b.size:C)>4096
   .go_wp2;go_ret;exact mh ⟨8,S,_,A,f.1,.bQ S,f.2.2.1,f.2.1,λ_ _ _ i=>i,QD,Ib _⟩
   have c6:¬(4096:C)<(b.size:C):=a3;go_wp2;go_ret;exact mh ⟨0,S,_,A,f.1,.bQ S,f.2.2.1,f.2.1,λ_ _ _ i=>i,QD,Ib _⟩
  have e8:(U==0)=σ:=by simpa using p
  go_wp2;go_ret;exact mh ⟨U,S,_,A,f.1,.bQ S,f.2.2.1,f.2.1,λ_ _ _ i=>i,QD,Ib _⟩
 have f1:(W==3)=σ:=by simpa using b7
 have Y:=QC (τ γ 302 #[bh S.p.c,ϑ t,O o,O M,ϑ K] j.drew λy w'=>zj y/\ρ j.drew.heap.size j.drew w') (sF S.p S.md S.R S.L S.ca S.G t K o M j.drew V.aO.sk V.aO.cl a0 (by have:=b9.1;simp only at this;omega) (by have:=b9.2;simp only at this;omega));have e0:=QC (∀w':ν,cY w' B g S s x->∀b e,kg w' r ⟨m,H,D,t,I,l,b,ab⟩->Az B S s w w'->w'.heap[w.heap.size]?=θ #[ϑ W,ϑ v,ϑ q,ϑ aa,O o,O M,ϑ K] 32->w' (r,7)=υ ab/\w'.frozen? (r,7)=σ/\((w'.setCell (r,7) (υ e)) g=bh S.p.c/\(w'.setCell (r,7) (υ e)) (r,3)=t/\(w'.setCell (r,7) (υ e)) (w,4)=o/\(w'.setCell (r,7) (υ e)) (w,5)=M/\(w'.setCell (r,7) (υ e)) (w,6)=K)/\cY (w'.setCell (r,7) (υ e)) B g S s x/\kg (w'.setCell (r,7) (υ e)) r ⟨m,H,D,t,I,l,b,e⟩/\Az B S s w (w'.setCell (r,7) (υ e))) (λw' af b e c e7 k=>by
  obtain⟨R,T,a5⟩:=af.Uj (j:=7) (u:=υ e) (a':=⟨m,H,D,t,I,l,b,e⟩) c n A A
  have U:=aF (j:=7) (υ e) c.bO
  have X:=(U.old w.heap.size om).t k
  exact⟨cR c.bO A,aI c.bO 7,⟨R.aO.aV.1,cR T.bO A,cR X A,cR X A,cR X A⟩,R,T,Fz.aJ e7 a5⟩)
 clear i V Q Z n u h a6 a4 a0;go_enter func246,ntmps246;go_wp2_with fail;go_region_held3 (λw'=>w' g=bh S.p.c/\w' (r,3)=t/\w' (w,4)=o/\w' (w,5)=M/\w' (w,6)=K) (first|exact⟨d8,d6,b4,c2,c3⟩|exact d0|exact L|exact d4|go_keep) (first|(go_at_call 302;go_call Y.o as y w2 ⟨⟨b,e,U,rfl,d2,c8,d1⟩,J⟩;obtain⟨d0,a7,a2,L,Z,c0,c7,d3⟩:=b0.o w2 J b;obtain⟨e4,e5,d4,N⟩:=e0.o _ Z b e c0 c7 d3;have f:=Ga N;clear N J Z c0 c7 d3));generalize d9:(w2.setCell (r,6) (O b)).setCell (r,7) (υ e)=a8 at f ⊢;have e6:a8 (r,6)=O b:=cR f.2.1.bO A;clear Y d0 a7 a2 L e4 e5 d4;by_cases p:U=0
 .subst p;by_cases a3:(b.size:C)>4096
  .go_wp2;go_ret;exact mh ⟨8,S,_,A,f.1,.bQ S,f.2.2,f.2.1,λ_ _ _ i=>i,QD,Ib _⟩
  have c6:¬(4096:C)<(b.size:C):=a3;go_wp2;go_ret;exact mh ⟨0,S,_,A,f.1,.bQ S,f.2.2,f.2.1,λ_ _ _ i=>i,QD,Ib _⟩
 have e8:(U==0)=σ:=by simpa using p
 go_wp2;go_ret;exact mh ⟨U,S,_,A,f.1,.bQ S,f.2.2,f.2.1,λ_ _ _ i=>i,QD,Ib _⟩
def cY.ad8 {j:D}{u:π}(z:cY w B g S s x)(t:kg w r a)(K:B<=r)(O:a.cs.setIfInBounds j u=a'.cs)(M:∃b,dF w a'.es b/\b.length<=8):cY (w.setCell (r,j) u) B g S s x/\kg (w.setCell (r,j) u) r a'/\Az B S s w (w.setCell (r,j) u):=by
 have f:=aF (j:=j) u t.bO;rw[O] at f;have o:=pg t.bO K (bd.only f);obtain⟨b,A,J⟩:=M;exact⟨z.Fv o R R,⟨f.at_,b,iX A (λq d p c=>o.aM c R R),J⟩,Fz.cz o R R⟩
def bD.WX {c:Ls.Tb}{i:Nat}{y:Ls.Se}{d:Int}(f:bD S P E F)(m:S.T.ls[i]?=y)(hd:d<=S.aY+1000)(h:c.ls=S.T.ls.set i {y with dl:=d}):bD {S with T:=c} P E F where
 aZ:=by
  show Md.bN S.md (P++c.ls.map Ls.Se.aG);rw[h,mg Ls.Se.aG (y':={y with dl:=d}) m rfl];exact f.aZ
 ql k hk:=by
  rcases f.ql k hk with e|⟨z,b,j⟩|e
  .exact Ξ e
  .obtain⟨z',n,l⟩:=mi (y':={y with dl:=d}) m rfl b;exact Θ (Ξ ⟨z',by show z'∈c.ls;rwa[h],by rwa[l]⟩)
  .exact Θ (Θ e)
 fl k hk:=by
  rcases f.fl k hk with⟨z,b,j⟩|e
  .obtain⟨z',n,l⟩:=mi (y':={y with dl:=d}) m rfl b;exact Ξ ⟨z',by show z'∈c.ls;rwa[h],by rwa[l]⟩
  .exact Θ e
 dl z b:=by
  have b:z∈c.ls:=b;rw[h] at b;rcases JE b with b|rfl
  .exact f.dl z b
  .exact hd
def YP {j:Md.dY}(o:Md.Ok j):j.vs≠[]:=λd=>by
 obtain⟨t,f,_⟩:=o.cf;rw[d] at f;cases f
def gG.from {f:List C}{j:He}(t:gG w' B g S s x r f j w2)(o:T w w w'):gG w B g S s x r f j w2:=by
 obtain⟨M,S',a',u,z,A,J,K⟩:=t;exact⟨M,S',a',u,z,A,Fz.aJ (Az.aE (B:=B) (S:=S) (s:=s) o) J,K⟩
def Uk (r g:D)(S:Gs)(t:C)(f:D)(o:QE)(j:C)(w:L):Prop:=w g=bh S.p.c/\w (r,3)=t/\w (f,4)=o/\w (f,6)=j
def qC (j:C)(f:C->List C)(B g s r:D)(S:Gs)(x:St):Prop:=∀(b i aa h:C) (e d:QE) (c:Fm.Rp) (w:L) (l:cY w B g S s x) (y:kg w r c) (m:B<=r) (G: -9223372036854775808<=c.v/\c.v<=9223372036854775807) (v:e.size<=6/\d.size<=6) (p: -9223372036854775808<=b/\b<=9223372036854775807) (n:S.G+1<=51) (q:∃k∈S.T.ls,k.id=b),Y N 201 #[bh g,t #[j,b,i,aa,e,d,h],bh r] w (gG w B g S s x r (f b))
def jx (O f U aa o:C)(u t:QE)(J:Fm.Rp)(w:L)(c:cY w B g S s x)(M:kg w r J)(d:B<=r)(Z: -9223372036854775808<=f/\f<=9223372036854775807)(v:S.G+1<=51)(y:∃W∈S.T.ls,W.id=f):∃b,w.alloc (K #[O,f,U,aa,u,t,o] 32)=b/\gJ w b (K #[O,f,U,aa,u,t,o] 32)/\ρ b b b.drew/\cY b.drew B g S s x/\kg b.drew r J/\b w=O/\b (w,1)=f/\b (w,4)=u/\b (w,5)=t/\b (w,6)=o/\b g=bh S.p.c/\b (g,1)=bh S.t/\b (g,2)=bh S.f/\b (g,7)=S.aY/\b (r,3)=J.v/\r<w.heap.size/\
 Φ (cY b.drew B g S s x/\kg b.drew r J/\B<=r/\ρ w w b.drew/\(-9223372036854775808<=f/\f<=9223372036854775807)/\S.G+1<=51/\∃W∈S.T.ls,W.id=f):=by
 obtain⟨b,e,j⟩:=aU w (K #[O,f,U,aa,u,t,o] 32);have X:ρ b b b.drew:=QG.d;have b1:=j.aE.t (X.m j.aE.z);have V:=c.aE b1;have z:=V.aO.aV;exact⟨b,e,j,X,V,M.aE b1,cR j.at_ A,cR j.at_ A,cR j.at_ A,cR j.at_ A,cR j.at_ A,z.1,z.2.1,z.2.2.1,z.2.2.2.2.2.2.2,cR (j.aE.ke M.bO) A,aw M.bO,V,M.aE b1,d,b1,Z,v,y⟩
def Ov:qC 3 (λ_=>[]) B g s r S x:=λe d aa c h b p w i m l C G v D y=>by
 obtain⟨u,H,f,z,N,Y,X,Z,Q,R,T,O,c1,c2,U,L,J,V⟩:=jx 3 e d aa c h b p w i m l v D y;have t:=f.at_;have M:=Ga (W (z.ke f.at_) J);have o:=Ga (xM ⟨3,e,d,aa,h,b,c⟩ p u (i.aE f.aE) (m.aE f.aE) l C G);have K:=Ga f.aE;go_enter Ll,KO;go_wp2_with (refine zw kf A _ A A A t ?_);go_call o.o as I w2 ⟨n,S2,q,rfl,k⟩;have j:=Ga k;go_wp2;go_ret;exact gG.from ⟨n,S2,q,A,j.o⟩ K.o
def Ow:qC 7 (λ_=>[]) B g s r S x:=λe d aa c h b q w i m l Y R y v C=>by
 obtain⟨o,T,f,t,I,L,X,Z,N,D,Q,O,c1,c2,U,H,u,V⟩:=jx 7 e d aa c h b q w i m l y v C;have j:=f.at_;have M:=Ga (W (t.ke f.at_) u);have K:=Ga (re ⟨7,e,d,aa,h,b,c⟩ q o (i.aE f.aE) (m.aE f.aE) l);have z:=Ga f.aE;go_enter Ll,KO;go_wp2_with (refine zw kf A _ A A A j ?_);go_call K.o as G w2 ⟨n,S2,p,rfl,k⟩;have J:=Ga k;go_wp2;go_ret;exact gG.from ⟨n,S2,p,A,J.o⟩ z.o
def BK:qC 9 (λc=>[c]) B g s r S x:=λc e aa d h b m w i l y Y R q v C=>by
 obtain⟨o,T,f,t,I,L,X,Z,N,D,Q,O,c1,c2,U,H,u,V⟩:=jx 9 c e aa d h b m w i l y q v C;have j:=f.at_;have M:=Ga (W (t.ke f.at_) u);have K:=Ga (ng ⟨9,c,e,aa,h,b,d⟩ m o (i.aE f.aE) (l.aE f.aE) q);have z:=Ga f.aE;go_enter Ll,KO;go_wp2_with (refine zw kf A _ A A A j ?_);go_call K.o as G w2 ⟨n,S2,p,rfl,k⟩;have J:=Ga k;go_wp2;go_ret;exact gG.from ⟨n,S2,p,A,J.o⟩ z.o
theorem Ox:qC 8 (λ_=>[]) B g s r S x:=λb m aa N q Q C w n y p L a3 l I e=>by
 obtain⟨J,a4,t,u,z,i,ab,U,ae,a0,a1,Y,c1,c2,D,a6,O,j⟩:=jx 8 b m aa N q Q C w n y p l I e;have a5:=t.at_;have H:=Ga (κ (Below.ke u t.at_) O);have T:=QC (τ γ 250 #[bh S.t,G b,G S.aY] J.drew λc w'=>FA J.drew B g S s x c w'/\w' (g,1)=bh S.t/\w' (g,7)=S.aY/\w' (w.heap.size,1)=G b) ((DX b J.drew z).m (by
  rintro c w' f
  obtain⟨v,M,rfl,K,Z,a2⟩:=id f
  exact⟨f,K.aO.aV.2.1,K.aO.aV.2.2.2.2.2.2.2,cR (Z.aM z (Below.ke u t.at_) R R) A⟩))
 clear n z y i p t u O L l e;go_enter Ll,KO;go_wp2_with fail;go_region_held3 (λw'=>w' (g,1)=bh S.t/\w' (g,7)=S.aY/\w' (w.heap.size,1)=G b) (first|exact⟨c1,D,U⟩|exact⟨V,W,X⟩|go_keep) (first|(go_at_call 250;refine T.o.m ?_;rintro c a7 ⟨⟨v,M,rfl,f⟩,V,W,X⟩;have o:=Ga f;clear f));go_wp2;go_ret;refine mh ⟨M,_,_,A,o.1,⟨⟨A,A,A,A,A,A,A,A,A,A⟩,A,A⟩,Fz.aJ (Az.aE (B:=B) (S:=S) (s:=s) j.2.2.2.1) (Gz.az o.2.1),j.2.1.gz j.1 o.2.1,λP E F d=>?_,QD,Ib _⟩;rcases o.2.2 with c|⟨a8,a9,k,h⟩
 .subst c;exact d
 exact d.WX k (by have:=j.1.aO.ok.qH.gM;omega) h
def DZ:qC 4 (λ_=>[]) B g s r S x:=λh b aa e k i p w c d l C I v H q=>by
 obtain⟨O,G,f,U,Y,a0,y,Q,R,T,D,X,c1,c2,N,L,u,Z⟩:=jx 4 h b aa e k i p w c d l v H q;have M:=f.at_;have V:=Ga (W (U.ke f.at_) u);have K:=Ga (xM ⟨4,h,b,aa,k,i,e⟩ p O (c.aE f.aE) (d.aE f.aE) l C I);have j:=Ga f.aE;have o:=Ga (W (c.aE f.aE) (d.aE f.aE));go_enter Ll,KO;go_wp2_with (refine zw kf A _ A A A M ?_)
 .go_ret;exact mh ⟨2,S,_,A,o.1,.bQ S,Az.aE j.o,o.2,λ_ _ _ c=>c,QD,Ib _⟩
 go_call K.o as J w2 ⟨n,S2,t,rfl,m⟩;have z:=Ga m;go_wp2;go_ret;exact gG.from ⟨n,S2,t,A,z.o⟩ j.o
def Oy:qC 6 (λ_=>[]) B g s r S x:=λc m aa N R Q i w n Y p a1 h e D q=>by
 obtain⟨K,b2,z,O,j,a0,a6,X,a7,a8,a9,a3,c1,c2,a4,b4,v,t⟩:=jx 6 c m aa N R Q i w n Y p e D q;have b3:=z.at_;have a2:=Ga (κ (O.ke z.at_) v);have ab:=QC (τ γ 248 #[bh S.f,G c] K.drew λd w'=>(∃M,d=υ M)/\(∃f,cY w' B g {S with FL:=f} s x/\Gz B S s K.drew w'/\∀o∈f,o∈S.FL)/\w' (g,2)=bh S.f/\w' (w,1)=G c) ((Fd.Oa c K.drew j.aO.dy e).m (by
  rintro d w' ⟨Z,f,k,b0,H,y⟩
  obtain⟨U,V⟩:=j.dy y H (by have:=j.aO.ok.cB.1;omega)
  exact⟨Z,⟨f,U,V,k⟩,U.aO.aV.2.2.1,cR (V.aM j (O.ke z.at_) sm sm) A⟩))
 go_enter Ll,KO;go_wp2_with fail;go_region_held3 (λw'=>w' (g,2)=bh S.f/\w' (w,1)=G c) (first|exact⟨c2,X⟩|exact⟨I,J⟩|go_keep) (first|(go_at_call 248;go_call ab.o as d a5 ⟨⟨M,rfl⟩,u,I,J⟩;have C:=Ga u));go_wp2;go_ret;obtain⟨f,L,W,l⟩:=C.o;exact mh ⟨0,_,_,A,L,⟨⟨A,A,A,A,A,A,A,A,A,A⟩,A,A⟩,Fz.aJ (Az.aE (B:=B) (S:=S) (s:=s) t.2.2.2.1) (Gz.az W),t.2.1.gz t.1 W,λP E F b=>⟨b.aZ,b.ql,λT h=>by
  obtain⟨o,u,d⟩:=GL.1 h
  exact b.fl T (GL.2 ⟨o,l o u,d⟩),b.dl⟩,QD,Ib _⟩
def WY:qC 5 (λ_=>[]) B g s r S x:=λb b4 aa b3 b6 b5 a7 w q ah Y d af n ab ae=>by
 obtain⟨v,f1,e,H,u,c8,e4,a8,e5,e6,e7,e1,c1,c2,e2,f7,ag,t⟩:=jx 5 b b4 aa b3 b6 b5 a7 w q ah Y n ab ae;have f6:=e.at_;have e0:=Ga (W (H.ke e.at_) ag);have p:=QC (τ γ 247 #[bh S.f,ϑ b] v.drew λc w'=>(∃a2,c=υ a2)/\(∃J,cY w' B g {S with G:=S.G+1,FL:=J} s x/\Gz B S s v.drew w'/\∀X∈J,X∈S.FL\/X.1=il b)/\w' (g,2)=bh S.f/\w' (w.heap.size,1)=ϑ b) ((Fd.wq b v.drew u.aO.dy n (by have:=u.aO.ok.cB.1;omega)).m (by
  rintro c w' ⟨c0,J,d1,f0,c7,N⟩
  have R:cY v.drew B g {S with G:=S.G+1} s x:=⟨u.aO.up1 ab,u.st,u.sl,u.lo⟩
  obtain⟨T,O⟩:=R.dy N c7 (by have:=u.aO.ok.cB.1;show J.length<=S.G+1;omega)
  exact⟨c0,⟨J,T,O,d1⟩,T.aO.aV.2.2.1,cR (O.aM R (H.ke e.at_) sm sm) A⟩))
 clear q u ah c8 Y e H ag d n ae;go_enter Ll,KO;go_wp2_with fail;go_region_held3 (λw'=>w' (g,2)=bh S.f/\w' (w.heap.size,1)=ϑ b) (first|exact⟨c2,a8⟩|exact⟨a9,b0⟩|go_keep) (first|(go_at_call 247;go_call p.o as c f ⟨⟨a2,rfl⟩,h,a9,b0⟩;have a3:=Ga h;clear h));obtain⟨J,Z,l,a1⟩:=a3.o;have d0:f g=bh S.p.c:=Z.aO.aV.1;have a6:=QC (τ γ 33 #[bh S.p.c] f λc w'=>(∃L,c=ι L/\w'.ownsRow f.heap.size 3 1 L S.md.vs.length (S.md.vs.flatMap b1))/\ρ f f w') (sh S.p S.md S.R S.L S.ca (S.G+1) f Z.aO.cl);have K:=Ga (W Z (W (Fz.aJ (Az.aE (B:=B) (S:=S) (s:=s) t.2.2.2.1) (Gz.az l):Az B S s w f) (W (t.2.1.gz t.1 l) a1)));clear Z l a1 p;go_wp2_with fail;go_call a6.o as c w4 ⟨⟨L,rfl,M⟩,o⟩;obtain⟨d4,d6,rfl⟩:=aR M;obtain⟨U,j,z,d2,a0,V,I,e9⟩:∃U j z,d4=δ ⟨U,0,ζ⟩/\S.md.vs.length=j+1/\z∈S.md.vs/\j+1<=d6/\w4 ⟨U,j,ζ⟩=ϑ z.aG:=by
  rcases fy (enc:=b1) (λ_=>rfl) M with⟨_,c⟩|⟨U,d9,c,e8,_,_,b9⟩
  .exact absurd c (YP t.1.aO.cl.ok)
  simp only[Gy] at c;obtain⟨j,I⟩:∃j,S.md.vs.length=j+1:=⟨S.md.vs.length-1,by have:=KC.2 (YP t.1.aO.cl.ok);exact(Nat.succ_pred_eq_of_pos this).s⟩;obtain⟨z,V⟩:∃z,S.md.vs[j]?=δ z:=⟨_,Gf om⟩;refine⟨U,j,_,c.1,I,Gl V,by rw[c.2.2];omega,?_⟩;have:=b9 j z 0 V Nat.one_pos;simpa[b1] using this
 subst d2;rw[a0];have b7:=pe t.1.aO.cl.ok V;have i:=Ga (W (K.1.aE o) (W (K.2.2.1.aE o) o));have a4:=Ga (sn z.aG w4 i.1 i.2.1 t.2.2.1 om);have f2:η.wrap (((j+1:D):C)-1)=(j:C):=by rw[QQ (by have:S.md.vs.length<=60:=K.1.aO.cl.cB;omega)];omega
 have f5:Xd (j:C)=(j:C):=Rb _ (by have:S.md.vs.length<=60:=K.1.aO.cl.cB;omega);have f3:(0:C)<=(j:C):=by omega
 have f4:(j:C)<((j+1:D):C):=by omega
 clear M I V b7 o a0;go_wp2_with fail;go_call a4.o as c w5 ⟨m,a5,rfl,d⟩;have k:=Ga d;clear d;go_wp2;go_ret;exact mh ⟨m,_,a5,A,k.1,⟨⟨A,A,A,A,A,A,A,A,A,A⟩,A,A⟩,Fz.aJ (Fz.aJ K.2.1 (Az.aE (B:=B) (S:=S) (s:=s) i.2.2)) k.2.2,k.2.1,λP E F y=>⟨y.aZ,y.ql,λd8 af=>by
  obtain⟨X,h,c⟩:=GL.1 af
  rcases K.2.2.2 X h with O|O
  .exact y.fl d8 (GL.2 ⟨X,O,c⟩)
  obtain⟨N,d3,b2⟩:=t.2.2.2.2.2.2
  exact Ξ ⟨N,d3,by rw[<-c,O,b2]⟩,y.dl⟩,Ib _,QD⟩
def WZ:qC 1 (λ_=>[]) B g s r S x:=λb2 b0 aa a9 e b3 b6 w b a1 ab d p d6 N ae=>by
 obtain⟨L,h,X,t,i,Y,I,Z⟩:=b6;obtain⟨T,f2,z,M,f,a2,e7,e8,c8,e9,f0,b7,c1,c2,e6,y,af,G⟩:=jx 1 b2 b0 aa a9 e b3 _ w b a1 ab d6 N ae;simp only at y d;have f3:=z.at_;have e1:=Ga (W (M.ke z.at_) af);have H:=QC (τ γ 244 #[bh S.p.c,t,O e] T.drew λc w'=>yJ c/\(∃J,cY w' B g {S with G:=S.G+1,ca:=J} s x/\kg w' r ⟨L,h,X,t,i,Y,I,Z⟩/\Az B S s w w')/\w' g=bh S.p.c/\w' (r,3)=t/\w' (w,4)=O e) ((TH S.p S.md S.R S.L S.ca S.G t e T.drew f.aO.sk (by rw[f.aO.ok.b.1];exact f.aO.ok.b.2) f.aO.cl d om N).m (by
  rintro c w' ⟨K,⟨J,d1⟩,d3⟩
  rw[f.aO.ok.b.1] at K
  obtain⟨k,u⟩:=f.cl (Fz.cz K sm sm) d1 (Ib _) (.fz K (eH (λd2 d9 d4 c=>f.aO.qy S.p.k sm d2 d9 d4 c)) sm) (λ_ b=>b)
  have n:=a2.gz f u
  exact⟨d3,⟨J,k,n,Fz.aJ (Az.aE (B:=B) (S:=S) (s:=s) (z.aE.t (M.m z.aE.z))) (Gz.az u)⟩,k.aO.aV.1,cR n.bO A,cR (u.aM f (M.ke z.at_) sm sm) A⟩))
 go_enter Ll,KO;go_wp2_with fail;go_region_held3 (λw'=>w' g=bh S.p.c/\w' (r,3)=t/\w' (w,4)=O e) (first|exact⟨b7,y,c8⟩|exact⟨b9,c7,c0⟩|go_keep) (first|(go_at_call 244;go_call H.o as c q ⟨⟨v,l,rfl,e5,e2,e4⟩,a0,b9,c7,c0⟩;have b5:=Ga a0));obtain⟨J,a3,a4,a5⟩:=b5.o;have b4:=Ga (hG l 9 q);have o:=Ga (W a3 (W a4 a5));go_wp2_with fail;go_call b4.o as c w4 ⟨rfl,rfl⟩;by_cases m:l=9
 .subst m;go_wp2;go_ret;exact mh ⟨0,_,_,A,o.1,⟨⟨A,A,A,A,A,A,A,A,A,A⟩,A,A⟩,o.2.2,o.2.1,λ_ _ _ b=>⟨b.aZ,b.ql,b.fl,b.dl⟩,Ib _,QD⟩
 have K:(l==9)=σ:=by simpa using m
 have j:=bo q (θ #[O e,v] 73);generalize e0:q.alloc (θ #[O e,v] 73)=f6 at j;have u:=o.1.aE j.aE;have U:=o.2.1.aE j.aE;obtain⟨a6,a7,a8⟩:=u.ad8 (j:=5) (u:=ο q 1 1) (a':=⟨L,h,X,t,i,ο q 1 1,I,Z⟩) U G.2.2.1 A ⟨[(e,v)],⟨Θ ⟨q,0,1,A,by simp,λd8 c p=>by
  match d8,p with
  |0,p=>obtain rfl:=Gm p;exact⟨cR j.at_ A,cR j.at_ A⟩⟩,λf5 l f4 c=>by
   simp only[Gy,Gd] at c
   obtain⟨rfl,-⟩:=c
   exact⟨_,_,j.at_⟩⟩,by simp⟩
 have q5:=cJ 5 U.bO;have f1:=aI U.bO 5;have V:=Ga (W a6 (W a7 (Fz.aJ (Fz.aJ o.2.2 (Az.aE (B:=B) (S:=S) (s:=s) j.aE)) a8:Az B S s w _)));go_wp2;go_ret;exact mh ⟨l,_,_,A,V.1,⟨⟨A,A,A,A,A,A,A,A,A,A⟩,A,A⟩,V.2.2,V.2.1,λ_ _ _ b=>⟨b.aZ,b.ql,b.fl,b.dl⟩,Ib _,QD⟩
def Ul:qC 2 (λ_=>[]) B g s r S x:=λb6 b5 aa h i b7 a7 w m a3 l n e5 d2 b4 a1=>by
 obtain⟨d,c,D,u,I,a5,b,R⟩:=a7;obtain⟨C,e6,J,X,Z,a4,e1,e2,a9,e4,b0,a8,c1,c2,e0,y,a2,d8⟩:=jx 2 b6 b5 aa h i b7 _ w m a3 l d2 b4 a1;simp only at y n;have e7:=J.at_;have d9:=Ga (κ (X.ke J.at_) a2);have a0:=QC (τ γ 245 #[bh S.p.c,ϑ u,O i,O ⟨#[255,255,255,255,255,255,255]⟩,ϑ h] C.drew λe w'=>∃o j f t K,e=χ #[ο o j f,υ t,ϑ K]/\Uk r g S u w i h w'/\w' (r,5)=a5/\w'.frozen? (r,5)=σ/\Uk r g S u w i h (w'.setCell (r,5) (ο o j f))/\(w'.setCell (r,5) (ο o j f)) (r,7)=υ R/\(w'.setCell (r,5) (ο o j f)).frozen? (r,7)=σ/\Uk r g S u w i h ((w'.setCell (r,5) (ο o j f)).setCell (r,7) (υ t))/\cY ((w'.setCell (r,5) (ο o j f)).setCell (r,7) (υ t)) B g S s x/\kg ((w'.setCell (r,5) (ο o j f)).setCell (r,7) (υ t)) r ⟨d,c,D,u,I,ο o j f,b,t⟩/\Az B S s w ((w'.setCell (r,5) (ο o j f)).setCell (r,7) (υ t))) ((DN S.p S.md S.R S.L S.ca S.G u h i ⟨#[255,255,255,255,255,255,255]⟩ C.drew Z.aO.sk Z.aO.cl n H dc).m (by
  rintro e w' ⟨⟨d4,d1,t,K,rfl,n,b9,-,-,-⟩,W⟩
  obtain⟨o,j,f,rfl⟩:∃a d3 N,d4=ο a d3 N:=by
   rcases n.1 with⟨a,N,rfl,-⟩|⟨a,e9,N,rfl,-⟩
   .exact⟨_,_,_,A⟩
   exact⟨_,_,_,A⟩
  have p:=Z.aE W
  have U:=a4.aE W
  have L:=W.ke (X.ke J.at_)
  have l:B<=r:=l
  obtain⟨v,M,c8⟩:=p.ad8 (j:=5) (u:=ο o j f) (a':=⟨d,c,D,u,I,ο o j f,b,R⟩) U l A ⟨d1,n,b9⟩
  have c0:=aF (j:=5) (ο o j f) U.bO
  have k:=(c0.old w H).t L
  obtain⟨q1,q2,q3⟩:=v.Uj (j:=7) (u:=υ t) (a':=⟨d,c,D,u,I,ο o j f,b,t⟩) M l A A
  have c7:=aF (j:=7) (υ t) M.bO
  have q:=(c7.old w H).t k
  exact⟨o,j,f,t,K,A,⟨p.aO.aV.1,cR U.bO A,cR L A,cR L A⟩,cR U.bO A,aI U.bO 5,⟨v.aO.aV.1,cR M.bO A,cR k A,cR k A⟩,cR M.bO A,aI M.bO 7,⟨q1.aO.aV.1,cR q2.bO A,cR q A,cR q A⟩,q1,q2,Fz.aJ (Fz.aJ (Az.aE (B:=B) (S:=S) (s:=s) ((J.aE.t (X.m J.aE.z)).t (W.m (J.aE.t (X.m J.aE.z)).z))) c8) q3⟩))
 go_enter Ll,KO;go_wp2_with fail;go_region_held3 (λw'=>w' g=bh S.p.c/\w' (r,3)=u/\w' (w,4)=O i/\w' (w,6)=ϑ h) (first|exact⟨a8,y,a9,b0⟩|exact d0|exact Q|exact Y|go_keep) (first|(go_at_call 245;go_call a0.o as e w2 ⟨o,j,f,t,K,rfl,d0,d6,a6,Q,b2,b3,Y,T⟩;have V:=Ga T));generalize ((w2.setCell (r,5) (ο o j f)).setCell (r,7) (υ t))=e8 at V;go_wp2;go_ret;exact mh ⟨K,_,_,A,V.1,.bQ S,V.2.2,V.2.1,λ_ _ _ m=>m,QD,Ib _⟩
end Gt
def wo:pX 136 8:=⟨⟨_,A,underlying136⟩,by kernel_rfl⟩
namespace Gt
open Fd (bh)
variable {w w' w2:ν}{B g s r:Nat}{S S' S2:Gs}{x x':St}{a a':Fm.Rp}{P E F:List Int}
def Ea (a:Fm.gR)(f:Fm.Rp)(w:L)(j:cY w B g S s x)(J:kg w r f)(o:B<=r)(K: -9223372036854775808<=f.v/\f.v<=9223372036854775807)(M:Fm.gh a)(O:a.bq≠0)(t:S.G+1<=51)(u:∃v∈S.T.ls,v.id=a.bI):Y N 201 #[bh g,a.cs,bh r] w (gG w B g S s x r (if a.bq=9 then [a.bI] else [])):=by
 let⟨b,d,i,aa,c,e,h⟩:=a;have z:c.size<=6/\e.size<=6:=⟨M.y,M.u⟩;have A: -9223372036854775808<=d/\d<=9223372036854775807:=oU M.s;have U:0<=b/\b<=9:=M.k;have O:b≠0:=O;rcases(by omega:b=1\/b=2\/b=3\/b=4\/b=5\/b=6\/b=7\/b=8\/b=9) with rfl|rfl|rfl|rfl|rfl|rfl|rfl|rfl|rfl
 .exact WZ d i aa h c e f w j J o K z A t u
 .exact Ul d i aa h c e f w j J o K z A t u
 .exact Ov d i aa h c e f w j J o K z A t u
 .exact DZ d i aa h c e f w j J o K z A t u
 .exact WY d i aa h c e f w j J o K z A t u
 .exact Oy d i aa h c e f w j J o K z A t u
 .exact Ow d i aa h c e f w j J o K z A t u
 .exact Ox d i aa h c e f w j J o K z A t u
 exact BK d i aa h c e f w j J o K z A t u
def cY.afv (o:cY w B g S s x)(z:kg w r a)(t:B<=r)(j:bd w w' r (K a'.cs 136))(u:∃b,dF w a'.es b/\(b:D)<=8):cY w' B g S s x/\kg w' r a'/\Fz B [136] [] w w':=have f:=pg z.bO t (bd.only j);let⟨b,h,i⟩:=u;⟨o.Fv f R R,⟨j.at_,b,iX h (λc m n e=>f.aM e R R),i⟩,f⟩
def Um (A:Prop)(tx:QE)(w:L)(B g:Nat)(S:Gs)(s:Nat)(x:St)(t:Nat)(M:C)(J:He)(w':L):Prop:=J=f #[]/\w'.heap[t]?=K #[z (M==0)] 4/\∃o O u j,cY w' B g {S with T:=o,os:=O,D:=u} s {x with cN:=j}/\qA S.T o/\j.length<=x.cN.length+1/\Fz B [136,84,373,149,158,178,154,101,192,185,518,9] (t::[s,S.m,S.q,S.p.r,S.p.m,S.p.k]) w w'/\(A->j=x.cN++[tx])
theorem Oz (T:Prop)(tx:QE)(a:Fm.gR)(ag:Fm.Rp)(M o p V b9:Nat)(f2:Bool)(f5:XB)(w:ν)(c:cY w B g S s x)(b5:kg w M ag)(e1:B<=M)(e2:B<=o)(a1:w.heap[o]?=θ #[υ f2] 4)(b4:w.heap[p]?=θ a.cs 32)(e4:w.heap[V]?=θ #[bh g] 26)(e8:w.heap[b9]?=θ #[bh s] 89)(e6:(x.cN:Nat)+1<=1000)(ak:T->ag.e=0/\∀c7,τ γ 133 #[Γ ag.cs] c7 λh w'=>h=χ #[O tx,G 0]/\ρ c7 c7 w'):
 CallsD γ 197 #[bh M,bh o,bh p,bh V,bh b9] f5 w λh g5 w'=>g5=f5/\Um T tx w B g S s x o ag.e h w':=by
 have d8:=Ga ak;clear ak;let⟨a7,i,q,aa,b0,a9,a8⟩:=a;let⟨ai,af,k,aj,ah,Y,ae,ab⟩:=ag;have b4:w.heap[p]?=θ #[G a7,G i,G q,G aa,O b0,O a9,G a8] 32:=b4;have I:=aF (j:=0) (υ (k==0)) a1;have h4:w (M,2)=k:=cR b5.bO A;have h3:w o=υ f2:=cR a1 A;have g8:=aI a1 0;let⟨e,a3⟩:∃e,w.setCell o (υ (k==0))=e:=⟨_,A⟩;rw[a3] at I;have d:Fz B [4] [] w e:=Fz.cV I a1 R e2 [];have d9:=c.Fv d R R;have b7:=d.aM b5.bO R R;have b6:=d.aM b4 R R;have e9:=d.aM e4 R R;have f0:=d.aM e8 R R;have e7:kg e M ⟨ai,af,k,aj,ah,Y,ae,ab⟩:=⟨b7,by
  let⟨f6,f9,g1⟩:=b5.es
  exact⟨f6,iX f9 (λd2 g6 g7 h=>d.aM h R R),g1⟩⟩
 have e0:Fz B [136,84,373,149,158,178,154,101,192,185,518,9] (o::[s,S.m,S.q,S.p.r,S.p.m,S.p.k]) w e:=⟨d.os,d.cb,d.aW,d.aH,λd2 g9=>by
  by_cases h:d2=o
  .exact Θ (Θ (by simp[h]))
  exact Ξ (I.old d2 h)⟩
 have c0:e o=υ (k==0):=cR I.at_ A;have d3:=Ga (hG k 0 w);have H1:=Ga (W d9 (W e7 (W I.at_ (W (W b6 e0) (W e9 f0)))));have f7:=Ga e1;have h0:e (p,1)=i:=cR b6 A;have h1:e (p,2)=q:=cR b6 A;have h2:e (M,2)=k:=cR b7 A;have n:e.heap[M]?=θ #[G ai,G af,G k,G aj,O ah,Y,O ae,υ ab] 136:=b7;clear c b5 e1 e2 a1 b4 e4 e8 I d d9 b7 b6 e9 f0 e7 e0;by_cases c6:k=0
 .subst c6;have a3:w.setCell o (υ ψ)=e:=a3;have c0:e o=υ ψ:=c0;have j:=H1;clear H1;clear n;have N:=QC (τ γ 133 #[Γ (Fm.Rp.cs ⟨ai,af,0,aj,ah,Y,ae,ab⟩)] e λh w'=>(∃(l:QE) (m:C),h=χ #[O l,G m]/\(T->l=tx/\m=0))/\ρ e e w') (by
   by_cases ak:T
   .go_call ((d8.o ak).2 e) as h w' ⟨rfl,b⟩
    exact⟨⟨_,_,A,λ_=>⟨A,A⟩⟩,b⟩
   go_call mf ⟨ai,af,0,aj,ah,Y,ae,ab⟩ _ e j.2.1.es.choose_spec.1.1 (oA j.2.1.es.choose_spec.2) as h w' ⟨⟨l,m,rfl⟩,b⟩
   exact⟨⟨l,m,A,λc=>absurd c ak⟩,b⟩)
  have n:e.heap[M]?=θ #[G ai,G af,G 0,G aj,O ah,Y,O ae,υ ab] 136:=j.2.1.bO;have a4:e V=bh g:=cR j.2.2.2.2.1 A;have a6:e b9=bh s:=cR j.2.2.2.2.2 A;go_enter_d func197,ntmps197
  go_wp2_with fail;go_call d3.o as h g0 ⟨rfl,rfl⟩;go_wp2_with (apply oc wo n);go_call N.o as h v ⟨⟨l,m,rfl,e5⟩,f⟩;have d6:=Ga e5;clear e5;have u:=Ga (W (j.1.aE f) f);have g3:=Below.ce f a4;have g4:=Below.ce f a6;have a0:=Below.ke f j.2.2.1;have t:=QC (v.heap[o]?=θ #[υ (0==0)] 4/\v.heap[p]?=θ #[G a7,G i,G q,G aa,O b0,O a9,G a8] 32/\v.heap[V]?=θ #[bh g] 26/\Fz B [136,84,373,149,158,178,154,101,192,185,518,9] (o::[s,S.m,S.q,S.p.r,S.p.m,S.p.k]) w v) ⟨a0,Below.ke f j.2.2.2.1.1,Below.ke f j.2.2.2.2.1,j.2.2.2.1.2.then f⟩;clear n a4 a6 f a0 N;by_cases H:m=0
  .subst H;have y:=Ga (nw l v u.1 e6);go_wp2_with fail;go_call y.o as r w4 ⟨rfl,J,z⟩;have a5:=z.aM u.1 t.2.2.1 R R;have c8:=z.aM u.1 t.2.1 R R;have b3:=z.aM u.1 t.1 R R;have f8:w4 V=bh g:=cR a5 A;have Z:=Ga (W J (W z b3));have c2:=Ga (pZ ⟨a7,i,q,aa,b0,a9,a8⟩ l w4 J);clear J z a5 b3 y;go_wp2_with (apply oc kf c8);go_call c2.o as r w5 ⟨rfl,c3,os',a2,b2,K⟩;have U:=Ga (W a2 (W b2 (W K (K.aM Z.1 Z.2.2 R R))));clear a2 b2 K;go_wp2;go_end0;exact⟨A,U.2.2.2,c3,os',_,_,U.1,U.2.1,R,Fz.aJ t.2.2.2 (Fz.aJ (Fz.cz Z.2.1 (λ_ c=>GK _ c) (λ_ c=>GK _ c)) (Fz.cz U.2.2.1 (λ_ c=>GK _ c) (λ_ c=>GK _ c))),λc=>by rw[(d6.o c).1]⟩
  have zn:(m !=0)=ψ:=sU H;go_wp2;go_end0;exact⟨A,t.1,S.T,S.os,S.D,x.cN,u.1,.bQ _,om,t.2.2.2,λc=>absurd (d6.o c).2 H⟩
 have d1:(k==0)=X:=sU c6;have d4:=QC (¬T) λc=>c6 (d8.o c).1;have a3:w.setCell o (υ X)=e:=d1▸a3;have c0:e o=υ X:=d1▸c0;go_enter_d func197,ntmps197
 go_wp2_with fail;go_call d3.o as h g0 ⟨rfl,rfl⟩;rw[d1];go_wp2_with (first|(apply ia wo n;intro w2 f1;let⟨f3,f4,L⟩:=H1.1.afv (a':=⟨i,q,k,0,⟨#[]⟩,ο ζ 0 0,⟨#[]⟩,X⟩) H1.2.1 f7.o f1 ⟨[],⟨Ξ ⟨ζ,0,A,A⟩,λh6 m h5 h=>by cases h⟩,R⟩;have j:=Ga (W f3 (W f4 (W (L.aM H1.2.2.1 R R) (W (W (L.aM H1.2.2.2.1.1 R R) (Fz.aJ H1.2.2.2.1.2 (Fz.cz L R R))) (W (L.aM H1.2.2.2.2.1 R R) (L.aM H1.2.2.2.2.2 R R))))));clear n f3 f4 L f1;have g2:w2.heap[M]?=θ #[G i,G q,G k,G 0,O ⟨#[]⟩,ο ζ 0 0,O ⟨#[]⟩,υ X] 136:=j.2.1.bO)|(apply oc wo g2));have N:=Ga (mf ⟨i,q,k,0,⟨#[]⟩,ο ζ 0 0,⟨#[]⟩,X⟩ _ w2 j.2.1.es.choose_spec.1.1 (by have:=j.2.1.es.choose_spec.2;omega));have n:w2.heap[M]?=θ #[G i,G q,G k,G 0,O ⟨#[]⟩,ο ζ 0 0,O ⟨#[]⟩,υ X] 136:=j.2.1.bO;have a4:w2 V=bh g:=cR j.2.2.2.2.1 A;have a6:w2 b9=bh s:=cR j.2.2.2.2.2 A;skip;go_call N.o as h v ⟨⟨l,m,rfl⟩,f⟩;have u:=Ga (W (j.1.aE f) f);have g3:=Below.ce f a4;have g4:=Below.ce f a6;have a0:=Below.ke f j.2.2.1;have t:=QC (v.heap[o]?=θ #[υ (k==0)] 4/\v.heap[p]?=θ #[G a7,G i,G q,G aa,O b0,O a9,G a8] 32/\v.heap[V]?=θ #[bh g] 26/\Fz B [136,84,373,149,158,178,154,101,192,185,518,9] (o::[s,S.m,S.q,S.p.r,S.p.m,S.p.k]) w v) ⟨a0,Below.ke f j.2.2.2.1.1,Below.ke f j.2.2.2.2.1,j.2.2.2.1.2.then f⟩;clear n a4 a6 f a0 N;by_cases H:m=0
 .subst H;have y:=Ga (nw l v u.1 e6);go_wp2_with fail;go_call y.o as r w4 ⟨rfl,J,z⟩;have a5:=z.aM u.1 t.2.2.1 R R;have c8:=z.aM u.1 t.2.1 R R;have b3:=z.aM u.1 t.1 R R;have f8:w4 V=bh g:=cR a5 A;have Z:=Ga (W J (W z b3));have c2:=Ga (pZ ⟨a7,i,q,aa,b0,a9,a8⟩ l w4 J);clear J z a5 b3 y;go_wp2_with (apply oc kf c8);go_call c2.o as r w5 ⟨rfl,c3,os',a2,b2,K⟩;have U:=Ga (W a2 (W b2 (W K (K.aM Z.1 Z.2.2 R R))));clear a2 b2 K;go_wp2;go_end0;exact⟨A,U.2.2.2,c3,os',_,_,U.1,U.2.1,R,Fz.aJ t.2.2.2 (Fz.aJ (Fz.cz Z.2.1 (λ_ c=>GK _ c) (λ_ c=>GK _ c)) (Fz.cz U.2.2.1 (λ_ c=>GK _ c) (λ_ c=>GK _ c))),λc=>absurd c d4.o⟩
 have zn:(m !=0)=ψ:=sU H;go_wp2;go_end0;exact⟨A,t.1,S.T,S.os,S.D,x.cN,u.1,.bQ _,om,t.2.2.2,λc=>absurd c d4.o⟩
end Gt
def iH {u:Func}{o:Tmp}(A:u.results=#[.cell o 4]){f:Q π}{w:L}{j:D}{t:Bool}(J:f.getD o undef=V j)(M:w j=z t):
 (results u f).run N w=Je (z t) w:=by
 have K:f[o]?.getD undef=V j:=by simpa[Kd] using J
 simp[go_sem,results,A,K,asAddr,M,Nw]
namespace Gt
open Fd (bh)
variable {w w' w2:ν}{B g s r:Nat}{S S' S2:Gs}{x x':St}{a a':Fm.Rp}{P E F:List Int}
def Az.aM {z:D}{A:Q π}{o:Λ}{u:D×D}(O:Az B S s w w')(j:cY w B g S s x)(f:w.heap[z]?=K A o u)(M:o∉[136,84,373,149,158,178,154,101,192,185,518,9])(J:o≠35):w'.heap[z]?=K A o u:=by
 apply Fz.aM O f M;let⟨c,m,_⟩:=j.st;have t:=j.aO.qy;simp only[GF,Hv,Xf,not_or];exact⟨Fd.fQ f m J,λb=>j.aO.dy.cS.bx _ _ _ (b▸f),λb=>j.aO.oz.bx _ _ _ (b▸f),λb=>t S.p.r R _ _ _ (b▸f),λb=>t S.p.m R _ _ _ (b▸f),λb=>t S.p.k R _ _ _ (b▸f)⟩
def BL {o j:Ls.Tb}(t:qA o j){f:Ls.Se}(u:f∈o.ls):∃c∈j.ls,c.id=f.id/\c.dl=f.dl:=by
 have:wx f∈j.ls.map wx:=t.ls▸GL.2 ⟨f,u,A⟩;let⟨c,i,e⟩:=GL.1 this;simp only[wx,Hf] at e;exact⟨c,i,e.1,e.2.2⟩
def OA {j o:Ls.Tb}(t:qA j o){f:Ls.Se}(u:f∈o.ls):∃c∈j.ls,c.id=f.id/\c.dl=f.dl:=by
 have:wx f∈j.ls.map wx:=t.ls▸GL.2 ⟨f,u,A⟩;let⟨c,i,e⟩:=GL.1 this;simp only[wx,Hf] at e;exact⟨c,i,e.1,e.2.2⟩
def bD.yQ {f:Ls.Tb}{os':List (Int×QE)}{D':List QE}(h:bD S P E F)(l:qA S.T f):bD {S with T:=f,os:=os',D:=D'} P E F where
 aZ:=by
  have c:f.ls.map Ls.Se.aG=S.T.ls.map Ls.Se.aG:=by
   have b:=Xl (List.map λp:Int×Int×Int=>p.2.1) l.ls;rwa[Js,Js] at b
  show Md.bN S.md (P++f.ls.map Ls.Se.aG);rw[c];exact h.aZ
 ql k hk:=by
  rcases h.ql k hk with d|⟨z,e,c⟩|d
  .exact Ξ d
  .obtain⟨z',b,i,-⟩:=BL l e;exact Θ (Ξ ⟨z',b,by rwa[i]⟩)
  .exact Θ (Θ d)
 fl k hk:=by
  rcases h.fl k hk with⟨z,e,c⟩|d
  .obtain⟨z',b,i,-⟩:=BL l e;exact Ξ ⟨z',b,by rwa[i]⟩
  .exact Θ d
 dl z e:=by
  obtain⟨z',b,-,j⟩:=OA l e;rw[<-j];exact h.dl z' b
def FB {K:D}{J:List D}{A:List Λ}(t:Fz B A J w w')(z:Fz B A (K::J) w' w2)(X:(w:D)<=K):Fz B A J w w2:=by
 refine⟨z.os.t t.os,z.cb.t t.cb,z.aW.t t.aW,GB t.aH z.aH,λb i=>?_⟩;rcases t.aG b i with u|u|u
 .rcases z.aG b (GP i t.aH) with f|⟨V,U,M,f,O⟩|f
  .exact o (f.t u)
  .exact j (o ⟨V,U,M,u▸f,O⟩)
  rcases GF.1 f with W|f
  .omega
  exact j (j f)
 .exact j (o u)
 exact j (j u)
def E9 (a:Fm.gR):List C:=if a.bq=9 then [a.bI] else []
def vM (f:Prop)(tx:QE)(w:L)(B g:D)(S:Gs)(s:D)(x:St)(a:Fm.gR)(j:He)(w':L):Prop:=∃(c:Bool) (S':Gs) (b:List QE),j=z c/\cY w' B g S' s {x with cN:=b}/\ks S S'/\Az B S s w w'/\(∀P E F,bD S P E F->bD S' P ((if c then E9 a else [])++E) F)/\b.length<=x.cN.length+1/\(S.G<=S'.G/\S'.G<=S.G+1)/\(f->b=x.cN++[tx])
structure Bx (w:L)(B g:D)(S:Gs)(s:D)(x:St)(a:Fm.gR)(E0:List C)(S2:Gs)(ar:Fm.Rp)(n:C)(W:L):Prop where
 gI:cY W B g S2 s x
 DY:kg W (w.heap.size+4) ar
 hg:W.heap[w.heap.size]?=K #[bh g] 26
 ha:W.heap[w.heap.size+1]?=K a.cs 32
 hs:W.heap[w.heap.size+2]?=K #[bh s] 89
 hw:W.heap[w.heap.size+3]?=K #[z X] 4
 mv:ks S S2
 az:Az B S s w W
 od:∀P E F,bD S P E F->bD S2 P (ext n E0++E) F
 G:S.G<=S2.G/\S2.G<=S.G+1
theorem Bx.FC (M:Prop)(tx:QE){aa:Fm.gR}{K:Fm.Rp}{V:C}{u:L}(o:Bx w B g S s x aa (E9 aa) S2 K V u)(k:K.e=V)(m:B<=(w:D))(U:(x.cN:D)+1<=1000)(q:M->K.e=0/\∀u,Y N 133 #[Γ K.cs] u λd w'=>d=χ #[O tx,ϑ 0]/\T u u w')(W:XB):
 CallsD N 197 #[bh ((w:D)+4),bh ((w:D)+3),bh ((w:D)+1),bh (w:D),bh ((w:D)+2)] W u λd n w'=>n=W/\∃l,d=χ #[]/\w' ⟨w+3,0,J⟩=z l/\vM M tx w B g S s x aa (ι (z l)) w':=by
 apply(Oz M tx aa K ((w:D)+4) ((w:D)+3) ((w:D)+1) (w:D) ((w:D)+2) X W u o.gI o.DY H H o.hw o.ha o.hg o.hs U q).mono;rintro d n w' ⟨rfl,rfl,c,I,i,e,p,b,U,v,Z,y⟩;have j:=o.mv.dC;rw[j.m,j.q,j.p] at Z;refine⟨A,_,A,cR c A,_,_,p,A,b,⟨⟨j.p,j.t,j.f,j.m,j.u,j.d,j.q,j.fV,j.cg,j.fr⟩,o.mv.Oq,o.mv.aY⟩,FB o.az Z H,λP E F h=>?_,v,o.G,y⟩;have:=(o.od P E F h).yQ (os':=i) (D':=e) U;rw[k];unfold ext at this;by_cases d:V=0
 .rw[QU d] at this;rw[QU (sU d)];exact this
 rw[QT d] at this;rw[QT (sU d)];exact this
end Gt
namespace Gt
open Fd (bh)
variable {w w' w2 W W':ν}{B g s r:Nat}{S S' S2:Gs}{x x':St}{aa:Fm.gR}{a z ar:Fm.Rp}{P E F E0:List Int}{n0:Int}{e:He}
def ad9 (w:L)(B g:D)(S:Gs)(s:D)(x:St)(r:D)(e:He)(w':L):Prop:=∃(b:C) (z:Fm.Rp),e=G b/\cY w' B g S s x/\kg w' r z/\Az B S s w w'/\0<=z.v/\z.v<=1048576
def zo (f:C)(w:L)(j:cY w B g S s x)(t:kg w r a)(K:B<=r)(J:0<=f/\f<=1048576)(u:0<=a.v/\a.v<=1048576):Y N 200 #[bh g,f,bh r] w (ad9 w B g S s x r):=by
 go_call ny r a f w j.aO t.bO H as e w' (⟨p,-,-,-,rfl,m,o⟩|⟨rfl,b,-⟩)
 .let⟨c,k,l⟩:=j.DY t K o m A;exact⟨0,_,A,c,k,l,J.1,J.2⟩
 exact⟨4,a,A,j.aE b,t.aE b,Az.aE b,u.1,u.2⟩
def bD.aG {f:Ls.Se}(j:bD S P E F)(o:Md.Ok S.md)(u:f∈S.T.ls):0<=f.aG/\f.aG<=1048576:=by
 obtain⟨J,t,e⟩:=j.aZ.eO f.aG (LI _ (GL.2 ⟨f,u,A⟩));rw[<-e];exact pe o t
def Bx.OQ (f:Bx w B g S s x aa [] S ar n0 W)(c:B<=w.heap.size)(n:C):∃(z:Fm.Rp),W ⟨w+4,2,J⟩=ar.e/\W.frozen? ⟨w+4,2,J⟩=X/\z.e=n/\z.v=ar.v/\∀E0,n≠0\/E0=[]->Bx w B g S s x aa E0 S z n (W.setCell ⟨w+4,2,J⟩ (ϑ n)):=by
 have j:=f.DY;obtain⟨b1,t,d,u,K,M,O,b8⟩:=ar;obtain⟨V,Z,y⟩:=f.gI.Uj (j:=2) (u:=ϑ n) (a':=⟨b1,t,n,u,K,M,O,b8⟩) j H A A;have o:=aF (j:=2) (ϑ n) j.bO;refine⟨⟨b1,t,n,u,K,M,O,b8⟩,cR j.bO A,aI j.bO 2,A,A,λE0 b=>⟨V,Z,(o.old _ H).t f.hg,(o.old _ H).t f.ha,(o.old _ H).t f.hs,(o.old _ H).t f.hw,f.mv,Fz.aJ f.az y,λP E F p=>?_,f.G⟩⟩;have:=f.od P E F p;rw[sZ] at this;have e:ext n E0=[]:=by
  rcases b with U|rfl
  .exact QT U
  exact sZ n
 rwa[e]
def Bx.at_ (j:Bx w B g S s x aa [] S ar n0 W)(t:cY W' B g S s x)(f:kg W' (w.heap.size+4) z)(o:Az B S s W W'):Bx w B g S s x aa [] S z n0 W':=
 ⟨t,f,o.aM j.gI j.hg R R,o.aM j.gI j.ha R R,o.aM j.gI j.hs R R,o.aM j.gI j.hw R R,j.mv,Fz.aJ j.az o,j.od,j.G⟩
end Gt
namespace Gt
open Fd (bh)
variable {w w' w2 W z:ν}{B g s r:Nat}{S S' S2:Gs}{x x':St}{aa:Fm.gR}{a a' ar:Fm.Rp}{P E F E0:List Int}{n0:Int}{e:He}
def Bx.ans (f:Bx w B g S s x aa [] S ar n0 W)(a0:B<=w.heap.size)(Y:gG W B g S s x (w.heap.size+4) E0 e z):∃(b p:Int) (d:Gs) (a':Fm.Rp),e=ϑ b/\z ⟨w+4,2,J⟩=p/\z.frozen? ⟨w+4,2,J⟩=σ/\a'.e=b/\Bx w B g S s x aa E0 d a' b (z.setCell ⟨w+4,2,J⟩ (ϑ b)):=by
 obtain⟨b,d,L,rfl,q,M,O,j,y,I⟩:=Y;obtain⟨b1,l,N,m,n,T,k,b8⟩:=L;obtain⟨X,Z,i⟩:=q.Uj (j:=2) (u:=ϑ b) (a':=⟨b1,l,b,m,n,T,k,b8⟩) j H A A;have V:=aF (j:=2) (ϑ b) j.bO;have o:∀{u:D} {U:Q π} {t:Λ},u≠w+4->W.heap[u]?=K U t->t∉[136,84,373,149,158,178,154,101,192,185,518,9]->t≠35->(z.setCell ⟨w+4,2,J⟩ (ϑ b)).heap[u]?=K U t:=λc h C v=>(V.old _ c).t (O.aM f.gI h C v);refine⟨b,N,d,_,A,cR j.bO A,aI j.bO 2,A,X,Z,o H f.hg R R,o H f.ha R R,o H f.hs R R,o H f.hw R R,M,Az.aJ (S:=S) (S':=d) (Fz.aJ f.az O) i M.dC,y,I⟩
def aea {w:L}{f:D}{u A J M v0 v1 v2 v3:π}{t:Λ}(O:w.heap[f]?=K #[u,A,J,M] t):bd w ((((w.setCell f v0).setCell (f,1) v1).setCell (f,2) v2).setCell (f,3) v3) f (K #[v0,v1,v2,v3] t):=by
 have n0:=aF (j:=0) v0 O;have j:=aF (j:=1) v1 n0.at_;have o:=aF (j:=2) v2 j.at_;have U:=aF (j:=3) v3 o.at_;exact((n0.aJ j).aJ o).aJ U
def Fm.Rp.aa5 {a f:Fm.Rp}(j:a.cs=f.cs):a=f:=by
 obtain⟨o,t,u,A,J,K,M,O⟩:=a;obtain⟨b1,U,V,X,Z,b,c,b8⟩:=f;simp only[Fm.Rp.cs,IU,GN,Value.int.injEq,IT,Nb,true_and,QW] at j;obtain⟨rfl,rfl,rfl,rfl,rfl,rfl,rfl,rfl⟩:=j;rfl
def rpX (f:QE):Fm.Rp:=⟨1,1,0,0,f,ο J 0 0,⟨#[]⟩,X⟩
def OB (h:Prop)(tx a6:QE)(a:Fm.gR)(w:ν)(n:cY w B g S s x)(h7:bD S P E F)(k5:Fm.gh a)(h8:x.cN.length+1<=1000)(h5:S.G+1<=51)(h6:h->(rF S a6/\a.bq=0/\a.oT=1/\a.at_= -1)/\∀W,τ γ 133 #[Γ (rpX a6).cs] W λe w'=>e=χ #[tx,ϑ 0]/\ρ W W w'):τ γ 139 #[bh g,a.cs,bh s] w λe w'=>vM h tx w B g S s x a e w':=by
 have d3:=Ga h6;obtain⟨t,f,j,aa,O,M,u⟩:=a;show τ γ 139 #[bh g,Γ #[t,f,j,aa,O,M,u],bh s] w λe w'=>vM h tx w B g S s x ⟨t,f,j,aa,O,M,u⟩ e w';have b3:=bo w (K #[bh g] 26);obtain⟨b7,h9⟩:∃b7,w.alloc (K #[bh g] 26)=b7:=⟨_,A⟩;rw[h9] at b3;have aj:=bo b7 (K #[t,f,j,aa,O,M,u] 32);obtain⟨w2,i0⟩:∃w2,b7.alloc (K #[t,f,j,aa,O,M,u] 32)=w2:=⟨_,A⟩;rw[i0] at aj;have H:=bo w2 (K #[bh s] 89);obtain⟨a2,i1⟩:∃a2,w2.alloc (K #[bh s] 89)=a2:=⟨_,A⟩;rw[i1] at H;have q0:=bo a2 (K #[υ X] 4);obtain⟨Z,i2⟩:∃Z,a2.alloc (K #[υ X] 4)=Z:=⟨_,A⟩;rw[i2] at q0;have ag:=bo Z (K #[f,j,ϑ 0,ϑ 0,I,ο J 0 0,I,υ X] 136);have s1:=b3.aH;have g2:w2.heap.size=w.heap.size+2:=by rw[aj.aH,s1]
 have g3:a2.heap.size=w.heap.size+3:=by rw[H.aH,g2]
 have s4:Z.heap.size=w.heap.size+4:=by rw[q0.aH,g3]
 have f2:ρ w w (Z.alloc (K #[f,j,ϑ 0,ϑ 0,I,ο J 0 0,I,υ X] 136)):=b3.aE.t ((aj.aE.m om).t ((H.aE.m om).t ((q0.aE.m om).t (ag.aE.m om))));have l:=aj.at_;rw[s1] at l;have f9:=H.at_;rw[g2] at f9;have g0:=q0.at_;rw[g3] at g0;have g1:=ag.at_;rw[s4] at g1;have V:=y (Bx w B g S s x ⟨t,f,j,aa,O,M,u⟩ [] S ⟨f,j,0,0,⟨#[]⟩,ο J 0 0,⟨#[]⟩,X⟩ 0 (Z.alloc (K #[f,j,ϑ 0,ϑ 0,I,ο J 0 0,I,υ X] 136))) ⟨n.aE f2,⟨g1,[],⟨Ξ ⟨J,0,A,A⟩,λm5 b R e=>by cases e⟩,by simp⟩,Below.ke ag.aE (Below.ke q0.aE (Below.ke H.aE (Below.ke aj.aE b3.at_))),Below.ke ag.aE (Below.ke q0.aE (Below.ke H.aE l)),Below.ke ag.aE (Below.ke q0.aE f9),Below.ke ag.aE g0,.bQ S,Az.aE f2,λ_ _ _ n=>by rw[sZ];exact n,QD,Ib _⟩;have h4:=n.aO.lt;have k7:w2 ⟨w+1,1,J⟩=f:=cR l A;have k8:w2 ⟨w+1,2,J⟩=j:=cR l A;have k9:Z ⟨w+1,1,J⟩=f:=cR (Below.ke q0.aE (Below.ke H.aE l)) A;have l0:Z ⟨w+1,2,J⟩=j:=cR (Below.ke q0.aE (Below.ke H.aE l)) A;have f7:(Z.alloc (K #[f,j,ϑ 0,ϑ 0,I,ο J 0 0,I,υ X] 136)) ⟨w+1,0,J⟩=t:=cR V.o.ha A;have af:(Z.alloc (K #[f,j,ϑ 0,ϑ 0,I,ο J 0 0,I,υ X] 136)) w=bh g:=cR V.o.hg A;have b2:(Z.alloc (K #[f,j,ϑ 0,ϑ 0,I,ο J 0 0,I,υ X] 136)).heap[w.heap.size+1]?=K #[t,f,j,aa,O,M,u] 32:=V.o.ha;have rS:∀(h0:Fn) (first f5:Q π) (w:ν),(Instr.makeFunc h0 first f5).run γ w=Je (Hl h0 first f5) w:=λ_ _ _ _=>rfl;have U:=Ga (κ k5 (κ h8 (κ h5 h4)));by_cases b6:t=0
 .subst b6;have g7:=Ga (vu ⟨0,f,j,aa,O,M,u⟩ ⟨f,j,0,0,⟨#[]⟩,ο J 0 0,⟨#[]⟩,X⟩ (Z.alloc (K #[f,j,ϑ 0,ϑ 0,I,ο J 0 0,I,υ X] 136)) V.o.gI V.o.DY (by have:=U.2.2.2;omega));go_enter_defers func139,ntmps139;go_upto_region 3 with fail;generalize Z.alloc (K #[f,j,ϑ 0,ϑ 0,I,ο J 0 0,I,υ X] 136)=o at V g7 b2 f7 af ⊢;go_wp2_with (refine zw kf A _ A A A b2 ?_);refine g7.o.m ?_;rintro e v ⟨c0,h3⟩;obtain⟨b,m6,c3,b5,rfl,j2,j5,c7,a9⟩:=V.o.ans U.2.2.2 c0;have i8:=y (h->b5=rpX a6) λn=>by
   obtain⟨⟨j6,-,d9,j7⟩,-⟩:=d3.o n;obtain⟨j8,j9⟩:=h3 a6 j6 j7;obtain rfl:b=0:=by simpa using j8
   have d9:j=1:=d9;subst d9;have k2:=(aF (j:=2) (ϑ 0) j9.bO).at_;have e5:=a9.DY.bO;rw[k2] at e5;simp only[Gd,Hq,QW] at e5;exact Fm.Rp.aa5 (e5.s.t A)
  have g9:=Ga (κ a9 c7);go_wp2;refine XI (f:=197) (args:=#[bh (w.heap.size+4),bh (w.heap.size+3),bh (w.heap.size+1),bh w.heap.size,bh (w.heap.size+2)]) sm (by simp[go_sem]) ?_;refine(Bx.FC h tx (show Bx w B g S s x ⟨0,f,j,aa,O,M,u⟩ (E9 ⟨0,f,j,aa,O,M,u⟩) c3 b5 b _ from g9.1) g9.2 U.2.2.2 U.2.1 (λn=>by rw[i8.o n];exact⟨A,(d3.o n).2⟩) _).mono ?_;rintro e e6 w' ⟨rfl,ah,rfl,L,q⟩;exact⟨_,iH A rf L,q⟩
 have m0:(t==0)=X:=by simpa using b6
 have d2:=y (¬h) λn=>b6 (d3.o n).1.2.1;have g5:=y (∀W z:ν,Bx w B g S s x ⟨t,f,j,aa,O,M,u⟩ [] S ⟨f,j,0,0,⟨#[]⟩,ο J 0 0,⟨#[]⟩,X⟩ 0 W->ρ W W z->τ γ 149 #[bh S.t,f,S.aY] z λe w'=>∃a4 i a3 a5 b:C,e=χ #[Γ #[a4,i,a3,a5],ϑ b]/\((b=0->∃e9∈S.T.ls,e9.id=f)/\0<=i/\i<=1048576)/\ρ z z w') λW z e0 j1=>by
  refine(Ls.AA S.t S.T f S.aY z (e0.gI.aO.mc.aE j1) e0.gI.aO.ok.qH).m ?_;rintro e w' ⟨⟨e9,h1,k0,-,rfl⟩|⟨b,a8,-,rfl⟩,ah⟩
  .exact⟨_,_,_,_,0,A,⟨λ_=>⟨e9,h1,k0⟩,h7.aG e0.gI.aO.cl.ok h1⟩,ah⟩
  exact⟨_,_,_,_,b,A,⟨λe=>by omega,by omega,by omega⟩,ah⟩
 go_enter_defers func139,ntmps139;go_upto_region 3 with fail;generalize Z.alloc (K #[f,j,ϑ 0,ϑ 0,I,ο J 0 0,I,υ X] 136)=o at V b2 f7 af ⊢;have c1:o (g,1)=bh S.t:=V.o.gI.aO.aV.2.1;have d1:o (g,7)=S.aY:=V.o.gI.aO.aV.2.2.2.2.2.2.2;have b0:o ⟨w+1,1,J⟩=f:=cR b2 A;go_wp2_with fail;have f1:=y (ρ o o o.drew) QG.d;have f8:=bo o (K #[ϑ 0,ϑ 0,ϑ 0,ϑ 0] 140);have m:=y (ρ o o (o.alloc (K #[ϑ 0,ϑ 0,ϑ 0,ϑ 0] 140)).drew) f8.aE.d;have c2:=y ((o.alloc (K #[ϑ 0,ϑ 0,ϑ 0,ϑ 0] 140)).drew.heap[o.heap.size]?=K #[ϑ 0,ϑ 0,ϑ 0,ϑ 0] 140) f8.at_;have f3:=Below.ce m.o c1;have f4:=Below.ce m.o d1;have c6:=Below.ce m.o b0;have f6:=Below.ce m.o af;have e7:=IX o _ c1;have b9:=IX o _ b0;have e8:=IX o _ af;simp only at e7 b9 e8;go_region_held3 (λw'=>w' (g,1)=bh S.t/\w' (g,7)=S.aY/\w' ⟨w+1,1,J⟩=f/\w' w=bh g) (first|exact⟨c1,d1,b0,af⟩|exact⟨f3,f4,c6,f6⟩|exact⟨d4,d7,d6,d8⟩|go_keep) (first|(go_at_call 149;refine(g5.o o _ V.o m.o).m ?_;rintro e v ⟨a4,i,a3,a5,b,rfl,a8,d⟩;have d4:=Below.ce d f3;have d7:=Below.ce d f4;have d6:=Below.ce d c6;have d8:=Below.ce d f6;have ab:=Ga (κ d a8);have k:=Below.ke d c2.o;have l5:v o=ϑ 0:=cR k A;have l6:v (o,1)=ϑ 0:=cR k A;have l7:v (o,2)=ϑ 0:=cR k A;have l8:v (o,3)=ϑ 0:=cR k A;have l1:=aI k 0;have l2:=aI k 1;have l3:=aI k 2;have l4:=aI k 3)|(go_at_call 149;refine(g5.o o _ V.o f1.o).m ?_;rintro e v ⟨a4,i,a3,a5,b,rfl,a8,d⟩;have d4:=Below.ce d c1;have d7:=Below.ce d d1;have d6:=Below.ce d b0;have d8:=Below.ce d af;have ab:=Ga (κ d a8);have e7:=IX v _ d4;have b9:=IX v _ d6;have e8:=IX v _ d8;simp only at e7 b9 e8));all_goals
  first
   |(have a0:=aea (v0:=ϑ a4) (v1:=ϑ i) (v2:=ϑ a3) (v3:=ϑ a5) (Below.ke ab.1 c2.o);have ae:ρ o o _:=a0.aE o.heap.size o QD (m.o.t (ab.1.m m.o.z));have Y:=a0.at_;obtain⟨ai,e4⟩:∃ai,o.heap.size=ai:=⟨_,A⟩;generalize (((v.setCell _ _).setCell _ _).setCell _ _).setCell _ _=W at ae Y ⊢;rw[e4] at Y ⊢)
   |(have a0:=bo v (K #[a4,i,a3,a5] 140);have ae:ρ o o _:=f1.o.t (ab.1.t (a0.aE.m ab.1.z));have Y:=a0.at_;obtain⟨ai,e4⟩:∃ai,v.heap.size=ai:=⟨_,A⟩;generalize v.alloc _=W at ae Y ⊢;rw[e4] at Y ⊢)
  have a1:=y (Bx w B g S s x ⟨t,f,j,aa,O,M,u⟩ [] S ⟨f,j,0,0,⟨#[]⟩,ο J 0 0,⟨#[]⟩,X⟩ 0 W) (V.o.at_ (V.o.gI.aE ae) (V.o.DY.aE ae) (Az.aE ae));have g6:=Ga ab.2;have l:W ⟨ai,1,J⟩=i:=cR Y A;have k6:W w=bh g:=cR a1.o.hg A;by_cases e2:b=0
  .subst e2;have h2:=Ga (zo i W a1.o.gI a1.o.DY (by have:=U.2.2.2;omega) g6.2 sm);have i9:=Ga (g6.1 A);go_wp2_with fail;refine h2.o.m ?_;rintro e w8 ⟨R,l9,rfl,i4,i3,i6,i5⟩;have j0:=Ga (a1.o.at_ i4 i3 i6);obtain⟨p,c9,j4,c8,f0,a7⟩:=j0.o.OQ U.2.2.2 R;have b4:=y (p.e=R/\(0<=p.v/\p.v<=1048576)) ⟨c8,by rw[f0];exact i5⟩;obtain⟨N,k1⟩:∃N,w8.setCell ⟨w+4,2,J⟩ (ϑ R)=N:=⟨_,A⟩;rw[k1] at a7;have g4:=Ga a7;by_cases e1:R=0
   .subst e1;have c:=Ga (g4.o [] (Θ A));have i7:=Ga (Ea ⟨t,f,j,aa,O,M,u⟩ p N c.o.gI c.o.DY (by have:=U.2.2.2;omega) (by have:=b4.2;omega) U.1 b6 U.2.2.1 i9.o);have m1:N w=bh g:=cR c.o.hg A;have k3:N.heap[w.heap.size+1]?=K #[t,f,j,aa,O,M,u] 32:=c.o.ha;have j3:N ⟨w+4,2,J⟩=ϑ 0:=cR c.o.DY.bO (by show δ (ϑ p.e)=_;rw[b4.1]);go_wp2_with (refine zw kf A _ A A A k3 ?_);refine i7.o.m ?_;rintro e m4 c0;obtain⟨k4,b9,c3,b5,rfl,j2,j5,c7,a9⟩:=c.o.ans U.2.2.2 c0;have g8:=Ga (κ a9 c7);go_wp2;refine XI (f:=197) (args:=#[bh (w.heap.size+4),bh (w.heap.size+3),bh (w.heap.size+1),bh w.heap.size,bh (w.heap.size+2)]) sm (by simp[go_sem]) ?_;refine(Bx.FC h tx (show Bx w B g S s x ⟨t,f,j,aa,O,M,u⟩ (E9 ⟨t,f,j,aa,O,M,u⟩) c3 b5 k4 _ from g8.1) g8.2 U.2.2.2 U.2.1 (λn=>absurd n d2.o) _).mono ?_;rintro e e6 w' ⟨rfl,ah,rfl,L,q⟩;exact⟨_,iH A rf L,q⟩
   have c:=Ga (g4.o (E9 ⟨t,f,j,aa,O,M,u⟩) (Ξ e1));have j3:N ⟨w+4,2,J⟩=ϑ R:=cR c.o.DY.bO (by show δ (ϑ p.e)=_;rw[b4.1]);have m2:(R !=0)=ψ:=by simpa using e1
   go_wp2;refine XI (f:=197) (args:=#[bh (w.heap.size+4),bh (w.heap.size+3),bh (w.heap.size+1),bh w.heap.size,bh (w.heap.size+2)]) sm (by simp[go_sem]) ?_;refine(Bx.FC h tx c.o b4.1 U.2.2.2 U.2.1 (λn=>absurd n d2.o) _).mono ?_;rintro e e6 w' ⟨rfl,ah,rfl,L,q⟩;exact⟨_,iH A rf L,q⟩
  obtain⟨p,c9,j4,c8,f0,a7⟩:=a1.o.OQ U.2.2.2 b;have c:=Ga (κ c8 (a7 (E9 ⟨t,f,j,aa,O,M,u⟩) (Ξ e2)));have m3:(b !=0)=ψ:=by simpa using e2
  go_wp2;refine XI (f:=197) (args:=#[bh (w.heap.size+4),bh (w.heap.size+3),bh (w.heap.size+1),bh w.heap.size,bh (w.heap.size+2)]) sm (by simp[go_sem]) ?_;refine(Bx.FC h tx c.2 c.1 U.2.2.2 U.2.1 (λn=>absurd n d2.o) _).mono ?_;rintro e e6 w' ⟨rfl,ah,rfl,L,q⟩;exact⟨_,iH A rf L,q⟩
end Gt
namespace Gt
open Fd (bh)
variable {w w' w2 W W':ν}{B g s r:Nat}{S z S2:Gs}{x x':St}{P E F:List Int}
def tc {f:List (IA×π)}(j:jZ w f)(id:C):jg f id<=4:=by
 unfold jg;cases o:aT f (il id) with
 |none=>exact QK
 |some a=>
  obtain⟨u,A,⟨g,K,J,rfl,_⟩,t,_⟩:=j.aT o;exact t
def Un {j:List (IA×π)}{f:C}(o:aT j (il f)=J):il f∉j.map Prod.fst:=λe=>by
 let⟨⟨h,i⟩,a,c⟩:=GL.1 e;obtain rfl:h=il f:=c;exact qI o (iz f) i a
def te (w:L)(B g:D)(S:Gs)(s:D)(x:St)(j:D)(w':L):Prop:=∃z f,cY w' B g z s {x with cN:=f}/\ks S z/\Az B S s w w'/\(∀P E F,bD S P E F->bD z P E F)/\f.length<=x.cN.length+j/\S.G<=z.G/\z.G<=S.G+1
def bD.FD {t:List (IA×π)}{D':List QE}{M:C}(f:bD S P (M::E) F)(V:oh t S.QL)(O:aT t (il M)=J):bD {S with D:=D',QL:=t} P E F:=⟨f.aZ,λi a=>by
 rcases f.ql i (V i a) with u|u|⟨U,A,K⟩
 .exact o u
 .exact j (o u)
 rcases GF.1 A with rfl|A
 .exact absurd (K▸a) (Un O)
 exact j (j ⟨U,A,K⟩),f.fl,f.dl⟩
def Eb (j:Prop)(tx:QE)(w:L)(B g:D)(S:Gs)(s:D)(x:St)(w':L):Prop:=∃z f,cY w' B g z s {x with cN:=f}/\ks S z/\Az B S s w w'/\(∀P E F,bD S P E F->bD z P E F)/\f.length<=x.cN.length+5/\(S.G<=z.G/\z.G<=S.G+1)/\(j->f=x.cN++[tx])
def Eb.fb {f:Prop}{tx:QE}(j:Eb f tx w B g S s x w'):te w B g S s x 5 w':=by
 obtain⟨z,M,o,t,u,A,J,K,-⟩:=j;exact⟨z,M,o,t,u,A,J,K⟩
def Uo (c:Prop)(tx n:QE)(j:Fm.gR)(w:ν)(d:cY w B g S s x)(e:bD S P E F)(v:Fm.gh j)(H:(x.cN:Nat)+5<=1000)(i:S.G+1<=51)(p:c->(rF S n/\j.bq=0/\j.oT=1/\j.at_= -1)/\∀W,τ γ 133 #[Γ (rpX n).cs] W λm w'=>m=χ #[β tx,ϑ 0]/\ρ W W w'):τ γ 69 #[bh g,Γ j.cs,bh s] w λm w'=>m=χ #[]/\Eb c tx w B g S s x w':=by
 have a6:=Ga p;have U:=bo w (θ j.cs 32);generalize a3:w.alloc (θ j.cs 32)=a1 at U;have q:=U.at_;have h: -9223372036854775808<=j.bI/\j.bI<=9223372036854775807:=oA v.s;have R:=Ga (OB c tx n j a1 (d.aE U.aE) e v om i p);have X:=Ga (κ (d.aE U.aE) (κ U.aE (κ h H)));clear d e v H i U h p;go_enter func69,ntmps69;go_wp2_with (apply oc kf q);go_call R.o as m w2 ⟨b,S2,l,rfl,L,K,t,y,I,u⟩;have a:=t.aM X.1 q sm sm;have a7:w2 w=j.bq:=cR a A;have a5:w2 (w,1)=j.bI:=cR a A;have f:=Ga (κ L (κ K (κ (Fz.aJ (Az.aE (B:=B) (S:=S) (s:=s) X.2.1) t) (κ y (κ I u)))));clear L K t y I u q a R;cases b with
 |false=>
  go_wp2;go_end0;exact⟨A,S2,l,f.1,f.2.1,f.2.2.1,λP E F d=>sU (f.2.2.2.1 P E F d),oA f.2.2.2.2.1,f.2.2.2.2.2⟩
 |true=>
  by_cases O:j.bq=9
  .have T:=Ga (xL j.bI 5 w2 f.1 X.2.2.1 (by
    have a8:=tc f.1.aO.qv j.bI
    have a0:=f.2.2.2.2.1
    have o:=X.2.2.2
    show (l:Nat)+_<=1000
    omega))
   rw[O] at a7;have k:=Ga O;clear O;go_wp2_with fail;go_call T.o as r a2 ⟨rfl,Y,Z,J,M,o,D,G,N⟩;have V:=Ga (κ M (κ o (κ D (κ G N))));clear M o D G N;go_wp2;go_end0;refine⟨A,_,J,V.1,f.2.1.aJ ⟨⟨A,A,A,A,A,A,A,A,A,A⟩,A,A⟩,Az.aJ (S:=S) (S':=S2) f.2.2.1 (Gz.az V.2.2.2.2) f.2.1.dC,λP E F d=>?_,?_,f.2.2.2.2.2.1,λd=>absurd k.o (by rw[(a6.o d).1.2.1];decide)⟩
   .have:=f.2.2.2.1 P E F d;simp only[if_true,E9,k.o,Hz,Ho] at this;exact bD.FD this V.2.2.2.1 V.2.2.1
   have a8:=tc f.1.aO.qv j.bI;have a0:=f.2.2.2.2.1;have o:=V.2.1;have o:(J:Nat)<=(l:Nat)+jg S2.QL j.bI:=o;omega
  have a4:(j.bq==9)=σ:=sU O;have k:=Ga O;clear O;go_wp2;go_end0;exact⟨A,S2,l,f.1,f.2.1,f.2.2.1,λP E F d=>by simpa[E9,k.o] using f.2.2.2.1 P E F d,oA f.2.2.2.2.1,f.2.2.2.2.2⟩
def XO (j:Fm.gR)(w:L)(b:cY w B g S s x)(t:bD S P E F)(A:Fm.gh j)(u:(x.cN:D)+5<=1000)(o:S.G+1<=51):Y N 69 #[bh g,j.cs,bh s] w λc w'=>c=f #[]/\te w B g S s x 5 w':=
 (Uo QZ ⟨#[]⟩ ⟨#[]⟩ j w b t A u o λb=>b.elim).m λ_ _ ⟨d,e⟩=>⟨d,e.fb⟩
end Gt
namespace Gt
open Fd (bh)
variable {w w' w2 W W':ν}{B g s r b:Nat}{S z S2:Gs}{x x':St}{P E F:List Int}{t:ByteArray}{V:Bool->Prop}
def x0:St:=⟨0,0,X,Fm.dz,[],⟨#[]⟩⟩
structure Ac where
 bq:C
 lz:Fm.gR
 v:π
 n:C
 bK:QE
def Ac.cs (f:Ac):Q π:=#[f.bq,f.lz.bq,f.lz.bI,f.lz.oT,f.lz.at_,f.lz.fe,f.lz.pJ,f.lz.ho,f.v,f.n,f.bK]
structure kh (w:L)(B g:D)(S:Gs)(s:D):Prop where
 aO:cw w B g S
 st:w.heap[s]?=K (x0.cs (ο J 0 0)) 35
 lo:B<=s
def kh.gI (f:kh w B g S s):cY w B g S s x0:=.Bs f.aO f.st A f.lo
def kh.aE (f:kh w B g S s)(b:T w w w'):kh w' B g S s:=⟨f.aO.aE b,b.ke f.st,f.lo⟩
def cW (w:L)(B g:D)(S:Gs)(s:D)(w':L):Prop:=∃z x',cY w' B g z s x'/\me S z/\z.md.aN=S.md.aN/\S.aY<=z.aY/\z.aY<=S.aY+1000/\Az B S s w w'/\(bD S [] [] []->bD z [] [] [])/\S.G<=z.G/\z.G<=S.G+1
def cW.gI {x':St}(o:cY w' B g z s x')(j:me S z)(J:z.md.aN=S.md.aN)(f:z.aY=S.aY)(K:Az B S s w w')(A:bD S [] [] []->bD z [] [] [])(u:S.G<=z.G/\z.G<=S.G+1):cW w B g S s w':=
 ⟨z,x',o,j,J,by rw[f];exact LW _,by rw[f];omega,K,A,u⟩
def ph (w:L)(B g:D)(S:Gs)(s:D)(t:QE)(w':L):Prop:=∃x',cY w' B g {S with U:=Ms.iM S.fV S.U t} s x'/\Az B S s w w'/\(Ms.mM S.fV S.U=ψ->x'=x0)
def ph.act (a:ph w B g S s t w'):cW w B g S s w':=by
 obtain⟨x',r,f,-⟩:=a;exact⟨_,x',r,⟨A,A,A,A,A,A,A,A,A,A⟩,A,LW _,show S.aY<=S.aY+1000 by omega,f,λa=>⟨a.aZ,a.ql,a.fl,a.dl⟩,d,Ib _⟩
def cW.from (f:cW W B g S s w')(b:T w w W):cW w B g S s w':=by
 obtain⟨z,x',j,o,u,A,J,K,M⟩:=f;exact⟨z,x',j,o,u,A,J,Fz.aJ (Az.aE (B:=B) (S:=S) (s:=s) b) K,M⟩
def Az.Ua {J:Obj}(A:bd w w' s J):Az B S s w w':=by
 have f:=bd.only A;exact⟨f.os,f.cb,f.aW,f.aH,λd h=>by
  by_cases u:d=s
  .exact j (j (by simp[u]))
  exact o (A.old d u)⟩
def kh.OQ (f:kh w B g S s)(n:C):w s=G 0/\w.frozen? s=X/\cY (w.setCell s (G n)) B g S s {x0 with e:=n}/\Az B S s w (w.setCell s (G n)):=by
 obtain⟨j,o,u⟩:=f.gI.Ua (j:=0) (u:=G n) (x':={x0 with e:=n}) (λ_=>rfl) A;exact⟨f.gI.Ub dc λ_=>rfl,j,o,u.az⟩
def kh.eQ (a:kh w B g S s)(f:C):w s=G 0/\w.frozen? s=X/\cW w B g S s (w.setCell s (G f)):=by
 obtain⟨j,o,e3,u⟩:=a.OQ f;exact⟨j,o,S,_,e3,.bQ S,A,LW _,by omega,u,λa=>a,d,Ib _⟩
def FE {f:C}{j:List QE}{t:QE}(u:1<=f/\f<=64)(o:(j:D)<=64):(Ms.iM f j t:D)<=64:=by
 unfold Ms.iM;split
 .rw[Gk];simp;omega
 exact o
def BM {room:C}{f:List QE}{t:QE}(o:t.size<=4096)(j:∀s∈f,s.size<=4096):∀s∈Ms.iM room f t,s.size<=4096:=λs a=>by
 unfold Ms.iM at a;split at a
 .rcases GO.1 a with a|a
  .exact j s a
  cases GA.1 a;exact o
 exact j s a
def kh.yj (f:kh w B g S s){j:D}(u:j=S.u\/j=S.d)(o:Ms.aL w w' (· =j))(A:cw w' B g z):kh w' B g z s/\Az B S s w w':=by
 have J:∃a,w.heap[j]?=K a 154:=by
  rcases u with rfl|rfl
  .exact eY f.aO.up
  exact eY f.aO.hX
 let⟨a,c⟩:=J;refine⟨⟨A,o.aM f.st (Fd.fQ f.st c dc),f.lo⟩,?_⟩;have M:Fz B [154] [] w w':=by
  rcases u with rfl|rfl
  .exact qz f.aO.up o f.aO.ok.lo.2.2.1
  exact qz f.aO.hX o f.aO.ok.lo.2.2.2.1
 exact Fz.cz M R R
def so (t:QE)(w:L)(J:kh w B g S s)(M:t.size<=4096):Y N 65 #[bh g,t,bh s] w λd w'=>d=f #[]/\ph w B g S s t w':=by
 let⟨_,_,_,n,_⟩:=J.aO.aV;have j:=Ga (κ J M);go_enter func65,ntmps65;go_wp2_with fail;go_call (Ga (Ms.tU S.u S.fV t S.U w J.aO.up J.aO.ok.fV.2.1)).o as d v ⟨rfl,l,h,-⟩;let⟨a,m⟩:=j.1.yj (Ξ A) h (j.1.aO.TZ h l (FE ⟨j.1.aO.ok.fV.1,j.1.aO.ok.fV.2.1⟩ j.1.aO.ok.fV.2.2.1) (BM j.2 j.1.aO.ok.ep));let⟨p,q,e3,c⟩:=a.OQ 7;have u:=Ga (κ a (κ m (κ e3 c)));cases K:Ms.mM S.fV S.U with
 |true=>
  go_wp2;go_end0;exact⟨A,x0,u.1.gI,u.2.1,λ_=>rfl⟩
 |false=>
  go_wp2;go_end0;exact⟨A,_,u.2.2.1,Az.aJ u.2.1 u.2.2.2 ⟨A,A,A,A,A,A,A,A,A,A⟩,λd=>by rw[(Ga K).o] at d;cases d⟩
def XP (V:Bool->Prop)(w:L)(B g:D)(S:Gs)(s:D)(f:Fm.gR)(w':L):Prop:=(V X/\cW w B g S s w')\/ph w B g S s (Fm.iS f) w'
def aa6 {j:D}{f:Ac}(o:w.heap[j]?=K f.cs 39):w.rangeAt j 1 f.lz.cs.toList:=λa i d=>by
 rw[QH o];have u:a<7:=(Gg.1 d).1;rcases(by omega:a=0\/a=1\/a=2\/a=3\/a=4\/a=5\/a=6) with rfl|rfl|rfl|rfl|rfl|rfl|rfl<;>exact d
def ph.from (f:ph W B g S s t w')(b:T w w W):ph w B g S s t w':=by
 obtain⟨x',j,o,u⟩:=f;exact⟨x',j,Fz.aJ (Az.aE (B:=B) (S:=S) (s:=s) b) o,u⟩
def FF (V:Bool->Prop)(u:Ac)(w:L)(Z:kh w B g S s)(k:V U->Fm.gh u.lz)(M:∀w,Y N 134 #[u.lz.cs] w λe w'=>(∃b,e=υ b/\V b)/\T w w w'):Y N 25 #[bh g,u.cs,bh s] w λe w'=>e=f #[]/\XP V w B g S s u.lz w':=by
 have O:=bo w (K u.cs 39);generalize p:w.alloc (K u.cs 39)=X at O;have J:=Ga (κ (Z.aE O.aE) O.aE);go_enter func25,ntmps25;go_wp2_with (refine Xj rfl 32 _ rfl w 1 rfl u.lz.cs.toList _ (aa6 O.at_) KI rfl kf.aH ?_);go_call (Ga (Fm.xA V u.lz X k M)).o as e w2 ⟨⟨M,rfl⟩|⟨M,ok,v,rfl⟩,d⟩
 .obtain⟨q,m,e3⟩:=(J.1.aE d).eQ 1;go_wp2;exact QS ⟨rfl,Ξ (Ga (κ M (e3.from (J.2.t (d.m J.2.z))))).o⟩
 have n:=Ga (J.2.t (d.m J.2.z));go_wp2_with fail;go_call (Ga (so (Fm.iS u.lz) w2 (J.1.aE d) H)).o as e A ⟨rfl,l⟩;go_wp2;go_end0;exact⟨rfl,j ((Ga l).o.from (Ga (J.2.t (d.m J.2.z))).o)⟩
def Up (o:Ac)(w:L)(X:kh w B g S s)(y:o.bK.size<=1099511627776):Y N 32 #[bh g,Γ o.cs,bh s] w λi w'=>i=f #[]/\cW w B g S s w':=by
 have u:=bo w (K o.cs 39);generalize a:w.alloc (K o.cs 39)=U at u;have q:U (w,10)=o.bK:=cR u.at_ A;have M:=X.aE u.aE;let⟨p,c,e3⟩:=M.eQ 8;have J:=Ga (κ M (κ u.aE (e3.from u.aE)));clear X u M e3;by_cases O:o.bK.size<=4096
 .have n:¬((4096:C)<(o.bK.size:C)):=H;have m:=Ga (so o.bK U J.1 O);clear O;go_enter func32,ntmps32;go_wp2_with fail;go_call m.o as i v ⟨rfl,j⟩;have Z:=Ga j;clear j;go_wp2;go_end0;exact⟨A,Z.o.act.from J.2.1⟩
 have n:(4096:C)<(o.bK.size:C):=H;clear O;go_enter func32,ntmps32;go_wp2_with fail;exact QS ⟨A,J.2.2⟩
def kh.ek (f:kh w B g S s)(j:bd w w' s (K (x.cs (ο J 0 0)) 35 (0,0)))(c:x.cN=[]):cY w' B g S s x/\Az B S s w w':=by
 have o:Fz B [35] [] w w':=Fz.cV j f.st R f.lo [];exact⟨.Bs (f.aO.fz o (λ_ c=>by cases c) (f.aO.sk.at (o.dn R f.aO.lt) f.aO.ok.b.2) R R) j.at_ c f.lo,Az.Ua j⟩
def bD.md {j:Md.dY}{A u:List (IA×π)}{o:D}(f:bD S P E F)(J:∀c,Md.bN S.md c->Md.bN j c):bD {S with md:=j,R:=A,L:=u,G:=o} P E F:=⟨J _ f.aZ,f.ql,f.fl,f.dl⟩
def aeb (w:L)(B g:D)(S:Gs)(s:D)(f j:C)(w':L):Prop:=(j≠0/\∃z,kh w' B g z s/\me S z/\z.md.aN=S.md.aN/\z.aY=S.aY/\Az B S s w w'/\(bD S [] [] []->bD z [] [] [])/\S.G<=z.G/\z.G<=S.G+1)\/
 (j=0/\0<=f/\f<=1048576/\∃z,kh w' B g z s/\me S z/\z.md.aN=S.md.aN/\z.aY=S.aY/\Az B S s w w'/\(bD S [] [] []->bD z [] [] [])/\S.G<=z.G/\z.G<=S.G+1)
def Ec (X:π)(O:List fj)(w:ν)(a:kh w B g S s)(k:oe B w X O)(v:O.length<=1000)(Z:S.G+1<=51):Y N 15 #[bh S.p.c,X] w λn w'=>∃l M:C,n=f #[l,M]/\aeb w B g S s l M w':=by
 have K:=a.aO.ok.b;go_call Bz S.p S.md S.R S.L S.ca S.G X O w a.aO.sk (by rw[K.1];exact K.2) a.aO.cl (by rwa[K.1]) v Z as n w' ⟨z,⟨md',R',L',e,p,y,m,rfl,-⟩|⟨-,M,R',L',q,u,e,rfl⟩⟩
 .rw[K.1] at z;have J:Fz B [101,192,185,518] [S.p.r,S.p.m,S.p.k] w w':=Fz.cz z sm sm;have c:=a.aO.cl.ok.n1;have h:=a.aO.cl.ok.n2;have U:=J.aM a.st sm (λi=>a.aO.qy _ i _ _ _ a.st);exact⟨_,0,A,j ⟨A,by omega,by omega,_,⟨a.aO.rC J e (Ib _),U,a.lo⟩,⟨A,A,A,A,A,A,A,A,A,A⟩,p,A,Fz.cz J sm sm,λa=>a.md m,Ib _,d⟩⟩
 rw[K.1] at z;have J:Fz B [101,192,185,518] [S.p.r,S.p.m,S.p.k] w w':=Fz.cz z sm sm;have U:=J.aM a.st sm (λi=>a.aO.qy _ i _ _ _ a.st);exact⟨0,M,A,o ⟨by omega,_,⟨a.aO.rC J e d,U,a.lo⟩,⟨A,A,A,A,A,A,A,A,A,A⟩,A,A,Fz.cz J sm sm,λa=>a.md λ_ a=>a,d,Ib _⟩⟩
def nj:pX 158 5:=⟨⟨_,A,Kx⟩,by kernel_rfl⟩
def Ed (u:Ac)(T:List fj)(w:ν)(i:kh w B g S s)(b9:oe B w u.v T)(b7:T.length<=1000)(b5:S.G+1<=51):τ γ 26 #[bh g,u.cs,bh s] w λp w'=>p=χ #[]/\cW w B g S s w':=by
 have c:=bo w (θ u.cs 39);generalize e1:w.alloc (θ u.cs 39)=q at c;have N:=c.aE.d;have b4:=cJ 8 c.at_;have a1:=i.aE N;have b2:q g=bh S.p.c:=(i.aE c.aE).aO.aV.1;have a9:=QC (τ γ 15 #[bh S.p.c,u.v] q.drew λp w'=>∃o J:C,p=χ #[o,J]/\aeb q.drew B g S s o J w'/\w' g=bh S.p.c/\w' (w,8)=u.v) ((Ec u.v T q.drew a1 (b9.aE N) b7 b5).m (by
  rintro p w' ⟨o,J,rfl,H⟩
  have a8:∀z,kh w' B g z s->me S z->Az B S s q.drew w'->w' g=bh S.p.c/\w' (w,8)=u.v:=λz y a7 d6=>⟨by have:=y.aO.aV.1;rwa [a7.p] at this,cR (d6.aM a1.gI (show q.drew.heap[w.heap.size]?=_ from c.at_) sm sm) rfl⟩
  refine⟨o,J,rfl,H,?_⟩
  rcases H with⟨-,z,K,M,-,-,m,-⟩|⟨-,-,-,z,K,M,-,-,m,-⟩
  .exact a8 z K M m
  exact a8 z K M m))
 have n:=Ga N;go_enter func26,ntmps26;go_wp2_with fail;go_region_held3 (λw'=>w' g=bh S.p.c/\w' (w,8)=u.v) (first|exact⟨b2,b4⟩|exact⟨d0,a4⟩|go_keep) (first|(go_at_call 15;go_call a9.o as p w2 ⟨o,J,rfl,H,d0,a4⟩;have a0:=Ga H));by_cases l:J=0
 .subst l;obtain⟨d8,d9,S2,y,O,K,M,k,L,h⟩:=(a0.o.resolve_left λi=>i.1 rfl).2;obtain⟨e6,e,a2⟩:=y.gI.Ua (j:=1) (u:=ϑ o) (x':={x0 with bk:=o}) (λ_=>rfl) rfl;have c1:w2 (s,1)=ϑ 0:=y.gI.Ub dc λ_=>rfl;generalize e2:w2.setCell (s,1) (ϑ o)=ab at e a2;have c3:ab g=bh S.p.c:=by have:=e.aO.aV.1;rwa [O.p] at this
  have Y:=Ga (nb S2.p S2.md S2.R S2.L S2.ca S2.G o ab e.aO.cl om);rw[O.p] at Y;have f:=Ga (κ e (κ O (κ K (κ M (κ (Fz.aJ (Az.aE (B:=B) (S:=S) (s:=s) n.o) (Az.aJ k a2.az O)) (κ L h))))));go_wp2_with fail;go_call Y.o as p w4 ⟨⟨v,a3,d2,U,b0,H,rfl⟩|⟨-,rfl⟩,A⟩
  .obtain⟨d3,d4,rfl,-⟩:=U.1.bZ;have j:=Ga (κ (f.1.aE A) (κ A (κ U b0)));go_upto_region 7 with(refine EL nj rfl _ _ rfl rfl rfl rfl (by simp[φ]) rfl (Gc w4 _) ?_;intro Z I);have X:ρ w4 w4 Z:=I.aE w4 w4 QD ((Ge _ w4).a QD _);have d1:=I.at_;have a:=Ga (κ (j.1.aE X.d) (j.2.1.t (X.d.m j.2.1.z)));have c5:Z (g,2)=bh S.f:=by have:=(j.1.aE X).aO.aV.2.2.1;rwa [f.2.1.f] at this
   have a6:=Ga (Fd.Tw ⟨0,0,o,d2,ο d3 a3.length d4⟩ Z.drew a.1.aO.dy ⟨a3,j.2.2.1.aE X.d,j.2.2.2⟩ (by have:=a.1.aO.ok.cB.1;have:=a.1.aO.cl.rz;omega));rw[f.2.1.f] at a6;go_still_tail 5,Qz;refine gy rfl 158 _ rfl w4 rfl 158 _ (0,0) _ d1 Kx rfl nj.aH ?_;refine wpStill_nil ?_;change Ji _ _ _ _ _ Z.drew;go_wp2_with (go_call a6.o as p e0 ⟨⟨v,rfl⟩,R,b6⟩;rw[<-f.2.1.f] at R;obtain⟨c0,c7⟩:=a.1.dy (Fz.cz b6 sm sm) R a.1.aO.ok.cB.1;have a5:=Ga (κ c0 c7));go_end0;exact⟨rfl,.gI a5.1 (f.2.1.aJ ⟨rfl,rfl,rfl,rfl,rfl,rfl,rfl,rfl,rfl,rfl⟩) f.2.2.1 f.2.2.2.1 (Az.aJ (S':=S2) (Fz.then f.2.2.2.2.1 a.2) a5.2.az f.2.1) (λi=>by have:=f.2.2.2.2.2.1 i;exact⟨this.aZ,this.ql,this.fl,this.dl⟩) f.2.2.2.2.2.2⟩
  have j:=Ga (κ (f.1.aE A) A);go_wp2_with (refine EL nj rfl _ _ rfl rfl rfl rfl (by simp[φ]) rfl (Gc w4 _) ?_;intro Z I);have X:ρ w4 w4 Z:=I.aE w4 w4 QD ((Ge _ w4).a QD _);go_end0;exact⟨rfl,.gI (j.1.aE X) f.2.1 f.2.2.1 f.2.2.2.1 (Fz.then f.2.2.2.2.1 (j.2.t (X.m j.2.z))) f.2.2.2.2.2.1 f.2.2.2.2.2.2⟩
 obtain⟨S2,y,O,K,M,k,L,h⟩:=(a0.o.resolve_right λi=>l i.1).2;obtain⟨e4,a7,e3,b3⟩:=y.OQ J;have c8:=QC (cW w B g S s (w2.setCell s (ϑ J))) (.gI e3 O K M (Fz.aJ (Az.aE (B:=B) (S:=S) (s:=s) n.o) (Az.aJ k b3 O)) L h);have e5:(J !=0)=ψ:=by simpa using l
 go_wp2;refine QS ?_;exact⟨rfl,c8.o⟩
end Gt
namespace Gt
open Fd (bh)
variable {w w' z W y:ν}{B g s r b:Nat}{S S' S2:Gs}{x x':St}{P E F:List Int}{a:Fm.gR}{t:ByteArray}{V:Bool->Prop}
def jh (S:Gs)(t:QE)(V:Bool->Prop):Prop:=S.os=[]/\S.QL=[]/\(Fm.iU t).bq=0/\¬V X/\Fm.nM t 0=0/\Fm.iS (Fm.iU t)=t/\(Fm.eD (Fm.d7 t)).bad.isSome=X
def rG (w:L)(B g:D)(S:Gs)(s:D)(x:St)(t:QE)(V:Bool->Prop)(w':L):Prop:=∃S' f,cY w' B g S' s {x with cN:=f}/\ks S S'/\Az B S s w w'/\(∀P E F,bD S P E F->bD S' P E F)/\f.length<=x.cN.length+1/\S.G<=S'.G/\S'.G<=S.G+1/\(jh S t V->f=x.cN/\∃j,S'={S with QL:=[(il 0,j)],G:=S.G+1}/\jY w' j [Fm.iU t])
def bD.hX {j:List QE}(f:bD S P E F):bD {S with D:=j} P E F:=⟨f.aZ,f.ql,f.fl,f.dl⟩
def rG.cN {D' l:List QE}(c:cY w' B g {S with D:=D'} s {x with cN:=l})(o:Az B S s w w')(f:l.length<=x.cN.length+1)(j:¬jh S t V):rG w B g S s x t V w':=
 ⟨_,l,c,⟨⟨A,A,A,A,A,A,A,A,A,A⟩,A,A⟩,o,λ_ _ _ c=>c.hX,f,d,Ib _,λc=>absurd c j⟩
def rG.eQ (u:Fw W B g S s x w')(A:Az B S s w W)(j:¬jh S t V):rG w B g S s x t V w':=by
 obtain⟨J,K,r,f,o⟩:=u;exact .cN r (Fz.aJ A o.az) f j
structure AB (w:L)(B g:D)(S:Gs)(s:D)(x:St)(a:Fm.gR)(b:D)(W:L):Prop where
 gI:cY W B g S s x
 jA:W.heap[b]?=K a.cs 32
 az:Az B S s w W
 who:a.bq=0\/∃j0∈S.T.ls,j0.id=a.bI
def tf (a:Fm.gR):a.cs.all (·.oneCell')=U:=by simp[Fm.gR.cs,φ]
structure OC (w:L)(QL:List (IA×π))(id:C)(qa:QV JM)(c:D)(al:List Fm.gR):Prop where
 aT:(aT QL (il id)).getD (ο J 0 0)=ο qa al.length c
 cB:al.length<=4
 ok:∀j0∈al,Fm.gh j0
 jJ:(al=[]/\qa=J)\/jY w (ο qa al.length c) al
 none:QL=[]->al=[]
def jZ.jJ {M:List (IA×π)}(O:jZ w M)(id:C):∃m u K,OC w M id m u K:=by
 cases f:Go.Proofs.YtajnhfklchlahaaGreatDoor.aT M (il id) with
 |none=>exact⟨J,0,[],by rw[f];rfl,by simp,by simp,o ⟨A,A⟩,λ_=>rfl⟩
 |some c=>
  obtain⟨a,K,⟨g,n,u,rfl,U⟩,X,Z⟩:=O.aT f;exact⟨_,u,a::K,by rw[f];rfl,X,Z,j ⟨g,n,u,A,U⟩,λh=>by rw[h] at f;cases f⟩
def OC.aE {j:List (IA×π)}{id:C}{o:QV JM}{c:D}{f:List Fm.gR}(d:OC w j id o c f)(b:T w w w'):OC w' j id o c f:=
 ⟨d.aT,d.cB,d.ok,d.jJ.imp (λd=>d) λd=>d.aG λg ⟨_,_,i⟩=>b.b g (aw i),d.none⟩
def wk (w w':L)(S:Gs)(j:D)(F:Prop)(f:Bool):Prop:=T w w w'/\(f=X->(j:C)<S.cg)/\(F->f=X)
def Uq {f:Q π}{o:Λ}{j:D}(u:w.heap[j]?=K f o):∀c d,f.toList[c]?=M d->w ((j:JM).add c)=M d:=λc d e=>by
 rw[Jg,GU,QH u];simpa using e
def OD {X:D}{o:List Fm.gR}{f:π}{U u:ν}(i:Fm.iU t=a)(O:Fm.gh a)(h:AB w B g S s x a X U)(n:S.QL=[]->o=[])(N:∀d∈o,Fm.gh d)(a4:o.length<4)(k:S.G+1<=51)(b:ρ U U u)(v:u.ownsRow U 32 7 f (o.length+1) ((o++[a]).flatMap jX)):
 u (g,5)=KD (M S.q)/\∃w8,(Instr.mapUpdate 81 (KD (M S.q)) (ϑ a.bI) f).run γ u=Je () w8/\w8 (g,5)=KD (M S.q)/\w8.heap[X]?=θ a.cs 32/\rG w B g S s x t V w8:=by
 have j:=h.gI.aE b;have a5:=O.s;have a3:=h.gI.aO.cl.rz;obtain⟨w8,T,l,I⟩:=j.aO.oz.cO eX JX (by have:=j.aO.ok.cB.2;unfold Ie;omega) (kG (n:=a.bI) om) (val:=f);have K:=eH j.aO.oz.bx;have J:=Fd.gC (B:=B) I;have H:jY u f (o++[a]):=jY.cT (by simpa using v) R;have G:jZ u ((il a.bI,f)::be (il a.bI) S.QL):=λd c=>by
  rcases GF.1 c with rfl|c
  .exact⟨a.bI,f,o++[a],A,H,by simp,by simp;omega,λd c=>by
    rcases GO.1 c with c|c
    .exact N d c
    obtain rfl:=GA.1 c;exact O⟩
  exact j.aO.qv.be _ d c
 have m:=(j.aO.up1 k).Fu I l G (by have:=j.aO.ok.cB.2;have:=bB (il a.bI) S.QL;simp;omega);have Z:=j.turn m J K R R R (.fz J K R) (λ_ h=>h) ⟨A,A,A,A,A,A,A,A,A,A⟩;have Y:w8.heap[X]?=θ a.cs 32:=J.aM (b.ke h.jA) R (λl=>K _ l _ _ _ (b.ke h.jA));refine⟨j.aO.aV.2.2.2.2.2.1,w8,T,Z.aO.aV.2.2.2.2.2.1,Y,_,x.cN,Z,⟨⟨A,A,A,A,A,A,A,A,A,A⟩,A,A⟩,Fz.aJ h.az (Fz.aJ (Az.aE (B:=B) (S:=S) (s:=s) b) (Fz.cz J R R)),λP E F q=>⟨q.aZ,λa2 L=>?_,q.fl,q.dl⟩,Ib _,Ib _,QD,λp=>⟨A,f,?_,?_⟩⟩
 .obtain⟨d,c,rfl⟩:=GL.1 L;rcases GF.1 c with rfl|c
  .rcases h.who with e|⟨d,c,e⟩
   .exact Ξ (Xl il (O.z e))
   exact Θ (Ξ ⟨d,c,Xl il e.s⟩)
  exact q.ql _ (GL.2 ⟨d,(GX.1 c).1,A⟩)
 .rw[jh,i] at p;have e:(il a.bI,f)::be (il a.bI) S.QL=[(il 0,f)]:=by rw[O.z p.2.2.1,p.2.1];rfl
  show({{S with G:=S.G+1} with QL:=(il a.bI,f)::be (il a.bI) S.QL}:Gs)=_;rw[e]
 rw[i];have:=n p.2.1;subst this;exact H.aG λa2 ⟨a0,a1,e⟩=>(J.aM e R λl=>K _ l _ _ _ e).t e.s
def Ee {t K u J O o:D}{Z:π}{v A:List π}{q:Q Le}{f:Le}{a:Act}{p:Act->ν->Prop}{l:Exit->Act->ν->Prop}{E:Prop}(L:hD t K u)(a2:f.guard=ζ)(s x:Kg)(h:f.op=.call {callee:=.builtin .append,args:=#[s,x],argTypes:=#[t,t]})
 (H:a.eval s=Z) (i:w.ownsRow J K u Z O v) (X:JM) (c:D) (k:a.eval x=ο (M X) o c) (T:A.length=o*u) (a1:∀d j,A[d]?=M j->w (X.add d)=M j) (I:∀j∈A,j.oneCell'=U) (N:O+o<=1000000) (a0:J<=w.heap.size)
 (m:∀n w',w'.ownsRow J K u n (O+o) (v++A)->aL (λg=>Z.ownBlock=M g) w w'->p (a.put f.dst n) w'):if Jb f (Xg q a.tmps)=U then Ld γ f a w p l else E:=by
 have G:Jb f (Xg q a.tmps)=U:=by simp[Jb,a2]
 rw[QU G];obtain⟨n,w',e,R,Y⟩:=Bg L i X c T a1 I N a0 f.type;unfold Ld;simp[Xb,h,resolve,invoke,builtin,H,k,e,Ω];exact m _ _ R Y
def OE (V:Bool->Prop)(t:QE)(w:ν)(d:cY w B g S s x)(j8:V ψ->Fm.gh (Fm.iU t))(k5:∀w,τ γ 134 #[Γ (Fm.iU t).cs] w λc w'=>(∃b,c=υ b/\V b)/\ρ w w w')(k4:t.size<=1000000)(g9:x.cN.length+1<=1000)(j6:S.G+1<=51):
 τ γ 75 #[bh g,O t,bh s] w λc w'=>c=χ #[]/\rG w B g S s x t V w':=by
 have j1:=Ga (Fm.MZ V t w k4 d.aO.sk.dm j8 k5);have Y:=Ga (κ d (κ g9 j6));go_enter func75,ntmps75;go_wp2_with fail;refine j1.o.m ?_;rintro c R ⟨⟨rfl,k0⟩|⟨rfl,j9,g4⟩,b1⟩
 .have n:¬jh S t V:=λd=>by
   rcases k0 with c|c|c|c
   .rw[d.2.2.2.2.2.2] at c;cases c
   .exact d.2.2.2.1 c
   .exact c d.2.2.2.2.1
   exact c d.2.2.2.2.2.1
  have i9:=bo R (K Fm.dz.cs 32);have f6:=Ga (κ n (b1.t (i9.aE.m b1.z)));have n0:=i9.at_;dsimp only[Fm.dz,Fm.gR.cs] at n0 ⊢;go_wp2_with fail;have U:=Ga (eR Fm.dz 2 _ (Y.1.aE f6.2) Y.2.1);refine U.o.m ?_;rintro r v ⟨rfl,e6⟩;have u:=Ga e6;go_wp2;refine QS ?_;exact⟨A,.eQ u.o (Az.aE f6.2) f6.1⟩
 have o9:=Ga j9;generalize a5:Fm.iU t=a at g4 ⊢;have e0:=Ga a5;have d2:=b1.t ((bo R (K Fm.dz.cs 32)).aE.m b1.z);have o8:=Ga b1;have o2:R.heap.size<(R.alloc (K Fm.dz.cs 32)).heap.size:=by rw[(bo R _).aH];omega
 have m9:=b1.z;go_upto_if 27 with(refine EL kf rfl _ _ rfl rfl rfl rfl (tf a) rfl (Gc R _) ?_;intro z I;have c8:=I.at_;have d2:=I.aE w.heap.size w H d2;have j2:z R=a.bq:=cR c8 rfl;have a4:z (R,1)=a.bI:=cR c8 rfl)
 have m:=Ga (κ (Y.1.aE d2) (κ c8 d2));generalize R.heap.size=M at c8 j2 a4 m m9 ⊢;go_cut [] (λg3=>Φ (AB w B g S s x a M g3))
 case first=>
  by_cases L:a.bq=0
  .have U:=QC (AB w B g S s x a M z) ⟨m.1,m.2.1,Az.aE m.2.2,Ξ L⟩;have f1:(a.bq !=0)=X:=by simpa using L
   go_wp2;go_meet;exact U
  have f1:(a.bq !=0)=ψ:=by simpa using L
  go_wp2_with fail;have i2:=QC (∀y:ν,ρ z z y->τ γ 149 #[bh S.t,ϑ a.bI,ϑ S.aY] y λc w'=>∃h b7 b9 c0 i:C,c=χ #[Γ #[ϑ h,ϑ b7,ϑ b9,ϑ c0],ϑ i]/\(i=0->∃q1∈S.T.ls,q1.id=a.bI)/\ρ y y w') λy l9=>by
   refine(Ls.AA S.t S.T a.bI S.aY y (m.1.aO.mc.aE l9) m.1.aO.ok.qH).m ?_;rintro c w' ⟨⟨q1,ae,g8,-,rfl⟩|⟨i,n,-,rfl⟩,b⟩
   .exact⟨_,_,_,_,0,A,λ_=>⟨q1,ae,g8⟩,b⟩
   exact⟨_,_,_,_,i,A,λc=>by omega,b⟩
  have f5:=Ga L;obtain⟨-,c1,-,-,-,-,-,e9⟩:=m.1.aO.aV;have b3:=QC (ρ z z z.drew) QG.d;have d1:=bo z (K #[ϑ 0,ϑ 0,ϑ 0,ϑ 0] 140);have q0:=QC (ρ z z (z.alloc (K #[ϑ 0,ϑ 0,ϑ 0,ϑ 0] 140)).drew) d1.aE.d;have e8:=QC ((z.alloc (K #[ϑ 0,ϑ 0,ϑ 0,ϑ 0] 140)).drew.heap[z.heap.size]?=K #[ϑ 0,ϑ 0,ϑ 0,ϑ 0] 140) d1.at_;have h4:=Below.ce q0.o c1;have h5:=Below.ce q0.o e9;have h2:=Below.ce q0.o a4;have g5:=IX z _ c1;have g6:=IX z _ a4;simp only at g5 g6;go_region_held3 (λw'=>w' (g,1)=bh S.t/\w' (g,7)=S.aY/\w' (M,1)=a.bI) (first|exact⟨c1,e9,a4⟩|exact⟨h4,h5,h2⟩|exact⟨f0,d7,b4⟩|go_keep) (first|(go_at_call 149;refine(i2.o _ q0.o).m ?_;rintro c q ⟨h,b7,b9,c0,i,rfl,n,j⟩;have f0:=Below.ce j h4;have d7:=Below.ce j h5;have b4:=Below.ce j h2;have a6:=Ga (κ j n);have d6:=dA (Below.ke j e8.o);have k9:=d6 0;have l0:=d6 1;have l1:=d6 2;have l2:=d6 3;simp at k9 l0 l1 l2;have o6:=aI (Below.ke j e8.o))|(go_at_call 149;refine(i2.o _ b3.o).m ?_;rintro c q ⟨h,b7,b9,c0,i,rfl,n,j⟩;have f0:=Below.ce j c1;have d7:=Below.ce j e9;have b4:=Below.ce j a4;have a6:=Ga (κ j n);have g5:=IX q _ f0;have g6:=IX q _ b4;simp only at g5 g6));all_goals
   first
    |(have f2:=aea (v0:=ϑ h) (v1:=ϑ b7) (v2:=ϑ b9) (v3:=ϑ c0) (Below.ke a6.1 e8.o);have N:ρ z z _:=f2.aE z.heap.size z QD (q0.o.t (a6.1.m q0.o.z));generalize (((q.setCell _ _).setCell _ _).setCell _ _).setCell _ _=W at N ⊢)
    |(have f2:=bo q (K #[ϑ h,ϑ b7,ϑ b9,ϑ c0] 140);have N:ρ z z _:=b3.o.t (a6.1.t (f2.aE.m a6.1.z));generalize q.alloc _=W at N ⊢)
   have j5:=m.1.aE N;have i8:=Below.ke N m.2.1;have a9:=Ga (κ (κ j5 (κ i8 (m.2.2.t (N.m m.2.2.z)))) a6.2);by_cases n:i=0
   .have U:=QC (AB w B g S s x a M W) ⟨a9.1.1,a9.1.2.1,Az.aE a9.1.2.2,Θ (a9.2 n)⟩;subst n;go_wp2;go_meet;exact U
   have p5:(i !=0)=ψ:=by simpa using n
   have b6:=Ga (eR a i W a9.1.1 Y.2.1);go_wp2_with (refine zw kf A _ A A A i8 ?_);refine b6.o.m ?_;rintro r v ⟨rfl,e6⟩;have u:=Ga e6;go_wp2;refine QS ?_;exact⟨A,.eQ u.o (Az.aE a9.1.2.2) λd=>f5.o (by have:=d.2.2.1;rwa [e0.o] at this)⟩
 case rest=>
  have a7:=hcut;have k:=a7.o.jA;have j3:=Ga (Oo a wc a7.o.gI.aO);go_wp2_with (refine zw kf A _ A A A k ?_);refine j3.o.m ?_;rintro c v ⟨⟨t2,I,rfl,o3,o4,k1⟩,d3⟩;have u:=QC (AB w B g S s x a M v/\(jh S t V->I=9)) ⟨⟨a7.o.gI.aE d3,Below.ke d3 a7.o.jA,Fz.then a7.o.az d3,a7.o.who⟩,λd=>k1 (by have:=d.2.2.1;rwa [e0.o] at this) d.1⟩;have h9:=Below.ke d3 k;by_cases h8:I=0
  .subst h8;have l6:=Ga (nw t2 v u.1.gI Y.2.1);go_wp2_with fail;refine l6.o.m ?_;rintro r a3 ⟨rfl,c2,l3⟩;have o:=Ga (κ c2 l3);go_wp2;refine QS ?_;exact⟨A,.cN o.1 (Fz.aJ u.1.az o.2.az) sm λd=>by have:=u.2 d;omega⟩
  have o7:(I==0)=X:=by simpa using h8
  have l:=Ga (hG I 9 v);go_wp2_with fail;refine l.o.m ?_;rintro c n7 ⟨rfl,rfl⟩;by_cases b2:I=9
  .have f3:(I==9)=ψ:=by simpa using b2
   rw[f3];obtain⟨ag,a2,f,h7⟩:=u.1.gI.aO.qv.jJ a.bI;have j7:=u.1.gI.aO.oz;have o1:∀e5,(Instr.lookup 81 (KD (δ S.q)) (ϑ a.bI) X).run γ (v.drewN e5)=Je (ο ag f.length a2) (v.drewN e5):=λe5=>by
    have d:=(j7.aM (w':=v.drewN e5) A).jE eX JX (rD _) (kG (n:=a.bI) (by have:=g4.s;omega));rw[h7.aT] at d;exact d
   have c5:=u.1.gI.aO.aV.2.2.2.2.2.1;have a4:v (M,1)=a.bI:=cR h9 A;have j4:=Ga h7;go_wp2;go_quiet (fail);generalize k6:v.drewN _=a3;have d4:ρ v v a3:=by rw[<-k6];exact gj _ _
   have o:=QC (AB w B g S s x a M a3/\OC a3 S.QL a.bI ag a2 f) ⟨⟨u.1.gI.aE d4,Below.ke d4 u.1.jA,Fz.then u.1.az d4,u.1.who⟩,j4.o.aE d4⟩;have o0:=o.2.cB;go_wp2;go_loopw [81] (λiv wr=>∃h:Nat,h<=f.length/\iv=ϑ h/\Φ (ρ a3 a3 wr)) (λiv _=>f.length-(QI iv).toNat);case atStart=>exact⟨0,by omega,A,Ga QG⟩
   case round=>
    obtain⟨h,g8,rfl,l⟩:=hrel;have g0:=Ga (o.2.aE l.o);have c6:=Below.ke l.o o.1.jA;by_cases c7:h<f.length
    .obtain⟨q1,ae⟩:∃q1,f[h]?=δ q1:=⟨_,Gf c7⟩;obtain⟨ab,J,rfl,m6,h6⟩:∃ab J,ag=δ ⟨ab,J,ζ⟩/\f.length<=a2/\wr.rangeAt ab (J+h*7) (jX q1):=by
      rcases g0.o.jJ with⟨c,-⟩|⟨g,J,e7,c,Z,-,e3⟩
      .rw[c] at c7;simp at c7
      simp only[Gy,true_and] at c;exact⟨g,J,c.1,by rw[c.2];exact Z,e3 h q1 ae⟩
     have p4:(h:C)<(f.length:C):=H;have p3:(0:C)<=(h:C):=H;have p2:η.wrap ((h:C)+1)=(h:C)+1:=QQ H;have p0:=Ga ae;go_upto_region 16 with(first|(refine Xj rfl 32 _ rfl ab (J+h*7) rfl (jX q1) _ h6 KI rfl kf.aH ?_)|(refine EL kf rfl _ _ rfl rfl rfl rfl (tf q1) rfl (Gc wr _) ?_;intro g7 i0));have k7:=i0.at_;have h3:ρ wr wr g7:=i0.aE wr.heap.size wr QD ((Ge _ wr).a QD _);have b4:g7 (wr.heap.size,2)=ϑ q1.oT:=cR k7 A;have Z:g7 (M,2)=a.oT:=cR (Below.ke h3 c6) A;have f4:=Ga (l.o.t (h3.m l.o.z));by_cases h0:q1.oT=a.oT
     .rw[h0] at b4;have l8:=Ga c7;go_wp2;refine QS ?_;exact⟨A,.cN (D':=S.D) (l:=x.cN) (o.1.gI.aE f4.o) (Fz.then o.1.az f4.o) H λd=>by have:=o.2.none d.2.1;have:=l8.o;simp_all⟩
     have p8:(q1.oT==a.oT)=X:=by simpa using h0
     go_wp2;go_roundw;case rel=>exact⟨h+1,by omega,by simp,f4⟩
     case measure=>simp[QI];omega
    have n9:¬((h:C)<(f.length:C)):=H;have n8:wr (g,6)=S.cg:=(o.1.gI.aE l.o).aO.aV.2.2.2.2.2.2.1;have k8:wr M=a.bq:=cR c6 A;have o5:wr (M,2)=a.oT:=cR c6 A;have i4:=Ga o.1.gI.aO.ok.cg;have i3:=QC (jh S t V->f=[]/\a.bq=0) λd=>⟨o.2.none d.2.1,by have:=d.2.2.1;rwa [e0.o] at this⟩;clear c6;go_upto_region 18 with fail;go_cut [119] (λcv g3=>∃e2:Bool,cv=υ e2/\Φ (wk wr g3 S f.length (jh S t V) e2))
    case first=>
     by_cases a5:S.cg<=(f.length:C)
     .have U:=QC (∀i,wk wr (wr.drewN i) S f.length (jh S t V) ψ) λi=>⟨gj wr i,(λd=>by cases d),(λd=>by have:=(i3.o d).1;rw[this] at a5;have:=i4.o;simp at a5;omega)⟩;go_quiet (fail);go_wp2;go_meet;exact⟨ψ,A,Ga (U.o _)⟩
     have U:=QC (∀i,wk wr (wr.drewN i) S f.length (jh S t V) X) λi=>⟨gj wr i,(λ_=>by omega),(λ_=>rfl)⟩;by_cases L:a.bq=0
     .have f1:(a.bq !=0)=X:=by simpa using L
      rw[L] at k8;go_quiet (fail);go_wp2;go_meet;exact⟨X,A,Ga (U.o _)⟩
     have f1:(a.bq !=0)=ψ:=by simpa using L
     have f5:=Ga L;have h1:=g0.o.jJ;generalize b5:f.length=n1 at *;cases n1 with
     |zero=>
      have l5:=Ga b5;have m4:¬S.cg<=(0:C):=by simpa using a5
      clear b5 h1 a5;go_quiet (fail);go_wp2;go_meet;exact⟨X,A,Ga (U.o _)⟩
     |succ e=>
      obtain⟨q1,ae⟩:∃q1,f[e]?=δ q1:=⟨_,Gf H⟩;obtain⟨ab,J,rfl,m6,h6⟩:∃ab J,ag=δ ⟨ab,J,ζ⟩/\e+1<=a2/\wr ⟨ab,J+e*7+2,ζ⟩=ϑ q1.oT:=by
       rcases h1 with⟨c,-⟩|⟨g,J,e7,c,Z,-,e3⟩
       .rw[c] at b5;simp at b5
       simp only[Gy] at c;exact⟨g,J,c.1,by rw[c.2.2];omega,e3 e q1 ae 2 _ A⟩
      have l5:=Ga (κ b5 ae);have m5:=QC (∀i,wk wr (wr.drewN i) S (e+1) (jh S t V) ψ) λi=>⟨gj wr i,(λd=>by cases d),(λd=>absurd (i3.o d).2 f5.o)⟩;have p9:(0:C)<=(e:C):=H;have r0:(e:C)<(e:C)+1:=H;have r1:(0:C)<(e:C)+1:=H;have r2:η.wrap (e:C)=e:=QQ H;have r3:(e:C)+1-1=e:=H;have m4:¬S.cg<=(e:C)+1:=H;by_cases p6:a.oT<q1.oT
      .go_quiet (fail);go_wp2;go_meet;exact⟨ψ,A,Ga (m5.o _)⟩
      go_quiet (fail);go_wp2;go_meet;exact⟨X,A,Ga (U.o _)⟩
    case rest=>
     obtain⟨e2,rfl,a8⟩:=hcut;have p:=QC (AB w B g S s x a M wc/\OC wc S.QL a.bI ag a2 f) ⟨⟨(o.1.gI.aE l.o).aE a8.1,Below.ke a8.1 (Below.ke l.o o.1.jA),Fz.then o.1.az (l.o.t (a8.1.m l.o.z)),o.1.who⟩,g0.o.aE a8.1⟩;have k:=p.1.jA;cases e2 with
     |true=>
      have b6:=Ga (eR a 7 wc p.1.gI Y.2.1);go_wp2_with (refine zw kf A _ A A A k ?_);refine b6.o.m ?_;rintro r n7 ⟨rfl,b2⟩;have l4:=Ga b2;go_wp2;refine QS ?_;exact⟨A,.eQ l4.o p.1.az λd=>by have:=a8.2.2 d;cases this⟩
     |false=>
      have c5:=p.1.gI.aO.aV.2.2.2.2.2.1;have g9:=a8.2.1 A;have f7:=QC (f.length<4) (by have:=i4.o;omega);have p1:=p.1.gI.aO.lt;obtain⟨ah,aj,ai,aa,a1,a0,af⟩:=a;have k:wc.heap[M]?=K #[ϑ ah,ϑ aj,ϑ ai,ϑ aa,O a1,O a0,ϑ af] 32:=k;have d1:=bo wc (K #[ϑ ah,ϑ aj,ϑ ai,ϑ aa,O a1,O a0,ϑ af] 32);have b3:=QC (ρ wc wc wc.drew) QG.d;have q0:=QC (ρ wc wc (wc.alloc (K #[ϑ ah,ϑ aj,ϑ ai,ϑ aa,O a1,O a0,ϑ af] 32)).drew) d1.aE.d;have i1:=QC (∀y:ν,ρ wc wc y->τ γ 35 #[ο ag f.length a2] y λc w'=>∃b0,c=ι b0/\w'.ownsRow wc.heap.size 32 7 b0 f.length (f.flatMap jX)/\ρ y y w') λy i6=>by
       refine(ze ag f.length a2 (f.flatMap jX) y (Tz f) (by have:=f7.o;omega) (λc=>?_) (λr5 g1 e4 q1 m8=>?_) (TB f)).m ?_
       .rcases p.2.jJ with⟨Z,-⟩|⟨g,J,e7,Z,-⟩
        .rw[Z];rfl
        rw[c] at Z;cases Z
       .rcases p.2.jJ with⟨Z,e3⟩|d
        .rw[e3] at g1;cases g1
        obtain⟨g,J,e7,Z,-,m7⟩:=d.aV 0;simp only[Gy] at Z;rw[g1] at Z;obtain rfl:=Gm Z.1;exact Below.ce i6 (m7 e4 q1 m8)
       rintro c w' ⟨⟨b0,rfl,m3⟩,b⟩;exact⟨b0,A,vJ m3 i6.z,b⟩
      have r4:=c5;have n2:=dA k;have i7:=Below.ce q0.o c5;have n3:=dA (Below.ke q0.o k);go_wp2_with fail;go_region_held3 (λw'=>w' (g,5)=KD (δ S.q)/\∀e4,w' ⟨M,e4,ζ⟩=(#[ϑ ah,ϑ aj,ϑ ai,ϑ aa,O a1,O a0,ϑ af]:Q π)[e4]?) (first|exact⟨c5,n2⟩|exact⟨i7,n3⟩|exact⟨d5,j0⟩|exact⟨m0,n4⟩|exact⟨m1,n5⟩|exact⟨m2,g2⟩|go_keep) (first|(go_at_call 35;refine(i1.o _ q0.o).m ?_;rintro c q ⟨b0,rfl,c3,j⟩;have d5:=Below.ce j i7;have j0:=dA (Below.ke j (Below.ke q0.o k));have f8:=Ga c3;have d9:=Ga (q0.o.t (j.m q0.o.z));have i5:=Ga (Uq (Below.ke j (show(wc.alloc (K #[ϑ ah,ϑ aj,ϑ ai,ϑ aa,O a1,O a0,ϑ af] 32)).drew.heap[wc.heap.size]?=_ from Gc wc _)));have f9:=f8;have e1:=d9)|(go_at_call 35;refine(i1.o _ b3.o).m ?_;rintro c q ⟨b0,rfl,c3,j⟩;have d5:=Below.ce j c5;have j0:=dA (Below.ke j k);have d8:=(bo q (K #[ϑ ah,ϑ aj,ϑ ai,ϑ aa,O a1,O a0,ϑ af] 32)).aE;have m0:=Below.ce d8 d5;have n4:=dA (Below.ke d8 (Below.ke j k));have f8:=Ga c3;have d9:=Ga (b3.o.t j);have i5:=Ga (Uq (bo q (K #[ϑ ah,ϑ aj,ϑ ai,ϑ aa,O a1,O a0,ϑ af] 32)).at_);have f9:=Ga (aQ f8.o d8);have e1:=Ga (d9.o.t (d8.m d9.o.z)))|(refine Ee YK A _ _ A A f9.o _ 1 A A i5.o (by simp[φ]) (by have:=f7.o;omega) e1.o.z ?_;intro r6 n6 k3 k2;have N:ρ wc wc n6:=e1.o.t (k2.cE e1.o.z (λh c=>(bG f9.o c).1));obtain⟨m1,w8,p7,m2,g2,hF⟩:=OD (V:=V) e0.o g4 p.1 p.2.none p.2.ok f7.o Y.2.2 N (by rw[Hj];simpa[jX,Fm.gR.cs] using k3);have n5:=dA (Below.ke N k);have g2:=dA g2;have U:=Ga hF));all_goals
       go_wp2;go_end0;exact⟨A,U.o⟩
  have f3:(I==9)=X:=by simpa using b2
  rw[f3];have b6:=Ga (eR a 7 v u.1.gI Y.2.1);have l7:=Ga b2;go_wp2_with (refine zw kf A _ A A A h9 ?_);refine b6.o.m ?_;rintro r a3 ⟨rfl,c2⟩;have o:=Ga c2;go_wp2;refine QS ?_;exact⟨A,.eQ o.o u.1.az λd=>l7.o (u.2 d)⟩
end Gt
namespace Gt
open Fd (bh)
variable {w w' w2 W W':ν}{B g s r b:Nat}{S S' S2:Gs}{x x':St}{P E F:List Int}{t:ByteArray}{V:Bool->Prop}
def rH (S:Gs)(j:C)(f:List QE):Gs:=if j<0 then{S with D:=f} else{S with U:=f}
def jy (S:Gs)(f:C):List QE:=if f<0 then S.D else S.U
def hZ (j:cw w B g S)(o:C):Ms.bU w (vI S o) S.fV (jy S o)/\(jy S o:D)<=64:=by
 unfold vI jy;by_cases f:o<0
 .rw[QU f,QU f];exact⟨j.hX,j.ok.fV.2.2.2⟩
 rw[QT f,QT f];exact⟨j.up,j.ok.fV.2.2.1⟩
def kh.Ur {z:C}{J:List QE}(K:kh w B g S s)(f:Ms.aL w w' (· =vI S z))(u:Ms.bU w' (vI S z) S.fV J)(O:(J:D)<=64)(U:0<=z->∀t∈J,t.size<=4096):kh w' B g (rH S z J) s/\Az B S s w w':=by
 unfold vI at f u;unfold rH;by_cases M:z<0
 .rw[QU M] at f u ⊢;exact K.yj (j A) f (K.aO.BG f u O)
 rw[QT M] at f u ⊢;exact K.yj (o A) f (K.aO.TZ f u O (U H))
def rI (S:Gs)(j:C)(f:List QE):me S (rH S j f)/\(rH S j f).md=S.md/\(rH S j f).aY=S.aY/\(rH S j f).G=S.G/\((rH S j f).os=S.os/\(rH S j f).QL=S.QL)/\(∀P E F,bD S P E F->bD (rH S j f) P E F):=by
 unfold rH;split<;>exact⟨⟨A,A,A,A,A,A,A,A,A,A⟩,A,A,A,⟨A,A⟩,λ_ _ _ d=>⟨d.aZ,d.ql,d.fl,d.dl⟩⟩
def cW.Ur {j:C}{f:List QE}(a:cW W B g (rH S j f) s w')(o:Az B S s w W):cW w B g S s w':=let⟨S',x',c,k,l,p,q,m,n,v,y⟩:=a;let⟨d,h,e3,e,_,i⟩:=rI S j f;⟨S',x',c,d.aJ k,by rw[l,h],by rwa[<-e3],by rwa[<-e3],o.aJ m d,λa=>n (i _ _ _ a),by rwa[<-e],by rwa[<-e]⟩
def xN {o:C}{f:List QE}(j:∀t∈f,t.size<=4096):∀t∈Ms.iq o f,t.size<=4096:=λt a=>by
 unfold Ms.iq at a;split at a
 .exact j t (List.mem_of_mem_eraseIdx a)
 exact j t a
def xO (j:C)(f:List QE):(Ms.iq j f:D)<=(f:D):=by
 unfold Ms.iq;split
 .exact List.length_eraseIdx_le ..
 exact d
def vN:ByteArray.empty.size<=4096:=dc
def pj {n:C}{f:List QE}(o:∀t∈f,t.size<=4096):(Ms.gd n f).size<=4096:=by
 unfold Ms.gd;split
 .cases j:f[n.toNat]? with
  |none=>exact vN
  |some e=>exact o e (Gl j)
 exact vN
def BN {z f:C}{j:List QE}(u:1<=f/\f<=64)(o:(j:D)<=64):(Ms.hM f z j:D)<=64:=by
 unfold Ms.hM;split
 .exact FE u o
 exact o
def BO {o u:C}{f:List QE}(j:∀t∈f,t.size<=4096):∀t∈Ms.hM u o f,t.size<=4096:=λt a=>by
 unfold Ms.hM at a;split at a
 .refine BM (room:=u) ?_ j t a;cases z:f[o.toNat]? with
  |none=>exact vN
  |some i=>exact j i (Gl z)
 exact j t a
def jD (f:cw w B g S){n:C}(j:0<=n):∀t∈jy S n,t.size<=4096:=by
 rw[jy,QT H];exact f.ok.ep
def kh.ok (a:kh w B g S s):cW w B g S s w:=⟨S,x0,a.gI,.bQ S,A,LW _,H,Az.aE QG,λa=>a,d,Ib _⟩
def Us (j:Ac)(w:L)(X:kh w B g S s)(a: -9223372036854775808<=j.n/\j.n<=9223372036854775807):Y N 29 #[bh g,j.cs,bh s] w λh w'=>h=f #[]/\cW w B g S s w':=by
 have J:=bo w (K j.cs 39);generalize v:w.alloc (K j.cs 39)=M at J;have e:=cJ 9 J.at_;have z:=X.aE J.aE;have d:=Ga (zl j.n M z.aO a);have Z:=Ga (Ms.tY (vI S j.n) S.fV (jf j.n) (jy S j.n) M (hZ z.aO j.n).1 (hZ z.aO j.n).2);have u:=Ga (κ z J.aE);go_enter func29,ntmps29;go_wp2_with fail;go_call d.o as h w2 ⟨rfl,rfl⟩;go_wp2_with fail;go_call Z.o as h w2 ⟨rfl,n,o⟩;let⟨c,k⟩:=u.1.Ur o n (GB (xO _ _) (hZ u.1.aO j.n).2) λa=>xN (jD u.1.aO a);let⟨y,i,e3⟩:=c.eQ 9;have O:=Ga (κ (c.ok.Ur k|>.from u.2) ((e3.Ur k).from u.2));generalize Ms.eO (jf j.n) (jy S j.n)=U;cases U
 .go_wp2;go_end0;exact⟨A,O.2⟩
 go_wp2;go_end0;exact⟨A,O.1⟩
def Ef (j:Ac)(w:L)(X:kh w B g S s)(a: -9223372036854775808<=j.n/\j.n<=9223372036854775807):Y N 30 #[bh g,j.cs,bh s] w λh w'=>h=f #[]/\cW w B g S s w':=by
 have J:=bo w (K j.cs 39);generalize v:w.alloc (K j.cs 39)=M at J;have e:=cJ 9 J.at_;have z:=X.aE J.aE;have d:=Ga (zl j.n M z.aO a);have Z:=Ga (Ms.CM (vI S j.n) S.fV (jf j.n) (jy S j.n) M (hZ z.aO j.n).1 z.aO.ok.fV.2.1 (hZ z.aO j.n).2);have u:=Ga (κ z J.aE);go_enter func30,ntmps30;go_wp2_with fail;go_call d.o as h w2 ⟨rfl,rfl⟩;go_wp2_with fail;go_call Z.o as h w2 ⟨rfl,n,o⟩;let⟨c,k⟩:=u.1.Ur o n (BN ⟨u.1.aO.ok.fV.1,u.1.aO.ok.fV.2.1⟩ (hZ u.1.aO j.n).2) λa=>BO (jD u.1.aO a);let⟨y,i,e3⟩:=c.eQ 9;have O:=Ga (κ (c.ok.Ur k|>.from u.2) ((e3.Ur k).from u.2));generalize Ms.kX S.fV (jf j.n) (jy S j.n)=U;cases U
 .go_wp2;go_end0;exact⟨A,O.2⟩
 go_wp2;go_end0;exact⟨A,O.1⟩
def aa7 (V:Bool->Prop)(w:L)(B g:D)(S:Gs)(s:D)(j:C)(w':L):Prop:=cW w B g S s w'/\(j=0->∀t,S.U=[t]->jh S t V->∃f,cY w' B g {S with U:=[],QL:=[(il 0,f)],G:=S.G+1} s x0/\Az B S s w w'/\jY w' f [Fm.iU t])
def vO (V:Bool->Prop)(f:Ac)(w:ν)(i:kh w B g S s)(l: -9223372036854775808<=f.n/\f.n<=9223372036854775807)(O:S.G+1<=51)(U:0<=f.n->V ψ->Fm.gh (Fm.iU (Ms.gd (jf f.n) (jy S f.n))))(X:0<=f.n->∀w,τ γ 134 #[Γ (Fm.iU (Ms.gd (jf f.n) (jy S f.n))).cs] w λd w'=>(∃b,d=υ b/\V b)/\ρ w w w'):
 τ γ 28 #[bh g,Γ f.cs,bh s] w λd w'=>d=χ #[]/\aa7 V w B g S s f.n w':=by
 have u:=bo w (θ f.cs 39);generalize b0:w.alloc (θ f.cs 39)=J at u;have a3:J ((w:D),9)=f.n:=cR u.at_ A;have z:=i.aE u.aE;have a2:=Ga (zl f.n J z.aO l);have a0:=Ga (Ms.pF (vI S f.n) S.fV (jf f.n) (jy S f.n) J (hZ z.aO f.n).1 (hZ z.aO f.n).2);have j:=Ga (κ z (κ u.aE (κ O (κ U (κ X u.at_)))));clear i u z l U X O;go_enter func28,ntmps28;go_wp2_with fail;go_call a2.o as d w2 ⟨rfl,rfl⟩;go_wp2_with fail;go_call a0.o as d w2 ⟨rfl,M,N⟩;let⟨q,m⟩:=j.1.Ur N M (GB (xO _ _) (hZ j.1.aO f.n).2) λl=>xN (jD j.1.aO l);let⟨c,e,e3⟩:=q.eQ 9;have a3:w2 ((w:D),9)=f.n:=cR (m.aM j.1.gI j.2.2.2.2.2 sm sm) A;have o:=Ga (κ q (κ m ((e3.Ur m).from j.2.1)));clear M N q m e3;cases K:Ms.eO (jf f.n) (jy S f.n) with
 |false=>
  have ab:=Ga K;clear K;go_wp2;go_end0;exact⟨A,o.2.2,λd t k=>by have:=ab.o;rw[d] at this;simp[jf,jy,k,Ms.eO] at this⟩
 |true=>
  clear K;by_cases Z:f.n<0
  .let⟨b4,L,n⟩:=o.1.gI.Ua (j:=11) (u:=β (Ms.gd (jf f.n) (jy S f.n))) (x':={x0 with got:=Ms.gd (jf f.n) (jy S f.n)}) (λ_=>rfl) A;have b2:w2 (s,11)=eS:=o.1.gI.Ub dc λ_=>rfl;have a1:=Ga (((cW.gI L (.bQ _) A A n.az (λi=>i) ⟨QD,Ib _⟩).Ur o.2.1).from j.2.1);have v:=Ga Z;clear L n;go_wp2;go_end0;exact⟨A,a1.o,λd=>oA v.o⟩
  have v:=Ga Z;have Y:=Ga (OE V (Ms.gd (jf f.n) (jy S f.n)) w2 o.1.gI (j.2.2.2.1 H) (j.2.2.2.2.1 H) (oA (pj (n:=jf f.n) (jD j.1.aO (n:=f.n) H))) dc (by rw[(rI S f.n _).2.2.2.1];exact j.2.2.1));go_wp2_with fail;go_call Y.o as d c2 ⟨rfl,I⟩;have G:=Ga I;clear I;go_wp2;go_end0;let⟨S',b9,r,a,p,a4,b3,R,T,h⟩:=G.o;refine⟨A,((cW.gI r a.dC a.Oq a.aY p (a4 [] [] []) ⟨R,T⟩).Ur o.2.1).from j.2.1,λd t k y=>?_⟩;let⟨a6,b5,b6,b7,⟨a7,a8⟩,_⟩:=rI S f.n (Ms.iq (jf f.n) (jy S f.n));have c:Ms.gd (jf f.n) (jy S f.n)=t:=by simp[d,jf,jy,k,Ms.gd,Ms.eO]
  have e:rH S f.n (Ms.iq (jf f.n) (jy S f.n))={S with U:=[]}:=by simp[d,jf,jy,k,rH,Ms.iq,Ms.eO]
  rw[c] at h;obtain⟨rfl,a9,rfl,a5⟩:=h ⟨a7▸y.1,a8▸y.2.1,y.2.2⟩;refine⟨a9,?_,?_,a5⟩
  .rwa[e] at r
  exact Fz.aJ (Az.aE (B:=B) (S:=S) (s:=s) j.2.1) (Az.aJ o.2.1 p a6)
end Gt
namespace Fd
variable {w w' w2:ν}{B f m q g cap:Nat}{room i:Int}{L L':List (IA×π)}{D:Nat->Qd}{d:Qd}{z:Nt}{ns:List Nt}{cur:Array π}
def ka (w:ν)(L:E (IA×S))(o:Nat):Prop:=∀i q,(il i,bh q)∈L->∀j,w ⟨q,1,J⟩=M j->j.ownBlock≠M o
def ka.iY {w':ν}(u:bz w B f m room L)(t:T w w w'){o:Nat}(J:w.heap.size<=o):ka w' L o:=λi q k a b h=>by
 obtain⟨D,A⟩:=u.qs;have j:=A.at k;rw[t.ce j.c1] at b;obtain rfl:=Gm b;have:=(bG j.cT h).2;omega
def ka.aE {w':ν}{o:Nat}(u:bz w B f m room L)(A:ka w L o)(t:T w w w'):ka w' L o:=λi q c n b=>by
 obtain⟨D,J⟩:=u.qs;have j:=(J.at c).c1;rw[t.ce j] at b;exact A i q c n (j.t b)
def bz.afx {j:Nat}{J M:Q S}(o:bz w B f m room L)(A:bd w w' j (K M 158 (0,0)))(t:w.heap[j]?=K J 158 (0,0))(u:ka w L j):bz w' B f m room L:=let⟨D,e⟩:=o.qs;o.off e A t λi q c g a h=>u i q c _ (e.at c).c1 (h▸a)
def zq (w:ν)(B f m:Nat)(room:C)(L:E (IA×S))(M:He)(w':ν):Prop:=(∃u o,M=χ #[t (Nt.enc u).toArray,υ o]/\((o=U->lu w' u)/\(o=X->u.v=P J 0 0)))/\∃L',(∀O∈L',O∈L)/\L'.length<=L.length/\bz w' B f m room L'/\Fz B [158,178] [m] w w'/\∀j A,w.heap[j]?=K A 158 (0,0)->ka w L j->w'.heap[j]?=K A 158 (0,0)/\ka w' L' j
abbrev zK:Q S:=#[G 0,G 0,G 0,I,P J 0 0]
def Ut (id:C)(w:ν)(b:bz w B f m room L)(X: -9223372036854775808<=id/\id<=9223372036854775807):τ γ 70 #[bh f,ϑ id] w (zq w B f m room L):=by
 have o:=bo w (K zK 158);have u:=b.aE o.aE;have e:=kG X;have ae:=u.cS;have c1:=u.c1;have h5:=Ga u;have b5:=QC (∀w2,bd (w.alloc (K zK 158)) w2 (w:Nat) (K zK 158 (0,0))->zq w B f m room L (ι (χ #[Γ zK,υ σ])) w2) λw2 y=>by
  have ai:=y.aE _ _ QD o.aE;exact⟨⟨⟨0,0,0,⟨#[]⟩,P J 0 0⟩,σ,A,R,λ_=>rfl⟩,L,λ_ b=>b,QD,b.aE ai,Fz.aE ai _ _ _,λc ab e n=>⟨ai.ke e,n.aE b ai⟩⟩
 have d9:=o.at_;let⟨D,ah⟩:=b.qs;have U:=ah.aE o.aE;have a2:B<=(w:Nat):=oB b.dK.1 (aw b.bO);have a5:∀i q,(il i,bh q)∈L->∀g,(D q).v.ownBlock=M g->g<(w:Nat):=λi q T g f5=>(bG (ah.at T).cT f5).2;have V:∀i q,(il i,bh q)∈L->w ⟨q,1,J⟩=M (D q).v:=λi q T=>(ah.at T).c1;clear ah;cases p:aT L (il id) with
 |none=>
  have ag:(aT L (il id)).getD (ξ J)=ξ J:=p▸rfl;clear b u X p U o V;go_enter Pm,NS;go_wp2_with (first|(at_lookup;refine wL eX Lj (eL _) ae e ?_;rw[ag])|(refine ia nj d9 ?_;intro w2 y));refine qG nj y.at_ ?_;exact b5.o w2 y
 |some e6=>
  obtain⟨q,rfl,r⟩:=u.inn p;have ag:(aT L (il id)).getD (ξ J)=bh q:=p▸rfl;have j:=U.at r;have q1:=j.c1;cases n:(D q).ns with
  |nil=>
   let⟨h6,h7,c8⟩:=aR j.cT;rw[c8,n,Hy] at q1;clear b u X p U o r j c8 n V;go_enter Pm,NS;go_wp2_with (first|(at_lookup;refine wL eX Lj (eL _) ae e ?_;rw[ag])|(refine ia nj d9 ?_;intro w2 y));refine qG nj y.at_ ?_;exact b5.o w2 y
  |cons z ns=>
   let⟨g,cap,cur,S,f7,af,a6,a4,d1,a9⟩:∃g cap cur,(D q).v=P (M ⟨g,0,J⟩) ((ns:Nat)+1) cap/\B<=g/\(w.alloc (K zK 158)).heap[g]?=K cur 158 (0,0)/\(ns:Nat)+1<=cap/\cap<=Ie/\cur.size=cap*5/\cur.toList.take (((ns:Nat)+1)*5)=(z::ns).flatMap Nt.enc:=by
    have Z:=j.cT.2;rw[n] at Z;rcases Z with⟨_,a⟩|⟨g,cap,cur,a,l⟩
    .cases a
    exact⟨g,cap,cur,a,l⟩
   rw[S] at q1;have a3:=j.sD z (by rw[n];simp);have f3:=j.cB;rw[n,Gx] at f3;have c0:ns.flatMap Nt.enc=(cur.toList.take (((ns:Nat)+1)*5)).drop 5:=a9▸rfl;have c7:∀b2∈ns.flatMap Nt.enc,b2.oneCell'=ψ:=λb2 g4=>by
    let⟨h4,v,b⟩:=Jw.1 g4;exact(j.sD h4 (n▸GK _ v)).one b2 b
   have f9:(w.alloc (K zK 158)).rangeAt g 0 z.enc:=λY e6 d2=>by
    rw[GU,QH af];have f8:Y<5:=(Gg.1 d2).1;have b9:(cur.toList.take (((ns:Nat)+1)*5))[Y]?=z.enc[Y]?:=by
     rw[a9,GV,Ir f8]
    rw[JI H] at b9;rw[<-d2,<-b9,IQ]
   have b7:=a3.adw;have e7:=QC (∀h,bd ((w.alloc (K zK 158)).alloc (K zK 158)) h ((w:Nat)+1) (K z.enc.toArray 158 (0,0))->h ⟨q,1,J⟩=P (M ⟨g,0,J⟩) ((ns:Nat)+1) cap/\
    τ γ 140 #[P (M ⟨g,0,J⟩) ((ns:Nat)+1) cap,ϑ 0,ϑ 1] h λa N=>a=P (M ⟨g,0,J⟩) (ns:Nat) cap/\N ⟨q,1,J⟩=P (M ⟨g,0,J⟩) ((ns:Nat)+1) cap/\N.frozen? ⟨q,1,J⟩=σ/\
     ∀s,N.setCell ⟨q,1,J⟩ (P (M ⟨g,0,J⟩) (ns:Nat) cap)=s->τ γ 141 #[bh f,ϑ id] s λa F=>a=χ #[]/\F.heap[(w:Nat)+1]?=K z.enc.toArray 158 (0,0)/\F.heap[(w:Nat)]?=K zK 158 (0,0)/\∀k,bd F k (w:Nat) (K z.enc.toArray 158 (0,0))->zq w B f m room L (ι (χ #[Γ z.enc.toArray,υ ψ])) k) λh I=>by
    have s1:(w.alloc (K zK 158):Nat)=(w:Nat)+1:=R;have t:ρ (w.alloc (K zK 158):Nat) (w.alloc (K zK 158)) h:=I.aE _ _ H (QG.a QD _);refine⟨t.ce q1,(DD g cap ((ns:Nat)+1) cur (ns.flatMap Nt.enc) h (t.ke af) a6 a4 d1 H c0 c7).m ?_⟩;rintro a N ⟨rfl,f6,h8,e8,e9,f0⟩;have Z:=u.aE t;have g3:=U.aE t;let⟨g7,h0,e2,e4,h1,e5⟩:=Z.aal g3 r S n f6 e8 e9 f0 ⟨a6,a4⟩;refine⟨A,g7,h0,?_⟩;rintro s rfl;go_call Br id _ e2 X as a F ⟨rfl,L',t1,t2,g5,a8,e1⟩;have i2:q<(w.alloc (K zK 158):Nat):=aw j.bO;have h9:=aw af;have f4:=eH e2.cS.bx;have e0:=o.at_;have b0:∀c,c<(h:Nat)->c≠q->c≠g->∀ab,h.heap[c]?=K ab 158 (0,0)->F.heap[c]?=K ab 158 (0,0):=λc e a1 G ab v=>by
     have:=(h1 c e a1 G).t v;exact a8.aM this R (λr=>f4 _ r _ _ _ this)
    have a1:(w:Nat)≠q:=λa=>by have:=j.bO;rw[<-a,e0] at this;cases this
    have G:(w:Nat)≠g:=λa=>oA (a5 _ _ r g (S▸rfl));have W:=b0 (w:Nat) (oA t.z) a1 G _ (t.ke e0);refine⟨A,b0 _ (by have:=I.aH;simp at this ⊢;omega) H H _ I.at_,W,λk x=>?_⟩;have h3:Fz B [158,178] [m] w k:=(((Fz.aE o.aE B [158,178] [m]).then t).aJ (e4.cz (λ_ b=>b) R)).aJ ((a8.cz R (λ_ b=>b)).aJ (Fz.cV x W R a2 _));have h2:Fz B [158,178] [m] (w.alloc (K zK 158)) k:=((Fz.aE t B [158,178] [m]).aJ (e4.cz (λ_ b=>b) R)).aJ ((a8.cz R (λ_ b=>b)).aJ (Fz.cV x W R a2 _));refine⟨⟨z,ψ,A,(λ_=>a3.fz h2 (eH ae.bx) R),nF⟩,L',t1,t2,g5.off (e1 _ e5) x W λY l T c e=>?_,h3,λc ab v d3=>?_⟩
    .unfold DE at e;by_cases a:l=q
     .rw[QU a] at e;simp[Ψ,Gd] at e;omega
     rw[QT a] at e;have:=a5 _ _ (t1 _ T) c e;omega
    have i0:=aw v;have d8:=o.aE.ke v;have s0:(w:Nat)<=(w.alloc (K zK 158):Nat):=o.aE.z;have f2:c≠q:=λa=>by have:=j.bO;rw[<-a,d8] at this;cases this
    have b6:c≠g:=λa=>d3 _ _ r _ (V _ _ r) (by rw[S,a];rfl);refine⟨(x.old c H).t (b0 c (oA t.z) f2 b6 _ (t.ke d8)),λY l a7 e6 p a=>?_⟩;have d4:=(e1 _ e5).at a7;have g2:l≠(w:Nat):=λa=>by have:=d4.bO;rw[a,W] at this;cases this
    rw[GQ (x.old l g2),d4.c1] at p;cases Gm p;unfold DE at a;by_cases G:l=q
    .rw[QU G] at a;exact b6 (Gm a).s
    rw[QT G] at a;exact d3 _ _ (t1 _ a7) _ (V _ _ (t1 _ a7)) a
   have g6:((w.alloc (K zK 158)).alloc (K zK 158)).heap[(w:Nat)+1]?=K zK 158 (0,0):=by
    have:=Gc (w.alloc (K zK 158)) (K zK 158);rwa [GG] at this
   have i1:(((ns:Nat):C)+1==0)=σ:=QB;clear b u X p U o r j n S f7 a6 a4 d1 a9 a3 c0 c7 a5 a2 af V;go_enter Pm,NS;go_wp2_with (first|(at_lookup;refine wL eX Lj (eL _) ae e ?_;rw[ag])|(refine Xj A 158 _ A g 0 A z.enc _ f9 Kx A qo ?_)|(refine ia nj g6 ?_ (h:=b7);intro h I;let⟨f1,b4⟩:=e7.o h I;have b3:=Ga b4;clear I b4));go_call b3.o as a N ⟨rfl,g8,g9,O⟩;have O:=Ga O;clear b3 f1;let⟨s,d6⟩:∃s,N.setCell ⟨q,1,J⟩ (P (M ⟨g,0,J⟩) (ns:Nat) cap)=s:=⟨_,A⟩;have O:=Ga (O.o s d6);go_wp2_with fail;clear d6;go_call O.o as a F ⟨rfl,g0,g1,a0⟩;have a0:=Ga a0;clear O;go_wp2_with (first|(refine oc nj g0 ?_)|(refine ia nj g1 ?_ (h:=b7);intro k x));refine qG nj x.at_ ?_;exact a0.o k x
end Fd
namespace Gt
open Fd (bh)
variable {w w' z W W':ν}{B g s r b:Nat}{S S' S2:Gs}{x x':St}{P E F:List Int}{t:ByteArray}{V:Bool->Prop}
def XQ {o:π}{ak ass aq aa al:C}{ay au:QE}(j:w.heap[s]?=K (x0.cs o) 35):
 bd w ((((((((w.setCell (s,2) (υ U)).setCell (s,3) (G ak)).setCell (s,4) (G ass)).setCell (s,5) (G aq)).setCell (s,6) (G aa)).setCell (s,7) (O ay)).setCell (s,8) (O au)).setCell (s,9) (G al)) s (K (({x0 with YM:=U,lz:=⟨ak,ass,aq,aa,ay,au,al⟩}:St).cs o) 35)/\
 bd w ((((((((w.setCell (s,3) (G ak)).setCell (s,4) (G ass)).setCell (s,5) (G aq)).setCell (s,6) (G aa)).setCell (s,7) (O ay)).setCell (s,8) (O au)).setCell (s,9) (G al)).setCell (s,2) (υ U)) s (K (({x0 with YM:=U,lz:=⟨ak,ass,aq,aa,ay,au,al⟩}:St).cs o) 35):=by
 replace j:w.heap[s]?=K #[G 0,G 0,υ X,G 0,G 0,G 0,G 0,I,I,G 0,o,I] 35:=j;constructor
 .have f:=aF (j:=2) (υ U) j;have f:=f.aJ (aF (j:=3) (G ak) f.at_);have f:=f.aJ (aF (j:=4) (G ass) f.at_);have f:=f.aJ (aF (j:=5) (G aq) f.at_);have f:=f.aJ (aF (j:=6) (G aa) f.at_);have f:=f.aJ (aF (j:=7) (O ay) f.at_);have f:=f.aJ (aF (j:=8) (O au) f.at_);have f:=f.aJ (aF (j:=9) (G al) f.at_);simp only[Gi,Gw,Gn] at f;exact f
 have f:=aF (j:=3) (G ak) j;have f:=f.aJ (aF (j:=4) (G ass) f.at_);have f:=f.aJ (aF (j:=5) (G aq) f.at_);have f:=f.aJ (aF (j:=6) (G aa) f.at_);have f:=f.aJ (aF (j:=7) (O ay) f.at_);have f:=f.aJ (aF (j:=8) (O au) f.at_);have f:=f.aJ (aF (j:=9) (G al) f.at_);have f:=f.aJ (aF (j:=2) (υ U) f.at_);simp only[Gi,Gw,Gn] at f;exact f
def te.act {O:D}(a:te W B g S2 s x O w')(j:me S S2)(K:S2.md.aN=S.md.aN)(A:S2.aY=S.aY)(u:S2.G=S.G)(M:Az B S s w W)(J:bD S [] [] []->bD S2 [] [] []):cW w B g S s w':=by
 obtain⟨S',Z,r,f,U,o,p,X⟩:=a;exact .gI r (j.aJ f.dC) (f.Oq.t K) (f.aY.t A) (Az.aJ M U j) (λa=>o _ _ _ (J a)) (by rwa[<-u])
def aa8 {A J M O U v0 v1 v2 v3 v4:π}{t:Λ}(X:w.heap[b]?=K #[A,J,M,O,U] t):bd w (((((w.setCell b v0).setCell (b,1) v1).setCell (b,2) v2).setCell (b,3) v3).setCell (b,4) v4) b (K #[v0,v1,v2,v3,v4] t):=have f:=aF (j:=0) v0 X;have j:=f.aJ (aF (j:=1) v1 f.at_);have o:=j.aJ (aF (j:=2) v2 j.at_);have u:=o.aJ (aF (j:=3) v3 o.at_);u.aJ (aF (j:=4) v4 u.at_)
def afy (w:L)(B g:D)(S:Gs)(s:D)(M:He)(w':L):Prop:=∃(d:Fd.Nt) (b:Bool),M=f #[d.enc.toArray,b]/\(∃A O J,d.v=ο A O J)/\(b=U->Fd.lu w' d)/\∃o,kh w' B g {S with FL:=o} s/\(bD S [] [] []->bD {S with FL:=o} [] [] [])/\Az B S s w w'/\∀j u,w.heap[j]?=K u 158->Fd.ka w S.FL j->w'.heap[j]?=K u 158/\Fd.ka w' o j
def XR (id:C)(w:L)(f:kh w B g S s)(o: -9223372036854775808<=id/\id<=9223372036854775807):Y N 70 #[bh S.f,id] w (afy w B g S s):=by
 go_call Fd.Ut id w f.aO.dy o as d w' ⟨⟨n,b,rfl,h,i⟩,FL',j,A,l,z,m⟩;refine⟨n,b,rfl,?_,h,FL',⟨f.aO.BF z l (oA f.aO.ok.cB.1),z.aM f.st R (λe=>(eH f.aO.dy.cS.bx) _ e _ _ _ f.st),f.lo⟩,λc=>⟨c.aZ,c.ql,λp k=>?_,c.dl⟩,Fz.cz z R R,m⟩
 .cases b with
  |true=>
   let⟨y,a,_⟩:=h rfl;let⟨q,v,d,_⟩:=a.1.bZ;exact⟨_,_,_,d⟩
  |false=>exact⟨_,_,_,i rfl⟩
 obtain⟨J,u,rfl⟩:=GL.1 k;exact c.fl _ (GL.2 ⟨J,j _ u,rfl⟩)
def XT (w:L)(B g:D)(S:Gs)(s:D)(u:Fd.Nt)(b:Bool)(w':L):Prop:=(b=U->Fd.lu w' u)/\∃j,kh w' B g {S with FL:=j} s/\(bD S [] [] []->bD {S with FL:=j} [] [] [])/\Az B S s w w'/\∀f o,w.heap[f]?=K o 158->Fd.ka w S.FL f->w'.heap[f]?=K o 158/\Fd.ka w' j f
def XT.aec {O:Fd.Nt}{b:Bool}{f j:L}{o:Q π}(A:XT W B g S s O b j)(u:T f f W)(J:kh f B g S s)(M:W.heap[(f:D)]?=K o 158):j.heap[(f:D)]?=K o 158/\∃c,kh j B g {S with FL:=c} s/\(bD S [] [] []->bD {S with FL:=c} [] [] [])/\Fd.ka j c f:=let⟨_,c,i,a,_,k⟩:=A;let⟨n,e⟩:=k _ _ M (Fd.ka.iY J.aO.dy u d);⟨n,c,i,a,e⟩
def kh.aa9 {u:D}{X Z:Q π}(A:kh w B g S s)(J:w.heap[u]?=K X 158)(M:bd w w' u (K Z 158))(U:Fd.ka w S.FL u)(O:B<=u):kh w' B g S s/\Fz B [158] [] w w':=by
 have j:Fz B [158] [] w w':=Fz.cV M J R O [];have o:cM w []:=λ_ l=>by cases l
 have f:=A.aO;exact⟨⟨⟨f.bO.fz j o R R,f.cl.fz j o R R R R,kI f.mc j o R,Fd.bz.afx f.dy M J U,dV f.up j o R R,dV f.hX j o R R,j.hW f.oz R,f.qv.fz j o R,f.ok,f.sk.at (j.dn R f.lt) f.ok.b.2⟩,j.aM A.st R R,A.lo⟩,j⟩
def wy (j:Fd.Nt)(w:L)(a:Fd.lu w j):Y N 71 #[j.enc.toArray] w λe w'=>(∃(t:QE) (h:C),e=f #[t,h])/\T w w w':=by
 let⟨d,c,i⟩:=a;go_call Fm.yX (λb=>b=U->Fm.Fk j d) j d w c.1 H (λa=>a A) (λw a=>(Fm.nb j d w a H).m λe w' a=>a) as e w' ⟨⟨_,rfl⟩|⟨_,rfl⟩,b⟩<;>exact⟨⟨_,_,A⟩,b⟩
def aed (w:L)(B g:D)(S:Gs)(s:D)(j:Fd.Nt)(b:Bool)(W:L):Prop:=(b=U->Fd.lu W j)/\∃f,kh W B g {S with FL:=f} s/\(bD S [] [] []->bD {S with FL:=f} [] [] [])/\Az B S s w W
def cW.fl {f:List (IA×π)}(d:cW W B g {S with FL:=f} s w')(j:Az B S s w W)(o:bD S [] [] []->bD {S with FL:=f} [] [] []):cW w B g S s w':=let⟨S',x',e,a,c,h,i,k,l,m⟩:=d;⟨S',x',e,⟨a.p,a.t,a.f,a.m,a.u,a.d,a.q,a.fV,a.cg,a.fr⟩,c,h,i,Az.aJ (S':={S with FL:=f}) j k ⟨A,A,A,A,A,A,A,A,A,A⟩,λd=>l (o d),m⟩
def FG (c7:ν->Prop)(j:Ac)(w:ν)(a4:kh w B g S s)(c3: -9223372036854775808<=j.n/\j.n<=9223372036854775807)
 (g8:∀J c0 d3 W f5 v,aT S.QL (il j.n)=δ c0->T w w f5->jY f5 c0 (v::d3)->Fm.gh v->cY W B g {S with QL:=J} s {x0 with YM:=ψ,lz:=v}->oh J S.QL->Az B S s w W->τ γ 69 #[bh g,Γ v.cs,bh s] W λd w'=>d=χ #[]/\c7 w')
 (g7:aT S.QL (il j.n)=ζ->∀w',cW w B g S s w'->c7 w'):τ γ 27 #[bh g,j.cs,bh s] w λd w'=>d=χ #[]/\c7 w':=by
 have af:=bo w (K j.cs 39);generalize j2:w.alloc (K j.cs 39)=d1 at af;have i9:d1 (w,9)=j.n:=cR af.at_ A;have c2:=a4.aE af.aE;have u:=Ga (rE j.n d1 c2.aO c3);have f:=Ga (κ c2 (κ af.aE (κ g8 (κ g7 (κ af.at_ (κ c3 a4))))));go_enter func27,ntmps27;go_wp2_with fail;go_call u.o as d z ⟨v,b,rfl,⟨rfl,a2,a9⟩|⟨rfl,J,c0,d3,a2,e6,f0,e9,a0,f3,-⟩⟩
 .have c8:=f.1.aE a9;have aj:=a9.ke f.2.2.2.2.1;have o:=Ga (κ c8 (κ (f.2.1.t (a9.m f.2.1.z)) (κ aj a2)));go_upto_region 5 with(refine EL kf rfl _ _ rfl rfl rfl rfl (tf v) rfl (Gc z _) ?_;intro c am);have M:T z z c:=am.aE z z QD ((Ge _ z).a QD _);have O:=o.1.aE M;have aj:=M.ke o.2.2.1;have a5:=Ga (o.2.1.t (M.m o.2.1.z));have d4:c (g,2)=bh S.f:=O.aO.aV.2.2.1;have c9:c (w,9)=j.n:=cR aj A;have e4:=QC (T c c c.drew) QG.d;have f1:=bo c (K #[G 0,G 0,G 0,I,ο ζ 0 0] 158);have X:=QC (T c c (c.alloc (K #[G 0,G 0,G 0,I,ο ζ 0 0] 158)).drew) f1.aE.d;have g3:=QC ((c.alloc (K #[G 0,G 0,G 0,I,ο ζ 0 0] 158)).drew.heap[c.heap.size]?=K #[G 0,G 0,G 0,I,ο ζ 0 0] 158) f1.at_;have g0:=Ga aj;have e5:=QC (∀W':ν,T c c W'->τ γ 70 #[bh S.f,j.n] W' λd w'=>∃(p k l:C) (e:QE) (i:QV JM) (a nc:D) (b:Bool),d=χ #[Γ #[p,k,l,e,ο i a nc],υ b]/\(w' (g,2)=bh S.f/\w' (w,9)=j.n)/\XT W' B g S s ⟨p,k,l,e,ο i a nc⟩ b w') λW' f6=>by
   have f7:=O.aE f6;go_call XR j.n W' f7 f.2.2.2.2.2.1 as d w' ⟨⟨p,k,l,e,h3⟩,b,rfl,⟨i,a,nc,d⟩,e0,N,b9,h5,f4,h6⟩;obtain rfl:h3=ο i a nc:=d;exact⟨p,k,l,e,i,a,nc,b,A,⟨b9.aO.aV.2.2.1,cR (f4.aM f7.gI (f6.ke g0.o) R R) A⟩,e0,N,b9,h5,f4,h6⟩
  have g4:=X.o.ce d4;have g5:=X.o.ce c9;have e1:=IX c _ d4;have e2:=IX c _ c9;simp only at e1 e2;have q:=Ga O;go_region_held3 (λw'=>w' (g,2)=bh S.f/\w' (w,9)=j.n) (first|(with_reducible exact⟨d4,c9⟩)|(with_reducible exact⟨g4,g5⟩)|(with_reducible exact⟨b2,b3⟩)|go_keep) (first|(go_at_call 70;(with_reducible go_call e5.o _ X.o as d m ⟨p,k,l,e,i,a,nc,b,rfl,⟨b2,b3⟩,H⟩);have d2:=Ga H;have a7:=Ga (XT.aec H X.o q.o g3.o);have ae:=dA a7.o.1;have h0:=ae 0;have h1:=ae 1;have a0:=ae 2;have h2:=ae 3;have h4:=ae 4;simp at h0 h1 a0 h2 h4;have j3:=aI a7.o.1)|(go_at_call 70;(with_reducible go_call e5.o _ e4.o as d m ⟨p,k,l,e,i,a,nc,b,rfl,⟨b2,b3⟩,H⟩);have d2:=Ga H;have e1:=IX m _ b2;have e2:=IX m _ b3;simp only at e1 e2));all_goals
   first
    |(have h:bd m _ c (K #[p,k,l,e,ο i a nc] 158):=aa8 a7.1;have a3:=QC (aed w B g S s ⟨p,k,l,e,ο i a nc⟩ b _) (by obtain⟨H,N,i6,e0,b9⟩:=a7.o;obtain⟨i7,f8⟩:=i6.aa9 H h b9 (by have:=q.o.aO.lt;omega);obtain⟨L,f2,Y,ab,y,-⟩:=d2.o;exact⟨λd=>(L d).fz f8 (λ_ d9=>by cases d9) R,N,i7,e0,Fz.aJ (Fz.aJ (Az.aE (B:=B) (S:=S) (s:=s) (a5.o.t (X.o.m a5.o.z))) y) (Fz.cz f8 R R)⟩);have U:=h.at_;obtain⟨ah,c6⟩:∃ah,c=ah:=⟨_,A⟩;generalize ((((m.setCell _ _).setCell _ _).setCell _ _).setCell _ _).setCell _ _=W at a3 U ⊢;rw[c6] at U ⊢)
    |(have h:=bo m (K #[p,k,l,e,ο i a nc] 158);have a3:=QC (aed w B g S s ⟨p,k,l,e,ο i a nc⟩ b (m.alloc (K #[p,k,l,e,ο i a nc] 158))) (by obtain⟨L,f2,Y,ab,y,-⟩:=d2.o;exact⟨λd=>(L d).fz (Fz.aE h.aE B [] []) (λ_ d9=>by cases d9) R,f2,Y.aE h.aE,ab,Fz.then (Fz.aJ (Az.aE (B:=B) (S:=S) (s:=s) (a5.o.t (e4.o.m a5.o.z))) y) h.aE⟩);have U:=h.at_;obtain⟨ah,c6⟩:∃ah,m=ah:=⟨_,A⟩;generalize m.alloc _=W at a3 U ⊢;rw[c6] at U ⊢)
   obtain⟨L,N,Y,ab,y⟩:=a3.o;cases b with
   |false=>
    obtain⟨j4,j5,e3⟩:=Y.eQ 9;have u:=Ga (f.2.2.2.1 o.2.2.2 _ (cW.fl e3 y ab));go_wp2;refine QS ?_;exact⟨A,u.o⟩
   |true=>
    have g1:=Ga (wy ⟨p,k,l,e,ο i a nc⟩ W (L A));have ag:=Ga (κ Y (κ ab y));go_wp2_with (refine zw nj A _ A A A U ?_);go_call g1.o as d w8 ⟨⟨t,n,rfl⟩,b8⟩;have a6:=Ga (κ (ag.1.aE b8) b8);by_cases e8:n=0
    .subst e8;have f9:=Ga (nw t w8 a6.1.gI dc);go_wp2_with fail;go_call f9.o as r h8 ⟨rfl,a1,g2⟩;have u:=Ga (f.2.2.2.1 o.2.2.2 _ (cW.fl (cW.gI a1 ⟨A,A,A,A,A,A,A,A,A,A⟩ A A (Fz.aJ (Az.aE (B:=B) (S:={S with FL:=N}) (s:=s) a6.2) g2.az) (λa4=>a4.hX) ⟨QD,Ib _⟩) ag.2.2 ag.2.1));go_wp2;go_end0;exact⟨A,u.o⟩
    have j6:(n==0)=σ:=by simpa using e8
    have u:=Ga (f.2.2.2.1 o.2.2.2 _ (cW.fl a6.1.ok (Fz.then ag.2.2 a6.2) ag.2.1));go_wp2;go_end0;exact⟨A,u.o⟩
 have g6:=eH f.1.aO.oz.bx;have c8:kh z B g {S with QL:=J} s:=⟨e9,a0.aM f.1.st R (λi2=>g6 _ i2 _ _ _ f.1.st),f.1.lo⟩;have o:=Ga (κ c8 (κ (Fz.aJ (Az.aE (B:=B) (S:=S) (s:=s) f.2.1) (Fz.cz a0 R R)) (κ a2 (κ f0 f3))));have i0:=Ga e6;obtain⟨b0,b5,b4,aa,b7,b6,a8⟩:=v;go_upto_region 3 with(refine EL kf rfl _ _ rfl rfl rfl rfl (tf ⟨b0,b5,b4,aa,b7,b6,a8⟩) rfl (Gc z _) ?_;intro c am);have d6:c.heap[z.heap.size]?=K #[b0,b5,b4,aa,b7,b6,a8] 32:=am.at_;have M:T z z c:=am.aE z z QD ((Ge _ z).a QD _);have O:=o.1.aE M;have Z:c.heap[s]?=K #[G 0,G 0,υ σ,G 0,G 0,G 0,G 0,I,I,G 0,ο ζ 0 0,I] 35:=O.st;have i8:=dA Z;have j0:=dA d6;have j1:=aI Z;have i3:s≠z:=λd=>by rw[d,d6] at Z;cases Z
 have i4:z≠s:=λd=>i3 d.s;have q:=Ga (κ O (κ Z (κ d6 M)));go_region;have d8:=(XQ (ak:=b0) (ass:=b5) (aq:=b4) (aa:=aa) (ay:=b7) (au:=b6) (al:=a8) q.2.1).1;generalize (((((((c.setCell _ _).setCell _ _).setCell _ _).setCell _ _).setCell _ _).setCell _ _).setCell _ _).setCell _ _=ai at d8 ⊢;obtain⟨g9,h7⟩:=q.1.ek d8 A;have e7:T ai ai ai.drew:=QG.d;have i5:ai.drew.heap[z.heap.size]?=_:=(d8.old z i4).t q.2.2.1;have i1:=Ga (f.2.2.1 J c0 d3 ai.drew d1 ⟨b0,b5,b4,aa,b7,b6,a8⟩ o.2.2.1 f.2.1 i0.o o.2.2.2.1 (g9.aE e7) o.2.2.2.2 (Az.aJ (S':={S with QL:=J}) (Fz.then o.2.1 q.2.2.2) (Fz.then h7 e7) ⟨A,A,A,A,A,A,A,A,A,A⟩));go_wp2_with (refine zw kf A _ A A A i5 ?_);go_call i1.o as d h8 ⟨rfl,a1⟩;have h9:=Ga a1;go_wp2;refine QS ?_;exact⟨A,h9.o⟩
end Gt
namespace Gt
open Fd (bh)
variable {w w' w2 W W':ν}{B g s r b:Nat}{S z S2:Gs}{x y:St}{P E F:List Int}{t:ByteArray}{V:Bool->Prop}
def aba (w:L)(B g:D)(S:Gs)(s:D)(j:C)(w':L):Prop:=∃z y,cY w' B g z s y/\y.e=0/\me S z/\z.md.aN=S.md.aN/\z.aY=S.aY+j/\Az B S s w w'/\(bD S [] [] []->bD z [] [] [])/\(∀f∈z.T.ls,z.aY<f.dl/\f∈S.T.ls)/\z.G=S.G
def oa (w:L)(B g:D)(S:Gs)(s:D)(f:C)(w':L):Prop:=(¬(1<=f/\f<=1000/\S.aY+f<=1073741824)/\cW w B g S s w')\/(1<=f/\f<=1000/\aba w B g S s f w')
def oa.act {J:C}(f:oa w B g S s J w'):cW w B g S s w':=by
 rcases f with⟨-,f⟩|⟨K,M,z,y,r,-,j,u,U,A,o,-,O⟩
 .exact f
 exact⟨z,y,r,j,u,by omega,by omega,A,o,by omega,by omega⟩
def bls (f:List Ls.Se):List C:=f.map Ls.Se.aG
def XU (f:List Ls.Se):List C:=f.map Ls.Se.id
def bD.dx {m:Ls.Tb}{j:List Ls.Se}{c:Int}(f:bD S [] [] [])(h:S.T.ls.Perm (j++m.ls))(n:S.aY<=c):bD {S with T:=m,aY:=c} (bls j) (XU j) (XU j) where
 aZ:=by
  have a:=f.aZ;rw[Ho] at a;refine a.vT ?_;have:=h.map Ls.Se.aG;rwa [Io] at this
 ql k hk:=by
  rcases f.ql k hk with d|⟨j0,e,d⟩|⟨i,l,_⟩
  .exact Ξ d
  .rcases GO.1 (h.subset e) with a|a
   .exact Θ (Θ ⟨j0.id,GL.2 ⟨j0,a,rfl⟩,d⟩)
   .exact Θ (Ξ ⟨j0,a,d⟩)
  .cases l
 fl k hk:=by
  rcases f.fl k hk with⟨j0,e,d⟩|⟨i,l,_⟩
  .rcases GO.1 (h.subset e) with a|a
   .exact Θ ⟨j0.id,GL.2 ⟨j0,a,rfl⟩,d⟩
   .exact Ξ ⟨j0,a,d⟩
  .cases l
 dl j0 e:=by
  have:=f.dl j0 (h.symm.subset (LI _ e));show j0.dl<=c+1000;omega
def bD.abb {u:List (IA×π)}{K:C}(f:bD S P E (K::F))(a:u=be (il K) S.FL):bD {S with FL:=u} P E F:=⟨f.aZ,f.ql,λm c=>by
 have c:m∈u.map Prod.fst:=c
 rw[a] at c
 obtain⟨O,p,rfl⟩:=GL.1 c
 obtain⟨U,X⟩:=(oD (iz K)).1 p
 rcases f.fl O.1 (GL.2 ⟨O,U,A⟩) with n|⟨Z,J,M⟩
 .exact o n
 rcases GF.1 J with rfl|J
 .exact absurd M X
 exact j ⟨Z,J,M⟩,f.dl⟩
def cY.afz {c:C}(j:cY w B g S s x)(J:0<=c/\c<=1073741824):w (g,7)=S.aY/\w.frozen? (g,7)=X/\cY (w.setCell (g,7) (G c)) B g {S with aY:=c} s x/\Az B S s w (w.setCell (g,7) (G c)):=by
 obtain⟨O,f,u⟩:=j.aO.bO;have o:=aF (j:=7) (G c) f;have M:Fz B [84,373] [] w (w.setCell (g,7) (G c)):=Fz.cV o f R j.aO.ok.lo.1 [];obtain⟨r,U⟩:=j.bO (os':=S.os) (c':=c) M ⟨O,o.at_,aK u λm l=>o.old m λh=>by
  obtain⟨Z,K⟩:=Fd.cH u l
  exact Fd.fQ K f dc h⟩ j.aO.ok.os J
 exact⟨cR f A,aI f 7,r,U.az⟩
def TI (u:L)(B g:D)(j:Gs)(s:D)(f:List Ls.Se)(o:D)(wr:L):Prop:=∃z y,cY wr B g z s y/\y.e=0/\y.cN.length<=4*o/\ks j z/\z.T=j.T/\Az B j s u wr/\(bD j (bls f) (XU f) (XU f)->bD z (bls (f.drop o)) (XU (f.drop o)) (XU (f.drop o)))/\z.G=j.G
def XV:pX 140 4:=⟨⟨_,A,LZ⟩,by kernel_rfl⟩
def Uu (f:Ls.Se):(Ls.s4 f).toArray.all (·.oneCell')=U:=by simp[Ls.s4,φ]
def BP (f:Ac)(w:ν)(c:kh w B g S s)(l8: -9223372036854775808<=f.n/\f.n<=9223372036854775807):τ γ 31 #[bh g,f.cs,bh s] w λk w'=>k=χ #[]/\oa w B g S s f.n w':=by
 have U:=bo w (θ f.cs 39);generalize k0:w.alloc (θ f.cs 39)=J at U;have f9:J (w,9)=f.n:=cR U.at_ A;have m:=c.aE U.aE;have b4:=U.at_;have a7:=Ga (κ m (κ U.aE b4));have c0:=m.aO.ok.aY;by_cases k8:f.n<1
 .obtain⟨d2,d1,e3⟩:=m.eQ 1;have a5:=QC (oa w B g S s f.n (J.setCell s (G 1))) (Ξ ⟨λc=>by omega,e3.from U.aE⟩);go_enter Pn,ntmps31;go_wp2;exact QS ⟨A,a5.o⟩
 by_cases k9:1000<f.n
 .obtain⟨d2,d1,e3⟩:=m.eQ 1;have a5:=QC (oa w B g S s f.n (J.setCell s (G 1))) (Ξ ⟨λc=>by omega,e3.from U.aE⟩);go_enter Pn,ntmps31;go_wp2;exact QS ⟨A,a5.o⟩
 have m0:η.wrap (S.aY+f.n)=S.aY+f.n:=QQ om;have b5:=m.aO.aV.2.2.2.2.2.2.2;have b0:=Ga (κ (show 1<=f.n by omega) (show f.n<=1000 by omega));by_cases i8:1073741824<S.aY+f.n
 .have a5:=QC (∀p,(J.drewN p) s=G 0/\(J.drewN p).frozen? s=σ/\oa w B g S s f.n ((J.drewN p).setCell s (G 12))) λp=>by
   let⟨j3,j4,j5⟩:=(m.aE (gj J p)).eQ 12;exact⟨j3,j4,Ξ ⟨λc=>by omega,(j5.from (gj J p)).from U.aE⟩⟩
  go_enter Pn,ntmps31;go_wp2;go_quiet (fail);generalize b6:J.drewN _=w2;obtain⟨d2,d1,e3⟩:=a5.o _;rw[b6] at d2 d1 e3;have i5:=Ga e3;go_wp2;exact QS ⟨A,i5.o⟩
 have i3:=Ga (κ c0 i8);go_enter Pn,ntmps31;go_wp2;go_quiet (fail);generalize b6:J.drewN _=w2;have b7:ρ J J w2:=b6▸gj _ _;have i:=a7.1.aE b7;let⟨b5,k3,h7,i0⟩:=i.gI.afz (c:=S.aY+f.n) (by have:=i3.o;have:=b0.o;omega);have f9:w2 (w,9)=f.n:=cR (b7.ke a7.2.2) A;have d4:=Ga (κ h7 (Fz.aJ (Az.aE (B:=B) (S:=S) (s:=s) (a7.2.1.t (b7.m a7.2.1.z))) i0));go_upto_region 5 with fail;go_region;have K:ρ (w2.setCell (g,7) (G (S.aY+f.n))).heap.size (w2.setCell (g,7) (G (S.aY+f.n))) (w2.setCell (g,7) (G (S.aY+f.n))).drew:=QG.d;have a3:=Ga (κ (d4.1.aE K) (Fz.then d4.2 K));generalize (w2.setCell (g,7) (G (S.aY+f.n))).drew=Z at a3 ⊢;have c1:Z (g,1)=bh S.t:=a3.1.aO.aV.2.1;have b5:Z (g,7)=(S.aY+f.n):=a3.1.aO.aV.2.2.2.2.2.2.2;have K:ρ Z Z Z.drew:=QG.d;have a2:=a3.1.aE K;have g0:=QC (τ γ 78 #[bh S.t,G (S.aY+f.n)] Z.drew λk w'=>∃(l:Ls.Tb) (e:List Ls.Se) (q:QV JM) (H:D),k=ο q e.length H/\(TI w' B g {S with aY:=S.aY+f.n,T:=l} s e 0 w'/\cY w' B g {S with aY:=S.aY+f.n,T:=l} s x0)/\Az B S s Z.drew w'/\S.T.ls.Perm (e++l.ls)/\(∀q1∈l.ls,S.aY+f.n<q1.dl)/\(∀(p:D) q1,e[p]?=δ q1->∃O b2,q=δ ⟨O,0,ζ⟩/\p<H/\w'.heap[O]?=θ b2 140/\∀I a6,(Ls.s4 q1)[I]?=δ a6->w' ⟨O,p*4+I,ζ⟩=δ a6)/\w' (g,1)=bh S.t/\w' (g,7)=(S.aY+f.n)) (by
  go_call Ls.DT S.t S.T (S.aY+f.n) Z.drew a2.aO.mc a2.aO.ok.qH as k b3 ⟨l,e,v,rfl,o,c2⟩
  obtain⟨q,H,rfl⟩:=aR o.cT
  have X:S.T.Ok:=a2.aO.ok.qH
  have l7:=o.cB
  have j2:l.Ok:=⟨o.dC.1▸X.most,o.dC.2.1▸X.gM,by rw[o.dC.1];have:=X.cB;omega,λq0 a1=>X.st q0 (o.Ce.subset a1),o.dC.2.2▸X.cK,by have:=o.eu;have:=X.eu;rw[o.dC.2.2];omega,X.kx.sublist o.Ce,λq0 a1=>o.dC.2.2▸X.ZO q0 (o.Ce.subset a1)⟩
  let⟨c6,j7⟩:=a2.mc o.only o.mc j2
  refine⟨l,e,q,H,A,⟨⟨_,x0,c6,A,QD,.bQ _,A,Az.aE QG,λc=>c,A⟩,c6⟩,j7.az,o.vT,c2,λp q1 n=>?_,c6.aO.aV.2.1,c6.aO.aV.2.2.2.2.2.2.2⟩
  rcases fy (enc:=Ls.s4) (λ_=>rfl) o.cT with⟨_,k⟩|⟨O,j9,k,l1,_,_,c0⟩
  .rw[k] at n;cases n
  simp only[Gy] at k
  let⟨b2,a8⟩:=Fd.cH o.cT (show(ο q e.length H).ownBlock=δ O by rw[k.1];rfl)
  have l5:=(Gg.1 n).1
  exact⟨O,b2,k.1,oA k.2.2,a8,λI a6 f5=>by rw[c0 p q1 I n (Gg.1 f5).1,f5]⟩)
 have a9:=Ga (κ a2 (Fz.then a3.2 K));go_wp2_with fail;go_region_held3 (λw'=>w' (g,1)=bh S.t/\w' (g,7)=(S.aY+f.n)) (first|(with_reducible exact⟨c1,b5⟩)|(with_reducible exact⟨g3,d7⟩)|go_keep) (first|(go_at_call 78;(with_reducible apply g0.o.m);rintro k b3 ⟨l,e,q,H,rfl,o,a1,h0,c2,h2,g3,d7⟩;have f1:=Ga o;have d:=Ga (κ a1 (κ h0 (κ c2 h2)))));have l9:e.length<=4:=by have i7:=d.2.1.length_eq;have k7:S.T.ls.length<=4:=a9.1.aO.mc.cB;rw[Gk] at i7;omega
 go_wp2;go_loopw [49] (λiv wr=>∃j:D,j<=e.length/\iv=G j/\Φ (TI b3 B g {S with aY:=S.aY+f.n,T:=l} s e j wr)) (λiv _=>e.length-(QI iv).toNat)
 .exact⟨0,by omega,A,Ga f1.1⟩
 obtain⟨j,o,rfl,f2⟩:=hrel;by_cases j0:j<e.length
 .let⟨q1,n⟩:∃q1,e[j]?=δ q1:=⟨_,Gf j0⟩;obtain⟨z,y,r,L,e0,a,Y,q0,a0,T⟩:=f2.o;obtain⟨O,b2,rfl,l6,a8,g4⟩:=d.2.2.2 j q1 n;have g7:wr.rangeAt O (j*4) (Ls.s4 q1):=λI a6 j1=>(GQ (w:=b3) ((q0.aM f1.2 a8 sm sm).t a8.s)).t (g4 I a6 j1);have l3:(j:C)<(e.length:C):=om;have l2:(0:C)<=(j:C):=om;have l0:η.wrap ((j:C)+1)=(j:C)+1:=QQ om;have h5:q1∈S.T.ls:=d.2.1.symm.subset (Jq _ (GI.2 ⟨j,n⟩));have g5:=a9.1.aO.ok.qH.ZO q1 h5;have g9:=a9.1.aO.ok.qH.cK;have f3:=QC (-9223372036854775808<=q1.id/\q1.id<=9223372036854775807) ⟨by omega,by have i:q1.id<=S.T.cK:=g5.2;have k6:S.T.cK<=1048576:=g9.2;omega⟩;have u:=Ga (κ r (κ (κ L e0) (κ a (κ Y (κ q0 (κ a0 T))))));have i6:=Ga n;go_upto_region 9 with(first|(apply Xj rfl 140 _ rfl O (j*4) rfl (Ls.s4 q1) _ g7 LZ rfl XV.aH)|(refine ia XV (Gc wr _) ?_ (h:=Uu q1);intro M e2));have c3:M.heap[wr.heap.size]?=θ #[G q1.id,G q1.aG,G q1.dl,G q1.cf] 140:=e2.at_;have b9:ρ wr wr M:=e2.aE wr wr QD ((Ge _ wr).a QD _);have K:ρ M M M.drew:=QG.d;have e4:=(u.1.aE b9).aE K;have e9:=Ga (κ e4 (Fz.then (Fz.then u.2.2.2.2.1 b9) K));have k1:M g=bh S.p.c:=by have:=(u.1.aE b9).aO.aV.1;rwa [u.2.2.1.dC.p] at this
  have d6:=Ga (lx q1.aG M.drew e4);rw[u.2.2.1.dC.p] at d6;have c8:M (wr,0)=G q1.id:=cR c3 A;have h8:M (wr,1)=G q1.aG:=cR c3 A;have d8:=QC (M.drew.heap[wr.heap.size]?=θ #[G q1.id,G q1.aG,G q1.dl,G q1.cf] 140) c3;generalize wr=f6 at c8 h8 d8 ⊢;go_still_tail 6,Qz;change Ji _ _ _ _ _ M.drew;go_upto_region 10 with((with_reducible apply d6.o.m);rintro k w8 ⟨j8,f8,f7,m2,rfl,c7,e7,h4,h1⟩);have e1:=e7.aM e9.1 d8.o sm sm;have c8:w8 f6=G q1.id:=cR e1 A;have g1:=Ga (xL q1.id 6 w8 c7 f3.o (by have:=tc c7.aO.qv q1.id;have:=u.2.1.2;omega));have a4:=Ga (κ c7 (κ (Az.aJ (S:={S with aY:=S.aY+f.n,T:=l}) (S':=z) e9.2 e7.az u.2.2.1.dC) (κ h4 h1)));have g2:=Ga e1;go_upto_region 11 with((with_reducible apply g1.o.m);rintro k h ⟨rfl,i2,k4,d3,e5,g6,g8,h3,e8⟩);have b4:=e8.aM a4.1 g2.o sm sm;have c8:h f6=G q1.id:=cR b4 A;have K:ρ h h h.drew:=QG.d;have k2:h (g,2)=bh S.f:=by have:=e5.aO.aV.2.2.1;rwa [show _=S.f from u.2.2.1.dC.f] at this
  have e6:=e5.aE K;have f0:=Ga (Fd.vv q1.id h.drew e6.aO.dy f3.o);rw[show _=S.f from u.2.2.1.dC.f] at f0;have N:=Ga (κ e6 (κ (Az.aJ (S:={S with aY:=S.aY+f.n,T:=l}) (S':=z) a4.2.1 (Fz.then e8.az K) u.2.2.1.dC) (κ g6 (κ g8 h3))));go_still_tail 6,Qz;change Ji _ _ _ _ _ h.drew;go_wp2_with ((with_reducible apply f0.o.m);rintro k j6 ⟨⟨m1,rfl⟩,d9,h9⟩);rw[<-show _=S.f from u.2.2.1.dC.f] at d9;let⟨h6,i1⟩:=N.1.dy (Fz.cz h9 sm sm) d9 (GB (bB _ _) N.1.aO.ok.cB.1);have i4:=QC (TI b3 B g {S with aY:=S.aY+f.n,T:=l} s e (j+1) j6) (by
   let⟨r,⟨L,e0⟩,a,Y,q0,a0,T⟩:=u.o
   refine⟨_,{y with cN:=d3},h6,L,?_,a.aJ ⟨⟨A,A,A,A,A,A,A,A,A,A⟩,a4.2.2.1,A⟩,Y,Az.aJ (S:={S with aY:=S.aY+f.n,T:=l}) (S':=z) N.2.1 i1.az a.dC,λc=>?_,T⟩
   .have:=tc a4.1.aO.qv q1.id
    have f4:=N.2.2.1
    show d3.length<=_
    have f4:d3.length<=y.cN.length+jg z.QL q1.id:=f4
    have k5:jg z.QL q1.id<=4:=this
    omega
   have hd:e.drop j=q1::e.drop (j+1):=by
    let⟨m,i⟩:=Gg.1 i6.o
    rw[<-i,List.getElem_cons_drop]
   have m:=a0 c
   rw[hd] at m
   have i:bD {z with md:=j8,R:=f8,L:=f7} (bls (e.drop (j+1))) (q1.id::XU (e.drop (j+1))) (q1.id::XU (e.drop (j+1))):=⟨a4.2.2.2 _ m.aZ,m.ql,m.fl,m.dl⟩
   exact(i.FD (D':=i2) N.2.2.2.2 N.2.2.2.1).abb A)
  go_roundw
  .exact⟨j+1,by omega,by simp,i4⟩
  simp[QI];omega
 have l4:¬((j:C)<(e.length:C)):=om;have i9:j=e.length:=om;subst i9;go_wp2;go_end0;obtain⟨z,y,r,L,_,a,Y,q0,a0,T⟩:=f2.o;refine⟨A,Θ ⟨b0.1,b0.2,z,y,r,L,⟨a.dC.p,a.dC.t,a.dC.f,a.dC.m,a.dC.u,a.dC.d,a.dC.q,a.dC.fV,a.dC.cg,a.dC.fr⟩,a.Oq,a.aY,Fz.aJ (Fz.aJ a9.2 d.1) q0,λc=>?_,λq1 n=>?_,T⟩⟩
 .have:=a0 (c.dx d.2.1 (by have:=b0.o;omega));simpa[bls,XU] using this
 rw[Y] at n;rw[a.aY];exact⟨d.2.2.1 q1 n,d.2.1.symm.subset (LI _ n)⟩
end Gt
structure MI (w0 w:ν)(mb n:D)(L:List (IA×π)):Prop where
 cS:bj N w 3 mb L
 cB:L.length<=n
 gi:T w0 w0 w
 iY:w0.heap.size<=mb
def gH {Z:Q Le}{n:List Le}{K:Le}{u:Act}{X:Exit->Act->L->Prop}{a w:L}{A O:D}{M:List (IA×π)}(H:K.guard=J)(p x q:Kg)(k:K.op=Op.insert 87 p x q)(i:u.eval p=KD (δ A))(f:MI a w A O M)(T:O<=100)(o:C)(U:π)(v:u.eval x=G o)(l:u.eval q=U)(I: -9223372036854775808<=o/\o<=9223372036854775807)
 (e:∀w',MI a w' A (O+1) ((il o,U)::be (il o) M)->Ji N Z X n (u.put K.dst undef) w'):Ji N Z X (K::n) u w:=by
 refine Xt H λm h=>?_;let⟨w',d,y,c⟩:=f.cS.cO eX underlying87 (by have:=f.cB;unfold Ie;omega) (kG I) (val:=U);simp[Ld,Xb,k,i,v,l,d,Ω];refine h _ _ (e w' ⟨y,?_,f.gi.t ((aL.dD (aL.bQ (· =A) w) c (λ_=>rfl)).cE f.gi.z (λY R=>oA f.iY)),f.iY⟩);have:=bB (il o) M;have:=f.cB;simp;omega
namespace Gt
open Fd (bh)
variable {w w' w2 W W':ν}{B g s r b:Nat}{S j S2:Gs}{x z:St}{P E F:List Int}{t:ByteArray}{V:Bool->Prop}
def bm (f g:D):π:=Hl (Ic f) #[bh g] #[]
def xP (g:D):List (IA×π):=[(il 7,bm 32 g),(il 6,bm 31 g),(il 5,bm 30 g),(il 4,bm 29 g),(il 3,bm 28 g),(il 2,bm 27 g),(il 1,bm 26 g),(il 0,bm 25 g)]
def t39:pX 39 11:=⟨⟨_,A,Pj⟩,by kernel_rfl⟩
def YQ:pX 35 12:=⟨⟨_,A,underlying35⟩,by kernel_rfl⟩
def Uv (w:L):(Xs 86).run N w=Je IY w:=e
def vP (x:St)(f:QV JM)(u o:D):(x.cs (ο f u o)).all (·.oneCell')=U:=by simp[St.cs,φ]
def xQ (w:L)(B g:D)(S:Gs)(o:Gs->St->L->Prop)(u:He)(w':L):Prop:=∃j z f,u=Γ (z.cs f)/\cw w' B g j/\w'.ownsRow B 9 1 f z.cN.length (z.cN.map O)/\Fz B [136,84,373,149,158,178,154,101,192,185,518,9] [S.m,S.q,S.p.r,S.p.m,S.p.k] w w'/\o j z w'
def BQ (v:D)(u:Ac)(k:Gs->St->ν->Prop)(w:ν)(a3:cw w B g S)(e: -9223372036854775808<=u.bq/\u.bq<=9223372036854775807)(b3:aT (xP g) (il u.bq)=bm v g)(d1:∀b0 w,(Xa v b0).run N w=Je (.enter v b0) w)
 (a7:∀j z W W',k j z W->Fz B [35] [] W W'->B<=(W:D)->k j z W')
 (a8:∀W s,kh W B g S s->ρ w w W->τ N v #[bh g,Γ u.cs,bh s] W λc w'=>c=χ #[]/\∃j z,cY w' B g j s z/\Az B S s W w'/\k j z w'):
 τ N 7 #[bh g,Γ u.cs] w (xQ w B g S k):=by
 have d:=bo w (K u.cs 39);generalize c8:w.alloc (K u.cs 39)=U at d;have T:U ((w:D),0)=u.bq:=cR d.at_ A;have e0:=d.at_;have ae:=bo U (K (x0.cs (ο J 0 0)) 35);generalize ag:U.alloc (K (x0.cs (ο J 0 0)) 35)=w2 at ae;have b6:=bo w2 (Lz #[] 0);have H0:MI w2 (w2.alloc (Lz #[] 0)) (w2:D) 0 []:=⟨bj.pk w2 N 3,QD,b6.aE,QD⟩;have e6:=@run_makeMap N;have rS:∀(a2:Fn) (first c0:QF π) (w:ν),(Instr.makeFunc a2 first c0).run N w=Je (Hl a2 first c0) w:=λ_ _ _ _=>rfl;have f:=Ga (κ a3 (κ d (κ ae (κ a7 (κ a8 (κ e b3))))));have d6:U.alloc (K #[G 0,G 0,υ σ,G 0,G 0,G 0,G 0,I,I,G 0,ο J 0 0,I] 35)=w2:=ag;clear a3 d ae b6 a7 a8 e b3 ag e0 T;go_enter func7,ntmps7;go_upto_region 2 with(first|(apply gH rfl _ _ _ rfl rfl H0 dc 0 _ rfl rfl H;intro f2 H1)|(apply gH rfl _ _ _ rfl rfl H1 dc 1 _ rfl rfl H;intro f3 ah)|(apply gH rfl _ _ _ rfl rfl ah dc 2 _ rfl rfl H;intro e8 ai)|(apply gH rfl _ _ _ rfl rfl ai dc 3 _ rfl rfl H;intro e9 aj)|(apply gH rfl _ _ _ rfl rfl aj dc 4 _ rfl rfl H;intro w8 ak)|(apply gH rfl _ _ _ rfl rfl ak dc 5 _ rfl rfl H;intro f0 al)|(apply gH rfl _ _ _ rfl rfl al dc 6 _ rfl rfl H;intro e7 a0)|(refine gH rfl _ _ _ rfl rfl a0 dc 7 _ rfl rfl H ?_;intro M a));have l:bj N M 3 (w2:D) (xP g):=a.cS;have b1:ρ w w w2:=f.2.1.aE.t (f.2.2.1.aE.m f.2.1.aE.z);have X:=Ga (b1.t (a.gi.m b1.z));have ab:M.heap[(w:D)]?=K u.cs 39:=a.gi.ke (f.2.2.1.aE.ke f.2.1.at_);have b9:M.heap[(U:D)]?=K (x0.cs (ο J 0 0)) 35:=a.gi.ke f.2.2.1.at_;have T:M ((w:D),0)=u.bq:=cR ab A;have b2:=f.2.2.2.2.2.2;have e:=f.2.2.2.2.2.1;have p:=bo M (K (x0.cs (ο J 0 0)) 35);have Y:kh (M.alloc (K (x0.cs (ο J 0 0)) 35)) B g S (M:D):=⟨f.1.aE (X.o.t (p.aE.m X.o.z)),p.at_,GB f.1.lt X.o.z⟩;have a1:=Ga (f.2.2.2.2.1 _ _ Y (X.o.t (p.aE.m X.o.z)));have Z:=Ga (κ Y (κ p.aE (κ b9 a.iY)));have b5:=p.aE.ke ab;clear b1 H0 H1 ah ai aj ak al a0 a p Y b9 ab d6 c8;go_upto_region 5 with(at_lookup;refine fW rfl _ _ 87 rfl 3 86 eX underlying87 _ (Uv _) _ _ rfl l _ _ rfl (kG e) ?_;rw[b2];unfold bm);let⟨i,d4⟩:∃i,M.alloc (K #[G 0,G 0,υ σ,G 0,G 0,G 0,G 0,I,I,G 0,ο J 0 0,I] 35)=i:=⟨_,A⟩;rw[show M.alloc (K (x0.cs (ο J 0 0)) 35)=i from d4] at a1 Z b5;clear l b2 T;go_wp2_with (refine oc t39 b5 ?_);go_call a1.o as c y ⟨rfl,j,z,O,Q,a4⟩;let⟨f1,b7,af,_⟩:=O.st;obtain⟨d9,e1,rfl⟩:=aR af;have e2:(U:D)≠(M:D):=oA (aw Z.2.2.1);have m:=Z.2.1.ke Z.2.2.1;have a5:=Z.1.aO.dy.cS.bx;have a6:=Z.1.aO.oz.bx;have L:=Z.1.aO.qy;have b4:y.heap[(U:D)]?=K (x0.cs (ο J 0 0)) 35:=Fz.aM Q m R (by
  simp only[GF,Hv,Xf,not_or]
  exact⟨e2,λc=>a5 _ _ _ (c▸m),λc=>a6 _ _ _ (c▸m),λc=>L S.p.r R _ _ _ (c▸m),λc=>L S.p.m R _ _ _ (c▸m),λc=>L S.p.k R _ _ _ (c▸m)⟩)
 have o:=Ga (κ O (κ af (κ Q (κ a4 (κ b7 b4)))));clear O af Q a4 a5 a6 L m d1;go_wp2_with (first|(apply oc YQ b7)|(refine ia YQ b4 ?_ (h:=vP z d9 _ e1);intro c2 h));apply QM (EN YQ A A A h.at_) A;have c6:B<=(U:D):=GB f.1.lt f.2.1.aE.z;have n:Fz B [35] [] y c2:=Fz.cV h o.2.2.2.2.2 R c6 [];have l:cM y []:=λ_ d8=>by cases d8
 have c3:ρ w w i:=X.o.t (Z.2.1.m X.o.z);refine⟨j,z,_,A,o.1.aO.fz n l (o.1.aO.sk.at (n.dn R o.1.aO.lt) o.1.aO.ok.b.2) R R,aK o.2.1 λe4 d3=>h.old e4 λc=>?_,?_,?_⟩
 .let⟨e5,a9⟩:=Fd.cH o.2.1 d3;rw[c,o.2.2.2.2.2] at a9;cases a9
 .have q:Fz B [136,84,373,149,158,178,154,101,192,185,518,9] [S.m,S.q,S.p.r,S.p.m,S.p.k] w y:=FB (Fz.aE c3 B _ _) o.2.2.1 X.o.z;exact⟨n.os.t q.os,n.cb.t q.cb,n.aW.t q.aW,GB q.aH n.aH,λc7 d2=>by
   have:=f.2.1.aE.z
   rw[h.old c7 (oA f.2.1.aH)];exact q.aG c7 d2⟩
 exact f.2.2.2.1 j z y c2 o.2.2.2.1 n o.1.aO.lt
end Gt
end Go.Proofs.YtajnhfklchlahaaGreatDoor
