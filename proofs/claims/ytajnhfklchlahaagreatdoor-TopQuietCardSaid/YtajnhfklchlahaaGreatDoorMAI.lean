import Derived.Test.YtajnhfklchlahaaGreatDoorMAG
import Derived.Test.YtajnhfklchlahaaGreatDoorMAH
set_option linter.all false
set_option maxHeartbeats 6400000
set_option maxRecDepth 100000
namespace Go.Proofs.YtajnhfklchlahaaGreatDoor
open Go.Proofs.Tryz Go.RowKit Go.Shelf
open Go.Maps (Keyed)
open And renaming intro->κ,intro->W
open Bool renaming false->σ,true->ψ,false->X,true->U
open Go renaming Addr->JM,Calls->τ,Oper->Le,Operand->Kg,TypeId->Λ,Value->π,World->ν,maxLen->Ie,wpList->Ji,Calls->Y,Value->S,World->L,execOp->Xb,binOp->Xc,wpList_plain->Xt,Ending->He,cell_of_row->Xe,bodyPost_ret->QM,wpList_store_row->Xw,wpList_load_row->XK,all_oneCell_toArray->XN,Program->Xp,Lit->IA,callFunc->Xa,run_loadVar_row->XH,keyOf->Xi,zeroValue->Xs,FrameMode->XB,leaves_cons->XI
open Go.Ending renaming returned->ι
open Go.Obj renaming cells->θ,cells->K,map->Lz
open Go.Oper renaming wp->Ld
open Go.Proofs.Tryz renaming prog->γ,prog->N
open Go.Result renaming andThen->Ω,ok->Je
open Go.RowKit renaming Below->ρ,Hid->Φ,Below->T,intOf->QI
open Go.Value renaming bool->υ,slice->ο,string->β,bool->z,slice->P,string->O,agg->Γ,func->Hl,pointer->ξ,agg->t,int->Z,pointer->V,oneCell'->φ,tuple->χ,tuple->f,map->KD,iface->Δ,nilIface->ω,ownBlock->Ψ
open Option renaming none->ζ,some->δ,none->J,some->M
open Or renaming inr->Θ,inr->j,inl->Ξ,inl->o
open _root_ renaming rfl->A,Int->C,Nat->D,List->E,Array->Q,Option->QV,and_true->QW,ByteArray->B,ByteArray->QE,UInt8->QO,Array->QF,or_false->Xf,if_pos->QU,congrArg->Xl,if_neg->QT,beq_eq_false_iff_ne->Xk,decide_eq_true_eq->XE,False->QZ
open YtajnhfklchlahaaGreatDoor renaming Ga->F,ϑ->G,om->H,eS->I,sm->R,QD->d,Qz->e,dc->r,QC->y
open Go.Fn renaming func->Ic
open Go.IntKind renaming i64->η,i64->u,u64->If
open Decidable renaming decide->LH
open Go.World renaming setCell->PZ,cell?->Iz
variable {w q a i:Nat}{g s l:ν}{k:ByteArray}{v:List ByteArray}{n:List (IA×π)}{h:Array π}{m:π}{x:List Nat}{b:List π}{c:Int}{p:Λ}
section
variable {t e size base n m:Nat}{v:π}{xs z:List π}{w:ν}
def Bg (j:hD t e size)(x:w.ownsRow base e size v n xs)(o:JM)(J:D)(W:(z:D)=m*size)(V:∀K f,z[K]?=M f->w (o.add K)=M f)(Z:∀f∈z,f.oneCell'=U)(X:n+m<=1000000)(O:base<=(w:D))(u:Λ):
 ∃c b,(Builtin.append_ #[t,t] u #[v,ο (M o) m J]).run N w=Je c b/\b.ownsRow base e size c (n+m) (xs++z)/\aL (λl=>v.ownBlock=M l) w b:=let⟨k,y,F,p,g,h,q⟩:=j.inf;let⟨c,b,r,i,a,_⟩:=run_append_own (P:=N) w base t u e k y size k.bytes j.ut F p g A q j.Rk v n xs x o m J z W V Z (by unfold Ie;omega) (oA (No X h)) O;⟨c,b,r,i,a.os,a.tape,a.output,a.size,λd G g=>a.block d G (λe=>g e.s)⟩
def SS {K:Q Le}{O:E Le}{f:Le}{j:Act}{A:Exit->Act->L->Prop}(y:hD t e size)(i:f.guard=J)(X Z:Kg)(g:f.op=.call {callee:=.builtin .append,args:=#[X,Z],argTypes:=#[t,t]})
 (l:j.eval X=v) (r:w.ownsRow base e size v n xs) (u:JM) (V:D) (x:j.eval Z=P (M u) m V) (k:(z:D)=m*size) (h:∀W o,z[W]?=M o->w (u.add W)=M o) (C:∀o∈z,o.oneCell'=U) (G:n+m<=1000000) (I:base<=(w:D))
 (a:∀d b,b.ownsRow base e size d (n+m) (xs++z)->aL (λc=>v.ownBlock=M c) w b->Ji N K A O (j.put f.dst d) b):Ji N K A (f::O) j w:=by
 refine Xt i λp H=>?_;let⟨d,b,s,q,F⟩:=Bg y r u V k h C G I f.type;simp[Ld,Xb,g,resolve,invoke,builtin,l,x,s,Ω];exact H _ _ (a d b q F)
def nW (e size:D)(w:L):(w.alloc (K #[] e)).ownsRow w e size (P w 0 0) 0 []:=⟨R,j ⟨w,0,#[],A,d,Gc w _,d,QK,R,R⟩⟩
end
def Ff (j:QV JM)(m o:D)(z:E S)(w:L)(G:(z:D)=m*2)(I:m<=1000000)(r:j=J->m=0)(s:∀c,j=M c->∀b a,z[b]?=M a->w (c.add b)=M a)(k:∀a∈z,a.oneCell'=U):
 Y N 93 #[P j m o] w λe d=>(∃u,e=ι u/\d.ownsRow w 73 2 u m z)/\T w w d:=by
 cases j with
 |none=>
  cases r A;have q:z=[]:=GH H;subst q;have f:=QC (w.ownsRow w 73 2 (P J 0 0) 0 []/\T w w w) ⟨QN,QG⟩;have h:(Xc .eql 63 (P J 0 o) (P J 0 0)).run N w=Je (υ U) w:=Qz;go_enter func93,ntmps93;go_wp2;go_ret;exact⟨⟨_,A,f.1⟩,f.2⟩
 |some c=>
  let⟨l,p,i⟩:=aU w (θ #[] 73);have O:l.ownsRow w 73 2 (P w 0 0) 0 []:=p▸nW 73 2 w;have x:∀b a,z[b]?=M a->l (c.add b)=M a:=λb a g=>i.aE.ce (s c A b a g);have W:=F i.aE;have y:=i.aE.z;have Z:=F x;have h:(Xc .eql 63 (P (M c) m o) (P J 0 0)).run N w=Je (υ X) w:=Qz;go_enter func93,ntmps93;go_wp2_with (at_builtin;apply SS ue A _ _ A A O c o A G Z.o k H H;intro u R K V);rw[GU,Ho] at K;have f:=F (κ K (V.cT O W.o y));go_ret;exact⟨⟨u,A,f.1⟩,f.2⟩
def vi (j:QV JM)(m o:D)(z:E S)(w:L)(G:(z:D)=m*3)(I:m<=1000000)(r:j=J->m=0)(s:∀c,j=M c->∀b a,z[b]?=M a->w (c.add b)=M a)(k:∀a∈z,a.oneCell'=U):
 Y N 117 #[P j m o] w λe d=>(∃u,e=ι u/\d.ownsRow w 56 3 u m z)/\T w w d:=by
 cases j with
 |none=>
  cases r A;have q:z=[]:=GH H;subst q;have f:=QC (w.ownsRow w 56 3 (P J 0 0) 0 []/\T w w w) ⟨QN,QG⟩;have h:(Xc .eql 37 (P J 0 o) (P J 0 0)).run N w=Je (υ U) w:=Qz;go_enter func117,ntmps117;go_wp2;go_ret;exact⟨⟨_,A,f.1⟩,f.2⟩
 |some c=>
  let⟨l,p,i⟩:=aU w (θ #[] 56);have O:l.ownsRow w 56 3 (P w 0 0) 0 []:=p▸nW 56 3 w;have x:∀b a,z[b]?=M a->l (c.add b)=M a:=λb a g=>i.aE.ce (s c A b a g);have W:=F i.aE;have y:=i.aE.z;have Z:=F x;have h:(Xc .eql 37 (P (M c) m o) (P J 0 0)).run N w=Je (υ X) w:=Qz;go_enter func117,ntmps117;go_wp2_with (at_builtin;apply SS xn A _ _ A A O c o A G Z.o k H H;intro u R K V);rw[GU,Ho] at K;have f:=F (κ K (V.cT O W.o y));go_ret;exact⟨⟨u,A,f.1⟩,f.2⟩
def sd {w:L}{v:S}{b:E dh}(j:cq w v b):∃f o,v=P f (b:D) o/\(f=J->(b:D)=0)/\∀k,f=M k->∀a l,(b.flatMap λe=>[O e.1,O e.2])[a]?=M l->w (k.add a)=M l:=by
 rcases j with⟨f,o,rfl,rfl⟩|⟨Z,K,o,rfl,V,U⟩
 .exact⟨f,o,A,λ_=>rfl,λk _ a l h=>by simp at h⟩
 refine⟨_,o,A,nF,λk c a l h=>?_⟩;cases c;have X:(b.flatMap λe=>[O e.1,O e.2]:D)=(b:D)*2:=by
  clear V U h;induction b with
  |nil=>rfl
  |cons i b d=>rw[GV,Gk,d];simp;omega
 have W:=(Gg.1 h).1;rw[X] at W;let⟨i,p⟩:∃i,b[a/2]?=M i:=⟨_,Gf H⟩;let⟨r,q⟩:=U (a/2) i p;have u:=hP (enc:=λe:dh=>[O e.1,O e.2]) (s:=2) (λ_=>rfl) b (a/2) i (a%2) p H;rw[(H:a/2*2+a%2=a),h] at u;rw[Nv];have:a%2=0\/a%2=1:=H;rcases this with j|j
 .rw[j] at u;rw[(H:K+a=K+a/2*2),r];exact u.s
 rw[j] at u;rw[(H:K+a=K+a/2*2+1),q];exact u.s
def dF (j:L)(f:S)(o:E dh):Prop:=cq j f o/\iZ j f 73
def jv (j:L)(f:S)(o:E fj):Prop:=eh j f o/\iZ j f 56
def dF.aE {j:E dh}(f:dF g m j)(c:T g g s):dF s m j:=⟨f.1.aE c,f.2.aE c⟩
def jv.aE {j:E fj}(f:jv g m j)(c:T g g s):jv s m j:=⟨f.1.aE c,f.2.aE c⟩
def dF.cT {base:D}{f:E dh}(j:g.ownsRow base 73 2 m f.length (f.flatMap λb=>[O b.1,O b.2])):dF g m f:=⟨lS j,.cT j⟩
def jv.cT {base:D}{f:E fj}(j:g.ownsRow base 56 3 m f.length (f.flatMap cv)):jv g m f:=⟨uO j,.cT j⟩
def gS (f:Md.dp):E S:=[G f.aG,f.ei,f.fI,G f.aZ]
structure bC (w:L)(v:S)(vs:E Md.dp):Prop where
 at_:∃g o c,v=P (M ⟨g,o,J⟩) vs.length c/\vs.length<=c/\eN w g 107/\∀k x,vs[k]?=M x->w ⟨g,o+k*4,J⟩=G x.aG/\w ⟨g,o+k*4+1,J⟩=M x.ei/\w ⟨g,o+k*4+2,J⟩=M x.fI/\w ⟨g,o+k*4+3,J⟩=G x.aZ
 ei:∀x∈vs,∃es,dF w x.ei es/\bD es
 fI:∀x∈vs,∃cs,jv w x.fI cs/\cs.length<=80
def bC.aE {t:E Md.dp}(K:bC g m t)(f:T g g s):bC s m t:=by
 obtain⟨⟨u,W,c,M,O,P,U⟩,V,X⟩:=K;refine⟨⟨u,W,c,M,O,P.aE f,λr d b=>?_⟩,λd b=>?_,λd b=>?_⟩
 .obtain⟨q,Z,z,a⟩:=U r d b;exact⟨f.ce q,f.ce Z,f.ce z,f.ce a⟩
 .obtain⟨J,j,o⟩:=V d b;exact⟨J,j.aE f,o⟩
 obtain⟨A,j,o⟩:=X d b;exact⟨A,j.aE f,o⟩
def bC.fL {u:E Md.dp}(o:bC g m u){f:Md.dp}(t:f∈u):(∃a j b,f.ei=P a j b)/\∃a j b,f.fI=P a j b:=let⟨q,l,_⟩:=o.ei f t;let⟨p,n,_⟩:=o.fI f t;let⟨a,b,c,_⟩:=l.1.bZ;let⟨h,i,k,_⟩:=n.1.bZ;⟨⟨a,_,b,c⟩,⟨h,_,i,k⟩⟩
def Wo (f:Md.dp)(h:∃c j d,f.ei=P c j d)(g:∃c j d,f.fI=P c j d)(u:D)(j:C)(o:L)(J:o u=G j):
 Y N 254 #[t #[f.aG,f.ei,f.fI,f.aZ],V u] o λm q=>m=z (f.aG==j)/\T o o q:=by
 let⟨c,p,d,h⟩:=h;let⟨k,n,l,g⟩:=g;rw[h,g];let⟨r,s,a⟩:=aU o (K #[f.aG,P c p d,P k n l,f.aZ] 107);have M:=cJ 0 a.at_;have c1:=a.aE.ce J;go_enter func254,ntmps254;go_wp2;go_ret;exact⟨A,(F a.aE).o⟩
def qj (o:E Md.dp)(u:C)(j:He):Prop:=(∃t f,o[t]?=M f/\f.aG=u/\j=G (t:D))\/((∀f∈o,f.aG≠u)/\j=G (-1))
def kR (U:π)(f:E Md.dp)(wd ai:C)(J:D)(o:C)(u:ν)(I:bC u U f)(c7:(f:D)<=1000)(Y:u J=o):
 τ γ 253 #[Γ #[G wd,G ai,U],Hl (Ic 254) #[] #[V J]] u λr m=>qj f o r/\T u u m:=by
 obtain⟨⟨ak,al,aj,rfl,b7,b9,e⟩,a6,a5⟩:=id I;let⟨L,c2,l⟩:=aU u (θ #[G wd,G ai,P (ak,al) (f:D) aj] 93);have b5:L (u,2)=P (ak,al) (f:D) aj:=cR l.at_ A;have N:=F l.aE;have a1:=F (I.aE l.aE);have ao:=F (l.aE.ce Y);have ag:=l.aE.z;clear e a6 a5 I Y l;go_enter func253,ntmps253;go_wp2;go_loopw [10] (λiv wr=>∃j:D,j<=(f:D)/\iv=G j/\Φ (T L L wr)/\Φ (∀g a,g<j->f[g]?=δ a->a.aG≠o)) (λiv _=>(f:D)-(QI iv).toNat)
 .exact⟨0,H,A,F QG,F λg a i=>H⟩
 obtain⟨j,c0,rfl,z,R⟩:=hrel;by_cases a7:j<(f:D)
 .let⟨a,k⟩:∃a,f[j]?=δ a:=⟨_,Gf a7⟩;have af:=a1.o.aE z.o;let⟨⟨b,p,s,h⟩,⟨q,d,c,v⟩⟩:=af.fL (Gl k);let⟨⟨b6,c3,d1,ae,_,_,e⟩,_,_⟩:=af;simp only[Gy,Gd,GS,QW] at ae;obtain⟨⟨rfl,rfl⟩,_,rfl⟩:=ae;let⟨c6,a9,b0,c8⟩:=e j a k;rw[h] at a9;rw[v] at b0;have ab:=z.o.ce ao.o;have am:=y (∀n,T wr wr n->τ γ 254 #[Γ #[G a.aG,P b p s,P q d c,G a.aZ],V J] n λr m=>∃U,r=ι U/\U=υ (a.aG==o)/\T n n m) λn a2=>by
   have:=Wo a ⟨b,p,s,h⟩ ⟨q,d,c,v⟩ J o n (a2.ce ab);rw[h,v] at this;exact this.m λr m ⟨a3,a4⟩=>⟨_,a3,A,a4⟩
  have S:=F k;clear e k h v ab;have O:=dj wr (θ #[G a.aG,P b p s,P q d c,G a.aZ] 107);have X:=F (am.o _ O.aE);have W:=F O.aE;have ah:=O.aH;cases K:(a.aG==o) with
  |true=>
   have w:=y (qj f o (ι (G (j:D)))) (Ξ ⟨j,a,S.o,sU K,A⟩);rw[K] at X;clear K O ah;go_wp2_with (apply qd (f:=254) (caps:=#[V J]) (enters_of func254 Qz A) A _ _ _ A A (Γ #[G a.aG,P b p s,P q d c,G a.aZ]) A _ X.o;rintro b2 b3 ⟨rfl,M⟩);have Z:=F (N.o.t ((z.o.t ((W.o.t (M.m W.o.z)).m z.o.z)).m ag));clear M;go_ret;exact⟨w.o,Z.o⟩
  |false=>
   have a0:=y (a.aG≠o) (sU K);rw[K] at X;clear K O ah;go_wp2_with (apply qd (f:=254) (caps:=#[V J]) (enters_of func254 Qz A) A _ _ _ A A (Γ #[G a.aG,P b p s,P q d c,G a.aZ]) A _ X.o;rintro b2 b3 ⟨rfl,M⟩);have Z:=F (z.o.t ((W.o.t (M.m W.o.z)).m z.o.z));clear M;go_roundw
   .exact⟨j+1,H,gN,Z,F λg b4 i x=>by
    by_cases a8:g=j
    .subst a8;rw[S.o] at x;cases Gm x;exact a0.o
    exact R.o g b4 H x⟩
   simp[QI];omega
 obtain rfl:j=(f:D):=H;have w:=y (qj f o (ι (G (-1)))/\T u u wr) ⟨Θ ⟨λa k=>by
  let⟨g,i⟩:=LU k
  exact R.o g a (Gg.1 i).1 i,A⟩,N.o.t (z.o.m ag)⟩
 go_wp2;go_ret;exact w.o
def yd (X:S)(f:E Md.dp)(wd j o:C)(a:L)(M:bC a X f)(Z:(f:Nat)<=1000):
 Y N 206 #[Γ #[wd,j,X],G o] a λb x=>qj f o b/\T a a x:=by
 obtain⟨⟨z,V,u,rfl,_⟩,_⟩:=id M;let⟨m,q,c⟩:=aU a (K #[G wd,G j,P (z,V) (f:Nat) u] 93);let⟨e,y,d⟩:=aU m (K #[o] 3);have J:=c.aE.t (d.aE.m c.aE.z);have rS:∀(g:Fn) (first i:Q S) (a:L),(Instr.makeFunc g first i).run N a=Je (Hl g first i) a:=λ_ _ _ _=>rfl;have O:=F J;have d0:e a=wd:=d.aE.ce (cR c.at_ A);have l:e (a,1)=j:=d.aE.ce (cR c.at_ A);have n:e (a,2)=P (z,V) (f:Nat) u:=d.aE.ce (cR c.at_ A);go_enter func206,ntmps206;go_wp2_with fail;go_call (F (kR _ f wd j m o e (M.aE J) Z (cJ 0 d.at_))).o as b D ⟨s,p⟩;have U:=F (W s (O.o.t (p.m O.o.z)));rcases U.1 with⟨h,k,_,_,rfl⟩|⟨_,rfl⟩
 all_goals
  go_wp2;go_ret;exact U.o
def sC (j:C)(u t f:B)(o:E B):Prop:=((j=0/\f=⟨#[]⟩)\/j=1)/\u.size=32/\t.size<=6/\f.size<=6/\o.length<=200/\∀z∈o,z.size<=1000
def adk (A:C)(u o t:B)(J:E B)(j:He):Prop:=∃f,j=z f/\(f=U↔sC A u o t J)
def yP (f:k.toList.isEmpty=U):k=⟨#[]⟩:=by
 have j:k.toList=[]:=by simpa using f
 have:k.data.toList=[]:=by rwa [<-ByteArray.toList_eq]
 ext1
 exact Array.toList_eq_nil_iff.1 this
def vj (z:C)(j o t:B)(ah:π)(f:E B)(O:ν)(ak:bS O ah f)(b3:(f:D)<=1000000):
 τ γ 56 #[Γ #[z,j,o,t,ah]] O λI a9=>adk z j o t f I/\ρ O O a9:=by
 obtain⟨ab,ae,rfl,ai⟩:=ak.bZ;let⟨m,b4,q⟩:=aU O (θ #[z,j,o,t,ο ab (f:D) ae] 60);have b1:=q.aE;have b5:=cJ 0 q.at_;have c1:=cJ 1 q.at_;have b0:=cJ 2 q.at_;have b2:=cJ 3 q.at_;have c4:=cJ 4 q.at_;have af:=y (∀(a:D) b,f[a]?=M b->∃s e,ab=M ⟨s,e,ζ⟩/\a<ae/\m ⟨s,e+a,ζ⟩=β b) λa b k=>by
  let⟨s,e,x,am,a0⟩:=ai a b k;exact⟨s,e,x,am,b1.ce a0⟩
 have p:=F b1;have J:=y (¬sC z j o t f->adk z j o t f (ι (υ X))/\ρ O O m) λc=>⟨⟨X,A,by simp[c]⟩,p.o⟩;have ag:=y (((z=0/\t=⟨#[]⟩)\/z=1)->j.size=32->o.size<=6->t.size<=6->(f:D)<=200->(∀b∈f,b.size<=1000)->sC z j o t f) λaj a5 a6 a7 I a8=>⟨aj,a5,a6,a7,I,a8⟩;by_cases R:z=0
 .subst R;by_cases r:t=⟨#[]⟩
  .subst r;by_cases l:j.size=32
   .by_cases U:o.size<=6
    .by_cases V:ByteArray.size ⟨#[]⟩<=6
     .by_cases k:(f:D)<=200
      .have K:(j.size:C)=32:=H;have P:¬(6:C)<(o.size:C):=H;have w:¬(200:C)<((f:D):C):=H;have G:=y ((∀b∈f,b.size<=1000)->sC 0 j o ⟨#[]⟩ f) λc=>ag.o sm l U V k c;go_enter KK,Kn;go_wp2;go_loopw [4,37] (λ_ iv wr=>∃a:D,a<=(f:D)/\iv=ϑ a/\wr=m/\Φ (∀(i:D) b,i<a->f[i]?=M b->b.size<=1000)) (λ_ iv _=>(f:D)-(QI iv).toNat)
       .exact⟨0,H,A,A,F λi b n=>H⟩
       obtain⟨a,a3,rfl,rfl,Z⟩:=hrel;by_cases S:a<(f:D)
       .let⟨b,g⟩:∃b,f[a]?=M b:=⟨_,Gf S⟩;obtain⟨s,e,rfl,a4,a2⟩:=af.o a b g;have h:=F g;by_cases W:b.size<=1000
        .have L:¬(1000:C)<(b.size:C):=H;have N:=F W;go_wp2;go_roundw
         .exact⟨a+1,H,gN,tV,F λi Y n d=>by
          by_cases T:i<a
          .exact Z.o i Y T d
          cases(H:i=a)
          rw[h.o] at d
          cases Gm d
          exact N.o⟩
         simp[QI];omega
        have L:(1000:C)<(b.size:C):=H;have u:=y (¬sC 0 j o ⟨#[]⟩ f) λc=>W (c.2.2.2.2.2 b (Gl h.o));go_wp2;go_ret;exact J.o u.o
       obtain rfl:a=(f:D):=H;have v:=y (sC 0 j o ⟨#[]⟩ f) (G.o λb k=>by
        let⟨i,n⟩:=GI.1 k
        exact Z.o i b (Gg.1 n).1 n)
       go_wp2;go_ret;exact⟨⟨ψ,A,by simp[v.o]⟩,p.o⟩
      have K:(j.size:C)=32:=H;have P:¬(6:C)<(o.size:C):=H;have w:(200:C)<((f:D):C):=H;have u:=y (¬sC 0 j o ⟨#[]⟩ f) λc=>k c.2.2.2.2.1;go_enter KK,Kn;go_wp2;go_ret;exact J.o u.o
     exact absurd QK V
    have K:(j.size:C)=32:=H;have P:(6:C)<(o.size:C):=H;have u:=y (¬sC 0 j o ⟨#[]⟩ f) λc=>U c.2.2.1;go_enter KK,Kn;go_wp2;go_ret;exact J.o u.o
   have K:¬(j.size:C)=32:=H;have u:=y (¬sC 0 j o ⟨#[]⟩ f) λc=>l c.2.1;go_enter KK,Kn;go_wp2;go_ret;exact J.o u.o
  have al:(!t.toList.isEmpty)=ψ:=by
   cases a1:t.toList.isEmpty with
   |false=>rfl
   |true=>exact absurd (yP a1) r
  have u:=y (¬sC 0 j o t f) λc=>by
   rcases c.1 with c|c
   .exact r c.2
   omega
  go_enter KK,Kn;go_wp2;go_ret;exact J.o u.o
 by_cases x:z=1
 .subst x;by_cases l:j.size=32
  .by_cases U:o.size<=6
   .by_cases V:t.size<=6
    .by_cases k:(f:D)<=200
     .have K:(j.size:C)=32:=H;have P:¬(6:C)<(o.size:C):=H;have e3:¬(6:C)<(t.size:C):=H;have w:¬(200:C)<((f:D):C):=H;have G:=y ((∀b∈f,b.size<=1000)->sC 1 j o t f) λc=>ag.o sm l U V k c;go_enter KK,Kn;go_wp2;go_loopw [4,37] (λ_ iv wr=>∃a:D,a<=(f:D)/\iv=ϑ a/\wr=m/\Φ (∀(i:D) b,i<a->f[i]?=M b->b.size<=1000)) (λ_ iv _=>(f:D)-(QI iv).toNat)
      .exact⟨0,H,A,A,F λi b n=>H⟩
      obtain⟨a,a3,rfl,rfl,Z⟩:=hrel;by_cases S:a<(f:D)
      .let⟨b,g⟩:∃b,f[a]?=M b:=⟨_,Gf S⟩;obtain⟨s,e,rfl,a4,a2⟩:=af.o a b g;have h:=F g;by_cases W:b.size<=1000
       .have L:¬(1000:C)<(b.size:C):=H;have N:=F W;go_wp2;go_roundw
        .exact⟨a+1,H,gN,tV,F λi Y n d=>by
         by_cases T:i<a
         .exact Z.o i Y T d
         cases(H:i=a)
         rw[h.o] at d
         cases Gm d
         exact N.o⟩
        simp[QI];omega
       have L:(1000:C)<(b.size:C):=H;have u:=y (¬sC 1 j o t f) λc=>W (c.2.2.2.2.2 b (Gl h.o));go_wp2;go_ret;exact J.o u.o
      obtain rfl:a=(f:D):=H;have v:=y (sC 1 j o t f) (G.o λb k=>by
       let⟨i,n⟩:=GI.1 k
       exact Z.o i b (Gg.1 n).1 n)
      go_wp2;go_ret;exact⟨⟨ψ,A,by simp[v.o]⟩,p.o⟩
     have K:(j.size:C)=32:=H;have P:¬(6:C)<(o.size:C):=H;have e3:¬(6:C)<(t.size:C):=H;have w:(200:C)<((f:D):C):=H;have u:=y (¬sC 1 j o t f) λc=>k c.2.2.2.2.1;go_enter KK,Kn;go_wp2;go_ret;exact J.o u.o
    have K:(j.size:C)=32:=H;have P:¬(6:C)<(o.size:C):=H;have e3:(6:C)<(t.size:C):=H;have u:=y (¬sC 1 j o t f) λc=>V c.2.2.2.1;go_enter KK,Kn;go_wp2;go_ret;exact J.o u.o
   have K:(j.size:C)=32:=H;have P:(6:C)<(o.size:C):=H;have u:=y (¬sC 1 j o t f) λc=>U c.2.2.1;go_enter KK,Kn;go_wp2;go_ret;exact J.o u.o
  have K:¬(j.size:C)=32:=H;have u:=y (¬sC 1 j o t f) λc=>l c.2.1;go_enter KK,Kn;go_wp2;go_ret;exact J.o u.o
 have al:(z==0)=X:=by simp[R]
 have K:(z==1)=X:=by simp[x]
 have u:=y (¬sC z j o t f) λc=>by
  rcases c.1 with c|c
  .exact R c.1
  exact x c
 go_enter KK,Kn;go_wp2;go_ret;exact J.o u.o
def t1 (f:B):B:=tx (Rl.bK (bs f))
def s1 (f:B):E S:=[O (t1 f)]
def xx (t:C)(o f j:B)(u:E B):B:=
 tx (Rl.eK ([tx (Rl.dg t.toNat),t1 o,t1 f,t1 j,tx (Rl.eK ((u.map t1).flatMap bs))].flatMap bs))
def SU (u:C)(t j o:B)(z:E B)(A:He):Prop:=
 (¬sC u t j o z/\A=f #[I,G 1])\/
 (sC u t j o z/\65536<(xx u t j o z).size/\A=f #[I,G 8])\/
 (sC u t j o z/\(xx u t j o z).size<=65536/\A=f #[O (xx u t j o z),G 0])
def jC (f:E QO)(j:(f:D)<1099511627776):(tx (Rl.eK f)).size<=(f:D)+6:=by
 rw[dP];unfold Rl.eK;have:=dJ 192 (f:D) j;rw[Gk];omega
def sV (B:D):∀(b:E QE),(∀a∈b,a.size<=B)->(b.flatMap bs:D)<=(b:D)*B
 |[],_=>R
 |a::e,c=>by
  have f:=sV B e λg d=>c g (GK _ d);have j:=c a (Hk ..);rw[GV,Gk,aX,Gx,PW];omega
def nX {j:Obj}(f:Φ (T g g s))(o:T (s.alloc j:D) (s.alloc j) l):T g g l:=
 (f.o.a f.o.z j).t (o.m (oS f.o.z))
def SV:∀f:E B,f.map (O∘t1)=f.flatMap s1
 |[]=>rfl
 |c::b=>by rw[Ij,GV,SV b];rfl
def vk {o t u:S}(j:T g g s)(f:g w=m/\g (w,1)=o/\g (w,2)=t/\g (w,3)=u):s w=m/\s (w,1)=o/\s (w,2)=t/\s (w,3)=u:=
 ⟨j.ce f.1,j.ce f.2.1,j.ce f.2.2.1,j.ce f.2.2.2⟩
def MO (J:L)(f o t u z:B):bS (J.alloc (K #[f,o,t,u,z] 9)) (P J 5 5) [f,o,t,u,z]:=by
 refine j ⟨J,0,5,A,λg i a=>?_,R,R⟩;rw[GU,Xe _ _ g #[f,o,t,u,z] 9 (0,0) (Gc _ _)];match g with
 |0=>simp at a;subst a;rfl
 |1=>simp at a;subst a;rfl
 |2=>simp at a;subst a;rfl
 |3=>simp at a;subst a;rfl
 |4=>simp at a;subst a;rfl
 |g+5=>simp at a
def aab {f j:B}(u:sC c k f j v):((v.map t1).flatMap bs:D)<1099511627776/\([tx (Rl.dg c.toNat),t1 k,t1 f,t1 j,tx (Rl.eK ((v.map t1).flatMap bs))].flatMap bs:D)<1099511627776:=by
 let⟨e,r,s,d,g,i⟩:=u;have t:((v.map t1).flatMap bs:D)<=(v.map t1:D)*1006:=sV 1006 _ λb a=>by
  obtain⟨o,z,rfl⟩:=GL.1 a;have:=i o z;have:=ez o H;unfold t1;omega
 have A:((v.map t1).flatMap bs:D)<=201200:=by rw[Hp] at t;omega
 have e3:=jC ((v.map t1).flatMap bs) H;have J:(t1 k).size<=k.size+6:=ez k H;have K:(t1 f).size<=f.size+6:=ez f H;have M:(t1 j).size<=j.size+6:=ez j H;have O:(tx (Rl.dg c.toNat)).size<=20:=by
  rw[dP];have hd:(Rl.vS c.toNat:D)<=1:=by
   have:=Rl.iI 1 c.toNat (by rcases e with⟨rfl,_⟩|rfl<;>decide);unfold Rl.vS;rwa[KA]
  unfold Rl.dg Rl.bK;split
  .omega
  have:=dJ 128 (Rl.vS c.toNat:D) H;rw[Gk];omega
 refine⟨H,?_⟩;simp[GV,JL,IS,Gk,aX];omega
def qk (W:C)(J t z:B)(d2:π)(j:List B)(f:ν)(a5:bS f d2 j)(e8:(j:D)<=1000000):
 τ γ 52 #[Γ #[ϑ W,O J,O t,O z,d2]] f λb G=>SU W J t z j b/\ρ f f G:=by
 obtain⟨l,L,rfl,c0⟩:=id a5.bZ;let⟨e,f3,x⟩:=aU f (θ #[ϑ W,O J,O t,O z,ο l (j:D) L] 60);have b1:=x.aE;have d3:e f=W:=cR x.at_ A;have c1:e (f,1)=J:=cR x.at_ A;have e2:e (f,2)=t:=cR x.at_ A;have e4:e (f,3)=z:=cR x.at_ A;have c4:e (f,4)=ο l (j:D) L:=cR x.at_ A;have b6:=F (vj W J t z _ j e (a5.hQ b1) e8);have c3:=F x.at_;have k:=QC (∀(a:D) h,j[a]?=M h->∃q s,l=M ⟨q,s,ζ⟩/\a<L/\e ⟨q,s+a,ζ⟩=O h) λa h w=>by
  let⟨q,s,ag,ah,a0⟩:=c0 a h w;exact⟨q,s,ag,ah,b1.ce a0⟩
 have a8:=F b1;clear c0 a5 x b1;go_enter func52,ntmps52;go_wp2_with fail;go_call b6.o as b r ⟨⟨a7,rfl,E⟩,y⟩;have v:=F (a8.o.t (y.m a8.o.z));have b3:=F (y.ke c3.o);have b7:=QC (∀(a:D) h,j[a]?=M h->∃q s,l=M ⟨q,s,ζ⟩/\a<L/\r ⟨q,s+a,ζ⟩=O h) λa h w=>by
  let⟨q,s,ag,ah,a0⟩:=k.o a h w;exact⟨q,s,ag,ah,y.ce a0⟩
 have c4:=y.ce c4;clear k b6 d3 c1 e2 e4;cases a7 with
 |false=>
  have n:=QC (¬sC W J t z j) λd=>by have:=E.2 d;cases this
  clear E y;go_wp2;go_ret2;exact⟨Ξ ⟨n.o,A⟩,v.o⟩
 |true=>
  have a6:=E.1 A;obtain⟨u,rfl⟩:∃u:D,W=(u:C):=by
   rcases a6.1 with d|d
   .exact⟨0,d.1⟩
   exact⟨1,d⟩
  have U:=F a6;clear a6;have f5:(j:D)<=200:=U.2.2.2.2.1;clear E y;go_wp2_with (at_make;apply YA hO A _ _ A (j:D) A A H;intro f6 d1 T;have c4:=T.ce c4);have b4:=F d1;have a9:=F T;clear d1 T;go_loopw [4,6,18] (λe9 _ iv wr=>∃(a:D),a<=(j:D)/\iv=ϑ a/\Φ (wr.ownsRow (r:D) 9 1 e9 a ((j.take a).flatMap s1)/\ρ r r wr)) (λ_ _ iv _=>(j:D)-(QI iv).toNat)
  .exact⟨0,H,A,F ⟨b4.o,a9.o⟩⟩
  obtain⟨a,f1,rfl,V⟩:=hrel;by_cases e6:a<(j:D)
  .let⟨h,w⟩:∃h,j[a]?=M h:=⟨_,Gf e6⟩;obtain⟨q,s,rfl,f2,b9⟩:=b7.o a h w;have b9:=V.2.ce b9;have f4:h.size<=1000:=U.2.2.2.2.2 h (Gl w);have b5:=F (cP h wr H);have k:=F w;clear w;go_wp2_with fail;go_call b5.o as b w4 ⟨rfl,N⟩;have i:=F (κ (aK V.1 λq e5=>N.b q (bG V.1 e5).2) (V.2.t (N.m V.2.z)));let⟨m,a4⟩:∃m,tx (Rl.bK (bs h))=m:=⟨_,A⟩;rw[a4];have e1:=QC (t1 h=m) a4;clear N a4 b5;go_wp2_with (at_builtin;apply aP hO i.1 i.2.z;intro f8 Z c2 c8);have X:=F (κ c2 (c8.cT i.1 i.2 i.2.z));clear c2 c8;go_roundw
   .exact⟨a+1,H,gN,F ⟨by
    have:=X.1
    rw[KX,k.o,Hj]
    simpa[s1,e1.o] using this,X.2⟩⟩
   simp[QI];omega
  obtain rfl:a=(j:D):=H;have X:=QC (wr.ownsRow (r:D) 9 1 u4 (j:D) (j.flatMap s1)/\ρ r r wr) ⟨by have:=V.1;rwa [Iy] at this,V.2⟩;clear V b4 a9;have a2:=aab U.o;have d6:=QC (bS wr u4 (j.map t1)) (da (base:=(r:D)) (by
   have:=X.1
   rw[Hp]
   rw[Js,SV]
   exact this))
  have b0:=F (v.o.t (X.2.m v.o.z));have I:=X.2.ke b3.o;have Y:wr f=(u:C):=cR I A;have ab:wr (f,1)=J:=cR I A;have ae:wr (f,2)=t:=cR I A;have e3:wr (f,3)=z:=cR I A;have c7:u=0\/u=1:=by rcases U.1 with d|d<;>omega
  have e7:If.wrap (u:C)=(u:C):=by rcases c7 with rfl|rfl<;>rfl
  have n:=F (λp=>lD u p H);have d8:=F (λp=>cP J p (oA U.2.1));have d9:=F (λp=>cP t p (oA U.2.2.1));have e0:=F (λp=>cP z p (oA U.2.2.2.1));have d4:=F (fun(p:ν) (a7:ρ wr wr p)=>fx p u4 (j.map t1) (d6.o.hQ a7) (by rw[Hp];omega) a2.1);have c6:=F (fun(p:ν)=>fx _ _ _ (MO p (tx (Rl.dg u)) (t1 J) (t1 t) (t1 z) (tx (Rl.eK ((j.map t1).flatMap bs)))) sm a2.2);have o:=F (Ge (wr:D) wr).d;have P:wr.drew f=(u:C)/\wr.drew (f,1)=J/\wr.drew (f,2)=t/\wr.drew (f,3)=z:=⟨Y,ab,ae,e3⟩;have K:wr f=(u:C)/\wr (f,1)=J/\wr (f,2)=t/\wr (f,3)=z:=⟨Y,ab,ae,e3⟩;clear a2 c7 I X b7 b3;go_upto_region 9 with fail;go_region_held3 (λG=>G f=(u:C)/\G (f,1)=J/\G (f,2)=t/\G (f,3)=z) (first|with_reducible exact P|with_reducible exact K) (first|(go_at_call 104;(with_reducible go_call n.o _ as b Z ⟨rfl,c⟩);have K:=vk c P;have P:=K;have o:=F (o.o.t (c.m o.o.z));clear c)|(go_at_call 43;(with_reducible go_call d8.o _ as b Z ⟨rfl,c⟩);have K:=vk c P;have P:=K;have o:=F (o.o.t (c.m o.o.z));clear c)|(go_at_call 43;(with_reducible go_call d9.o _ as b Z ⟨rfl,c⟩);have K:=vk c P;have P:=K;have o:=F (o.o.t (c.m o.o.z));clear c)|(go_at_call 43;(with_reducible go_call e0.o _ as b Z ⟨rfl,c⟩);have K:=vk c P;have P:=K;have o:=F (o.o.t (c.m o.o.z));clear c)|(go_at_call 103;(with_reducible go_call d4.o _ o.o as b Z ⟨rfl,c⟩);have K:=vk c P;have P:=K;have o:=F (o.o.t (c.m o.o.z));clear c;have K:=vk ((Ge _ Z).a QD (θ #[O (tx (Rl.dg u)),O (tx (Rl.bK (bs J))),O (tx (Rl.bK (bs t))),O (tx (Rl.bK (bs z))),O (tx (Rl.eK ((j.map t1).flatMap bs)))] 9)) P)|(go_at_call 103;(apply(c6.o _).m);rintro b f7 ⟨rfl,af⟩;have P:=vk af K;have o:=F (nX o af);clear af));let⟨g,a1⟩:∃g,tx (Rl.eK (bs (tx (Rl.dg u))++(bs (t1 J)++(bs (t1 t)++(bs (t1 z)++bs (tx (Rl.eK (List.flatMap bs (List.map t1 j)))))))))=g:=⟨_,A⟩;rw[a1];have R:=QC (xx (u:C) J t z j=g) (by rw[<-a1];unfold xx;simp);have b2:=F (b0.o.t (o.o.m b0.o.z));clear a1 K P Y ab ae e3 e7;by_cases a3:g.size<=65536
  .have f0:¬(65536:C)<(g.size:C):=H;have S:=F a3;clear a3;go_wp2;go_ret2;exact⟨Θ (Θ ⟨U.o,R.o▸S.o,R.o▸rfl⟩),b2.o⟩
  have f0:(65536:C)<(g.size:C):=H;have S:=QC (65536<g.size) H;clear a3;go_wp2;go_ret2;exact⟨Θ (Ξ ⟨U.o,R.o▸S.o,A⟩),b2.o⟩
def jm (wd j:C)(u t:D)(f:Md.dp):Bool:=(t+1==u)||(LH (j-wd<=f.aG)||decide (0<f.aZ))
def qm (x:π)(f:E Md.dp)(wd j:C)(t:D)(z:Md.dp)(w:ν)(W:bC w x f)(a4:(f:D)<=1000)(O:f[t]?=z)(Y: -1099511627776<=j/\j<=1099511627776)(a0: -1099511627776<=wd/\wd<=1099511627776):
 τ γ 166 #[Γ #[G wd,G j,x],G (t:C)] w λq N=>q=υ (jm wd j (f:D) t z)/\ρ w w N:=by
 have a3:=(Gg.1 O).1;let⟨⟨a,L,k,d⟩,⟨h,I,l,s⟩⟩:=W.fL (Gl O);obtain⟨⟨Z,o,X,rfl,a1,a2,b⟩,_,_⟩:=id W;let⟨g,m,n,p⟩:=b t z O;rw[d] at m;rw[s] at n;let⟨i,a6,c⟩:=aU w (K #[G wd,G j,P (Z,o) (f:D) X] 93);have d0:i w=wd:=cR c.at_ A;have S:i (w,1)=j:=cR c.at_ A;have T:i (w,2)=P (Z,o) (f:D) X:=cR c.at_ A;have g:=c.aE.ce g;have m:=c.aE.ce m;have n:=c.aE.ce n;have p:=c.aE.ce p;have e:=dj i (K #[G z.aG,P a L k,P h I l,G z.aZ] 107);have V:=F (c.aE.t (e.aE.m c.aE.z));have a7:u.wrap (((f:D):C)-1)=((f:D):C)-1:=QQ H;have a8:u.wrap (j-wd)=j-wd:=QQ H;have R:=F c.aH;have a5:(w:D)<(i:D):=oA c.aH;clear b W c e O d s;by_cases M:t+1=(f:D)
 .have r:((t:C)==((f:D):C)-1)=U:=QB;have J:=y (jm wd j (f:D) t z=U) (by simp[jm,M]);rw[J.o];clear M;go_enter func166,ntmps166;go_wp2;go_ret;exact⟨A,V.o⟩
 have r:((t:C)==((f:D):C)-1)=σ:=QB;by_cases v:j-wd<=z.aG
 .have J:=y (jm wd j (f:D) t z=U) (by simp[jm,v]);rw[J.o];clear M;go_enter func166,ntmps166;go_wp2;go_ret;exact⟨A,V.o⟩
 have J:=y (jm wd j (f:D) t z=LH (0<z.aZ)) (by simp[jm,M,v]);rw[J.o];clear M;go_enter func166,ntmps166;go_wp2;go_ret;exact⟨A,V.o⟩
def ln {w:L}{K:S}{f:E fj}(j:eh w K f):∃a u,K=P a (f:D) u/\(a=J->(f:D)=0)/\∀i,a=M i->∀b c,(f.flatMap cv)[b]?=M c->w (i.add b)=M c:=by
 rcases j with⟨a,u,rfl,rfl⟩|⟨W,o,u,rfl,O,z⟩
 .exact⟨a,u,A,λ_=>rfl,λi _ b c g=>by simp at g⟩
 refine⟨_,u,A,nF,λi r b c g=>?_⟩;cases r;have V:(f.flatMap cv:D)=(f:D)*3:=by
  clear O z g;induction f with
  |nil=>rfl
  |cons h y d=>rw[GV,Gk,d];simp[cv];omega
 have U:=(Gg.1 g).1;rw[V] at U;let⟨h,l⟩:∃h,f[b/3]?=M h:=⟨_,Gf H⟩;let⟨e,v,x⟩:=z (b/3) h l;have t:=hP (enc:=cv) (s:=3) (λ_=>rfl) f (b/3) h (b%3) l H;rw[(H:b/3*3+b%3=b),g] at t;rw[Nv];have:b%3=0\/b%3=1\/b%3=2:=H;rcases this with j|j|j
 .rw[j] at t;rw[(H:o+b=o+b/3*3),e];exact t.s
 .rw[j] at t;rw[(H:o+b=o+b/3*3+1),v];exact t.s
 rw[j] at t;rw[(H:o+b=o+b/3*3+2),x];exact t.s
def jw:(N.info? 107).map (·.size)=M 4:=e
section
variable {ops:Array Le}{rest:List Le}{o:Le}{a:Act}{w:ν}{Q:Exit->Act->ν->Prop}
def adl (U:o.guard=J)(u:Kg)(W:o.op=.load 107 u)(j:D)(Z:a.eval u=V j)(M:Λ)(f:QF S)(z:D×D)(X:f.size=4)(P:w.heap[j]?=K f M z)
 (O:Ji N ops Q rest (a.put o.dst (t f)) w):Ji N ops Q (o::rest) a w:=
 XK U 107 u W j Z M f z _ P Lk A (X▸jw) O
def YF (m:o.guard=J)(A M:Kg)(n:o.op=.store 107 A M)(j:D)(q:a.eval A=V j)(f:QF S)(P:f.size=4)(Z:f.all (·.oneCell')=U)(r:a.eval M=t f)(z:Λ)(u:QF S)(p:u.size=4)
 (O:w.heap[j]?=K u z) (X:∀W,bd w W j (K f z)->Ji N ops Q rest (a.put o.dst undef) W):Ji N ops Q (o::rest) a w:=
 Xw m 107 A M n j f q r z u O (P▸jw) (by rw[p,P]) Z (X _ (dk O))
end
def Bh {z:Func}{J:Tmp}(M:z.results=#[.cell J 107]){j:QF S}{w:L}{u:D}{f:QF S}(P:j.getD J undef=V u)(U:f.size=4)
 (O:w.heap[u]?=K f 107):(results z j).run N w=Je (t f) w:=
 results_cell_row M j w u 107 f (0,0) _ P O Lk A (U▸jw)
def SW:∀b:E dh,(b.flatMap λc=>[O c.1,O c.2]:D)=(b:D)*2
 |[]=>rfl
 |d::b=>by rw[GV,Gk,SW b];simp;omega
def Fg:∀b:E fj,(b.flatMap cv:D)=(b:D)*3
 |[]=>rfl
 |c::b=>by rw[GV,Gk,Fg b];simp[cv];omega
def Fh (j:S):Prop:=∃a f,j=P a 0 f
def Fh.dC (a j:QV JM)(f t u:D):Fh (P a f t)↔Fh (P j f u):=⟨λ⟨_,_,b⟩=>by cases b;exact⟨_,_,A⟩,λ⟨_,_,b⟩=>by cases b;exact⟨_,_,A⟩⟩
structure SX (w:L)(x y:Md.dp):Prop where
 aG:y.aG=x.aG
 aZ:y.aZ=x.aZ
 ei:∃es,dF w y.ei es/\bD es
 fI:∃cs,jv w y.fI cs/\cs.length<=80
 OW:Fh x.ei↔Fh y.ei
def Dr (f:Md.dp)(w:ν)(e5:∃c,dF w f.ei c/\bD c)(e0:∃d,jv w f.fI d/\(d:D)<=80):
 τ γ 164 #[Γ #[G f.aG,f.ei,f.fI,G f.aZ]] w λb c8=>(∃g:Md.dp,b=Γ #[G g.aG,g.ei,g.fI,G g.aZ]/\SX c8 f g)/\T w w c8:=by
 let⟨c,b6,k⟩:=e5;let⟨d,b7,e1⟩:=e0;have f3:=k.aH;let⟨a,r,ae,a6,a8⟩:=sd b6.1;let⟨y,L,b0,a7,a9⟩:=ln b7.1;rw[ae,b0];let⟨q,f5,m⟩:=aU w (K #[G f.aG,P a (c:D) r,P y (d:D) L,G f.aZ] 107);let⟨x,f6,n⟩:=aU q (K #[G 0,P ζ 0 0,P ζ 0 0,G 0] 107);have R:=m.aE.t (n.aE.m m.aE.z);have S:x.heap[(w:D)]?=K #[G f.aG,P a (c:D) r,P y (d:D) L,G f.aZ] 107:=n.aE.ke m.at_;have a4:=n.at_;have c6:x (w,1)=P a (c:D) r:=cR S A;have b3:=SW c;have b2:=Fg d;have a2:=F (Ff a (c:D) r (c.flatMap λb=>[β b.1,β b.2]) x b3 H (λi=>a6 i) (λak ah aj g af=>R.ce (a8 ak ah aj g af)) (λg ag=>by
  let⟨b,_,i⟩:=Jw.1 ag
  simp at i;rcases i with rfl|rfl<;>rfl))
 have a0:=F (fun(h:ν) (c3:T w w h)=>vi y (d:D) L (d.flatMap cv) h b2 H (λi=>a7 i) (λak ah aj g af=>c3.ce (a9 ak ah aj g af)) (λg ag=>by
  let⟨b,_,i⟩:=Jw.1 ag
  simp[cv] at i;rcases i with rfl|rfl|rfl<;>rfl))
 have a1:=F R;have d3:=F k;have d4:=QC (∀a5 c7,Fh f.ei↔Fh (P a5 (c:D) c7)) λa5 c7=>ae▸Fh.dC _ _ _ _ _;have X:=F (κ m.aH n.aH);clear b6 k a8 ae b7 a9 b0 a6 a7 m n R b3 b2;go_enter func164,ntmps164;go_wp2_with fail;go_call a2.o as b b4 ⟨⟨v3,rfl,I⟩,z⟩;clear a2;obtain⟨t,u,rfl⟩:=aR I;have j:=z.ke S;have V:=z.ke a4;have e8:b4 (w,1)=P a (c:D) r:=cR j A;have e9:=aI j 1;have O:=aF (j:=1) (P t (c:D) u) j;generalize e7:b4.setCell (w,1) (P t (c:D) u)=h at O;have ai:=O.at_;have b9:h.heap[(q:D)]?=K #[G 0,P ζ 0 0,P ζ 0 0,G 0] 107:=(O.old _ (oA X.o)).t V;have Y:T w w h:=O.aE _ _ QD (a1.o.t (z.m a1.o.z));have b5:h.ownsRow (x:D) 73 2 (P t (c:D) u) (c:D) (c.flatMap λb=>[β b.1,β b.2]):=aK I λe k=>O.old e λb=>oB (bG I k).1 X.o;have d6:h (w,2)=P y (d:D) L:=cR ai A;have a3:=F (a0.o h Y);have W:=F (κ b5 Y);have c2:=QC ((x:D)<=(h:D)) (O.aH▸z.z);clear a0 I b5 z j V S a4 c6 O Y;go_wp2_with fail;go_call a3.o as b w5 ⟨⟨f0,rfl,J⟩,s⟩;clear a3;obtain⟨M,c5,rfl⟩:=aR J;have j:=s.ke ai;have V:=s.ke b9;have d5:w5 (w,2)=P y (d:D) L:=cR j A;have f1:=aI j 2;have U:=aF (j:=2) (P M (d:D) c5) j;generalize d1:w5.setCell (w,2) (P M (d:D) c5)=Z at U;have c0:Z.heap[(w:D)]?=K #[G f.aG,P t (c:D) u,P M (d:D) c5,G f.aZ] 107:=U.at_;have e6:Z.heap[(q:D)]?=K #[G 0,P ζ 0 0,P ζ 0 0,G 0] 107:=(U.old _ (oA X.o)).t V;have d9:T w w Z:=U.aE _ _ QD (W.2.t (s.m W.2.z));have N:=QC (∀p,bd Z p (q:D) (K #[G f.aG,P t (c:D) u,P M (d:D) c5,G f.aZ] 107)->SX p f ⟨f.aG,f.aZ,P t (c:D) u,P M (d:D) c5⟩/\T w w p) λp v=>by
  have f7:=X.o;have f8:=c2.o;have e4:∀e,(x:D)<=e->e<(w5:D)->p.heap[e]?=w5.heap[e]?:=λe d8 f2=>(v.old e H).t (U.old e H);have f4:=W.2.z;refine⟨⟨A,A,⟨c,.cT (base:=(x:D)) (aK (aQ W.1 s) λe k=>?_),d3.o⟩,⟨d,.cT (base:=(h:D)) (aK J λe k=>?_),e1⟩,d4.o _ _⟩,v.aE _ _ H d9⟩
  .have:=bG (aQ W.1 s) k;exact e4 e this.1 this.2
  have d8:=bG J k;exact(v.old e H).t (U.old e H)
 clear J s j V U ai b9 d6;let⟨CS,l⟩:∃CS:QF π,CS=#[G f.aG,P t (c:D) u,P M (d:D) c5,G f.aZ]:=⟨_,A⟩;have ab:CS.size=4:=l▸rfl;have e2:CS.all (·.oneCell')=ψ:=by rw[l];simp[φ]
 rw[<-l] at c0 N;have d2:=F l;clear l;go_upto_region 3 with fail;try rw[d1]
 go_wp2_with (first|(apply adl A _ A (w:D) A 107 CS (0,0) ab c0)|(apply YF A _ _ A (q:D) A CS ab e2 A 107 #[G 0,P ζ 0 0,P ζ 0 0,G 0] A e6;intro p v));apply QM (Bh A A ab v.at_) A;exact⟨⟨⟨f.aG,f.aZ,P t (c:D) u,P M (d:D) c5⟩,by rw[d2.o],(N.o p v).1⟩,(N.o p v).2⟩
def eV (j o:L):Prop:=(∀u J,eN j u J->eN o u J)/\∀f,(∀A,j f=O A->o f=O A)/\∀t,j f=z t->o f=z t
def cq.bK {j:L}{u:E dh}(f:cq g m u)(z:eV g j):cq j m u:=by
 rcases f with f|⟨A,O,J,K,M,t⟩
 .exact o f
 exact Θ ⟨A,O,J,K,M,λa b d=>⟨(z.2 _).1 _ (t a b d).1,(z.2 _).1 _ (t a b d).2⟩⟩
def eh.bK {j:L}{z:E fj}(f:eh g m z)(u:eV g j):eh j m z:=by
 rcases f with f|⟨A,O,J,K,M,t⟩
 .exact o f
 exact Θ ⟨A,O,J,K,M,λe a d=>⟨(u.2 _).1 _ (t e a d).1,(u.2 _).1 _ (t e a d).2.1,(u.2 _).2 _ (t e a d).2.2⟩⟩
def iZ.bK (o:iZ g m p)(f:eV g s):iZ s m p:=λj i h e=>f.1 _ _ (o j i h e)
def dF.bK {j:E dh}(f:dF g m j)(o:eV g s):dF s m j:=⟨f.1.bK o,f.2.bK o⟩
def jv.bK {j:E fj}(f:jv g m j)(o:eV g s):jv s m j:=⟨f.1.bK o,f.2.bK o⟩
def bC.set {l:E Md.dp}{x b:Md.dp}(I:bC g (ο w q a) l)(U:l[i]?=x)(T:∃u,dF g b.ei u/\bD u)(ae:∃t,jv g b.fI t/\t.length<=80):
 bC (g.setCells w (i*4) (gS b)) (ο w q a) (l.set i b):=by
 have b3:=(Gg.1 U).1;obtain⟨⟨a8,b7,b0,a1⟩,⟨a9,b4,b2,a0⟩⟩:=I.fL (Gl U);obtain⟨⟨m,b5,b6,s,a7,L,F⟩,Y,ab⟩:=I;simp only[Gy,Gd,GS,QW] at s;obtain⟨⟨rfl,rfl⟩,rfl,rfl⟩:=s;obtain⟨X,K,M,Z⟩:=F i x U;rw[a1] at K;rw[a0] at M;simp only[GU] at X K M Z;have af:∀j,j<(gS b).length->(g ⟨w,i*4+j,J⟩).isSome=ψ:=λj n=>by
  have n:j<4:=n;rcases(by omega:j=0\/j=1\/j=2\/j=3) with rfl|rfl|rfl|rfl
  .rw[JC,X];rfl
  .rw[K];rfl
  .rw[M];rfl
  rw[Z];rfl
 have ah:∀c:JM,(c.block=w->c.spot=J->c.off<i*4\/i*4+(gS b).length<=c.off)\/∃j,j<4/\c=⟨w,i*4+j,J⟩:=λc=>by
  by_cases N:c.block=w/\c.spot=J/\i*4<=c.off/\c.off<i*4+4
  .obtain⟨v,h,e3,S⟩:=N;refine Θ ⟨c.off-i*4,by omega,?_⟩;cases c;simp only at v h e3 S ⊢;subst v;subst h;congr 1;omega
  refine Ξ λv h=>?_;have W:(gS b).length=4:=A;have L:¬(i*4<=c.off/\c.off<i*4+4):=λI=>N ⟨v,h,I.1,I.2⟩;rw[W];omega
 have G:∀(r:E π) (e:D) (g:ν) (m:D) (d:Λ),eN g m d->eN (g.setCells w e r) m d:=λr=>by
  induction r with
  |nil=>exact λ_ _ _ _ I=>I
  |cons c0 b9 a2=>exact λe g m d I=>a2 (e+1) _ m d (I.bV _ _)
 have O:eV g (g.setCells w (i*4) (gS b)):=⟨λm d ai=>G _ _ _ _ _ ai,λc=>by
  rcases ah c with ag|⟨j,n,rfl⟩
  .rw[World.cell?_setCells_out w (gS b) (i*4) g c ag]
   exact⟨λ_ I=>I,λ_ I=>I⟩
  rcases(by omega:j=0\/j=1\/j=2\/j=3) with rfl|rfl|rfl|rfl
  .rw[JC,X];exact⟨(λ_ I=>by cases I),λ_ I=>by cases I⟩
  .rw[K];exact⟨(λ_ I=>by cases I),λ_ I=>by cases I⟩
  .rw[M];exact⟨(λ_ I=>by cases I),λ_ I=>by cases I⟩
  rw[Z];exact⟨(λ_ I=>by cases I),λ_ I=>by cases I⟩⟩
 have z:=λj (n:j<(gS b).length)=>World.cell?_setCells_in w (gS b) (i*4) g af j n;refine⟨⟨w,0,a,by rw[KM],by rwa[KM],G _ _ _ _ _ L,λe p y=>?_⟩,λp k=>?_,λp k=>?_⟩
 .by_cases V:e=i
  .subst V;rw[KH H] at y;obtain rfl:=Gm y;simp only[GU];exact⟨by have:=z 0 (by show 0<4;omega);simpa[gS] using this,by have:=z 1 (by show 1<4;omega);simpa[gS] using this,by have:=z 2 (by show 2<4;omega);simpa[gS] using this,by have:=z 3 (by show 3<4;omega);simpa[gS] using this⟩
  rw[La (λR=>V R.s)] at y;have W:(gS b).length=4:=A;have P:∀j,j<4->(g.setCells w (i*4) (gS b)) ⟨w,0+e*4+j,J⟩=g ⟨w,0+e*4+j,J⟩:=λj n=>World.cell?_setCells_out w (gS b) (i*4) g _ λ_ _=>by
   show 0+e*4+j<i*4\/i*4+(gS b).length<=0+e*4+j;rw[W];rcases Nat.lt_or_gt_of_ne V with I|I<;>omega
  obtain⟨a3,a4,a5,a6⟩:=F e p y;exact⟨(P 0 H).t a3,(P 1 H).t a4,(P 2 H).t a5,(P 3 H).t a6⟩
 .rcases JE k with I|rfl
  .obtain⟨u,o,f⟩:=Y p I;exact⟨u,o.bK O,f⟩
  obtain⟨u,o,f⟩:=T;exact⟨u,o.bK O,f⟩
 rcases JE k with I|rfl
 .obtain⟨t,o,f⟩:=ab p I;exact⟨t,o.bK O,f⟩
 obtain⟨t,o,f⟩:=ae;exact⟨t,o.bK O,f⟩
structure eW (vs us:E Md.dp):Prop where
 cB:us.length=vs.length
 yQ:∀(k:D) (x y:Md.dp),vs[k]?=x->us[k]?=y->y.aG=x.aG/\y.aZ=x.aZ/\(Fh x.ei↔Fh y.ei)
def eW.bQ (f:E Md.dp):eW f f:=⟨A,λd e b c a=>by rw[c] at a;obtain rfl:=Gm a;exact⟨A,A,Iff.rfl⟩⟩
def eW.set {j t:E Md.dp}(o:eW j t){x f:Md.dp}(z:t[w]?=x)(A:f.aG=x.aG)(J:f.aZ=x.aZ)(K:Fh x.ei↔Fh f.ei):eW j (t.set w f):=by
 refine⟨by rw[KM];exact o.cB,λb g l h a=>?_⟩;by_cases u:b=w
 .subst u;rw[KH (Gg.1 z).1] at a;obtain rfl:=Gm a;have:=o.yQ b g x h z;exact⟨A.t this.1,J.t this.2.1,this.2.2.trans K⟩
 rw[La (λm=>u m.s)] at a;exact o.yQ b g l h a
def qn:∀a:E Md.dp,(a.flatMap gS:D)=(a:D)*4
 |[]=>rfl
 |b::a=>by rw[GV,Gk,qn a];simp[gS];omega
def yR:(N.info? 107).map (λa=>(a.zero,a.size,a.bytes))=M (M (t #[G 0,P J 0 0,P J 0 0,G 0]),4,64):=e
def MP {f:E Md.dp}(u:bC g m f):bC (g.alloc (K (f.flatMap gS).toArray 107)) (P g (f:D) (f:D)) f:=by
 have z:T g g (g.alloc (K (f.flatMap gS).toArray 107)):=QG.a d _;have t:=u.aE z;have o:=Gc g (K (f.flatMap gS).toArray 107);refine⟨⟨g,0,(f:D),A,d,⟨_,_,o⟩,λh i n=>?_⟩,t.ei,t.fI⟩;have M:=λc (e:c<4)=>hP (enc:=gS) (s:=4) (λ_=>rfl) f h i c n e;have j:∀c,c<4->(g.alloc (K (f.flatMap gS).toArray 107)) ⟨g,0+h*4+c,J⟩=(gS i)[c]?:=λc e=>by
  rw[QH o,<-M c e,GU,<-IQ]
 exact⟨(j 0 H).t A,(j 1 H).t A,(j 2 H).t A,(j 3 H).t A⟩
def pa {o:E Md.dp}(f:bC g m o):∃c b h,m=P (M ⟨c,b,J⟩) (o:D) h/\∀a i,(o.flatMap gS)[a]?=M i->g ((⟨c,b,J⟩:JM).add a)=M i:=by
 let⟨⟨c,b,h,n,v,w,e⟩,_,_⟩:=f;refine⟨c,b,h,n,λa i d=>?_⟩;have t:=(Gg.1 d).1;rw[qn] at t;let⟨l,k⟩:∃l,o[a/4]?=M l:=⟨_,Gf H⟩;let⟨q,r,p,s⟩:=e (a/4) l k;have j:=hP (enc:=gS) (s:=4) (λ_=>rfl) o (a/4) l (a%4) k H;rw[(H:a/4*4+a%4=a),d] at j;rw[Nv];rcases(by omega:a%4=0\/a%4=1\/a%4=2\/a%4=3) with f|f|f|f<;>rw[f] at j
 .rw[(H:b+a=b+a/4*4),q];exact j.s
 .rw[(H:b+a=b+a/4*4+1),r];exact j.s
 .rw[(H:b+a=b+a/4*4+2),p];exact j.s
 rw[(H:b+a=b+a/4*4+3),s];exact j.s
def jS (j f:D)(t:f≠j):∀(e:E S) (o:D) (w:L),(w.setCells j o e).heap[f]?=w.heap[f]?
 |[],_,_=>rfl
 |g::b,q,w=>by rw[World.setCells,jS j f t b (q+1) _];exact QJ t
def mY (f:D):∀(g:E S) (o:D) (w:L) (c:QF S) (d:Λ),w.heap[f]?=K c d->∃j,(w.setCells f o g).heap[f]?=K j d
 |[],_,_,c,_,e=>⟨c,e⟩
 |i::h,q,w,c,d,e=>by
  rw[World.setCells];exact mY f h (q+1) _ _ d (aF (j:=q) i e).at_
def mZ {B f:D}{a:L}(j:B<=f):∀(g:E S) (o:D) (w:L),T B a w->T B a (w.setCells f o g)
 |[],_,_,b=>b
 |i::h,q,w,b=>by
  rw[World.setCells];refine mZ j h (q+1) _ ⟨b.os,b.tape,b.output,show(w.setCell (f,q) i).heap.size=w by simp[PZ]▸b.z,λd c=>(QJ (H:d≠f)).t (b.b d c)⟩
def vl:(N.info? 93).map (·.size)=M 3:=e
section
variable {ops:Array Le}{rest:List Le}{o:Le}{a:Act}{w:ν}{Q:Exit->Act->ν->Prop}
def yS (U:o.guard=J)(u:Kg)(W:o.op=.load 93 u)(j:D)(Z:a.eval u=V j)(M:Λ)(f:QF S)(z:D×D)(X:f.size=3)(P:w.heap[j]?=K f M z)
 (O:Ji N ops Q rest (a.put o.dst (t f)) w):Ji N ops Q (o::rest) a w:=
 XK U 93 u W j Z M f z _ P Ph A (X▸vl) O
def adm (m:o.guard=J)(A M:Kg)(n:o.op=.store 93 A M)(j:D)(q:a.eval A=V j)(f:QF S)(P:f.size=3)(Z:f.all (·.oneCell')=U)(r:a.eval M=t f)(z:Λ)(u:QF S)(p:u.size=3)
 (O:w.heap[j]?=K u z) (X:∀W,bd w W j (K f z)->Ji N ops Q rest (a.put o.dst undef) W):Ji N ops Q (o::rest) a w:=
 Xw m 93 A M n j f q r z u O (P▸vl) (by rw[p,P]) Z (X _ (dk O))
end
def pb {z:Func}{J:Tmp}(M:z.results=#[.cell J 93]){j:QF S}{w:L}{u:D}{f:QF S}(P:j.getD J undef=V u)(U:f.size=3)
 (O:w.heap[u]?=K f 93):(results z j).run N w=Je (t f) w:=
 results_cell_row M j w u 93 f (0,0) _ P O Ph A (U▸vl)
structure SY (w:L)(B0 B1 g:D)(m0:QF S)(vs us:E Md.dp)(wr:L):Prop where
 SZ:bC wr (P g vs.length vs.length) us
 iR:eW vs us
 aE:T w w wr
 jA:wr.heap[B0]?=K m0 93
 vm:wr.heap[B1]?=K #[G 0,G 0,P J 0 0] 93
 jJ:∃cur,wr.heap[g]?=K cur 107
def SY.fb {w wr j:ν}{e f g i:Nat}{l:QF π}{m h:List Md.dp}{x y:Md.dp}(c:SY w e f g l m h wr)(b:ρ wr wr j)(k:h[i]?=x)(d:SX j x y)(s:w.heap.size<=g)(p:e≠g)(q:f≠g):SY w e f g l m (h.set i y) (j.setCells g (i*4) (gS y)) where
 SZ:=(c.SZ.aE b).set k d.ei d.fI
 iR:=c.iR.set k d.aG d.aZ d.OW
 aE:=mZ s _ _ _ (c.aE.t (b.m c.aE.z))
 jA:=(jS g e p _ _ _).t (b.ke c.jA)
 vm:=(jS g f q _ _ _).t (b.ke c.vm)
 jJ:=by
  obtain⟨n,r⟩:=c.jJ;exact mY g _ _ _ n 107 (b.ke r)
section
variable {ops:Array Le}{rest:List Le}{o:Le}{a:Act}{w:ν}{Q:Exit->Act->ν->Prop}{g:Nat}{cs z:Array π}{t:Λ}
theorem uS (M:w.heap[g]?=K z t)(P:∀u,bd w u g (K cs t)->Ji N ops Q rest (a.put o.dst undef) u)(X:o.guard=J:=by exact A){f j:Kg}(Z:o.op=.store 93 f j:=by exact A)(m:a.eval f=V g:=by exact A)(n:a.eval j=Γ cs:=by exact A)(O:cs.size=3:=by first|assumption|exact A)(W:cs.all (·.oneCell')=U:=by first|assumption|simp[φ])(l:z.size=3:=by exact A):Ji N ops Q (o::rest) a w:=adm X f j Z g m cs O W n t z l M P
theorem uT (M:w.heap[g]?=K z t)(P:∀u,bd w u g (K cs t)->Ji N ops Q rest (a.put o.dst undef) u)(X:o.guard=J:=by exact A){f j:Kg}(Z:o.op=.store 107 f j:=by exact A)(m:a.eval f=V g:=by exact A)(n:a.eval j=Γ cs:=by exact A)(O:cs.size=4:=by exact A)(W:cs.all (·.oneCell')=U:=by simp[φ])(l:z.size=4:=by exact A):Ji N ops Q (o::rest) a w:=YF X f j Z g m cs O W n t z l M P
end
def dG (e:∀b:D,s.heap[b]?=g.heap[b]?\/∃(d:Q S) (i:Λ) (h:D×D),g.heap[b]?=K d i h/\eN s b i/\∀(p:D) (m:S),d[p]?=m->(∀k,m≠O k)/\∀n,m≠z n):eV g s:=⟨λb i a=>by
 rcases e b with f|⟨d,o,h,f,j,_⟩
 .let⟨d,h,a⟩:=a
  exact⟨d,h,f.t a⟩
 .let⟨q,r,a⟩:=a
  rw[f] at a
  simp only[Gd,Hq] at a
  obtain⟨_,rfl,_⟩:=a
  exact j,λl=>by
 rcases e l.block with f|⟨d,i,h,f,_,j⟩
 .have:s l=g l:=by simp only[Iz,f]
  rw[this]
  exact⟨λ_ e=>e,λ_ e=>e⟩
 refine⟨λk c=>?_,λn c=>?_⟩
 all_goals
  rw[Iz,f] at c
  simp only at c
  split at c
  .cases c
  first|exact absurd A ((j _ _ c).1 _)|exact absurd A ((j _ _ c).2 _)⟩
def bC.jT {A:E Md.dp}(M:bC g (P w q a) A)(t:eV g s)(y:s.heap[w]?=g.heap[w]?)(c:g.heap.size<=s.heap.size):bC s (P w q a) A:=by
 obtain⟨⟨d,h,i,z,V,W,X⟩,K,Z⟩:=M;have u:=z;simp only[Gy,Gd,GS,QW] at u;obtain⟨⟨rfl,rfl⟩,_,rfl⟩:=u;have f:∀k,s ⟨w,k,J⟩=g ⟨w,k,J⟩:=λk=>by simp only[Iz,y]
 refine⟨⟨w,0,a,z,V,t.1 _ _ W,λr e b=>?_⟩,λe b=>?_,λe b=>?_⟩
 .rw[f,f,f,f];exact X r e b
 .obtain⟨O,j,o⟩:=K e b;exact⟨O,j.bK t,o⟩
 obtain⟨U,j,o⟩:=Z e b;exact⟨U,j.bK t,o⟩
def Bi {f o:S}(t:(∀b,m≠O b)/\∀j,m≠z j)(u:(∀b,f≠O b)/\∀j,f≠z j)(A:(∀b,o≠O b)/\∀j,o≠z j):∀(k:D) (c:S),(#[m,f,o]:Q S)[k]?=c->(∀b,c≠O b)/\∀f,c≠z f
 |0,c,a=>by cases Gm a;exact t
 |1,c,a=>by cases Gm a;exact u
 |2,c,a=>by cases Gm a;exact A
 |_+3,c,a=>by simp at a
def db (t u:C)(f:QV JM)(o j:D):∀(e:D) (a:S),(#[t,u,P f o j]:Q S)[e]?=a->(∀g,a≠O g)/\∀c,a≠z c:=
 Bi ⟨R,R⟩ ⟨R,R⟩ ⟨R,R⟩
def sW:N.underlying 91=M (.slice 107):=e
def Wp (o:L)(f:D)(M:f<=1000):∃A:Q S,A.size=f*4/\(Instr.makeSlice 91 (G (f:D)) (G (f:D))).run N o=Je (ο o f f) (o.alloc (K A 107)):=by
 have j:=yR;cases z:N.info? 107 with
 |none=>rw[z] at j;cases j
 |some i=>
  rw[z] at j;simp only[JR,Gd,Hf] at j;let⟨g,a,h⟩:=j;refine⟨madeCells (t #[G 0,ο J 0 0,ο J 0 0,G 0]).cells (f*4),by simp[madeCells],?_⟩;have:=run_makeSlice (P:=N) (w:=o) 91 107 i _ sW z g u u (f:C) (f:C) H H (by rw[a];simp;omega) (by rw[h];omega) H;rw[a] at this;simpa using this
def Wq (j:L)(O:S)(f:E Md.dp)(z:bC j O f)(o:Q S)(W:o.size=(f:D)*4)(A:Λ)(u:D)(t:(j:D)=u):
 (Builtin.copy_ #[91,91] A #[ο u (f:D) (f:D),O]).run N (j.alloc (K o 107))=Je (G ((f:D):D)) (j.alloc (K (f.flatMap gS).toArray 107)):=by
 subst t;obtain⟨V,X,U,rfl,s⟩:=pa z;have t:T j j (j.alloc (K o 107)):=QG.a d _;have Z:(N.info? 107).map (·.size)=M 4:=jw;have:=Cc.mJ (P:=N) (j.alloc (K o 107)) 91 91 A 107 j 0 (f:D) (f:D) ⟨V,X,J⟩ (f:D) U 4 (f:D) o 107 (f.flatMap gS) sW Z (Gc j (K o 107)) R (by rw[qn]) (λm e q=>t.ce (s m e q)) (by rw[qn];omega) (λh a=>by
  let⟨g,c,a⟩:=Jw.1 a
  let⟨⟨y,k,v,b⟩,⟨i,x,w,p⟩⟩:=z.fL c
  simp only[gS,b,p,GF,Hv,Xf] at a
  rcases a with rfl|rfl|rfl|rfl<;>rfl)
 rw[World.setRow_alloc_new] at this;have hd:List.drop (f.flatMap gS:D) o.toList=[]:=JP (by rw[qn];simp[W]);have b:(o.toList.take 0++f.flatMap gS++o.toList.drop (0+(f.flatMap gS:D))).toArray=(f.flatMap gS).toArray:=by rw[GU,hd,Hw,Ho,IS]
 rwa[b] at this
structure Fj (w:L)(wd nx:C)(vs:E Md.dp)(e:He)(w':L):Prop where
 vm:∃g us,e=t #[G wd,G nx,P (M ⟨g,0,J⟩) vs.length vs.length]/\w.heap.size<=g/\bC w' (P (M ⟨g,0,J⟩) vs.length vs.length) us/\eW vs us/\∃cur,w'.heap[g]?=K cur 107
 aE:T w w w'
theorem vn (a0:π)(f:E Md.dp)(wd u:C)(j:ν)(I:bC j a0 f)(h9:(f:D)<=1000):
 τ γ 90 #[Γ #[G wd,G u,a0]] j λc8 i6=>Fj j wd u f c8 i6:=by
 obtain⟨⟨V,J,O,rfl,h3,h8,w⟩,h6,h4⟩:=id I;let⟨l,j3,x⟩:=aU j (K #[G wd,G u,ο (V,J) (f:D) O] 93);let⟨b,j4,y⟩:=aU l (K #[G 0,G 0,ο ζ 0 0] 93);have N:=x.aE.t (y.aE.m x.aE.z);have a7:=I.aE N;let⟨e,d6,i0⟩:=Wp b (f:D) h9;have d8:=λi5=>Wq b _ f a7 e d6 i5 (b:D) A;have a8:=MP a7;have W:=dj b (K (f.flatMap gS).toArray 107);have c6:b (j,2)=ο (V,J) (f:D) O:=Below.ce y.aE (cR x.at_ A);have f6:=dj b (K e 107);have c7:(b.alloc (K e 107)) (j,2)=ο (V,J) (f:D) O:=Below.ce f6.aE c6;let⟨f7,f1⟩:∃f7,b.alloc (K e 107)=f7:=⟨_,A⟩;let⟨b0,e9⟩:∃b0,b.alloc (K (f.flatMap gS).toArray 107)=b0:=⟨_,A⟩;rw[f1] at i0 d8 c7;rw[e9] at d8 a8 W;have a9:(l:D)=(j:D)+1:=x.aH;have f3:(b:D)=(j:D)+2:=by rw[y.aH,a9]
 have g4:Φ (SY j (j:D) (l:D) (b:D) #[G wd,G u,ο (V,J) (f:D) O] f f b0):=F
  ⟨a8,.bQ f,N.t (W.aE.m N.z),Below.ke W.aE (Below.ke y.aE x.at_),Below.ke W.aE y.at_,⟨_,W.at_⟩⟩
 have X:=F (κ a9 f3);clear a9 f3 x y W f6 N a7 a8 I w h6 h4 h8 h3 d6 f1 e9;go_enter func90,ntmps90;go_wp2;go_loopw [16] (λiv wr=>∃(d:D) (v:E Md.dp),d<=(f:D)/\iv=G d/\Φ (SY j (j:D) (l:D) (b:D) #[G wd,G u,ο (V,J) (f:D) O] f v wr)) (λiv _=>(f:D)-(QI iv).toNat);case atStart=>exact⟨0,f,H,A,g4⟩
 case round=>
  obtain⟨d,v,j0,rfl,z⟩:=hrel;have Y:=z.o.iR.cB;by_cases j1:d<(f:D)
  .let⟨g,ae⟩:∃g,v[d]?=δ g:=⟨_,Gf H⟩;have ab:=z.o.SZ;have af:=Gl ae;let⟨⟨b2,g0,c2,a4⟩,⟨b9,ai,c3,a3⟩⟩:=ab.fL af;have h7:=ab.ei g af;have h5:=ab.fI g af;let⟨⟨g9,i4,g1,q,_,_,w⟩,_,_⟩:=ab;simp only[Gy,Gd,GS,QW] at q;obtain⟨⟨rfl,rfl⟩,-,rfl⟩:=q;let⟨L,i,p,s⟩:=w d g ae;rw[a4] at i;rw[a3] at p;simp only[GU] at L i p s;have aj:=dj wr (K #[G g.aG,ο b2 g0 c2,ο b9 ai c3,G g.aZ] 107);let⟨g3,e0,d9⟩:=h7;let⟨g2,e2,d4⟩:=h5;have a1:=F (Dr g (wr.alloc (K #[G g.aG,ο b2 g0 c2,ο b9 ai c3,G g.aZ] 107)) ⟨g3,e0.aE aj.aE,d9⟩ ⟨g2,e2.aE aj.aE,d4⟩);rw[a4,a3] at a1;have b7:=F ae;have b4:=F aj.aE;have b6:=F Y;clear w ae af a4 a3 e0 e2 aj Y d9 d4;go_wp2_with fail;apply a1.o.m;rintro c8 M ⟨⟨o,rfl,ag⟩,c0⟩;have T:=b4.o.t (c0.m b4.o.z);have i1:=F (z.o.fb T b7.o ag (oA X.2) (oA X.2) (oA X.o));have d3:=(z.o.SZ.aE T).at_;have e5:∃e,M.heap[(b:D)]?=K e 107:=by
    let⟨e,k⟩:=z.o.jJ;exact⟨e,Below.ke T k⟩
   have e6:M.there (b:D) (d*4) 4:=λm S=>by
    let⟨e,k⟩:=e5;refine⟨?_,aI k _⟩;let⟨g9,i4,g1,q,_,_,w⟩:=d3;simp only[Gy,Gd,GS,QW] at q;obtain⟨⟨rfl,rfl⟩,_,rfl⟩:=q;let⟨L,i,p,s⟩:=w d g b7.o;simp only[GU] at L i p s;rcases(by omega:m=0\/m=1\/m=2\/m=3) with rfl|rfl|rfl|rfl
    .rw[JC,L];rfl
    .rw[i];rfl
    .rw[p];rfl
    rw[s];rfl
   let⟨i9,e1,_⟩:=ag.ei;let⟨i8,e4,_⟩:=ag.fI;let⟨j6,j8,f9,_⟩:=e1.1.bZ;let⟨j7,j9,f8,_⟩:=e4.1.bZ;have d2:(gS o).toArray.all (·.oneCell')=ψ:=XN λk0 e7=>by
    simp only[gS,f9,f8,GF,Hv,Xf] at e7;rcases e7 with rfl|rfl|rfl|rfl<;>rfl
   have f2:(Γ #[G o.aG,o.ei,o.fI,G o.aZ])=Γ (gS o).toArray:=A;have i2:(γ.info? 107).map (·.size)=δ (gS o).toArray.size:=jw;have e8:(gS o).toArray.toList=gS o:=A;rw[f2];generalize a2:(gS o).toArray=Z at *;have h1:Z.size=4:=a2▸rfl;have a6:M.there (b:D) (d*4) Z.size:=h1▸e6;have g6:=F (κ a2 e8);have j2:(storeCells ⟨b,d*4,ζ⟩ Z.toList).run γ M=Je () (M.setCells (b:D) (d*4) Z.toList):=by
    have:=run_storeCells_cells (P:=γ) (b:D) (d*4) Z.toList 0 M (λm S=>by simpa using(a6 m (sU S)).1) (λm S=>by simpa using(a6 m (sU S)).2) (λa0 I=>(JA.1 d2) a0 (sU I));simpa using this
   clear a2 e8 f2 f9 f8 e1 e4 d3 e5 ag c0 T L i p s a1 e6 a6 d2 i2;go_wp2;go_roundw;case rel=>exact⟨d+1,v.set d o,H,gN,g6.2▸i1⟩
   case measure=>simp[QI];omega
  obtain rfl:d=(f:D):=H;have ah:=z.o.jA;have f4:=z.o.vm;have U:=F z.o;have g8:=aI ah 2;have t:=aF (j:=2) (ο b (f:D) (f:D)) ah;let⟨h,f0⟩:∃h,wr.setCell (j,2) (ο b (f:D) (f:D))=h:=⟨_,A⟩;rw[f0] at t;have f5:=t.at_;have ai:h.heap[(l:D)]?=_:=(t.old _ (oA X.o)).t f4;have g7:wr (j,2)=ο (V,J) (f:D) O:=cR ah A;have g5:=F t;have b6:=F Y;clear Y ah f4 t c6 c7;go_upto_region 9 with fail;have b5:=QC (∀r,bd h r (l:D) (K #[G wd,G u,ο b (f:D) (f:D)] 93)->Fj j wd u f (ι (Γ #[G wd,G u,ο b (f:D) (f:D)])) r) λr c=>by
   have j5:=X.o;have t:=g5.o;have a5:∀a,a≠(j:D)->a≠(l:D)->r.heap[a]?=wr.heap[a]?:=λa R h0=>(c.old a h0).t (t.old a R);have h2:ρ j j h:=t.aE _ _ QD U.o.aE;refine⟨⟨(b:D),v,A,H,?_,U.o.iR,?_⟩,c.aE _ _ H h2⟩
   .refine U.o.SZ.jT (dG λa=>?_) (a5 _ H H) (by rw[c.aH,t.aH];exact QD);by_cases d1:a=(j:D)
    .subst d1;exact Θ ⟨_,_,_,U.o.jA,⟨_,_,(c.old _ H).t t.at_⟩,db _ _ _ _ _⟩
    by_cases R:a=(l:D)
    .subst R;exact Θ ⟨_,_,_,U.o.vm,⟨_,_,c.at_⟩,db _ _ _ _ _⟩
    exact Ξ (a5 a d1 R)
   let⟨e,k⟩:=U.o.jJ;exact⟨e,(a5 _ H H).t k⟩
  clear g7 g8 b6;let⟨CS,n⟩:∃CS:Q π,CS=#[G wd,G u,ο b (f:D) (f:D)]:=⟨_,A⟩;have b3:CS.size=3:=n▸rfl;have i7:CS.all (·.oneCell')=ψ:=by rw[n];simp[φ]
  have i3:h.heap[(j:D)]?=K CS 93:=n▸f5;rw[<-n] at b5;clear f5 n;try rw[f0]
  go_wp2_with (first|(apply yS A _ A (j:D) A 93 CS (0,0) b3 i3)|(refine uS ai ?_;intro r c));apply QM (pb A A b3 c.at_) A;exact b5.o r c
def Ta (j:C)(f:L):Y N 39 #[G j] f λy w=>(∃(wd:C) (n l:D),y=Γ #[G wd,G 1,P n 1 l]/\wd=min (max j 1) 8/\bC w (P n 1 l) [⟨0,0,P J 0 0,P J 0 0⟩])/\T f f w:=by
 let⟨b,s,i⟩:=aU f (K #[G 0,G 0,P J 0 0] 93);let⟨v,I,k⟩:=aU b (K #[G 0,P J 0 0,P J 0 0,G 0] 107);have O:=k.at_;have q:v.heap[(f:D)]?=_:=k.aE.ke i.at_;have Z:(b:D)=(f:D)+1:=i.aH;have W:∀c,bd v c (f:D) (K #[G (min (max j 1) 8),G 1,P b 1 1] 93)->bC c (P b 1 1) [⟨0,0,P J 0 0,P J 0 0⟩]/\T f f c:=λc h=>by
  have z:c.heap[(b:D)]?=_:=(h.old _ H).t O;have e:∀p,c ⟨b,p,J⟩=_:=λp=>QH z;refine⟨⟨⟨(b:D),0,1,A,d,?_,λm x g=>?_⟩,λx g=>?_,λx g=>?_⟩,h.aE _ _ d (i.aE.t (k.aE.m i.aE.z))⟩
  .exact⟨_,_,z⟩
  .cases m with
   |zero=>
    cases Gm g;exact⟨e 0,e 1,e 2,e 3⟩
   |succ m=>simp at g
  .cases GA.1 g;exact⟨[],⟨Ξ ⟨_,_,A,A⟩,.none _ _ _ _⟩,⟨λm l e=>by simp at e,R⟩⟩
  cases GA.1 g;exact⟨[],⟨Ξ ⟨_,_,A,A⟩,.none _ _ _ _⟩,R⟩
 have u:=F W;clear W Z i k O;let⟨CS,a⟩:∃CS:Q S,CS=#[G (min (max j 1) 8),G 1,P b 1 1]:=⟨_,A⟩;have V:CS.size=3:=a▸rfl;have X:CS.all (·.oneCell')=U:=by rw[a];simp[φ]
 have M:=F (show(Γ #[G (min (max j 1) 8),G 1,P b 1 1])=Γ CS by rw[a]);rw[<-a] at u;have r:=F a;clear a;go_enter func39,ntmps39;go_wp2_with (refine adm A _ _ A (f:D) A CS V X M.o 93 #[G 0,G 0,P J 0 0] A q ?_;intro c h);apply QM (pb A A V h.at_) A;exact⟨⟨_,_,_,by rw[<-M.o],A,(u.o c h).1⟩,(u.o c h).2⟩
def Bj (f:E Md.dp):D->C
 |0=> -1
 |b+1=>match f[b]? with|some c=>c.aG|none=> -1
def Wr {f:Md.dY}(j:Md.Ok f){t:Md.dp}(o:f.vs[w]?=t):Bj f.vs w<t.aG/\-1<=Bj f.vs w:=by
 have u:=j.dK t (Gl o);cases w with
 |zero=>simp[Bj];omega
 |succ w=>
  let⟨g,e⟩:∃g,f.vs[w]?=M g:=⟨_,Gf (oA (Gg.1 o).1)⟩;have z:=j.dK g (Gl e);simp only[Bj,e];let⟨h,i⟩:=Gg.1 o;let⟨b1,a⟩:=Gg.1 e;have:=JU.1 j.kx w (w+1) b1 h H;rw[i,a] at this;omega
def Tc {f:Md.dY}(u:Md.Ok f){j:Md.dp}(t:f.vs[w]?=j):jm f.aN f.next (f.vs:D) w j=U:=by
 let⟨i,a⟩:=Gg.1 t;by_cases z:w+1=(f.vs:D)
 .simp[jm,z]
 have A:j∈f.vs.dropLast:=by
  rw[GI];exact⟨w,by rwa[NR,QU H]⟩
 have o:=u.fR j A;have J:=u.aZ j (Gl t);unfold Md.aM at o;unfold jm;simp;rcases o with o|o
 .first|(right;left;omega)|(left;omega)|omega
 first|(right;right;omega)|(right;omega)|omega
theorem ig (a1:π)(f:Md.dY)(o:ν)(m:bC o a1 f.vs)(b6:(f.vs:D)<=1000)(O:Md.Ok f):
 τ γ 91 #[Γ #[Z u f.aN,Z u f.next,a1]] o λs q=>s=ι (υ ψ)/\T o o q:=by
 obtain⟨⟨U,V,w,rfl,f0,f1,e⟩,b4,b3⟩:=id m;let⟨d6,am,ao⟩:=O.cf;let⟨r,g⟩:=Ln.1 am;have al:(f.vs:D)=(r:D)+1:=by rw[g];simp
 have ap:f.vs[(r:D)]?=M d6:=by rw[g];simp
 have K:=F O;let⟨d,c3,n⟩:=aU o (θ #[Z u f.aN,Z u f.next,P (M ⟨U,V,J⟩) (f.vs:D) w] 93);have d0:d.cell? o=M (Z u f.aN):=cR n.at_ A;have af:d.cell? ⟨o,1,J⟩=M (Z u f.next):=cR n.at_ A;have ah:d.cell? ⟨o,2,J⟩=M (P (M ⟨U,V,J⟩) (f.vs:D) w):=cR n.at_ A;have a8:=F (m.aE n.aE);have L:=F n.aE;have c7:d.cell? ⟨U,V+(r:D)*4,J⟩=M (Z u (f.next-1)):=ao▸Below.ce n.aE (e _ _ ap).1;have b1:=O.w1;have a9:=O.w8;have b0:=O.n1;have b2:=O.n2;have f3:u.wrap (((f.vs:D):C)-1)=((r:D):C):=by rw[GD _ H];omega
 have f4:u.wrap (f.next-1)=f.next-1:=GD _ H;have c1:¬f.aN<1:=H;have e4:¬8<f.aN:=H;have e5:¬f.next<1:=H;have c4:¬1048576<f.next:=H;have c5:¬((f.vs:D):C)=0:=H;have e6:(r:D)<(f.vs:D):=H;have e0:=F al;clear e b4 b3 m n ap am ao g O b1 a9 b0 b2 al;go_enter func91,ntmps91;go_wp2_with fail;go_region;go_wp2_with fail;have x:=F (κ d0 (κ af ah));clear d0 af ah c7;go_loopw [3,46] (λc0 iv wr=>∃j:D,j<=(f.vs:D)/\c0=Z u (Bj f.vs j)/\iv=Z u j/\Φ (T d d wr)) (λ_ iv _=>(f.vs:D)-(QI iv).toNat);case atStart=>exact⟨0,H,A,A,F ⟨A,A,A,Gb _,λ_ _=>rfl⟩⟩
 case round=>
  obtain⟨j,f2,rfl,rfl,z⟩:=hrel;by_cases b5:j<(f.vs:D)
  .let⟨b,i⟩:∃b,f.vs[j]?=M b:=⟨_,Gf b5⟩;have W:=a8.o.aE z.o;have X:=Gl i;let⟨⟨p,G,v,aj⟩,⟨ab,a0,ae,ag⟩⟩:=W.fL X;let⟨d4,l,k⟩:=W.ei b X;let⟨⟨e9,f5,d9,ak,_,_,e⟩,_,_⟩:=id W;simp only[Gy,Gd,GS,QW] at ak;obtain⟨⟨rfl,rfl⟩,-,rfl⟩:=ak;let⟨f6,c8,d1,f7⟩:=e j b i;rw[aj] at c8 l;rw[ag] at d1;have t:=dj wr (θ #[Z u b.aG,P p G v,P ab a0 ae,Z u b.aZ] 107);have e1:=F (oP (Xl (λd8:ν=>(d8:D)) c3):(o:D)<(d:D));have b7:=Wr K.o i;have c2:=K.o.aZ b X;have e7:¬b.aG<=Bj f.vs j:=H;have e8:¬b.aZ<0:=H;have e3:¬1048576<b.aZ:=H;have a7:Φ (Bj f.vs (j+1)=b.aG):=F (by simp[Bj,i]);let⟨h,c6⟩:∃h,wr.alloc (θ #[Z u b.aG,P p G v,P ab a0 ae,Z u b.aZ] 107)=h:=⟨_,A⟩;rw[c6] at t;have d2:h.cell? ⟨(wr:D),0,J⟩=M (Z u b.aG):=cR t.at_ A;have f8:h.cell? ⟨(wr:D),1,J⟩=M (P p G v):=cR t.at_ A;have f9:h.cell? ⟨(wr:D),3,J⟩=M (Z u b.aZ):=cR t.at_ A;have S:=F (kN _ d4 h (l.aE t.aE).1 (oA k.aH));have a6:Φ (∀c,T h h c->τ γ 166 #[Γ #[Z u f.aN,Z u f.next,P (M ⟨U,V,J⟩) (f.vs:D) w],Z u (j:C)] c λs q=>s=ι (υ ψ)/\T c c q):=F λc a=>by
    have:=qm _ f.vs f.aN f.next j b c ((W.aE t.aE).aE a) b6 i (oB K.o.n1 K.o.n2) (oB K.o.w1 K.o.w8);rw[Tc K.o i] at this;exact this
   have b9:=z.o.z;have I:∀c,T h h c->c.cell? o=M (Z u f.aN)/\c.cell? ⟨o,1,J⟩=M (Z u f.next)/\c.cell? ⟨o,2,J⟩=M (P (M ⟨U,V,J⟩) (f.vs:D) w):=λc a=>
    ⟨Below.ce a (Below.ce t.aE (Below.ce z.o x.1)),Below.ce a (Below.ce t.aE (Below.ce z.o x.2.1)),Below.ce a (Below.ce t.aE (Below.ce z.o x.2.2))⟩
   have a3:=F I;have a5:=F k;have e2:=F i;have N:=F t.aE;clear e i X aj ag l t k W b7 c2 I;go_wp2_with fail;apply S.o.m;rintro s c ⟨⟨g3,rfl,ai,-,-⟩,a⟩;cases ai.2 a5.o;let⟨s0,s1,g1⟩:=a3.o c a;have d3:=Below.ce a d2;have Y:=F (a6.o c a);have R:=F a;clear a S ai;go_wp2_with fail;apply Y.o.m;rintro s g2 ⟨rfl,y⟩;have g0:=Below.ce y d3;have a2:=F (z.o.t ((N.o.t ((R.o.t (y.m R.o.z)).m N.o.z)).m b9));clear y Y;go_wp2;go_roundw;case rel=>exact⟨j+1,H,by rw[a7.o],gN,a2⟩
   case measure=>simp[QI];omega
  obtain rfl:j=(f.vs:D):=H;have a4:=F (L.o.t (z.o.m L.o.z));go_wp2;go_ret;exact⟨A,a4.o⟩
def fM (o wd:C)(f:E Md.dp)(j:D):E Md.dp:=f.take j++Md.cX o wd (f.drop j)
def Bk (j wd:C)(f:E Md.dp):fM j wd f (f:D)=f:=by
 rw[fM,Iy,List.drop_length];simp[Md.cX]
def MQ (j wd:C)(f:E Md.dp):fM j wd f 0=Md.cX j wd f:=by
 unfold fM;simp
def Ws (t wd:C){j:E Md.dp}{o:Md.dp}(f:j[w]?=o):(fM t wd j (w+1))[w]?=o:=by
 have u:=(Gg.1 f).1;rw[fM,Ir (by rw[GR];omega),JI H];exact f
def Bl (j wd:C){f:E Md.dp}(o:w<=(f:D)):(fM j wd f w:D)=w+(Md.cX j wd (f.drop w):D):=by
 rw[fM,Gk,GR];omega
def Bm (o wd:C)(f:E Md.dp)(j:D):(fM o wd f j:D)<=(f:D):=by
 unfold fM;have:=(Md.gq o wd (f.drop j)).length_le;rw[JD] at this;rw[Gk,GR];omega
def MR (f wd:C){j:E Md.dp}{t:Md.dp}(u:j[w]?=t)(o:jm wd f (fM f wd j (w+1):D) w t=U):fM f wd j w=fM f wd j (w+1):=by
 let⟨l,a⟩:=Gg.1 u;rw[Bl f wd H] at o;unfold fM;rw[KX,u,Kk l,a];cases hd:j.drop (w+1) with
 |nil=>simp[Md.cX]
 |cons h g=>
  have A:=Md.mD f wd (h::g) R;have J:(Md.cX f wd (h::g)).length≠0:=λi=>A (GH i);rw[hd] at o;have z:Md.aM f wd t:=by
   unfold jm at o;unfold Md.aM;simp only[Bool.or_eq_true,beq_iff_eq,XE] at o;omega
  rw[Md.cX,QU z];simp
def MS (f wd:C){j:E Md.dp}{t:Md.dp}(M:j[w]?=t)(o:jm wd f (fM f wd j (w+1):D) w t=X):
 fM f wd j w=(fM f wd j (w+1)).take w++(fM f wd j (w+1)).drop (w+1)/\w+1<(fM f wd j (w+1):D):=by
 let⟨m,k⟩:=Gg.1 M;rw[Bl f wd H] at o ⊢;have O:(j.take (w+1):D)=w+1:=by rw[GR];omega
 have u:(fM f wd j (w+1)).take w=j.take w:=by
  rw[fM,Ja H,Nq,Nh H]
 have z:(fM f wd j (w+1)).drop (w+1)=Md.cX f wd (j.drop (w+1)):=by
  rw[fM,LV H,JP H];rfl
 rw[u,z];rw[fM,Kk m,k];cases hd:j.drop (w+1) with
 |nil=>rw[hd] at o;unfold jm at o;simp[Md.cX] at o
 |cons g a=>
  have K:=Md.mD f wd (g::a) R;have P:(Md.cX f wd (g::a)).length≠0:=λh=>K (GH h);rw[hd] at o;have J:¬Md.aM f wd t:=by
   unfold jm at o;unfold Md.aM;simp[Bool.or_eq_false_iff,Xk,decide_eq_false_iff_not] at o;omega
  rw[Md.cX,QT J];exact⟨A,H⟩
def Bn {z:D×D}{f:E Md.dp}(o:g.heap[w]?=K h 107 z)(V:∀(a:D) (e:S),(f.flatMap gS)[a]?=M e->h[a]?=M e)(u:(f:D)<=q)
 (O:∀b∈f,∃k,dF g b.ei k/\bD k) (U:∀b∈f,∃h,jv g b.fI h/\(h:D)<=80):bC g (P w (f:D) q) f:=by
 refine⟨⟨w,0,q,A,u,⟨_,_,o⟩,λm b B=>?_⟩,O,U⟩;have j:∀a,a<4->g ⟨w,0+m*4+a,J⟩=(gS b)[a]?:=λa c=>by
  have t:=hP (enc:=gS) (s:=4) (λ_=>rfl) f m b a B c;rw[QH o,GU];have W:∃e,(gS b)[a]?=M e:=⟨_,Gf (c:a<(gS b:D))⟩;let⟨e,v⟩:=W;rw[v] at t ⊢;exact V _ _ t
 exact⟨(j 0 H).t A,(j 1 H).t A,(j 2 H).t A,(j 3 H).t A⟩
def Te {f:E Md.dp}(z:bC g (ο (w,q) (f:D) a) f)(j:D)(x:j+1<(f:D))(I:(f:D)<=1000):
 ∃i u,(∀m,(Builtin.append_ #[91,91] m #[ο (w,q) j j,ο (w,q+(j+1)*4) ((f:D)-(j+1)) (a-(j+1))]).run N g=Je (ο g (f.take j++f.drop (j+1):D) i) u)/\
  bC u (ο g (f.take j++f.drop (j+1):D) i) (f.take j++f.drop (j+1))/\T g g u:=by
 let⟨L,R,S,c,y⟩:=pa z;simp only[Gy,Gd,GS,QW] at c;obtain⟨⟨rfl,rfl⟩,-,rfl⟩:=c;have o:=yR;cases t:N.info? 107 with
 |none=>rw[t] at o;cases o
 |some k=>
  rw[t] at o;simp only[JR,Gd,Hf] at o;let⟨F,h,r⟩:=o;have U:(f.take j++f.drop (j+1):D)=j+((f:D)-(j+1)):=QB;have V:f.flatMap gS=(f.take j).flatMap gS++(f.drop j).flatMap gS:=by rw[<-Hj,IZ]
  have W:f.flatMap gS=(f.take (j+1)).flatMap gS++(f.drop (j+1)).flatMap gS:=by rw[<-Hj,IZ]
  have s:((f.take j).flatMap gS:D)=j*4:=by rw[qn,GR];omega
  have M:((f.take (j+1)).flatMap gS:D)=(j+1)*4:=by rw[qn,GR];omega
  have v:((f.drop (j+1)).flatMap gS:D)=((f:D)-(j+1))*4:=by rw[qn,JD]
  have O:=λm=>run_append_grow (P:=N) (w:=g) 91 m 107 k _ sW t F ⟨w,q,J⟩ j j ((f.take j).flatMap gS) (by rwa[h]) (λb n d=>y b n (by
   rwa[V,Ir (Gg.1 d).1]))
   ⟨w,q+(j+1)*4,J⟩ ((f:D)-(j+1)) (a-(j+1)) ((f.drop (j+1)).flatMap gS) (by rwa[h]) (λb n d=>by
    have:=y ((j+1)*4+b) n (by
     rw[W,Jj (oA M),M,show(j+1)*4+b-(j+1)*4=b by omega];exact d)
    rw[Nv] at this ⊢
    rwa[Nat.add_assoc]) H H (by have:=nextslicecap_le (need:=j+((f:D)-(j+1))) (old:=j) H;rw[r];omega)
  rw[<-U] at O;have X:=grownCap_ge g (f.take j++f.drop (j+1):D) j 107;have K:∀l,T g g (g.drew.alloc l):=λl=>Below.alloc QG.d QD l;refine⟨_,_,O,?_,K _⟩;have A:=z.aE (K (θ ((((f.take j).flatMap gS).toArray++((f.drop (j+1)).flatMap gS).toArray)++Builtin.zeroCells (Γ #[G 0,ο J 0 0,ο J 0 0,G 0]).cells (grownCap g (f.take j++f.drop (j+1):D) j 107-(f.take j++f.drop (j+1):D))) 107));refine Bn (Gc g.drew _) (λb Y d=>?_) X (λp e=>A.ei p ?_) (λp e=>A.fI p ?_)
  .rw[Hj] at d;have Z:=(Gg.1 d).1;rw[Qj (sU Z),<-IQ];simpa using d
  all_goals
   rcases GO.1 e with e|e
   .exact JZ e
   exact LS e
def bC.Ds {t:E Md.dp}(u:bC g (P (M ⟨w,q,J⟩) a i) t)(j:eV g s)(z:s.heap[w]?=g.heap[w]?)(A:(g:D)<=(s:D)):bC s (P (M ⟨w,q,J⟩) a i) t:=by
 let⟨⟨y,F,G,m,l,n,v⟩,k,x⟩:=u;have o:=m;simp only[Gy,Gd,GS,QW] at o;obtain⟨⟨rfl,rfl⟩,_,rfl⟩:=o;have f:∀q,s ⟨w,q,J⟩=g ⟨w,q,J⟩:=λq=>by simp only[Iz,z]
 refine⟨⟨w,q,i,m,l,j.1 _ _ n,λr b c=>?_⟩,λb c=>?_,λb c=>?_⟩
 .rw[f,f,f,f];exact v r b c
 .let⟨e,h,d⟩:=k b c;exact⟨e,h.bK j,d⟩
 let⟨p,h,d⟩:=x b c;exact⟨p,h.bK j,d⟩
def ox {o:Xp}{u:Q Le}{z:E Le}{f:Le}{j:Act}{t:Exit->Act->L->Prop}(W:f.guard=J)(P U:Kg)(tx:Λ)(X:f.op=.call {callee:=.builtin .append,args:=#[P,U],argTypes:=#[tx,tx]})
 (M A K:S) (O:L) (s:j.eval P=M) (b:j.eval U=A) (Z:(Builtin.append_ #[tx,tx] f.type #[M,A]).run o g=Je K O) (V:Ji o u t z (j.put f.dst K) O):Ji o u t (f::z) j g:=
 Xt W λ_ a=>by
  simp[Ld,Xb,X,resolve,invoke,builtin,s,b,Z,Ω];exact a _ _ V
structure yT (w:L)(B0 B1:D)(wd nx:C)(vs:E Md.dp)(i:D)(wr:L):Prop where
 jA:∃g o c,wr.heap[B0]?=K #[G wd,G nx,P (M ⟨g,o,J⟩) (fM nx wd vs i).length c] 93/\bC wr (P (M ⟨g,o,J⟩) (fM nx wd vs i).length c) (fM nx wd vs i)/\g≠B0/\g≠B1
 vm:wr.heap[B1]?=K #[G 0,G 0,P J 0 0] 93
 aE:T w w wr
def yT.aM {w:ν}{d e:Nat}{wd f:Int}{h:List Md.dp}{i:Nat}{wr j:ν}(a:yT w d e wd f h i wr)(b:ρ wr wr j):yT w d e wd f h i j where
 jA:=by
  let⟨g,j0,c,k,l,m⟩:=a.jA;exact⟨g,j0,c,b.ke k,l.aE b,m⟩
 vm:=b.ke a.vm
 aE:=a.aE.t (b.m a.aE.z)
def yT.dC {w:ν}{d e:Nat}{wd a:Int}{b:List Md.dp}{i:Nat}{wr:ν}(c:yT w d e wd a b (i+1) wr)(f:fM a wd b i=fM a wd b (i+1)):yT w d e wd a b i wr where
 jA:=by rw[f];exact c.jA
 vm:=c.vm
 aE:=c.aE
theorem xy (b2:π)(o:E Md.dp)(wd f:C)(j:ν)(Y:bC j b2 o)(g2:(o:D)<=1000)(c7: -1099511627776<=f/\f<=1099511627776)(c8: -1099511627776<=wd/\wd<=1099511627776):
 τ γ 95 #[Γ #[G wd,G f,b2]] j λy b4=>(∃b3,y=Γ #[G wd,G f,b3]/\bC b4 b3 (Md.cX f wd o))/\ρ j j b4:=by
 obtain⟨⟨R,ag,ab,rfl,d1,S,d3⟩,c6,c2⟩:=id Y;replace S:=S.lt;let⟨k,g3,d⟩:=aU j (θ #[G wd,G f,P (R,ag) (o:D) ab] 93);let⟨a9,g4,n⟩:=aU k (θ #[G 0,G 0,P ζ 0 0] 93);have w:=d.aE.t (n.aE.m d.aE.z);have x:a9 (j,2)=P (R,ag) (o:D) ab:=Below.ce n.aE (cR d.at_ A);have a7:(k:D)=(j:D)+1:=d.aH;have b7:Φ (yT j (j:D) (k:D) wd f o (o:D) a9):=F
  ⟨⟨R,ag,ab,by rw[Bk];exact Below.ke n.aE d.at_,by rw[Bk];exact Y.aE w,H,H⟩,n.at_,w⟩
 have p:=F a7;have g6:η.wrap (((o:D):C)-1)=((o:D):C)-1:=QQ H;clear a7 d n w Y d3 c6 c2 S d1;go_enter func95,ntmps95;go_wp2_with fail;go_loopw [3] (λiv wr=>∃a:D,a<=(o:D)/\iv=G ((a:C)-1)/\Φ (yT j (j:D) (k:D) wd f o a wr)) (λiv _=>(QI iv+1).toNat);case atStart=>exact⟨(o:D),H,A,b7⟩
 case round=>
  obtain⟨a,f4,rfl,O⟩:=hrel;clear x;cases a with
  |zero=>
   go_upto_region 6 with fail;let⟨l,s,g,b,c,d6,a3⟩:=O.o.jA;have a8:=O.o.vm;have r:=QC (∀v,bd wr v (k:D) (θ #[G wd,G f,P (l,s) (fM f wd o 0:D) g] 93)->bC v (P (l,s) (fM f wd o 0:D) g) (Md.cX f wd o)/\ρ j j v) λv i=>by
    have g5:=p.o;refine⟨?_,i.aE _ _ H O.o.aE⟩;rw[MQ] at c ⊢;refine c.Ds (dG λq=>?_) (i.old l a3) (i.aH▸QD);by_cases W:q=(k:D)
    .subst W;exact Θ ⟨_,_,_,a8,⟨_,_,i.at_⟩,db _ _ _ _ _⟩
    exact Ξ (i.old q W)
   let⟨CS,h⟩:∃CS:Q π,CS=#[G wd,G f,P (l,s) (fM f wd o 0:D) g]:=⟨_,A⟩;have a0:CS.size=3:=h▸rfl;have c3:CS.all (·.oneCell')=ψ:=by rw[h];simp[φ]
   rw[<-h] at r b;have b5:=F h;clear h c;go_wp2_with (first|(apply yS A _ A (j:D) A 93 CS (0,0) a0 b)|(apply uS a8;intro v i));apply QM (pb A A a0 i.at_) A;exact⟨⟨_,by rw[b5.o],(r.o v i).1⟩,(r.o v i).2⟩
  |succ a=>
   let⟨L,ae⟩:∃L,o[a]?=δ L:=⟨_,Gf H⟩;let⟨l,s,g,b,c,d6,a3⟩:=O.o.jA;have f3:=Bm f wd o (a+1);have d0:wr j=wd:=cR b A;have e2:wr (j,1)=f:=cR b A;have x:wr (j,2)=P (l,s) (fM f wd o (a+1):D) g:=cR b A;have V:=F (qm _ _ wd f a L wr c H (Ws f wd ae) c7 c8);have a4:((a+1:D):C)-1=(a:C):=H;have a1:=F ae;have N:=F c;have b9:=F b;rw[a4];clear ae c b a4;generalize K:(fM f wd o (a+1):D)=u at *;have g1:η.wrap ((a:C)-1)=(a:C)-1:=QQ H;cases M:jm wd f u a L with
   |true=>
    rw[M] at V;have d2:=F (MR f wd a1.o (K▸M));clear K M;go_wp2_with fail;apply V.o.m;rintro y t ⟨rfl,z⟩;have U:=F (O.o.aM z);clear z V;go_wp2;go_roundw;case rel=>exact⟨a,H,A,F (U.o.dC d2.o)⟩
    case measure=>simp[QI]
   |false=>
    rw[M] at V;have X:=MS f wd a1.o (K▸M);clear M;go_wp2_with fail;apply V.o.m;rintro y t ⟨rfl,z⟩;have U:=F (O.o.aM z);have I:=N.o.aE z;rw[<-K] at I;have I:bC t.drew _ _:=I.aE QG.d;let⟨ah,w8,e,af,b8⟩:=Te I a X.2 H;rw[K] at e;rw[<-X.1] at e af;have Z:w8.heap[(j:D)]?=_:=Below.ke b8 (Below.ke z.d b9.o);have a5:w8.heap[(k:D)]?=_:=Below.ke b8 (Below.ke (Ge (t:D) t).d U.o.vm);have a2:=U.o.aE.t ((show ρ t t w8 from⟨b8.os,b8.tape,b8.output,b8.z,b8.b⟩).m U.o.aE.z);have J:=aF (j:=2) (P t (fM f wd o a:D) ah) Z;have e4:=aI Z 2;have g8:w8 (j,2)=P (l,s) u g:=cR Z A;have e0:(j:D)+2<=(t:D):=by
     have:=(Qi.1 U.o.vm).choose;have:=p.o;omega
    have b6:Φ (yT j (j:D) (k:D) wd f o a (w8.setCell (j,2) (P t (fM f wd o a:D) ah))):=F
     ⟨⟨(t:D),0,ah,J.at_,af.jT (dG λq=>by
      by_cases W:q=(j:D)
      .subst W;exact Θ ⟨_,_,_,Z,⟨_,_,J.at_⟩,db _ _ _ _ _⟩
      exact Ξ (J.old q W)) (J.old _ (H:(t:D)≠_)) (J.aH▸QD),H,oA p.o⟩,(J.old _ (oA p.o)).t a5,J.aE _ _ QD a2⟩
    have f1:¬g=a+1:=by
     let⟨q,e1,d4,m,d8,_⟩:=N.o.at_;simp only[Gy,Gd,GS,QW] at m;obtain⟨-,-,rfl⟩:=m;have:=X.2;omega
    clear J Z a5 a2 af b8 e0;let⟨b0,T⟩:∃b0,t.drew=b0:=⟨_,A⟩;have a6:(t.drew:D)=(t:D):=A;rw[a6] at e;rw[T] at e;have c0:=F T;clear T a6;have e5:t (j,2)=P (l,s) u g:=Below.ce z x;clear z V I;go_upto_region 5 with fail;have g7:η.wrap ((a:C)+1)=((a+1:D):C):=by rw[QQ H];omega
    have f5:a+1<u:=K▸X.2;have f6:a<=u:=H;have f2:u<=g:=by
     let⟨q,e1,d4,m,d8,_⟩:=N.o.at_;simp only[Gy,Gd,GS,QW] at m;obtain⟨-,-,rfl⟩:=m;omega
    have e6:(0:C)<=(a:C)+1:=H;have e7:(a:C)+1<=(u:C):=H;have e8:((a:C)+1).toNat=a+1:=H;have e9:(u:C)<=(g:C):=H;have f0:a+1<=g:=H;have hF:¬u<a+1:=H;have f8:a<=g:=H;have f9:(0:C)<=(a:C):=H;have g0:(a:C)<=(g:C):=H;have f7:a+1<=u:=H;go_still_tail 10,Qz;change Ji _ _ _ _ _ t.drew;rw[c0.o];apply ox A _ _ 91 A _ _ _ w8 A A (e 91);clear e;go_wp2;go_roundw;case rel=>
     have d9:(fM f wd o a:D)=a+(u-(a+1)):=by
      rw[X.1,Gk,GR,JD,K];omega
     exact⟨a,H,A,d9▸b6⟩
    case measure=>simp[QI]
def eW.at {t u:E Md.dp}(j:eW t u){f:Md.dp}(o:u[w]?=f):∃a,t[w]?=M a/\f.aG=a.aG/\f.aZ=a.aZ:=have z:=(Gg.1 o).1;have:=j.cB;let⟨a,e⟩:∃a,t[w]?=M a:=⟨_,Gf H⟩;⟨a,e,(j.yQ w a f e o).1,(j.yQ w a f e o).2.1⟩
def eW.adn {o j:E Md.dp}(f:eW o j):eW j o:=
 ⟨f.cB.s,λa g h d e=>by have:=f.yQ a h g e d;exact⟨this.1.s,this.2.1.s,this.2.2.symm⟩⟩
def eW.Wt {t o:E Md.dp}(u:eW t o){j:Md.dp}(K:j∈o):∃f∈t,j.aG=f.aG/\j.aZ=f.aZ:=by
 obtain⟨M,A⟩:=GI.1 K;obtain⟨f,J,z⟩:=u.at A;exact⟨f,GI.2 ⟨M,J⟩,z⟩
def eW.cn {t f:E Md.dp}(j:eW t f):f.map (·.aG)=t.map (·.aG):=by
 apply LC;intro A;simp only[Ip];cases o:f[A]? with
 |none=>
  have J:=Qk.1 o;rw[Qk.2 (by have:=j.cB;omega)]
 |some a=>
  obtain⟨K,z,u,_⟩:=j.at o;rw[z];simp[u]
def eW.ado {u t:E Md.dp}(o:eW u t){j:Md.dp}(K:j∈t.dropLast):∃f∈u.dropLast,j.aG=f.aG/\j.aZ=f.aZ:=by
 obtain⟨M,O,z⟩:=Md.nH.1 K;obtain⟨f,J,A⟩:=o.at z;exact⟨f,Md.nH.2 ⟨M,by have:=o.cB;omega,J⟩,A⟩
def Ok.iR {m:Md.dY}(a:Md.Ok m){h:List Md.dp}(f:eW m.vs h):Md.Ok {m with vs:=h} where
 w1:=a.w1
 w8:=a.w8
 n1:=a.n1
 n2:=a.n2
 cf:=by
  let⟨v,c,d⟩:=a.cf;have g:(h.map (·.aG)).getLast?=δ (m.next-1):=by rw[f.cn,LB,c,JR,d]
  rw[LB] at g;let⟨q,r,k⟩:=Jd.1 g;exact⟨q,r,k⟩
 kx:=Md.tC f.cn a.kx
 dK v hv:=by let⟨x,e,c,d⟩:=f.Wt hv;rw[c];exact a.dK x e
 aZ v hv:=by let⟨x,e,c,d⟩:=f.Wt hv;rw[d];exact a.aZ x e
 fR v hv:=by
  let⟨x,e,c,d⟩:=f.ado hv;have:=a.fR x e;unfold Md.aM at this ⊢;rwa[c,d]
 FY b c d g:=by
  obtain⟨x,e,rfl⟩:=a.FY b c d g;let⟨y,l,i,_⟩:=f.adn.Wt e;exact⟨y,l,i.s⟩
def Pinned.iR {m:Md.dY}{S:List Int}(c:Md.bN m S){e:List Md.dp}(d:eW m.vs e):Md.bN {m with vs:=e} S where
 aZ v hv:=by let⟨x,a,g,h⟩:=d.Wt hv;rw[g,h];exact c.aZ x a
 eO b hb:=by
  obtain⟨x,a,rfl⟩:=c.eO b hb;let⟨y,i,r,_⟩:=d.adn.Wt a;exact⟨y,i,r.s⟩
section
structure Fz (B:D)(T:E Λ)(M:E D)(w w':L):Prop where
 os:w'.os=w.os
 cb:w'.tape=w.tape
 aW:w'.output=w.output
 aH:w.heap.size<=w'.heap.size
 aG:∀k,k<w.heap.size->w'.heap[k]?=w.heap[k]?\/(∃xs t f,w.heap[k]?=K xs t f/\t∈T/\B<=k)\/k∈M
variable {B:Nat}{T U:List Λ}{M N:List Nat}{a b w w':ν}
def Fz.bQ (B:D)(T:E Λ)(M:E D)(w:L):Fz B T M w w:=⟨A,A,A,d,λ_ _=>o A⟩
def Fz.aJ {A:L}(f:Fz B T M a b)(z:Fz B T M b A):Fz B T M a A:=by
 refine⟨z.os.t f.os,z.cb.t f.cb,z.aW.t f.aW,GB f.aH z.aH,λi h=>?_⟩;rcases f.aG i h with t|t|t
 .rcases z.aG i (GP h f.aH) with u|⟨P,O,J,u,K⟩|u
  .exact o (u.t t)
  .exact j (o ⟨P,O,J,t▸u,K⟩)
  exact j (j u)
 .exact j (o t)
 exact j (j t)
def Fz.cz (f:Fz B T M a b)(K:∀u∈T,u∈U)(J:∀O∈M,O∈N):Fz B U N a b:=
 ⟨f.os,f.cb,f.aW,f.aH,λg k=>by
  rcases f.aG g k with t|⟨P,u,A,t,z⟩|t
  .exact o t
  .exact j (o ⟨P,u,A,t,K u z.1,z.2⟩)
  exact j (j (J g t))⟩
def Fz.aE (c:ρ w w w')(B:D)(T:E Λ)(M:E D):Fz B T M w w':=⟨c.os,c.tape,c.output,c.z,λe d=>o (c.b e d)⟩
def Fz.then (f:Fz B T M a w)(j:ρ w w w'):Fz B T M a w':=f.aJ (Fz.aE j B T M)
def Fz.jR {t:D}(f:hA t w w')(K:B<=t):Fz B [192] [t] w w':=⟨f.os,f.cb,f.aW,f.aH,λg h=>by
 by_cases z:g=t
 .exact j (j (by simp[z]))
 rcases f.aG g h z with u|⟨V,P,W,X,O,Z,u,A,J⟩
 .exact o u
 exact j (o ⟨_,192,_,u,R,H⟩)⟩
def Fz.aM {j:D}{z:Q S}{t:Λ}{u:D×D}(A:Fz B T M w w')(o:w.heap[j]?=K z t u)(P:t∉T)(O:j∉M):w'.heap[j]?=K z t u:=by
 rcases A.aG j (aw o) with f|⟨X,W,V,f,J⟩|f
 .exact f.t o
 .rw[o] at f;simp only[Gd,Hq] at f;obtain⟨_,rfl,_⟩:=f;exact absurd J.1 P
 exact absurd f O
def Fz.dC {f:D}(t:Fz B T M w w')(A:f<w.heap.size)(J:f∉M)(O:∀P o z,w.heap[f]?=K P o z->o∉T):w'.heap[f]?=w.heap[f]?:=by
 rcases t.aG f A with j|⟨X,W,V,j,u⟩|j
 .exact j
 .exact absurd u.1 (O _ _ _ j)
 exact absurd j J
def nY (w:L)(j:D):Prop:=∃f o,w.heap[j]?=Lz f o
def nY.lt {f:D}(c:nY w f):f<(w:D):=let⟨e,d,c⟩:=c;aw c
def bj.gb {u:Λ}{f:D}{j:E (IA×S)}(o:bj γ w u f j):nY w f:=by
 obtain⟨A,⟨J,z,t,_⟩,_⟩:=o;exact⟨_,_,t⟩
def Fz.cS {f:D}(t:Fz B T M w w')(j:nY w f)(u:f∉M):w'.heap[f]?=w.heap[f]?:=
 t.dC j.lt u λm l c d=>by obtain⟨z,A,o⟩:=j;rw[o] at d;cases d
def Fz.hW {t:Λ}{f:D}{j:E (IA×S)}(u:Fz B T M w w')(o:bj γ w t f j)(z:f∉M):bj γ w' t f j:=
 o.aM (u.cS o.gb z)
def Fz.dN {o:JM}{u:S}(A:Fz B T M w w')(f:w o=u)(O:∀W∈M,nY w W)(V:∀X t J,w.heap[o.block]?=K X t J->t∉T):w' o=u:=by
 have P:o.block∉M:=λj=>by
  obtain⟨Z,q,z⟩:=O _ j;unfold Iz at f;rw[z] at f;cases f
 exact(GQ (w:=w) (A.dC (bH f) P V)).t f
def Fz.cV {f:D}{P V:Q S}{t:Λ}(c:bd w w' f (K V t))(O:w.heap[f]?=K P t)(J:t∈T)(z:B<=f)(M:E D):Fz B T M w w':=by
 have W:=c.aE w;refine⟨?_,?_,?_,Iu c.aH.s,λg n=>?_⟩;all_goals try exact(c.aE 0 w QK ⟨A,A,A,d,λ_ c=>H⟩).os
 all_goals try exact(c.aE 0 w QK ⟨A,A,A,d,λ_ c=>H⟩).tape
 all_goals try exact(c.aE 0 w QK ⟨A,A,A,d,λ_ c=>H⟩).output
 by_cases u:g=f
 .subst u;exact j (o ⟨_,_,_,O,J,z⟩)
 exact o (c.old g u)
def Fz.dn (f:Fz B T M w w')(o:∀t∈M,B<=t)(u:B<=w.heap.size):ρ B w w':=⟨f.os,f.cb,f.aW,f.aH,λe i=>by
 rcases f.aG e H with j|⟨_,_,_,_,_,j⟩|j
 .exact j
 .omega
 have:=o e j;omega⟩
def Fz.fr {t:D}(f:Cc.Fr t w w')(O:B<=t):Fz B [185,518] [t] w w':=⟨f.os,f.cb,f.aW,f.aH,λd h=>by
 by_cases J:d<t
 .exact o (f.dK d h J)
 by_cases z:Cc.Ag t d w.heap[d]?
 .rcases z with rfl|⟨K,A,u⟩|⟨K,A,u⟩
  .exact j (j R)
  .exact j (o ⟨_,_,_,u,R,H⟩)
  exact j (o ⟨_,_,_,u,R,H⟩)
 exact o (f.bq d h z)⟩
end
def MT (f:Md.dp)(h:∃c j d,f.ei=P c j d)(g:∃c j d,f.fI=P c j d)(u:D)(j:C)(o:L)(J:o u=G j):
 Y N 98 #[t #[G f.aG,f.ei,f.fI,G f.aZ],V u] o λn q=>n=z (f.aG==j)/\T o o q:=by
 let⟨c,p,d,h⟩:=h;let⟨l,b,m,g⟩:=g;rw[h,g];let⟨r,s,a⟩:=aU o (K #[G f.aG,P c p d,P l b m,G f.aZ] 107);have O:=cJ 0 a.at_;have c1:=a.aE.ce J;have M:=F a.aE;clear a J;go_enter func98,ntmps98;go_wp2;go_ret;exact⟨A,M.o⟩
def nK (q0:D)(Y:∀S b,(Xa q0 S).run N b=Je (.enter q0 S) b)(a1:∀(a:Md.dp),(∃o c W,a.ei=P o c W)->(∃o c W,a.fI=P o c W)->∀(h:D)(c:C)(b:ν),b h=G c->τ N q0 #[Γ #[G a.aG,a.ei,a.fI,G a.aZ],V h] b λg m=>g=υ (a.aG==c)/\T b b m)(K:π)(j:E Md.dp)(h:D)(c:C)(b:ν)(n:bC b K j)(a7:j.length<=1000)(I:b h=G c):
 τ N 97 #[K,Hl (Ic q0) #[] #[V h]] b λd m=>qj j c d/\T b b m:=by
 obtain⟨⟨b3,b4,W,rfl,a4,a5,M⟩,ak,ah⟩:=id n;have af:=F n;have ab:=F I;clear M ak ah n I;go_enter func97,ntmps97;go_wp2;go_loopw [8] (λiv wr=>∃f:D,f<=j.length/\iv=G f/\Φ (T b b wr)/\Φ (∀g a,g<f->j[g]?=δ a->a.aG≠c)) (λiv _=>j.length-(QI iv).toNat)
 .exact⟨0,by omega,A,F QG,F λg a q=>by omega⟩
 obtain⟨f,a6,rfl,u,r⟩:=hrel;by_cases al:f<j.length
 .obtain⟨a,l⟩:∃a,j[f]?=δ a:=⟨_,Gf al⟩;have R:=af.o.aE u.o;obtain⟨⟨o,X,w,O⟩,⟨v,U,x,e⟩⟩:=R.fL (Gl l);obtain⟨⟨a3,a8,b2,L,_,_,M⟩,_,_⟩:=R;simp only[Gy,Gd,GS,QW] at L;obtain⟨⟨rfl,rfl⟩,_,rfl⟩:=L;obtain⟨a9,aj,ao,b0⟩:=M f a l;rw[O] at aj;rw[e] at ao;have s:=u.o.ce ab.o;have Z:=y (τ N q0 #[Γ #[G a.aG,P o X w,P v U x,G a.aZ],V h] wr λd m=>∃K,d=ι K/\K=υ (a.aG==c)/\T wr wr m) (by
   have:=a1 a ⟨o,X,w,O⟩ ⟨v,U,x,e⟩ h c wr s
   rw[O,e] at this
   exact this.m λd m ⟨ag,ai⟩=>⟨_,ag,A,ai⟩)
  have H:=F l;clear M l O e s;cases z:(a.aG==c) with
  |true=>
   have k:=y (qj j c (ι (G (f:D)))) (Ξ ⟨f,a,H.o,by simpa using z,A⟩);rw[z] at Z;clear z;go_wp2_with (refine qd (f:=q0) (caps:=#[V h]) Y A _ _ _ A A (Γ #[G a.aG,P o X w,P v U x,G a.aZ]) A _ Z.o ?_;rintro ap a0 ⟨rfl,J⟩);have i:=F (u.o.t (J.m u.o.z));clear J;go_ret;exact⟨k.o,i.o⟩
  |false=>
   have ae:=y (a.aG≠c) (by simpa using z);rw[z] at Z;clear z;go_wp2_with (refine qd (f:=q0) (caps:=#[V h]) Y A _ _ _ A A (Γ #[G a.aG,P o X w,P v U x,G a.aZ]) A _ Z.o ?_;rintro ap a0 ⟨rfl,J⟩);have i:=F (u.o.t (J.m u.o.z));clear J;go_roundw
   .exact⟨f+1,by omega,by go_num,i,F λg a2 q p=>by
    by_cases am:g=f
    .subst am;rw[H.o] at p;obtain rfl:=Gm p;exact ae.o
    exact r.o g a2 om p⟩
   simp[QI];omega
 obtain rfl:f=j.length:=om;have k:=y (qj j c (ι (G (-1)))/\T b b wr) ⟨Θ ⟨λa l=>by
  obtain⟨g,q⟩:=LU l
  exact r.o g a (Gg.1 q).1 q,A⟩,u.o⟩
 go_wp2;go_ret;exact k.o
def MU (f:Md.dp)(h:∃c j d,f.ei=P c j d)(g:∃c j d,f.fI=P c j d)(u:D)(j:C)(o:L)(J:o u=G j):
 Y N 88 #[t #[G f.aG,f.ei,f.fI,G f.aZ],V u] o λn q=>n=z (f.aG==j)/\T o o q:=by
 let⟨c,p,d,h⟩:=h;let⟨l,b,m,g⟩:=g;rw[h,g];let⟨r,s,a⟩:=aU o (K #[G f.aG,P c p d,P l b m,G f.aZ] 107);have O:=cJ 0 a.at_;have c1:=a.aE.ce J;have M:=F a.aE;clear a J;go_enter func88,ntmps88;go_wp2;go_ret;exact⟨A,M.o⟩
def Bo (u:S)(j:E Md.dp)(o:D)(t:C)(f:L)(z:bC f u j)(K:(j:D)<=1000)(J:f o=t):
 Y N 97 #[u,Hl (Ic 98) #[] #[V o]] f λi a=>qj j t i/\T f f a:=nK 98 (enters_of func98 e A) MT u j o t f z K J
def Bp (u:S)(j:E Md.dp)(o:D)(t:C)(f:L)(z:bC f u j)(K:(j:D)<=1000)(J:f o=t):
 Y N 97 #[u,Hl (Ic 88) #[] #[V o]] f λi a=>qj j t i/\T f f a:=nK 88 (enters_of func88 e A) MU u j o t f z K J
def vo (J:S)(j:E Md.dp)(u:D)(t:C)(f:L)(Z:bC f J j)(s:(j:D)<=1000)(O:f u=t):
 Y N 87 #[J,Hl (Ic 88) #[] #[V u]] f λa b=>(∃r:Bool,a=z r/\(r=U↔∃o∈j,o.aG=t))/\T f f b:=by
 have M:=F (Bp J j u t f Z s O);clear Z O;go_enter func87,ntmps87;go_wp2_with fail;go_call M.o as a p ⟨m,b1⟩;have K:=F b1;clear b1 M;rcases m with⟨c,o,P,q,rfl⟩|⟨W,rfl⟩
 .have A:=y (∃o∈j,o.aG=t) ⟨o,Gl P,q⟩;clear P q;go_wp2;go_ret;exact⟨⟨U,R,by simp;exact A.o⟩,K.o⟩
 have A:=F W;clear W;go_wp2;go_ret;exact⟨⟨X,R,by simp;exact A.o⟩,K.o⟩
def bC.Zd {u:E Md.dp}{K:Md.dp}(d:bC g (P w q a) u)(U:u[i]?=K)(j:C):
 bC (g.setCell (w,i*4+3) (G j)) (P w q a) (u.modify i λc=>{c with aZ:=j}):=by
 let⟨⟨a0,a1,a2,y,Y,N,F⟩,R,S⟩:=d;simp only[Gy,Gd,GS,QW] at y;obtain⟨⟨rfl,rfl⟩,rfl,rfl⟩:=y;let⟨_,_,_,x⟩:=F i K U;simp only[GU] at x;have O:(g.setCell (w,i*4+3) (G j)) (w,i*4+3)=j:=NJ _ _ _ (x▸rfl);have o:∀k:JM,(⟨w,i*4+3,J⟩:JM)≠k->(g.setCell (w,i*4+3) (G j)) k=g k:=λk h=>ID g _ k _ h;have v:eV g (g.setCell (w,i*4+3) (G j)):=⟨λ_ _ d=>d.bV _ _,λk=>by
  by_cases h:(⟨w,i*4+3,J⟩:JM)=k
  .subst h
   rw[x];exact⟨(λ_ d=>by cases d),λ_ d=>by cases d⟩
  rw[o k h];exact⟨λ_ d=>d,λ_ d=>d⟩⟩
 have z:∀b c,(u.modify i λc=>{c with aZ:=j})[b]?=M c->∃e,u[b]?=M e/\c=if b=i then{e with aZ:=j} else e:=λb c p=>by
  rw[Lb] at p;cases f:u[b]? with
  |none=>rw[f] at p;simp at p
  |some e=>
   rw[f] at p;refine⟨e,A,?_⟩;by_cases t:i=b
   .subst t;simp at p;simp[p]
   simp[t] at p;rw[QT (λL=>t L.s)];exact p.s
 refine⟨⟨w,0,a,by rw[Nu],by rwa[Nu],N.bV _ _,λb c p=>?_⟩,λc p=>?_,λc p=>?_⟩
 .obtain⟨e,f,rfl⟩:=z b c p;let⟨H,I,s,T⟩:=F b e f;by_cases t:b=i
  .subst t;rw[QU A];refine⟨(o _ sQ).t H,(o _ sQ).t I,(o _ sQ).t s,sU O⟩
  rw[QT t];refine⟨(o _ sQ).t H,(o _ sQ).t I,(o _ sQ).t s,(o _ sQ).t T⟩
 .let⟨b,r⟩:=GI.1 p;obtain⟨e,f,rfl⟩:=z b c r;let⟨l,n,m⟩:=R e (Gl f);exact⟨l,by split<;>exact n.bK v,m⟩
 let⟨b,r⟩:=GI.1 p;obtain⟨e,f,rfl⟩:=z b c r;let⟨l,n,m⟩:=S e (Gl f);exact⟨l,by split<;>exact n.bK v,m⟩
def lX {u:Func}{o t:Tmp}(z:u.results=#[.cell o 93,.tmp t]){j:Q S}(M:h.getD o undef=V w)(P:j.size=3)
 (J:g.heap[w]?=K j 93):(results u h).run N g=Je (f #[j,h.getD t undef]) g:=by
 have O:h[o]?.getD undef=V w:=sU M;simp[results,z,O,asAddr,XH g w 93 93 j (0,0) _ J Ph A (P▸vl)]
def eG {z:Func}{o u t:Tmp}(J:z.results=#[.cell o 93,.tmp u,.tmp t]){j:Q S}(O:h.getD o undef=V w)(U:j.size=3)
 (M:g.heap[w]?=K j 93):(results z h).run N g=Je (f #[j,h.getD u undef,h.getD t undef]) g:=by
 have P:h[o]?.getD undef=V w:=sU O;simp[results,J,P,asAddr,XH g w 93 93 j (0,0) _ M Ph A (U▸vl)]
structure rp (m:Md.dY)(b:C)(e:He)(w':L):Prop where
 vm:∃us v',eW m.vs us/\((∃i x,us[i]?=M x/\x.aZ≠1048576/\bC w' v' (us.modify i λz=>{z with aZ:=x.aZ+1})/\e=f #[t #[m.aN,m.next,v'],G x.aG,G 0])\/
  (∃n:C,1<=n/\n<=12/\bC w' v' us/\(b= -1->∃x∈us,x.aZ=1048576)/\e=f #[t #[m.aN,m.next,v'],G 0,G n]))
structure vp (m:Md.dY)(b:C)(e:He)(w':L):Prop where
 vm:∃us v',eW m.vs us/\((∃i x,us[i]?=M x/\x.aG=b/\x.aZ≠0/\bC w' v' (Md.cX m.next m.aN (us.modify i λz=>{z with aZ:=x.aZ-1}))/\e=f #[t #[m.aN,m.next,v'],G 0])\/
  (bC w' v' us/\(∀x∈us,x.aG=b->x.aZ=0)/\e=f #[t #[m.aN,m.next,v'],G 4]))
def Tf (g8:π)(f:Md.dY)(J:C)(o:ν)(d9:bC o g8 f.vs)(j6:(f.vs:D)<=1000)(f8:Md.Ok f):
 τ γ 297 #[Γ #[G f.aN,G f.next,g8],G J] o λb2 g9=>rp f J b2 g9/\ρ o o g9:=by
 obtain⟨⟨h3,h4,h1,rfl,i8,d2,a2⟩,j1,i9⟩:=id d9;replace d2:=d2.lt;let⟨i,l0,a7⟩:=aU o (K #[G f.aN,G f.next,P (h3,h4) (f.vs:D) h1] 93);let⟨b6,l1,a8⟩:=aU i (K #[G 0,G 0,P ζ 0 0] 93);have c7:=a7.aE.t (a8.aE.m a7.aE.z);have R:b6.heap[(o:D)]?=_:=Below.ke a8.aE a7.at_;have b4:=a8.at_;have d0:=cJ 0 R;have ab:=cJ 1 R;have ae:=cJ 2 R;have f4:=F (vn _ f.vs f.aN f.next b6 (d9.aE c7) j6);have W:=F (κ a7.aH a8.aH);have e7:=F c7;have f3:=F f8;clear a7 a8 c7 d9 a2 j1 i9 d2 i8 f8;go_enter func297,ntmps297;go_wp2_with fail;apply f4.o.m;rintro b2 k3 ⟨⟨j,z,rfl,f7,a5,b3,g2⟩,b0⟩;have d3:=b3.cB;have R:=Below.ke b0 R;have b4:=Below.ke b0 b4;have g0:=Ok.iR f3.o b3;have h6:=F (e7.o.t (b0.m e7.o.z));let⟨CS,a0⟩:∃CS:Q π,CS=#[G f.aN,G f.next,P j (f.vs:D) (f.vs:D)]:=⟨_,A⟩;have T:CS.size=3:=a0▸rfl;have k7:CS.all (·.oneCell')=ψ:=by rw[a0];simp[φ]
 have f1:=y (∀N,bd k3 N (o:D) (K CS 93)->bC N (P j (z:D) (z:D)) z/\ρ o o N/\N.heap[(i:D)]?=K #[G 0,G 0,P ζ 0 0] 93/\∃x,N.heap[j]?=K x 107) λN c=>by
  have l2:=W.o;let⟨x,j0⟩:=g2;refine⟨?_,c.aE _ _ QD h6.o,(c.old _ H).t b4,x,(c.old j H).t j0⟩;rw[<-d3] at a5;refine a5.jT (dG λq=>?_) (c.old j H) (c.aH▸QD);by_cases X:q=(o:D)
  .subst X;exact Θ ⟨_,_,_,R,⟨_,_,c.at_⟩,db _ _ _ _ _⟩
  exact Ξ (c.old q X)
 have b7:=y ((b6:D)<=j) f7;rw[<-a0];have M:=F a0;have Z:=F (κ b3 d3);have c2:=F g0;clear a0 b3 d3 g0 a5 b4 b0 f4 d0 ab ae f7 g2;go_upto_region 2 with(refine uS R ?_;intro N c);let⟨e0,f5,g1,f6⟩:=f1.o N c;have ag:=c.at_;have f0:=F ag;rw[M.o] at ag;have d0:=cJ 0 ag;have ab:=cJ 1 ag;have ae:=cJ 2 ag;have c0:=F (ig _ {f with vs:=z} N e0 (by have:=Z.2;simp only;omega) c2.o);rw[Z.2] at c0;have h9:=F e0;have e8:=F f5;have h7:=F f6;clear c e0 f5 f1 R ag f6;go_wp2_with fail;apply c0.o.m;rintro b2 h0 ⟨rfl,I⟩;have g6:=Below.ke I f0.o;have g7:=Below.ke I g1;have c6:=F (h9.o.aE I);have e9:=F (e8.o.t (I.m e8.o.z));have f2:=y (∃x,h0.heap[j]?=K x 107) (by let⟨x,d1⟩:=h7.o;exact⟨x,Below.ke I d1⟩);have d0:=Below.ce I d0;have ab:=Below.ce I ab;have ae:=Below.ce I ae;have b9:=F (yd _ z f.aN f.next J h0 c6.o (oA Z.2));rw[Z.2] at b9;clear I c0 f0 g1;go_wp2_with fail;apply b9.o.m;rintro b2 t ⟨f9,s⟩;have a6:=Below.ke s g6;have af:=Below.ke s g7;have ah:=F (c6.o.aE s);have ai:=F (e9.o.t (s.m e9.o.z));have a9:=y (∃x,t.heap[j]?=K x 107) (by let⟨x,d1⟩:=f2.o;exact⟨x,Below.ke s d1⟩);have d0:=Below.ce s d0;have ab:=Below.ce s ab;have ae:=Below.ce s ae;have k9:0<(f.vs:D):=by
  let⟨b,g4,_⟩:=f3.o.cf;cases a5:f.vs with
  |nil=>rw[a5] at g4;cases g4
  |cons S l4=>simp
 have a4:(z:D)=(f.vs:D):=Z.2;have L:j≠(o:D)/\j≠(i:D):=oB W.o b7.o;have c3:=y (∀e b5,bd b5 e (i:D) (K CS 93)->(∀k,b5.heap[k]?=t.heap[k]?)->(b5:D)=(t:D)->bC e (P j (f.vs:D) (f.vs:D)) z) λe b5 a h j7=>by
  have g3:=ah.o;rw[a4] at g3;refine g3.jT (dG λq=>?_) ((a.old j L.2).t (h j)) (by rw[a.aH,j7];exact QD);by_cases X:q=(i:D)
  .subst X;exact Θ ⟨_,_,_,af,⟨_,_,a.at_⟩,db _ _ _ _ _⟩
  exact Ξ ((a.old q X).t (h q))
 clear s b9 g6 g7 c6 f2;have g5:η.wrap (((f.vs:D):C)-1)=(((f.vs:D)-1:D):C):=by rw[QQ H];omega
 by_cases a1:J= -1
 .have i3:((J:C)== -1)=ψ:=by simp[a1]
  clear a1;let⟨g,b,d4,l⟩:∃(g:D) (b:Md.dp),(f.vs:D)-1=g/\z[g]?=δ b:=⟨_,_,A,Gf H⟩;rw[d4] at g5;have k8:=F d4;clear d4;rcases f9 with⟨l3,l5,j4,j9,rfl⟩|⟨d6,rfl⟩
  all_goals
   (try clear j4 j9)
   (try clear d6)
   let⟨e2,e4,e5,k2⟩:t (j,g*4)=G b.aG/\t (j,g*4+1)=δ b.ei/\t (j,g*4+2)=δ b.fI/\t (j,g*4+3)=G b.aZ:=by
    let⟨q,k1,h2,a3,_,_,a2⟩:=ah.o.at_;simp only[Gy,Gd,GS,QW] at a3;obtain⟨⟨rfl,rfl⟩,-,rfl⟩:=a3;simpa using a2 g b l
   have j5:g<(f.vs:D):=a4▸(Gg.1 l).1;have d8:=c2.o.aZ b (Gl l);have i0:=F l;clear e4 e5;by_cases O:b.aZ=1048576
   .have c8:((b.aZ:C)==1048576)=ψ:=by simp[O]
    have aj:=y (J= -1->∃b∈z,b.aZ=1048576) λ_=>⟨b,Gl l,O⟩;clear O l;have m:=y (∀e,bd t e (i:D) (K CS 93)->rp f J (ι (χ #[Γ CS,G 0,G 12])) e/\ρ o o e) λe a=>⟨⟨z,_,Z.1,Θ ⟨12,H,H,c3.o e t a (λ_=>rfl) A,aj.o,by rw[M.o]⟩⟩,a.aE _ _ (oA W.o) ai.o⟩;go_wp2_with (first|(apply yS A _ A (o:D) A 93 CS (0,0) T a6)|(refine uS af ?_;intro e a));apply QM (eG A A T a.at_) A;exact m.o e a
   have c8:((b.aZ:C)==1048576)=σ:=by simp[O]
   have k0:η.wrap (b.aZ+1)=b.aZ+1:=QQ H;have V:bd t (t.setCell (j,g*4+3) (G (b.aZ+1))) j _:=aF (j:=g*4+3) (G (b.aZ+1)) a9.o.choose_spec;have i4:=aI a9.o.choose_spec (g*4+3);have w:=ah.o.Zd l (b.aZ+1);rw[a4] at w;have U:=(V.old _ L.1.symm).t a6;have u:=(V.old _ L.2.symm).t af;have b8:=V.aE _ _ (oB W.o b7.o) ai.o;have e6:(t.setCell (j,g*4+3) (G (b.aZ+1))) (j,g*4)=G b.aG:=by rw[ID _ _ _ _ sQ];exact e2
   let⟨w8,e1⟩:∃w8,t.setCell (j,g*4+3) (G (b.aZ+1))=w8:=⟨_,A⟩;rw[e1] at w U u b8 e6;have m:=y (∀e,bd w8.drew e (i:D) (K CS 93)->rp f J (ι (χ #[Γ CS,G b.aG,G 0])) e/\ρ o o e) λe a=>⟨⟨z,_,Z.1,Ξ ⟨g,b,l,O,w.jT (dG λq=>(by
    by_cases X:q=(i:D)
    .subst X;exact Θ ⟨_,_,_,u,⟨_,_,a.at_⟩,db _ _ _ _ _⟩
    exact Ξ (a.old q X))) (a.old j L.2) (a.aH▸QD),by rw[M.o]⟩⟩,a.aE _ _ (oA W.o) b8.d⟩
   have i5:w8 (o,2)=P j (f.vs:D) (f.vs:D):=by rw[QH U,M.o];rfl
   have h8:=F V;clear V l O w b8 d8;have i1:w8 o=G f.aN:=by rw[QH U,M.o];rfl
   have i2:w8 (o,1)=G f.next:=by rw[QH U,M.o];rfl
   have k4:=cJ 0 u;have k5:=cJ 1 u;have k6:=cJ 2 u;have h5:∀Y,w8.frozen? ⟨i,Y,ζ⟩=σ:=λY=>aI u Y;have j2:¬(i:D)=(o:D):=oA W.o;have j3:¬(i:D)=j:=oA L.2;have ak:=y (bd w8.drew ((((w8.setCell i (G f.aN)).setCell (i,1) (G f.next)).setCell (i,2) (P j (f.vs:D) (f.vs:D))).drew) (i:D) (K CS 93)) (by
    have n:=aF (j:=0) (G f.aN) u
    have p:=aF (j:=1) (G f.next) n.at_
    have r:=aF (j:=2) (P j (f.vs:D) (f.vs:D)) p.at_
    refine⟨r.aH.t (p.aH.t n.aH),?_,λk h=>(r.old k h).t ((p.old k h).t (n.old k h)),λB S v d=>(r.aE B S v (p.aE B S v (n.aE B S v ⟨d.os,d.tape,d.output,d.z,d.b⟩))).d⟩
    rw[M.o];exact r.at_)
   have i7:(0:C)<=(g:C):=H;have v:(g:C)<((f.vs:D):C):=H;clear U u;go_upto_region 12 with fail;go_region;go_wp2;apply QM (eG A A T ak.o.at_) A;exact m.o _ ak.o
 have i3:((J:C)== -1)=σ:=by simp[a1]
 have aj:=y (J= -1->∃b∈z,b.aZ=1048576) λi6=>absurd i6 a1;clear a1 g5;rcases f9 with⟨g,b,l,j8,rfl⟩|⟨d6,rfl⟩
 .clear j8;let⟨e2,e4,e5,k2⟩:t (j,g*4)=G b.aG/\t (j,g*4+1)=δ b.ei/\t (j,g*4+2)=δ b.fI/\t (j,g*4+3)=G b.aZ:=by
   let⟨q,k1,h2,a3,_,_,a2⟩:=ah.o.at_;simp only[Gy,Gd,GS,QW] at a3;obtain⟨⟨rfl,rfl⟩,-,rfl⟩:=a3;simpa using a2 g b l
  have j5:g<(f.vs:D):=a4▸(Gg.1 l).1;have d8:=c2.o.aZ b (Gl l);have i0:=F l;clear e4 e5;by_cases O:b.aZ=1048576
  .have c8:((b.aZ:C)==1048576)=ψ:=by simp[O]
   have aj:=y (J= -1->∃b∈z,b.aZ=1048576) λ_=>⟨b,Gl l,O⟩;clear O l;have m:=y (∀e,bd t e (i:D) (K CS 93)->rp f J (ι (χ #[Γ CS,G 0,G 12])) e/\ρ o o e) λe a=>⟨⟨z,_,Z.1,Θ ⟨12,H,H,c3.o e t a (λ_=>rfl) A,aj.o,by rw[M.o]⟩⟩,a.aE _ _ (oA W.o) ai.o⟩;go_wp2_with (first|(apply yS A _ A (o:D) A 93 CS (0,0) T a6)|(refine uS af ?_;intro e a));apply QM (eG A A T a.at_) A;exact m.o e a
  have c8:((b.aZ:C)==1048576)=σ:=by simp[O]
  have k0:η.wrap (b.aZ+1)=b.aZ+1:=QQ H;have V:bd t (t.setCell (j,g*4+3) (G (b.aZ+1))) j _:=aF (j:=g*4+3) (G (b.aZ+1)) a9.o.choose_spec;have i4:=aI a9.o.choose_spec (g*4+3);have w:=ah.o.Zd l (b.aZ+1);rw[a4] at w;have U:=(V.old _ L.1.symm).t a6;have u:=(V.old _ L.2.symm).t af;have b8:=V.aE _ _ (oB W.o b7.o) ai.o;have e6:(t.setCell (j,g*4+3) (G (b.aZ+1))) (j,g*4)=G b.aG:=by rw[ID _ _ _ _ sQ];exact e2
  let⟨w8,e1⟩:∃w8,t.setCell (j,g*4+3) (G (b.aZ+1))=w8:=⟨_,A⟩;rw[e1] at w U u b8 e6;have m:=y (∀e,bd w8.drew e (i:D) (K CS 93)->rp f J (ι (χ #[Γ CS,G b.aG,G 0])) e/\ρ o o e) λe a=>⟨⟨z,_,Z.1,Ξ ⟨g,b,l,O,w.jT (dG λq=>(by
   by_cases X:q=(i:D)
   .subst X;exact Θ ⟨_,_,_,u,⟨_,_,a.at_⟩,db _ _ _ _ _⟩
   exact Ξ (a.old q X))) (a.old j L.2) (a.aH▸QD),by rw[M.o]⟩⟩,a.aE _ _ (oA W.o) b8.d⟩
  have i5:w8 (o,2)=P j (f.vs:D) (f.vs:D):=by rw[QH U,M.o];rfl
  have h8:=F V;clear V l O w b8 d8;have i1:w8 o=G f.aN:=by rw[QH U,M.o];rfl
  have i2:w8 (o,1)=G f.next:=by rw[QH U,M.o];rfl
  have k4:=cJ 0 u;have k5:=cJ 1 u;have k6:=cJ 2 u;have h5:∀Y,w8.frozen? ⟨i,Y,ζ⟩=σ:=λY=>aI u Y;have j2:¬(i:D)=(o:D):=oA W.o;have j3:¬(i:D)=j:=oA L.2;have ak:=y (bd w8.drew ((((w8.setCell i (G f.aN)).setCell (i,1) (G f.next)).setCell (i,2) (P j (f.vs:D) (f.vs:D))).drew) (i:D) (K CS 93)) (by
   have n:=aF (j:=0) (G f.aN) u
   have p:=aF (j:=1) (G f.next) n.at_
   have r:=aF (j:=2) (P j (f.vs:D) (f.vs:D)) p.at_
   refine⟨r.aH.t (p.aH.t n.aH),?_,λk h=>(r.old k h).t ((p.old k h).t (n.old k h)),λB S v d=>(r.aE B S v (p.aE B S v (n.aE B S v ⟨d.os,d.tape,d.output,d.z,d.b⟩))).d⟩
   rw[M.o];exact r.at_)
  have i7:(0:C)<=(g:C):=H;have v:(g:C)<((f.vs:D):C):=H;clear U u;go_upto_region 12 with fail;go_region;go_wp2;apply QM (eG A A T ak.o.at_) A;exact m.o _ ak.o
 clear d6;have m:=y (∀e,bd t e (i:D) (K CS 93)->rp f J (ι (χ #[Γ CS,G 0,G 4])) e/\ρ o o e) λe a=>⟨⟨z,_,Z.1,Θ ⟨4,H,H,c3.o e t a (λ_=>rfl) A,aj.o,by rw[M.o]⟩⟩,a.aE _ _ (oA W.o) ai.o⟩;go_wp2_with (first|(apply yS A _ A (o:D) A 93 CS (0,0) T a6)|(refine uS af ?_;intro e a));apply QM (eG A A T a.at_) A;exact m.o e a
def Md.MV {j:E Md.dp}(z:Md.ja j){o t:Md.dp}(A:o∈j)(J:t∈j)(K:t.aG=o.aG):t=o:=by
 let⟨d,h⟩:=GI.1 A;let⟨e,a⟩:=GI.1 J;let⟨i,b⟩:=Gg.1 h;let⟨k,l⟩:=Gg.1 a;have u:=JU.1 z;rcases PH d e with f|rfl|f
 .have:=u d e i k f;rw[b,l] at this;omega
 .rw[h] at a;exact(Gm a).s
 have:=u e d k i f;rw[b,l] at this;omega
theorem Dt (h0:π)(f:Md.dY)(X:C)(j:ν)(b6:bC j h0 f.vs)(j0:(f.vs:D)<=1000)(f7:Md.Ok f):
 τ γ 154 #[Γ #[G f.aN,G f.next,h0],G X] j λw h1=>vp f X w h1/\ρ j j h1:=by
 obtain⟨⟨d3,d6,d4,rfl,i4,c6,c2⟩,i9,i7⟩:=id b6;replace c6:=c6.lt;let⟨b,l1,N⟩:=aU j (K #[G f.aN,G f.next,P (d3,d6) (f.vs:D) d4] 93);let⟨q,l2,S⟩:=aU b (K #[G 0,G 0,P ζ 0 0] 93);have b0:=N.aE.t (S.aE.m N.aE.z);have V:q.heap[(j:D)]?=_:=Below.ke S.aE N.at_;have aj:=S.at_;have d0:q j=f.aN:=cR V A;have g:q (j,1)=f.next:=cR V A;have h:q (j,2)=P (d3,d6) (f.vs:D) d4:=cR V A;have e9:=F (vn _ f.vs f.aN f.next q (b6.aE b0) j0);have d:=F (κ N.aH S.aH);have d8:=F b0;have Z:=F f7;clear N S b0 b6 c2 i9 i7 c6 i4 f7;go_enter func154,ntmps154;go_wp2_with fail;apply e9.o.m;rintro w j7 ⟨⟨o,u,rfl,ab,x,ag,g1⟩,af⟩;have b5:=ag.cB;have V:=Below.ke af V;have aj:=Below.ke af aj;have f8:=Ok.iR Z.o ag;have h4:=F (d8.o.t (af.m d8.o.z));let⟨CS,s⟩:∃CS:Q π,CS=#[G f.aN,G f.next,P o (f.vs:D) (f.vs:D)]:=⟨_,A⟩;have T:CS.size=3:=s▸rfl;have c3:CS.all (·.oneCell')=ψ:=by rw[s];simp[φ]
 have e5:=y (∀k,bd j7 k (j:D) (K CS 93)->bC k (P o (u:D) (u:D)) u/\ρ j j k/\k.heap[(b:D)]?=K #[G 0,G 0,P ζ 0 0] 93/\∃l,k.heap[o]?=K l 107) λk m=>by
  have l3:=d.o;let⟨l,i8⟩:=g1;refine⟨?_,m.aE _ _ QD h4.o,(m.old _ om).t aj,l,(m.old o om).t i8⟩;rw[<-b5] at x;refine x.jT (dG λn=>?_) (m.old o om) (m.aH▸QD);by_cases U:n=(j:D)
  .subst U;exact Θ ⟨_,_,_,V,⟨_,_,m.at_⟩,db _ _ _ _ _⟩
  exact Ξ (m.old n U)
 have e8:=y ((q:D)<=o) ab;rw[<-s];have r:=F s;have O:=F (κ ag b5);have a6:=F f8;clear s ag b5 f8 x aj af e9 d0 g h ab g1;go_upto_region 2 with(apply uS V;intro k m);let⟨b7,f2,g0,f4⟩:=e5.o k m;have I:=m.at_;have e2:=F I;rw[r.o] at I;have d0:k j=f.aN:=cR I A;have g:k (j,1)=f.next:=cR I A;have h:k (j,2)=P o (f.vs:D) (f.vs:D):=cR I A;have a9:=F (ig _ {f with vs:=u} k b7 (by have:=O.2;simp only;omega) a6.o);rw[O.2] at a9;have i0:=F b7;have d9:=F f2;have h6:=F f4;clear m b7 f2 e5 V I f4;go_wp2_with fail;apply a9.o.m;rintro w h2 ⟨rfl,J⟩;have g6:=Below.ke J e2.o;have g7:=Below.ke J g0;have a7:=F (i0.o.aE J);have e0:=F (d9.o.t (J.m d9.o.z));have e6:=y (∃l,h2.heap[o]?=K l 107) (by let⟨l,i⟩:=h6.o;exact⟨l,Below.ke J i⟩);have d0:=Below.ce J d0;have g:=Below.ce J g;have h:=Below.ce J h;have a5:=F (yd _ u f.aN f.next X h2 a7.o (oA O.2));rw[O.2] at a5;clear J a9 e2 g0;go_wp2_with fail;apply a5.o.m;rintro w t ⟨j1,M⟩;have c7:=Below.ke M g6;have a0:=Below.ke M g7;have a8:=F (a7.o.aE M);have a2:=F (e0.o.t (M.m e0.o.z));have e7:=y (∃l,t.heap[o]?=K l 107) (by let⟨l,i⟩:=e6.o;exact⟨l,Below.ke M i⟩);have d0:=Below.ce M d0;have g:=Below.ce M g;have h:=Below.ce M h;have l0:0<(f.vs:D):=by
  let⟨a,g5,_⟩:=Z.o.cf;cases x:f.vs with
  |nil=>rw[x] at g5;cases g5
  |cons k0 l6=>simp
 have ah:(u:D)=(f.vs:D):=O.2;have b4:o≠(j:D)/\o≠(b:D):=oB d.o e8.o;have f0:=y (∀e a1,bd a1 e (b:D) (K CS 93)->(∀g9,a1.heap[g9]?=t.heap[g9]?)->(a1:D)=(t:D)->bC e (P o (f.vs:D) (f.vs:D)) u) λe a1 c f9 j3=>by
  have g3:=a8.o;rw[ah] at g3;refine g3.jT (dG λn=>?_) ((c.old o b4.2).t (f9 o)) (by rw[c.aH,j3];exact QD);by_cases U:n=(b:D)
  .subst U;exact Θ ⟨_,_,_,a0,⟨_,_,c.at_⟩,db _ _ _ _ _⟩
  exact Ξ ((c.old n U).t (f9 n))
 clear M a5 g6 g7 a7 e6;rcases j1 with⟨z,a,W,b9,rfl⟩|⟨f6,rfl⟩
 .let⟨j4,j5,j6,l8⟩:t (o,z*4)=a.aG/\t (o,z*4+1)=a.ei/\t (o,z*4+2)=a.fI/\t (o,z*4+3)=a.aZ:=by
   let⟨n,l5,k1,f3,_,_,c2⟩:=a8.o.at_;simp only[Gy,Gd,GS,QW] at f3;obtain⟨⟨rfl,rfl⟩,-,rfl⟩:=f3;simpa using c2 z a W
  have k9:z<(f.vs:D):=ah▸(Gg.1 W).1;have j2:=a6.o.aZ a (Gl W);have ae:=F (κ W b9);clear j5 j6 j4;by_cases p:a.aZ=0
  .have i3:((a.aZ:C)==0)=ψ:=by simp[p]
   have a4:=y (∀v∈u,v.aG=X->v.aZ=0) λv c0 c8=>by
    have:=Md.MV a6.o.kx (Gl ae.1) c0 (c8.t ae.2.s);rw[this];exact p
   clear p W b9;have a3:=y (∀e,bd t e (b:D) (K CS 93)->vp f X (ι (χ #[Γ CS,G 4])) e/\ρ j j e) λe c=>⟨⟨u,_,O.1,Θ ⟨f0.o e t c (λ_=>rfl) A,a4.o,by rw[r.o]⟩⟩,c.aE _ _ (oA d.o) a2.o⟩;go_wp2_with (first|(apply yS A _ A (j:D) A 93 CS (0,0) T c7)|(apply uS a0;intro e c));apply QM (lX A A T c.at_) A;exact a3.o e c
  have i3:((a.aZ:C)==0)=σ:=by simp[p]
  have l4:η.wrap (a.aZ-1)=a.aZ-1:=QQ om;have ak:bd t (t.setCell (o,z*4+3) (G (a.aZ-1))) o _:=aF (j:=z*4+3) (G (a.aZ-1)) e7.o.choose_spec;have k8:=aI e7.o.choose_spec (z*4+3);have ai:=a8.o.Zd W (a.aZ-1);rw[ah] at ai;have R:=(ak.old _ b4.1.symm).t c7;have d1:=(ak.old _ b4.2.symm).t a0;have b8:=ak.aE _ _ (oB d.o e8.o) a2.o;let⟨w8,g4⟩:∃w8,t.setCell (o,z*4+3) (G (a.aZ-1))=w8:=⟨_,A⟩;rw[g4] at ai R d1 b8;have k5:w8 j=f.aN:=by rw[QH R,r.o];rfl
  have k6:w8 (j,1)=f.next:=by rw[QH R,r.o];rfl
  have k7:w8 (j,2)=P o (f.vs:D) (f.vs:D):=by rw[QH R,r.o];rfl
  have g2:(u.modify z λj9=>{j9 with aZ:=a.aZ-1}).length=(f.vs:D):=by rw[Nu,ah]
  have e4:=F (xy _ _ f.aN f.next w8 ai (oA g2) (oB Z.o.n1 Z.o.n2) (oB Z.o.w1 Z.o.w8));have e1:=F b8;have h9:=F p;clear ak W p ai b8 j2 b9 g2 R;go_upto_region 8 with fail;clear g4;go_wp2_with fail;apply e4.o.m;rintro w j8 ⟨⟨g8,rfl,H⟩,b2⟩;have d2:=Below.ke b2 d1;have h5:=F (e1.o.t (b2.m e1.o.z));let⟨f1,l7,c9,b3,i5,f5,i6⟩:=H.at_;let⟨Y,L⟩:∃Y:Q π,Y=#[G f.aN,G f.next,g8]:=⟨_,A⟩;have h3:Y.size=3:=L▸rfl;have k4:Y.all (·.oneCell')=ψ:=by rw[L,b3];simp[φ]
  have i1:=F H;have i2:=F L;have h7:=y (eN j8 f1 107) f5;have h8:=F b3;rw[<-L];clear L H b2 b3 i5 f5 i6 e4 d1;go_wp2_with (apply uS d2;intro e c);apply QM (lX A A h3 c.at_) A;refine⟨⟨u,g8,O.1,Ξ ⟨z,a,ae.1,ae.2,h9.o,?_,i2.o▸rfl⟩⟩,c.aE _ _ (oA d.o) h5.o⟩;have H:=i1.o;have ab:f1≠(b:D):=λw=>by
   let⟨k2,k3,i⟩:=h7.o;rw[w,d2] at i;simp at i
  rw[h8.o] at H ⊢;refine H.Ds (dG λn=>?_) (c.old _ ab) (c.aH▸QD);by_cases U:n=(b:D)
  .subst U;exact Θ ⟨_,_,_,d2,⟨_,_,c.at_⟩,db _ _ _ _ _⟩
  exact Ξ (c.old n U)
 have a4:=y (∀v∈u,v.aG=X->v.aZ=0) λv c0 c8=>absurd c8 (f6 v c0);clear f6;have a3:=y (∀e,bd t e (b:D) (K CS 93)->vp f X (ι (χ #[Γ CS,G 4])) e/\ρ j j e) λe c=>⟨⟨u,_,O.1,Θ ⟨f0.o e t c (λ_=>rfl) A,a4.o,by rw[r.o]⟩⟩,c.aE _ _ (oA d.o) a2.o⟩;go_wp2_with (first|(apply yS A _ A (j:D) A 93 CS (0,0) T c7)|(apply uS a0;intro e c));apply QM (lX A A T c.at_) A;exact a3.o e c
structure vq (F:Prop)(m:Md.dY)(cs:E fj)(e:He)(w':L):Prop where
 vm:∃us v',eW m.vs us/\((∃en ch,bC w' v' (Md.cX (m.next+1) m.aN (us++[⟨m.next,0,en,ch⟩]))/\m.next≠1048576/\e=f #[t #[G m.aN,G (m.next+1),v'],G m.next,G 0])\/
  (¬F/\∃n:C,1<=n/\n<=12/\bC w' v' us/\e=f #[t #[m.aN,m.next,v'],G 0,G n]))
def Wu:(N.info? 200).map (·.size)=M 5:=e
section
variable {ops:Array Le}{rest:List Le}{o:Le}{a:Act}{w:ν}{Q:Exit->Act->ν->Prop}
def adp (m:o.guard=J)(A M:Kg)(n:o.op=.store 200 A M)(j:D)(q:a.eval A=V j)(f:QF S)(P:f.size=5)(Z:f.all (·.oneCell')=U)(r:a.eval M=t f)(z:Λ)(u:QF S)(p:u.size=5)
 (O:w.heap[j]?=K u z) (X:∀W,bd w W j (K f z)->Ji N ops Q rest (a.put o.dst undef) W):Ji N ops Q (o::rest) a w:=
 Xw m 200 A M n j f q r z u O (P▸Wu) (by rw[p,P]) Z (X _ (dk O))
end
def lp {w:L}{f:JM}{j:S}(b:w f=j)(u:(∀c,j≠O c)/\∀d,j≠z d)(A:S):eV w (w.setCell f A):=⟨λ_ _ b=>b.bV _ _,λg=>by
 by_cases t:f=g
 .subst t;rw[b];exact⟨λc e=>absurd (Gm e) (u.1 c),λd e=>absurd (Gm e) (u.2 d)⟩
 rw[ID w f g _ t];exact⟨λ_ b=>b,λ_ b=>b⟩⟩
def MW {w:ν}{A:D}{f:E Md.dp}(J:bC w (ο A (f:D) (f:D)) f)(j:Md.dp)(z:D)(Z:∀h d,(gS j)[h]?=M d->w ⟨z,h,ζ⟩=M d)(R:(f:D)<=1000)
 (V:∃b,dF w j.ei b/\bD b) (L:∃i,jv w j.fI i/\(i:D)<=80):
 ∃x O,(∀s,(Builtin.append_ #[91,91] s #[ο A (f:D) (f:D),ο z 1 1]).run N w=Je (ο w ((f:D)+1) x) O)/\
  bC O (ο w ((f:D)+1) x) (f++[j])/\T w w O:=by
 let⟨n,S,Y,y,F⟩:=pa J;simp only[Gy,Gd,GS,QW] at y;obtain⟨⟨rfl,rfl⟩,-,rfl⟩:=y;have u:=yR;cases K:N.info? 107 with
 |none=>rw[K] at u;cases u
 |some G=>
  rw[K] at u;simp only[JR,Gd,Hf] at u;let⟨k,e,I⟩:=u;have X:=λs=>run_append_grow (P:=N) (w:=w) 91 s 107 G _ sW K k A (f:D) (f:D) (f.flatMap gS) (e▸qn f) F
   z 1 1 (gS j) (e▸rfl) (λh l g=>by rw[Jg,GU];exact Z h l g) H H (by have:=nextslicecap_le (need:=(f:D)+1) (old:=(f:D)) H;rw[I];omega)
  have m:=grownCap_ge w ((f:D)+1) (f:D) 107;have t:∀r,T w w (w.drew.alloc r):=λr=>Below.alloc QG.d QD r;refine⟨_,_,X,?_,t _⟩;have U:(f++[j]:D)=(f:D)+1:=sm;rw[<-U];refine Bn (Gc w.drew _) (λh d g=>?_) (by rwa[U]) (λv c=>?_) (λv c=>?_)
  .rw[Hj] at g;have W:=(Gg.1 g).1;rw[Qj (sU W),<-IQ];simpa using g
  .rcases GO.1 c with c|c
   .exact(J.aE (t _)).ei v c
   cases GA.1 c;let⟨b,p,q⟩:=V;exact⟨b,p.aE (t _),q⟩
  rcases GO.1 c with c|c
  .exact(J.aE (t _)).fI v c
  cases GA.1 c;let⟨i,p,q⟩:=L;exact⟨i,p.aE (t _),q⟩
def Du (b6:Prop)(r1 k2:π)(f:Md.dY)(ag:List fj)(w:ν)(i7:bC w r1 f.vs)(D6:f.vs.length<=900)(n6:Md.Ok f)(i5:eh w k2 ag)(u6:ag.length<=1000)(v:b6->(∃k,f.vs.getLast?=M k/\Fh k.ei)/\(∀d4∈ag,d4.wC=ψ)/\ag.length<=40/\f.next≠1048576):
 τ γ 47 #[Γ #[Z u f.aN,Z u f.next,r1],k2] w λh b=>vq b6 f ag h b/\ρ w w b:=by
 have d9:=F v;clear v;have w0:f.vs.length<=1000:=H;obtain⟨A0,A2,rfl,-⟩:=i5.bZ;have t0:=F i5;clear i5;obtain⟨⟨r4,r5,d3,rfl,u3,h6,h3⟩,u8,u4⟩:=id i7;replace h6:=h6.lt;obtain⟨e,E1,c8⟩:=aU w (K #[Z u f.aN,Z u f.next,P (M ⟨r4,r5,J⟩) f.vs.length d3] 93);obtain⟨g2,E2,d1⟩:=aU e (K #[Z u 0,Z u 0,P J 0 0] 93);have h1:=c8.aE.t (d1.aE.m c8.aE.z);have S:g2.heap[w.heap.size]?=_:=d1.aE.ke c8.at_;have f6:=d1.at_;have d0:=cJ 0 S;have L:=cJ 1 S;have N:=cJ 2 S;have m1:=F (vn _ f.vs f.aN f.next g2 (i7.aE h1) w0);have m:=F (κ c8.aH d1.aH);have k8:=F h1;have a4:=F n6;clear c8 d1 h1 i7 h3 u8 u4 h6 u3 n6;go_enter func47,ntmps47;go_wp2_with fail;go_call m1.o as h y4 ⟨⟨g,E,rfl,e8,c6,e9,o0⟩,e1⟩;have i0:=e9.cB;have S:=e1.ke S;have f6:=e1.ke f6;have n7:=Ok.iR a4.o e9;have q2:=F (k8.o.t (e1.m k8.o.z));obtain⟨CS,c3⟩:∃CS:QF π,CS=#[Z u f.aN,Z u f.next,P g f.vs.length f.vs.length]:=⟨_,rfl⟩;have d2:CS.size=3:=by rw[c3];rfl
 have C5:CS.all (·.oneCell')=ψ:=by rw[c3];simp[φ]
 have l9:Φ (∀I,bd y4 I w.heap.size (K CS 93)->bC I (P g E.length E.length) E/\ρ w w I/\I.heap[e.heap.size]?=M (K #[Z u 0,Z u 0,P J 0 0] 93)/\∃z,I.heap[g]?=M (K z 107)):=F λI r=>by
  have p4:=m.o;obtain⟨z,u7⟩:=o0;refine⟨?_,r.aE _ _ (Gb _) q2.o,(r.old _ H).t f6,z,(r.old g H).t u7⟩;rw[<-i0] at c6;refine c6.jT (dG λs=>?_) (r.old g H) (by rw[r.aH];exact Gb _);by_cases x:s=w.heap.size
  .subst x;exact Θ ⟨_,_,_,S,⟨_,_,r.at_⟩,db _ _ _ _ _⟩
  exact Ξ (r.old s x)
 have r8:Φ (g2.heap.size<=g):=F e8;rw[<-c3];have g6:=F c3;have a3:=F (κ e9 i0);have s3:=F n7;clear c3 e9 i0 n7 c6 f6 e1 m1 d0 L N e8 o0;go_upto_region 2 with(refine uS S ?_;intro I r);obtain⟨j0,m9,o2,n3⟩:=l9.o I r;have a7:=r.at_;have l6:=F a7;rw[g6.o] at a7;have d0:=cJ 0 a7;have L:=cJ 1 a7;have N:=cJ 2 a7;have h0:=F (ig _ {f with vs:=E} I j0 (by have:=a3.2;simp only;omega) s3.o);rw[a3.2] at h0;have t4:=F j0;have l2:=F m9;have q6:=F n3;clear r j0 m9 l9 S a7 n3;go_wp2_with fail;go_call h0.o as h w5 ⟨rfl,O⟩;have p5:=O.ke l6.o;have j6:=O.ke o2;have e2:=F (t4.o.aE O);have g4:=F (l2.o.t (O.m l2.o.z));have g8:Φ (∃z,w5.heap[g]?=M (K z 107)):=F (by obtain⟨z,W⟩:=q6.o;exact⟨z,O.ke W⟩);have d0:=O.ce d0;have L:=O.ce L;have N:=O.ce N;clear O h0 l6 o2;have w4:0<f.vs.length:=by
  obtain⟨k,q,_⟩:=a4.o.cf;cases c6:f.vs with
  |nil=>rw[c6] at q;cases q
  |cons a r6=>simp
 have i6:E.length=f.vs.length:=a3.2;have v9:g≠w.heap.size/\g≠e.heap.size:=by have:=m.o;have:=r8.o;omega
 obtain⟨X,h8⟩:∃X,f.vs.length-1=X:=⟨_,rfl⟩;obtain⟨k,q⟩:∃k,E[X]?=M k:=⟨_,Gf H⟩;have z3:u.wrap ((f.vs.length:Int)-1)=(X:Int):=by rw[GD _ H];omega
 have D3:(X:Int)<(f.vs.length:Int):=H;have D2:(0:Int)<=(X:Int):=H;obtain⟨b3,i1,n4⟩:=e2.o.ei k (Gl q);obtain⟨k5,k6,e6,-⟩:=i1.1.bZ;have a8:w5.cell? ⟨g,X*4+1,J⟩=M (P k5 b3.length k6):=by
  obtain⟨s,x8,r3,n1,-,-,h3⟩:=e2.o.at_;simp only[Gy,Gd,GS,QW] at n1;obtain⟨⟨rfl,rfl⟩,-,rfl⟩:=n1;rw[<-e6];simpa using(h3 X k q).2.1
 have e0:=F (κ i1 n4);have q4:=F e6;have q5:Φ (b6->b3=[]):=F λv=>by
  obtain⟨⟨x0,p3,w1⟩,-⟩:=d9.o v;rw[Lo,h8] at p3;obtain⟨a,d4,n⟩:=(a3.1.yQ X x0 k p3 q).2.2.1 w1;rw[e6] at n;cases u9:b3 with
  |nil=>rfl
  |cons k3 r6=>rw[u9] at n;simp at n
 have D4:X<f.vs.length:=H;have A9:=F (κ h8 q);have m2:=F (t0.o.aE g4.o);have q9:Φ (g<w5.heap.size):=F (by obtain⟨z,W⟩:=g8.o;exact aw W);have j:Φ (e.heap.size<w5.heap.size/\w.heap.size<e.heap.size):=F ⟨aw j6,by have:=m.o;omega⟩;clear h8 q i1 n4 e6 w4;go_upto_region 5 with(refine adp rfl _ _ rfl w5.heap.size rfl #[Z u 0,P J 0 0,P J 0 0,Z u 0,P k5 b3.length k6] rfl (by simp[φ]) rfl 200 #[Z u 0,P J 0 0,P J 0 0,Z u 0,P J 0 0] rfl (Gc w5 _) ?_;intro d8 f7);have U:ρ w5 w5 d8:=f7.aE _ _ (Gb _) ((Ge _ w5).a (Gb _) _);have p6:=U.ke p5;have p9:=U.ke j6;have t5:=F (e2.o.aE U);have l3:=F (g4.o.t (U.m g4.o.z));have q7:Φ (∃z,d8.heap[g]?=M (K z 107)):=F (by obtain⟨z,W⟩:=g8.o;exact⟨z,U.ke W⟩);have d0:=U.ce d0;have L:=U.ce L;have N:=U.ce N;have j9:=f7.at_;have B5:=cJ 4 j9;have f2:=e0.1.aE U;rw[q4.o] at f2;have k7:=F (xm _ _ b3 ag d8 f2.1 (m2.o.aE U) (by have:=e0.2.aH;omega) u6);have s5:=F f2;have t7:Φ (d8.heap.size=w5.heap.size+1):=F (by rw[f7.aH];simp);clear f7 U f2;go_wp2_with fail;go_call k7.o as h d6 ⟨e5,A⟩;clear k7;have j2:=A.ke p6;have g0:=A.ke p9;have k0:=A.ke j9;have m3:=F (t5.o.aE A);have l4:=F (l3.o.t (A.m l3.o.z));have A8:Φ (∃z,d6.heap[g]?=M (K z 107)):=F (by obtain⟨z,W⟩:=q7.o;exact⟨z,A.ke W⟩);have d0:=A.ce d0;have L:=A.ce L;have N:=A.ce N;have s6:=F (s5.o.aE A);have t8:Φ (w5.heap.size<d6.heap.size):=F (by have:=A.z;have:=t7.o;omega);have g9:Φ (∀w8,bd d6 w8 e.heap.size (K CS 93)->∀y:Int,1<=y->y<=12->¬b6->vq b6 f ag (ι (χ #[Γ CS,Z u 0,Z u y])) w8/\ρ w w w8):=F λw8 c y f0 f1 w2=>by
  have o6:=m3.o;rw[i6] at o6;refine⟨⟨E,_,a3.1,Θ ⟨w2,y,f0,f1,o6.jT (dG λs=>?_) (c.old g v9.2) (by rw[c.aH];exact Gb _),by rw[g6.o]⟩⟩,c.aE _ _ (by have:=m.o;omega) l4.o⟩;by_cases x:s=e.heap.size
  .subst x;exact Θ ⟨_,_,_,g0,⟨_,_,c.at_⟩,db _ _ _ _ _⟩
  exact Ξ (c.old s x)
 clear A p6 p9 j9 p5 j6 e2 g8 m2 a8;rcases e5 with⟨y,rfl,f0,f1,n5⟩|⟨A3,t,rfl,i3,e7,w3⟩
 .have p4:(y !=0)=ψ:=by simp;omega
  have g7:=F (λw8 c=>g9.o w8 c y f0 f1 λv=>n5 (by rw[q5.o v];exact⟨⟨λC7 h n=>by simp at n,by simp⟩,(d9.o v).2.1,by simpa using(d9.o v).2.2.1⟩));clear n5 f0 f1;go_wp2_with (first|(refine yS rfl _ rfl w.heap.size rfl 93 CS (0,0) d2 j2 ?_)|(refine uS g0 ?_;intro w8 c));refine QM (eG rfl rfl d2 c.at_) rfl ?_;exact g7.o w8 c
 have p4:((0:Int) !=0)=σ:=dc;clear w3;by_cases a6:f.next=1048576
 .have v7:((f.next:Int)==1048576)=ψ:=by simp[a6]
  have g7:=F (λw8 c=>g9.o w8 c 12 H H λv=>(d9.o v).2.2.2 a6);clear i3 e7 a6;go_wp2_with (first|(refine yS rfl _ rfl w.heap.size rfl 93 CS (0,0) d2 j2 ?_)|(refine uS g0 ?_;intro w8 c));refine QM (eG rfl rfl d2 c.at_) rfl ?_;exact g7.o w8 c
 have v7:((f.next:Int)==1048576)=σ:=by simp[a6]
 have s2:=F a6;have E0:1<=f.next/\f.next<=1048576:=⟨a4.o.n1,a4.o.n2⟩;have h5:g≠w5.heap.size:=λh=>by
  have C9:=q9.o;omega
 have v0:=cJ 0 k0;have C2:=aI k0 0;have c:=aF (j:=0) (Z u f.next) k0;have c7:=lp v0 ⟨R,R⟩ (Z u f.next);obtain⟨w8,p1⟩:∃w8,d6.setCell w5 (Z u f.next)=w8:=⟨_,rfl⟩;rw[p1] at c c7;have n9:=i3.bK c7;obtain⟨z1,z2,rfl,o8,o9⟩:=sd n9;have x6:=(c.old _ (by have:=j.o;omega)).t j2;have y5:=(c.old _ (by have:=j.o;omega)).t g0;have r0:=c.at_;simp at r0;have t6:=F (m3.o.jT c7 (c.old g h5) (Iu c.aH.s));have s8:=F (s6.o.bK c7);have l5:=F (c.aE w.heap.size w (by have:=j.o;omega) l4.o);have t9:Φ (w5.heap.size<w8.heap.size):=F (by rw[c.aH];exact t8.o);have D5:=e7.aH;have l7:=F (Ff z1 t.length z2 (t.flatMap λh=>[β h.1,β h.2]) w8 (SW t) H (λn=>o8 n) (λr7 w6 b4 k3 h7=>o9 r7 w6 b4 k3 h7) (λk3 x3=>by
  obtain⟨h,_,n⟩:=Jw.1 x3
  simp at n;rcases n with rfl|rfl<;>rfl))
 have q8:=F e7;clear c c7 n9 i3 e7 o8 o9 a6 g9;go_upto_region 11 with fail;clear p1;go_wp2_with fail;go_call l7.o as h q0 ⟨⟨B2,rfl,i2⟩,T⟩;clear l7;obtain⟨V,c9,rfl⟩:=aR i2;have x7:=T.ke x6;have y6:=T.ke y5;have k1:=T.ke r0;have v1:=cJ 1 k1;have C3:=aI k1 1;have i:=aF (j:=1) (P V t.length c9) k1;have b9:=lp v1 ⟨R,R⟩ (P V t.length c9);obtain⟨a1,p0⟩:∃a1,q0.setCell ⟨w5,1,J⟩ (P V t.length c9)=a1:=⟨_,rfl⟩;rw[p0] at i b9;have x4:=(i.old _ (by have:=j.o;omega)).t x7;have x9:=(i.old _ (by have:=j.o;omega)).t y6;have g1:=i.at_;simp at g1;have m4:ρ w w a1:=i.aE w.heap.size w (by have:=j.o;omega) (l5.o.t (T.m l5.o.z));have t3:=F ((t6.o.aE T).jT b9 (i.old g h5) (Iu i.aH.s));have s7:=F ((s8.o.aE T).bK b9);have m0:Φ (dF a1 (P V t.length c9) t):=F ((dF.cT i2).bK b9);have l8:=F (AH _ _ b3 t a1 s7.1 m0.1 (by have:=e0.2.aH;omega) H);have B7:=cJ 1 g1;have C6:=cJ 4 g1;have k9:=F m4;have B3:Φ (w5.heap.size<a1.heap.size):=F (by rw[i.aH];exact GP t9.o T.z);clear i b9 i2 T m4;go_upto_region 12 with fail;clear p0;go_wp2_with fail;go_call l8.o as h k4 ⟨⟨B0,C,rfl,h4,u5,-,-⟩,a5⟩;clear l8;obtain⟨d,G,rfl,-⟩:=h4.1.bZ;have x5:=a5.ke x4;have y0:=a5.ke x9;have j7:=a5.ke g1;have v2:=cJ 2 j7;have B8:=aI j7 2;have Y:=aF (j:=2) (P d C.length G) j7;have c0:=lp v2 ⟨R,R⟩ (P d C.length G);obtain⟨ah,x1⟩:∃ah,k4.setCell ⟨w5,2,J⟩ (P d C.length G)=ah:=⟨_,rfl⟩;rw[x1] at Y c0;have j1:=(Y.old _ (by have:=j.o;omega)).t x5;have y1:=(Y.old _ (by have:=j.o;omega)).t y0;have a9:=Y.at_;simp at a9;have e4:ρ w w ah:=Y.aE w.heap.size w (by have:=j.o;omega) (k9.o.t (a5.m k9.o.z));have o3:=(t3.o.aE a5).jT c0 (Y.old g h5) (Iu Y.aH.s);have o1:=(m0.o.aE a5).bK c0;have n0:=(show jv k4 _ C from h4).bK c0;obtain⟨ai,E3,af⟩:=aU ah (K #[Z u f.next,P V t.length c9,P d C.length G,Z u 0] 107);have o7:=o3.aE af.aE;obtain⟨b2,a2,e5,i8,m5⟩:=MW o7 ⟨f.next,0,P V t.length c9,P d C.length G⟩ ah.heap.size (λb4 k2 h7=>by
  rw[Xe _ _ _ _ _ _ af.at_,KT];exact h7) H ⟨t,o1.aE af.aE,q8.o⟩ ⟨C,n0.aE af.aE,by have:=e0.2.aH;omega⟩
 rw[i6] at e5 i8;have c2:ρ ah ah a2:=af.aE.t (m5.m af.aE.z);have f3:a2.heap[w.heap.size]?=_:=c2.ke j1;have y2:a2.heap[e.heap.size]?=_:=c2.ke y1;have y8:a2.heap[w5.heap.size]?=_:=c2.ke a9;rw[g6.o] at j1 f3;have C8:=cJ 2 j1;have z6:=cJ 0 a9;have z7:=cJ 1 a9;have z8:=cJ 2 a9;have z9:=cJ 3 a9;have l0:=F (e4.t (c2.m e4.z));have u1:=cJ 2 f3;have B9:=aI f3 2;have ab:=aF (j:=2) (P ai (f.vs.length+1) b2) f3;have j3:=lp u1 ⟨R,R⟩ (P ai (f.vs.length+1) b2);obtain⟨g3,v8⟩:∃g3,a2.setCell ⟨w,2,J⟩ (P ai (f.vs.length+1) b2)=g3:=⟨_,rfl⟩;rw[v8] at ab j3;have f4:=ab.at_;simp at f4;have p2:ai.heap.size≠w.heap.size:=by have:=l0.o.z;have:=af.aH;have:=e4.z;have:=j.o;omega
 have o4:=i8.jT j3 (ab.old _ p2) (Iu ab.aH.s);have y3:=(ab.old _ (by have:=m.o;omega)).t y2;have y9:=(ab.old _ (by have:=j.o;have:=m.o;omega)).t y8;have q1:=F (ab.aE w.heap.size w (Gb _) l0.o);have u0:=cJ 1 f4;have C0:=aI f4 1;have z4:u.wrap (f.next+1)=f.next+1:=GD _ H;have ae:=aF (j:=1) (Z u (f.next+1)) f4;have j4:=lp u0 ⟨R,R⟩ (Z u (f.next+1));obtain⟨p,x2⟩:∃p,g3.setCell ⟨w,1,J⟩ (Z u (f.next+1))=p:=⟨_,rfl⟩;rw[x2] at ae j4;have f5:=ae.at_;simp at f5;have o5:=o4.jT j4 (ae.old _ p2) (Iu ae.aH.s);have p8:=(ae.old _ (by have:=m.o;omega)).t y3;have j8:=(ae.old _ (by have:=j.o;have:=m.o;omega)).t y9;have l1:=F (ae.aE w.heap.size w (Gb _) q1.o);have h9:(E++[(⟨f.next,0,P V t.length c9,P d C.length G⟩:Md.dp)]).length=f.vs.length+1:=by simp[i6]
 have q3:Φ (∀a0,ρ p p a0->τ γ 95 #[Γ #[Z u f.aN,Z u (f.next+1),P ai (f.vs.length+1) b2]] a0 λh b=>(∃r2,h=ι (Γ #[Z u f.aN,Z u (f.next+1),r2])/\bC b r2 (Md.cX (f.next+1) f.aN (E++[⟨f.next,0,P V t.length c9,P d C.length G⟩])))/\ρ a0 a0 b):=F λa0 v3=>
  xy _ _ f.aN (f.next+1) a0 (o5.aE v3) (by rw[h9];omega) H (by have:=a4.o.w1;have:=a4.o.w8;omega)
 have d3:=cJ 0 f5;have c1:=cJ 1 f5;have m7:=cJ 2 f5;have s0:=cJ 0 j8;have B1:=F j8;have b7:Φ (p.drew.heap[e.heap.size]?=M (K #[Z u 0,Z u 0,P J 0 0] 93)):=F p8;have s9:Φ (p.drew.cell? w5=M (Z u f.next)):=F s0;have r9:=F (κ h9 s2.o);clear Y c0 a5 e4 o3 o1 n0 o7 i8 m5 af ab j3 o4 ae j4 o5 h4 u5 c2 h9 j8 p8;go_upto_region 15 with(at_builtin;refine ox rfl _ _ 91 rfl _ _ _ a2 rfl rfl (e5 91) ?_);have D8:¬e.heap.size=w5.heap.size:=by have:=j.o;omega
 have g5:Φ (p.drew.cell? w=M (Z u f.aN)/\p.drew.cell? ⟨w,1,J⟩=M (Z u (f.next+1))/\p.drew.cell? ⟨w,2,J⟩=M (P ai (f.vs.length+1) b2)):=F ⟨d3,c1,m7⟩;have D7:¬e.heap.size=w.heap.size:=by have:=j.o;omega
 go_region_held3 (λb=>b.cell? w=M (Z u f.aN)/\b.cell? ⟨w,1,J⟩=M (Z u (f.next+1))/\b.cell? ⟨w,2,J⟩=M (P ai (f.vs.length+1) b2)/\b.cell? w5=M (Z u f.next)) (first|exact⟨d3,c1,m7,s0⟩|exact⟨v4,v5,v6,y7⟩|go_keep) (first|(go_at_call 95;(refine(q3.o _ (by first|exact(Ge _ p).d|exact(Below.refl _ p).drewN _)).m ?_);rintro h b0 ⟨⟨z0,rfl,i9⟩,l⟩;have w9:∃a y d4,z0=P a y d4:=(by obtain⟨s,x8,r3,n,-⟩:=i9.at_;exact⟨_,_,_,n⟩);obtain⟨B4,z5,m6,rfl⟩:=w9;have A4:b0.cell? e=M (Z u 0):=l.ce (cR b7.o rfl);have A5:b0.cell? ⟨e,1,J⟩=M (Z u 0):=l.ce (cR b7.o rfl);have A6:b0.cell? ⟨e,2,J⟩=M (P J 0 0):=l.ce (cR b7.o rfl);have A7:∀b4,b0.frozen? ⟨e,b4,J⟩=σ:=λb4=>aI (l.ke b7.o) b4;have y7:=l.ce s9.o;have v4:=l.ce g5.1;have v5:=l.ce g5.2.1;have v6:=l.ce g5.2.2;have D9:¬e.heap.size=w5.heap.size:=(by have:=j.o;omega)));go_wp2;obtain⟨h2,p7,B6,n2,D0,w7,-⟩:=i9.at_;simp only[Gy] at n2;obtain⟨rfl,rfl,rfl⟩:=n2;have j5:=l.ke b7.o;have f8:=aF (j:=0) (Z u f.aN) j5;have f9:=aF (j:=1) (Z u (f.next+1)) f8.at_;have a8:=aF (j:=2) (P (M ⟨h2,p7,J⟩) (Md.cX (f.next+1) f.aN (E++[(⟨f.next,0,P V t.length c9,P d C.length G⟩:Md.dp)])).length m6) f9.at_;have m8:_=M (K #[Z u f.aN,Z u (f.next+1),P (M ⟨h2,p7,J⟩) (Md.cX (f.next+1) f.aN (E++[(⟨f.next,0,P V t.length c9,P d C.length G⟩:Md.dp)])).length m6] 93):=a8.at_;have n8:∀b5,b5≠e.heap.size->_=b0.heap[b5]?:=λb5 i4=>(a8.old b5 i4).t ((f9.old b5 i4).t (f8.old b5 i4));have e8:h2≠e.heap.size:=λh=>by
  obtain⟨ag,C4,W⟩:=w7;rw[h,j5] at W;simp at W
 refine QM (eG rfl rfl rfl m8) rfl ⟨⟨E,_,a3.1,Ξ ⟨_,_,i9.Ds (dG λs=>?_) (n8 _ e8) (by rw[a8.aH,f9.aH,f8.aH];exact Gb _),r9.2,rfl⟩⟩,?_⟩
 .by_cases x:s=e.heap.size
  .subst x;exact Θ ⟨_,_,_,j5,⟨_,_,m8⟩,db _ _ _ _ _⟩
  exact Ξ (n8 s x)
 have u2:ρ w w b0:=l1.o.t (Lh (B:=p.heap.size) ⟨l.os,l.tape,l.output,l.z,l.b⟩ l1.o.z);exact a8.aE _ _ (by have:=j.o;omega) (f9.aE _ _ (by have:=j.o;omega) (f8.aE _ _ (by have:=j.o;omega) u2))
def eX:Keyed N 3:=Maps.int_keyed Hu
def il (f:C):IA:=.int u f
def jc {j:C}(f:il c=il j):c=j:=by unfold il at f;cases f;rfl
def iz (f:C):WideAt.IsKeyLit (il f):=by simp[il,WideAt.IsKeyLit]
def kG {n:C}(f: -9223372036854775808<=n/\n<=9223372036854775807):Xi N 3 (G n)=il n:=Maps.keyOf_int_mk Hu (by
 simp only[Lit.wf,Jc,XE]
 exact⟨f.1,f.2⟩)
structure Pl where
 c:D
 r:D
 s:D
 m:D
 h:D
 k:D
 cg:C
 b:D
structure sX (w:L)(r:D)(vs:E Md.dp)(R:E (IA×S)):Prop where
 cS:bj N w 3 r R
 sD:∀p∈R,∃b root,p=(il b,O root)/\ByteArray.size root=32
 fT:∀v∈vs,(aT R (il v.aG)).isSome=U
structure bt (w:ν)(p:Pl)(md:Md.dY)(R L:E (IA×S))(ca:Cc.Ca)(G:D):Prop where
 bO:∃v,w.heap[p.c]?=K #[ϑ md.aN,ϑ md.next,v,KD (M p.r),V p.s,V p.h] 101/\bC w v md.vs
 ok:Md.Ok md
 df:sX w p.r md.vs R
 cO:bp w p.s p.m p.cg L
 gO:Cc.bM w p.k p.h ca
 fc:p.r≠p.m/\p.r≠p.k/\p.m≠p.k
 cg:1<=p.cg/\p.cg<=9223372036854775807
 next:md.next<=1+G
 rq:R.length<=1+G
 ru:L.length<=1+780*G
 ry:ca.n<=G/\ca.C.length<=G
 rz:G<=51
 dK:p.b<=p.c/\p.b<=p.r/\p.b<=p.m/\p.b<=p.k
 ep:∀x∈ca.T,x.2.size<=80
def bt.aE {w w':ν}{p:Pl}{md:Md.dY}{R L:List (IA×π)}{d:Cc.Ca}{c:Nat}(a:bt w p md R L d c)(b:ρ w w w'):bt w' p md R L d c where
 bO:=by
  obtain⟨v,e,f⟩:=a.bO;exact⟨v,b.ke e,f.aE b⟩
 ok:=a.ok
 df:=⟨a.df.cS.aM (b.b _ a.df.cS.lt),a.df.sD,a.df.fT⟩
 cO:=a.cO.aE b
 gO:=a.gO.aM ⟨b.os,b.tape,b.output,b.z,λk g _=>b.b k g⟩
 fc:=a.fc
 cg:=a.cg
 next:=a.next
 rq:=a.rq
 ru:=a.ru
 ry:=a.ry
 rz:=a.rz
 dK:=a.dK
 ep:=a.ep
def se :∀(e:E Md.dp) (b:C),Md.ja e->(∀a∈e,b<=a.aG)->(∀a∈e,a.aG<=c)->b<=c+1->((e:D):C)<=c+1-b
 |[],b,_,_,_,i=>QB
 |g::p,b,l,k,h,i=>by
  let⟨m,n⟩:=Nr.1 l;have f:=k g (Hk ..);have o:=h g (Hk ..);have:=se p (g.aG+1) n (λa d=>oA (m a d)) (λa d=>h a (GK _ d)) H;simp[Gx];omega
def Dv {f:E Md.dp}(z:Md.ja f)(o:∀j∈f,0<=j.aG)(t:∀j∈f,j.aG<=c)(u:0<=c+1):((f:D):C)<=c+1:=by
 have:=se f 0 z o t u;omega
def bt.cB {u:Pl}{j:Md.dY}{o:E (IA×S)}{t:Cc.Ca}(f:bt g u j n o t w):j.vs.length<=60:=by
 have z:=Dv f.ok.kx f.ok.dK (Md.jF f.ok) (by have:=f.ok.n1;omega);have A:=f.next;have J:=f.rz;omega
def na (f:Pl)(j:L)(b:∃d e a g,j.heap[f.c]?=K #[d,e,a,g,V f.s,V f.h] 101):Y N 44 #[V f.c] j λh i=>h=z U/\j=i:=by
 let⟨d,e,a,g,b⟩:=b;have c4:=cJ 4 b;go_enter func44,ntmps44;go_wp2;go_ret;exact⟨A,A⟩
def iA {u:Func}{o z A:Tmp}{t:TypeDesc}(M:u.results=#[.cell o p,.tmp z,.tmp A]){j:Q S}{r:Λ}{P:D×D}(X:h.getD o undef=V w)
 (O:g.heap[w]?=K j r P) (hd:yv t=U) (Z:N.underlying p=t) (W:(N.info? p).map (·.size)=j.size):
 (results u h).run N g=Je (f #[j,h.getD z undef,h.getD A undef]) g:=by
 have J:h[o]?.getD undef=V w:=sU X;simp[results,M,J,asAddr,uC O hd Z W]
def Th (A:E Md.dp)(K:E (IA×S))(u:C)(z:He):Prop:=
 (∃j∈A,j.aG=u/\∃o:B,o.size=32/\aT K (il u)=o/\z=f #[t #[G j.aG,j.ei,j.fI,G j.aZ],O o,ω])\/
 ((∀j∈A,j.aG≠u)/\z=f #[t #[G 0,P J 0 0,P J 0 0,G 0],I,Δ 27 (G 4)])
def xz (f:∀o∈n,∃d a,o=(il d,O a)/\ByteArray.size a=32)(j:aT n (il c)=m):∃a:B,a.size=32/\m=O a:=by
 let⟨d,a,i,g⟩:=f _ (cx j);simp only[Hf] at i;exact⟨a,g,i.2⟩
def YG (f:L):(Xs 9).run N f=Je I f:=e
def lY (K:Pl)(z:Md.dY)(M a5:E (IA×π))(b7:Cc.Ca)(b2:D)(j:C)(a:ν)(p:bt a K z M a5 b7 b2)(c0: -9223372036854775808<=j/\j<=9223372036854775807):
 τ γ 49 #[ξ K.c,G j] a λm d1=>Th z.vs M j m/\T a a d1:=by
 let⟨Y,e4,r⟩:=aU a (θ #[G j] 3);let⟨b,e5,s⟩:=aU Y (θ #[G 0,P J 0 0,P J 0 0,G 0] 107);have n:=r.aE.t (s.aE.m r.aE.z);have e2:=p.cB;have h:=F (p.aE n);let⟨f0,x,N⟩:=h.o.bO;obtain⟨⟨W,d,c7,rfl,b9,-,q⟩,-,-⟩:=id N;have af:=F (na K b ⟨_,_,_,_,x⟩);have rS:∀(ai:Fn) (first a4:Q π) (a:ν),(Instr.makeFunc ai first a4).run γ a=Je (Hl ai first a4) a:=λ_ _ _ _=>rfl;have d6:b (K.c,3)=KD (δ K.r):=cR x A;have g:b (K.c,2)=P (W,d) (z.vs:D) c7:=cR x A;have S:b a=j:=s.aE.ce (cR r.at_ A);have d3:=s.at_;have U:∀c,(Instr.lookup 95 (KD (δ K.r)) (G j) ψ).run γ (b.drewN c)=Je (χ #[(aT M (il j)).getD eS,υ (aT M (il j)).isSome]) (b.drewN c):=λc=>bj.El (w:=b.drewN c) (h.o.df.cS.aM (w':=b.drewN c) A) eX Lv (YG _) (kG c0);have b5:=F N;have i:=F n;have l:=F (κ r.aH s.aH);have H:=h.o.df.sD;have L:=h.o.df.fT;clear r s n p x N q b9;cases t:aT M (il j) with
 |none=>
  rw[t] at U;simp only[Option.getD_none,Option.isSome_none] at U;have k:=QC (∀e∈z.vs,e.aG≠j) λe c2 m=>by
   have:=L e c2;rw[m,t] at this;cases this
  clear H L t;go_enter func49,ntmps49;go_wp2_with ((with_reducible go_call af.o as m o ⟨rfl,O⟩);subst O);go_quiet (fail);generalize u:b.drewN _=o;have R:o.heap[(Y:D)]?=θ #[G 0,P J 0 0,P J 0 0,G 0] 107:=by rwa[<-u]
  have y:=QC (T a a o) (u▸i.o.sI _);clear u U;go_wp2_with (apply uT R;intro v a2);apply QM (iA A A a2.at_ A Lk jw) A;exact⟨Θ ⟨k.o,A⟩,a2.aE _ _ (oA l.o) y.o⟩
 |some e9=>
  obtain⟨a3,aj,rfl⟩:=xz H t;rw[t] at U;simp only[PS,Option.isSome_some] at U;have ab:=F (κ aj t);clear H L aj t;go_enter func49,ntmps49;go_wp2_with ((with_reducible go_call af.o as m o ⟨rfl,O⟩);subst O);go_quiet (fail);generalize u:b.drewN _=o;have R:o.heap[(Y:D)]?=θ #[G 0,P J 0 0,P J 0 0,G 0] 107:=by rwa[<-u]
  have V:T b b o:=u▸(Ge _ b).sI _;have y:=QC (T a a o) (i.o.t (V.m i.o.z));have ag:=F (b5.o.aE V);have g:=V.ce g;have S:=V.ce S;have b4:=F (Bo _ z.vs (a:D) j o ag.o om S);clear u U V;go_wp2_with fail;go_call b4.o as m v ⟨b6,f⟩;have a1:=f.ke R;have ah:=F (ag.o.aE f);have ae:=F (y.o.t (f.m y.o.z));have g:=f.ce g;rcases b6 with⟨c,e,X,a0,rfl⟩|⟨al,rfl⟩
  .let⟨⟨a9,c8,a7,w⟩,⟨a6,b0,a8,I⟩⟩:=ah.o.fL (Gl X);let⟨e7,c3,c6,e8⟩:v ⟨W,d+c*4,J⟩=G e.aG/\v ⟨W,d+c*4+1,J⟩=δ e.ei/\v ⟨W,d+c*4+2,J⟩=δ e.fI/\v ⟨W,d+c*4+3,J⟩=G e.aZ:=by
    let⟨d8,e6,d4,ak,_,_,q⟩:=ah.o.at_;simp only[Gy,Gd,GS,QW] at ak;obtain⟨⟨rfl,rfl⟩,-,rfl⟩:=ak;exact q c e X
   rw[w] at c3;rw[I] at c6;have e1:=(Gg.1 X).1;have d9:(0:C)<=(c:C):=om;have e0:(c:C)<((z.vs:D):C):=om;have b3:=QC (Th z.vs M j (ι (χ #[Γ #[G e.aG,P a9 c8 a7,P a6 b0 a8,G e.aZ],β a3,ω]))) (Ξ ⟨e,Gl X,a0,a3,ab.1,ab.2,by rw[w,I]⟩);clear X a0 w I f;go_wp2_with (apply uT a1;intro d2 Z);apply QM (iA A A Z.at_ A Lk jw) A;exact⟨b3.o,Z.aE _ _ (oA l.o) ae.o⟩
  have k:=F al;clear al f;go_wp2_with (apply uT a1;intro d2 Z);apply QM (iA A A Z.at_ A Lk jw) A;exact⟨Θ ⟨k.o,A⟩,Z.aE _ _ (oA l.o) ae.o⟩
def vr (A:E Md.dp)(J:E (IA×S))(t:C)(z:He):Prop:=
 (∃u∈A,u.aG=t/\∃j:B,j.size=32/\aT J (il t)=j/\z=f #[j,G 0])\/
 ((∀u∈A,u.aG≠t)/\z=f #[I,G 4])
def bt.fL {w:L}{U:Pl}{u:Md.dY}{A z:E (IA×S)}{K:Cc.Ca}{J:D}(M:bt w U u A z K J){t:Md.dp}(O:t∈u.vs):(∃a j f,t.ei=P a j f)/\∃a j f,t.fI=P a j f:=let⟨n,_,k⟩:=M.bO;k.fL O
def kY (O:Pl)(d:Md.dY)(u X:E (IA×π))(k:Cc.Ca)(Z:D)(t:C)(w:ν)(K:bt w O d u X k Z)(q: -9223372036854775808<=t/\t<=9223372036854775807):
 Y N 243 #[ξ O.c,G t] w λi p=>vr d.vs u t i/\ρ w w p:=by
 have c:=Ga (lY O d u X k Z t w K q);have n:=Ga (fun(b:Md.dp) (g:b∈d.vs)=>K.fL g);clear K;go_enter func243,ntmps243;go_wp2_with fail;go_call c.o as i e ⟨F,b1⟩;clear c;rcases F with⟨b,g,V,W,v,m,rfl⟩|⟨P,rfl⟩
 .let⟨⟨a,T,L,l⟩,⟨s,S,R,x⟩⟩:=n.o b g;rw[l,x];have z:=y (vr d.vs u t (ι (f #[β W,G 0]))) (Ξ ⟨b,g,V,W,v,m,A⟩);have j:=Ga b1;clear g V v m l x b1;go_wp2_with (first|(apply uT (Gc e _);intro r M)|((with_reducible go_call ku 4 _ as i J ⟨rfl,h⟩);subst h));go_ret2;exact⟨z.o,M.aE _ _ j.o.z (j.o.a j.o.z _)⟩
 have z:=y (vr d.vs u t (ι (f #[eS,G 4]))) (Θ ⟨P,A⟩);have j:=Ga b1;clear P b1;have I:=y (∀w,Y N 50 #[Δ 27 (G 4),Δ 27 (G 4)] w λH p=>H=υ U/\w=p) (λw=>hG 4 4 w);go_wp2_with (first|(apply uT (Gc e _);intro r M)|((with_reducible go_call I.o _ as i J ⟨rfl,h⟩);subst h));go_ret2;exact⟨z.o,M.aE _ _ j.o.z (j.o.a j.o.z _)⟩
def qo:(N.info? 158).map (·.size)=M 5:=e
section
variable {ops:Array Le}{rest:List Le}{o:Le}{a:Act}{w:ν}{Q:Exit->Act->ν->Prop}
def YH (m:o.guard=J)(A M:Kg)(n:o.op=.store 158 A M)(j:D)(q:a.eval A=V j)(f:QF S)(P:f.size=5)(Z:f.all (·.oneCell')=U)(r:a.eval M=t f)(z:Λ)(u:QF S)(p:u.size=5)
 (O:w.heap[j]?=K u z) (X:∀W,bd w W j (K f z)->Ji N ops Q rest (a.put o.dst undef) W):Ji N ops Q (o::rest) a w:=
 Xw m 158 A M n j f q r z u O (P▸qo) (by rw[p,P]) Z (X _ (dk O))
end
def Ti (M:E Md.dp)(A:C)(j:He)(O:L):Prop:=
 (∃K u,∃z:B,jv O K u/\u.length<=80/\z.size=32/\j=f #[t #[G 0,G 0,A,z,K],G 0])\/
 ((∀U∈M,U.aG≠A)/\j=f #[t #[G 0,G 0,G 0,I,P J 0 0],G 4])
theorem nb (n:Pl)(M:Md.dY)(S I:E (IA×π))(R:Cc.Ca)(m:D)(f:C)(w:ν)(c:bt w n M S I R m)(b7: -9223372036854775808<=f/\f<=9223372036854775807):
 τ γ 66 #[ξ (δ ⟨n.c,0,J⟩),G f] w λg s=>Ti M.vs f g s/\ρ w w s:=by
 let⟨c0,d9,k⟩:=aU w (θ #[G 0,G 0,G 0,O ⟨#[]⟩,P J 0 0] 158);have p:=F (lY n M S I R m f c0 (c.aE k.aE) b7);have a4:=F (c.aE k.aE);have q:=F k.aE;have ai:=k.at_;clear c k;go_enter func66,ntmps66;go_wp2_with fail;apply p.o.m;rintro g b ⟨b2,b1⟩;clear p;have X:=Below.ke b1 ai;have u:=F (q.o.t (b1.m q.o.z));have a3:=F (a4.o.aE b1);have b6:(w:D)<(b:D):=aw X;clear b1 ai;rcases b2 with⟨d2,W,c3,ak,Y,b5,rfl⟩|⟨v,rfl⟩
 .let⟨e1,_,i⟩:=a3.o.bO;let⟨e,ah,ag⟩:=i.fI d2 W;let⟨⟨a,e0,d3,ab⟩,_⟩:=i.fL W;let⟨al,a1,af,T,ae⟩:=ln ah.1;rw[ab,af];have N:=F (κ Y ag);have H:=F (fun(h:ν) (a9:ρ b b h)=>vi al (e:D) a1 (e.flatMap cv) h (Fg e) om (λc=>T c) (λn c2 c8 a0 b4=>Below.ce a9 (ae n c2 c8 a0 b4)) (λa0 c6=>by
   let⟨g,_,c⟩:=Jw.1 c6
   simp[cv] at c;rcases c with rfl|rfl|rfl<;>rfl))
  have d6:=y ((w:D)<=(b:D)) om;clear W c3 b5 ab af i ah ae T Y ag;go_upto_region 4 with(first|(apply uT (Gc b _);intro K j)|((with_reducible apply(ku 4 _).m);rintro g aj ⟨rfl,l⟩;subst l));have V:ρ b b K:=j.aE _ _ d ((Ge _ b).a d _);have d8:K (b,2)=P al (e:D) a1:=cR j.at_ A;have z:=Below.ke V X;have r:=F (H.o K V);have U:=F (u.o.t (V.m u.o.z));clear j V H;go_wp2_with fail;apply r.o.m;rintro g aj ⟨⟨e2,rfl,x⟩,Z⟩;clear r;obtain⟨a8,b0,rfl⟩:=aR x;have b9:=Below.ke Z z;have a2:=F (U.o.t (Z.m U.o.z));have L:=F x;have a7:=y ((w:D)<(K:D)) (aw z);clear x Z z;go_wp2_with (apply YH A _ _ A (w:D) A #[G 0,G 0,G f,O ak,P a8 (e:D) b0] A QA A 158 _ A b9;intro h t);apply QM (fB A A t.at_ A Kx qo) A;refine⟨Ξ ⟨_,e,ak,.cT (aK L.o λc7 b3=>t.old c7 (oB (bG L.o b3).1 a7.o)),N.2,N.1,A⟩,t.aE _ _ d a2.o⟩
 have d4:=y (Ti M.vs f (ι (χ #[Γ #[G 0,G 0,G 0,O ⟨#[]⟩,P J 0 0],G 4])) w) (Θ ⟨v,A⟩);have a5:=y (∀w,τ γ 50 #[Δ 27 (G 4),Δ 27 (G 4)] w λd1 s=>d1=υ ψ/\w=s) (λw=>hG 4 4 w);have a6:=F v;clear v;go_wp2_with (first|(apply uT (Gc b _);intro K j;have z:=(j.old (w:D) om).t ((GC b _ (w:D) b6).t X);have U:=F (j.aE (w:D) w u.o.z (u.o.a u.o.z _)))|((with_reducible apply(a5.o _).m);rintro g aj ⟨rfl,l⟩;subst l)|(apply YH A _ _ A (w:D) A #[G 0,G 0,G 0,O ⟨#[]⟩,P J 0 0] A QA A 158 _ A z;intro h t));apply QM (fB A A t.at_ A Kx qo) A;exact⟨Θ ⟨a6.o,A⟩,t.aE _ _ d U.o⟩
section
variable {B:Nat}{T:List Λ}{M:List Nat}{w w':ν}
def cM (w:L)(M:E D):Prop:=∀o∈M,∀f t j,w.heap[o]?≠δ (K f t j)
def Fz.jJ {j:D}{o:Λ}(A:Fz B T M w w')(u:cM w M)(t:eN w j o)(z:o∉T):w'.heap[j]?=w.heap[j]?:=by
 obtain⟨J,K,f⟩:=t;rw[A.aM f z (λa=>u _ a _ _ _ f),f]
def Fz.Tj {o:D}{f:Λ}(J:Fz B T M w w')(t:cM w M)(j:eN w o f)(A:f∉T):eN w' o f:=by
 obtain⟨z,K,u⟩:=id j;exact⟨z,K,(J.jJ t j A).t u⟩
def iZ.fz {j:S}{f:Λ}(o:iZ w j f)(z:Fz B T M w w')(t:cM w M)(u:f∉T):iZ w' j f:=λa i h c=>z.Tj t (o a i h c) u
def Fz.oy {f:D}{o:Λ}(A:Fz B T M w w')(u:cM w M)(t:eN w f o)(z:o∉T)(j:D):w' (f,j)=w (f,j):=GQ (w:=w) (A.jJ u t z)
def dF.fz {P:S}{J:E dh}(f:dF w P J)(z:Fz B T M w w')(t:cM w M)(u:73∉T):dF w' P J:=by
 refine⟨?_,f.2.fz z t u⟩;rcases f.1 with W|⟨V,Z,U,rfl,X,K⟩
 .exact o W
 have O:=f.2 _ _ _ A;exact j ⟨V,Z,U,A,X,λa e h=>⟨(z.oy t O u _).t (K a e h).1,(z.oy t O u _).t (K a e h).2⟩⟩
def jv.fz {U:S}{P:E fj}(J:jv w U P)(z:Fz B T M w w')(f:cM w M)(t:56∉T):jv w' U P:=by
 refine⟨?_,J.2.fz z f t⟩;rcases J.1 with X|⟨W,p,V,rfl,Z,K⟩
 .exact o X
 have O:=J.2 _ _ _ A;exact j ⟨W,p,V,A,Z,λi d g=>⟨(z.oy f O t _).t (K i d g).1,(z.oy f O t _).t (K i d g).2.1,(z.oy f O t _).t (K i d g).2.2⟩⟩
def km.fz {J:S}{K:E QE}(f:km w J K)(t:Fz B T M w w')(u:cM w M)(z:9∉T):km w' J K:=by
 refine⟨?_,f.2.fz t u z⟩;rcases f.1 with P|⟨U,p,O,rfl,V,W,X⟩
 .exact o P
 have Z:=f.2 _ _ _ A;exact j ⟨U,p,O,A,λl q a=>(t.oy u Z z _).t (V l q a),GP W t.aH,X⟩
def bC.fz {z:S}{u:E Md.dp}(O:bC w z u)(j:Fz B T M w w')(f:cM w M)(o:107∉T)(P:73∉T)(U:56∉T):bC w' z u:=by
 obtain⟨⟨K,V,J,rfl,W,t,X⟩,Z,y⟩:=O;refine⟨⟨K,V,J,A,W,j.Tj f t o,λc a e=>?_⟩,λa e=>?_,λa e=>?_⟩
 .let⟨d,b,C,D⟩:=X c a e;exact⟨(j.oy f t o _).t d,(j.oy f t o _).t b,(j.oy f t o _).t C,(j.oy f t o _).t D⟩
 .let⟨m,g,h⟩:=Z a e;exact⟨m,g.fz j f P,h⟩
 let⟨l,g,h⟩:=y a e;exact⟨l,g.fz j f U,h⟩
def It.fz {o:D}{A:QE}{j:S}{f:E QE}(J:It w o A j f)(u:Fz B T M w w')(t:cM w M)(O:192∉T)(K:9∉T):It w' o A j f:=let⟨⟨q,hd,e⟩,k,l,m,n,a⟩:=J;have z:=km.fz (⟨k,a⟩:km w j f) u t K;⟨⟨q,hd,u.aM e O (λp=>t _ p _ _ _ e)⟩,z.1,l,m,n,z.2⟩
def bp.fz {s m:Nat}{room:Int}{L:List (IA×π)}(a:bp w s m room L)(f:Fz B T M w w')(d:cM w M)(c:m∉M)(g:181∉T)(h:192∉T)(i:9∉T):bp w' s m room L where
 bO:=f.aM a.bO g (λc=>d _ c _ _ _ a.bO)
 cS:=f.hW a.cS c
 fP p hp:=by
  let⟨k,b,j2,j1,n,e,j0,l⟩:=a.fP p hp;exact⟨k,b,j2,j1,n,e,j0.fz f d h i,l⟩
 cB:=a.cB
def bM.fz {j t:D}{o:Cc.Ca}(U:Cc.bM w j t o)(f:Fz B T M w w')(u:cM w M)(W:j∉M)(O:185∉T)(P:518∉T):Cc.bM w' j t o:=by
 obtain⟨bm,y,K,z,Z,rfl,J,b,c⟩:=U;refine⟨bm,y,K,f.aM z O (λb=>u _ b _ _ _ z),Z,A,?_,?_,c⟩
 .refine aK J λn a=>?_;have X:eN w n 518:=by
   rcases J.2 with⟨rfl,_⟩|⟨C,h,g,rfl,_,V,_⟩
   .cases a
   simp only[Ψ,Gd] at a;subst a;exact⟨_,_,V⟩
  exact f.jJ u X P
 let⟨m,e,d,c⟩:=b;exact⟨m,e,(f.cS ⟨_,_,d⟩ W).t d,c⟩
def sX.fz {j:D}{t:E Md.dp}{o:E (IA×S)}(f:sX w j t o)(z:Fz B T M w w')(u:j∉M):sX w' j t o:=⟨z.hW f.cS u,f.sD,f.fT⟩
def bt.fz {p:Pl}{md:Md.dY}{R L:List (IA×π)}{g:Cc.Ca}{e:Nat}(a:bt w p md R L g e)(f:Fz B T M w w')(c:cM w M)(k:p.r∉M)(d:p.m∉M)(j:p.k∉M)
 (b:∀t∈[101,107,73,56,181,192,9,185,518],t∉T):bt w' p md R L g e where
 bO:=by
  let⟨v,h,i⟩:=a.bO;exact⟨v,f.aM h (b _ sm) (λd=>c _ d _ _ _ h),i.fz f c (b _ sm) (b _ sm) (b _ sm)⟩
 ok:=a.ok
 df:=a.df.fz f k
 cO:=a.cO.fz f c d (b _ sm) (b _ sm) (b _ sm)
 gO:=bM.fz a.gO f c j (b _ sm) (b _ sm)
 fc:=a.fc
 cg:=a.cg
 next:=a.next
 rq:=a.rq
 ru:=a.ru
 ry:=a.ry
 rz:=a.rz
 dK:=a.dK
 ep:=a.ep
def bt.turn {j:Pl}{Z md':Md.dY}{t z:E (IA×S)}{d:Cc.Ca}{A G':D}{v':S}(f:bt w j Z t z d A)(J:bd w w' j.c (K #[G md'.aN,G md'.next,v',KD (δ j.r),V j.s,V j.h] 101))
 (q:bC w v' md'.vs) (X:Md.Ok md') (W:md'.next<=1+G') (c:A<=G') (O:G'<=51) (P:∀r∈md'.vs,(aT t (il r.aG)).isSome=U):bt w' j md' t z d G'/\Fz j.b [101] [] w w':=by
 let⟨v,a,b⟩:=f.bO;have o:Fz j.b [101] [] w w':=Fz.cV J a R f.dK.1 _;have u:cM w []:=λs m=>by cases m
 refine⟨⟨⟨v',J.at_,q.fz o u R R R⟩,X,⟨(f.df.fz o R).cS,f.df.sD,P⟩,f.cO.fz o u R R R R,bM.fz f.gO o u R R R,f.fc,f.cg,W,oA f.rq,oA f.ru,oA f.ry,O,f.dK,f.ep⟩,o⟩
end
def Fz.ek {o:E Λ}{z:Obj}(j:Fz w o x g s)(t:bd s l q z)(u:g.heap.size<=q):Fz w o x g l:=by
 have f:T g s l:=t.aE _ _ u ⟨A,A,A,d,λ_ _=>rfl⟩;exact⟨f.os.t j.os,f.tape.t j.cb,f.output.t j.aW,GB j.aH f.z,λa h=>by rw[f.b a h];exact j.aG a h⟩
def cF.bx {t:E (IA×S)}(u:cF N g p w q n t a):∀f o j,g.heap[q]?≠M (K f o j):=by
 let⟨c,left,⟨x,d,v,k,m,e,l,i,r,b,s⟩,h⟩:=u;intro f o j fS;rw[b] at fS;cases fS
def Fz.mz {B:D}(f:g.grownBy s (M q)):Fz B [] [q] g s:=⟨f.os,f.tape,f.output,f.size,λd h=>by
 by_cases t:d=q
 .exact j (j (by simp[t]))
 exact o (f.block d h (λe=>t (Gm e)))⟩
def eH (j:∀o f t,g.heap[w]?≠M (K o f t)):cM g [w]:=λh d=>by
 cases GA.1 d;exact j
def Rv (o t:L):Prop:=∀(b:D) (c a g d:S),o.heap[b]?=K #[c,a,g,d] 192->∃j f,t.heap[b]?=K #[c,a,j,f] 192
def Rv.bQ (f:L):Rv f f:=λ_ _ _ _ _ b=>⟨_,_,b⟩
def Rv.aJ (j:Rv g s)(f:Rv s l):Rv g l:=λe a d m n b=>by
 obtain⟨u,o,t⟩:=j e a d m n b;exact f e a d u o t
def Rv.fz {B:D}{f:E Λ}(o:Fz B f x g s)(j:cM g x)(t:192∉f):Rv g s:=λl _ _ k a d=>⟨k,a,o.aM d t (λh=>j _ h _ _ _ d)⟩
def Rv.aE (f:T g g s):Rv g s:=λb _ _ a c d=>⟨a,c,f.ke d⟩
def Rv.jR (t:hA w g s)(o:cM g [w]):Rv g s:=λk r q l a b=>by
 rcases t.aG k (aw b) (λc=>o _ (by simp[c]) _ _ _ b) with f|⟨A,z,u1,K,J,u,f,j,_⟩
 .exact⟨l,a,f.t b⟩
 rw[b] at f;simp only[Gd,Hq,IU,GN] at f;obtain⟨⟨rfl,rfl,_⟩,_⟩:=f;exact⟨_,_,j⟩
structure fD (w:ν)(p:Pl)(md:Md.dY)(R0 L0:E (IA×S))(ca:Cc.Ca)(G:D)(R L:E (IA×S))(wr:ν):Prop where
 ch:bt wr p md R L ca G
 fz:Fz p.b [192] [p.r,p.m] w wr
 dC:∀v∈md.vs,aT R (il v.aG)=aT R0 (il v.aG)
 old:∀q∈L,q∈L0
 rv:Rv w wr
 aM:(∀q∈R0,∃v∈md.vs,q.1=il v.aG)->R=R0/\L=L0
def fD.aE {A:Pl}{z:Md.dY}{u t o:E (IA×S)}{J:Cc.Ca}{c:D}{wr:L}(f:fD g A z n u J c t o wr)(j:T wr wr l):fD g A z n u J c t o l:=
 ⟨f.ch.aE j,f.fz.then j,f.dC,f.old,f.rv.aJ (.aE j),f.aM⟩
def fD.aah {f:Pl}{A:Md.dY}{M t K:E (IA×S)}{O:Cc.Ca}{wr:L}(a:fD g f A n M O w t K wr)(V:wr.mapTurned l f.r)(m:bj N l 3 f.r (be (il c) t))(W:∀b∈A.vs,b.aG≠c)(U:¬∀R0∈n,∃b∈A.vs,R0.1=il b.aG):
 fD g f A n M O w (be (il c) t) K l:=by
 have u:Fz f.b [] [f.r] wr l:=by
  have:=aL.dD (aL.bQ (· =f.r) wr) V (λ_=>rfl);exact⟨this.os,this.cb,this.aW,this.aH,λr i=>by
   by_cases d:r=f.r
   .exact j (j (by simp[d]))
   exact o (this.aG r i d)⟩
 have z:cM wr [f.r]:=eH a.ch.df.cS.bx;have P:∀b∈A.vs,aT (be (il c) t) (il b.aG)=aT t (il b.aG):=λb e=>dO (λd=>W b e (jc d)) _;let⟨b,h,x⟩:=a.ch.bO;have J:=a.ch.fc;refine⟨⟨⟨b,u.aM h R (λm=>z _ m _ _ _ h),x.fz u z R R R⟩,a.ch.ok,⟨m,λR0 C=>a.ch.df.sD R0 (GX.1 C).1,λb e=>P b e▸a.ch.df.fT b e⟩,
  a.ch.cO.fz u z (by simp;exact λd=>J.1 d.s) R R R,bM.fz a.ch.gO u z (by simp;exact λd=>J.2.1 d.s) R R,J,a.ch.cg,a.ch.next,oB (bB (il c) t) a.ch.rq,a.ch.ru,a.ch.ry,a.ch.rz,a.ch.dK,a.ch.ep⟩,
  a.fz.aJ (u.cz R R),λb e=>(P b e).t (a.dC b e),a.old,a.rv.aJ (.fz u z R),λa=>absurd a U⟩
def fD.WC {f:Pl}{z:Md.dY}{R0 K J o:E (IA×S)}{M:Cc.Ca}{wr:L}(a:fD g f z n R0 M w K J wr)(X:bp l f.s f.m f.cg o)(P:o.length<=J.length/\∀c∈o,c∈J)(U:hA f.m wr l)(V:¬∀c∈n,∃A∈z.vs,c.1=il A.aG):
 fD g f z n R0 M w K o l:=by
 have j:=Fz.jR U a.ch.dK.2.2.1;have t:cM wr [f.m]:=eH a.ch.cO.cS.bx;obtain⟨A,O,W⟩:=a.ch.bO;have u:=a.ch.fc;refine⟨⟨⟨A,j.aM O R (λv=>t _ v _ _ _ O),W.fz j t R R R⟩,a.ch.ok,a.ch.df.fz j (by simp;exact u.1),X,bM.fz a.ch.gO j t (by simp;exact λb=>u.2.2 b.s) R R,u,a.ch.cg,a.ch.next,a.ch.rq,by have:=a.ch.ru;have:=P.1;omega,a.ch.ry,a.ch.rz,a.ch.dK,a.ch.ep⟩,
  a.fz.aJ (j.cz R R),a.dC,λc x=>a.old c (P.2 c x),a.rv.aJ (.jR U t),λa=>absurd a V⟩
def fD.aai {z:Pl}{W:Md.dY}{U P X:E (IA×S)}{V:Cc.Ca}{wr:L}(f:fD g z W n U V w P X wr)(Z:wr.grownBy l (M q))(d:q≠z.r)(c:∀R0 A x,wr.heap[q]?≠M (K R0 A x))(G:∀h a,wr.heap[q]?≠M (Lz h a))(I:(g:D)<=q):
 fD g z W n U V w P X l:=by
 have t:=Fz.mz (B:=z.b) Z;have O:=eH c;have J:∀i,nY wr i->i∉[q]:=λi ⟨h,a,b⟩ C=>by
  cases GA.1 C;exact G _ _ b
 refine⟨f.ch.fz t O (J _ f.ch.df.cS.gb) (J _ f.ch.cO.cS.gb) (J _ ?_) R,?_,f.dC,f.old,f.rv.aJ (.fz t O R),f.aM⟩
 .obtain⟨bm,v,k,H,m,rfl,d,⟨h,N,e,_⟩,p⟩:=f.ch.gO;exact⟨_,_,e⟩
 refine⟨t.os.t f.fz.os,t.cb.t f.fz.cb,t.aW.t f.fz.aW,GB f.fz.aH t.aH,λs r=>?_⟩;rcases t.aG s (GP r f.fz.aH) with b|⟨_,_,_,_,b,_⟩|b
 .rcases f.fz.aG s r with u|⟨F,A,y,u,e3⟩|u
  .exact o (b.t u)
  .exact j (o ⟨F,A,y,u,e3⟩)
  exact j (j u)
 .cases b
 cases GA.1 b;omega
def bt.c4 {f:Pl}{u:Md.dY}{o:E (IA×S)}{t:Cc.Ca}(j:bt g f u n o t w):g (f.c,4)=V f.s:=by
 let⟨a,h,_⟩:=j.bO;rw[QH h];rfl
def pd (f:Pl)(t:Md.dY)(o u:E (IA×π))(P:Cc.Ca)(O:D)(b:ν)(d:bt b f t o u P O):
 τ γ 46 #[ξ f.c] b λe g8=>e=χ #[]/\∃g k,fD b f t o u P O g k g8:=by
 let⟨v,x,a⟩:=d.bO;have h2:=d.cB;have r:=d.df.cS;have I:b (f.c,3)=KD (δ f.r):=cR x A;have rS:∀(a8:Fn) (first d2:Q π) (b:ν),(Instr.makeFunc a8 first d2).run γ b=Je (Hl a8 first d2) b:=λ_ _ _ _=>rfl;have a0:=y (fD b f t o u P O o u b) ⟨d,Fz.bQ _ _ _ _,λ_ _=>rfl,λ_ d=>d,.bQ _,λ_=>⟨A,A⟩⟩;have h3:f.r<(b:D):=r.lt;clear d x a;go_enter func46,ntmps46;go_wp2_with (at_range;apply zx A _ 95 A 3 9 eX Lv f.r o A r;intro g2 d8 c0 b4 h4);have U:=y (fD b f t o u P O o u g2) (a0.o.aE (aL.mz (aL.bQ (λ_=>QZ) b) b4 nF).jn);clear b4 a0 r I;go_frame;go_loopw [10] (λ_ wr=>∃(g k G:E (IA×π)) (fS:D),cF γ wr 3 f.r (b:D) g G fS/\Φ (fD b f t o u P O g k wr)) (λ_ wr=>wr.rangeLeft f.r (b:D))
 .exact⟨o,u,o,d8,c0,U⟩
 let⟨g,k,G,fS,l,L⟩:=hrel;clear c0 U;go_wp2_with (at_next;refine Em A _ A 3 eX f.r (b:D) g G fS A l ?_ ?_)
 .intro _;go_wp2;go_end0;exact⟨A,g,k,L.o⟩
 intro h6 kl v Z e0 b7 s R b9 b5 f7 h1;obtain⟨J,rfl,rfl,T⟩:=Maps.keyOf_int_inv Hu b7;let⟨h0,g4,b3,a9⟩:=L.o.ch.df.sD _ (l.Ce.subset s);simp only[Hf] at b3;obtain⟨_,rfl⟩:=b3;have U:=y (fD b f t o u P O g k Z) (L.o.aai b5 l.ne l.bx (λf8 g6 e=>by
  let⟨e2,left,⟨g9,d6,g1,g0,ab,e4,e6,e7,e8,q,e9⟩,f0⟩:=l
  rw[q] at e;cases e) QD)
 let⟨m,h5,i⟩:=aU Z (θ #[ϑ J] 3);have N:=F (U.o.aE i.aE);have c2:=y (∃v,(il J,v)∈g) ⟨_,l.Ce.subset s⟩;have c7:=R.aM (i.aE.b _ U.o.ch.df.cS.lt) (i.aE.b _ R.lt);let⟨v,x,a⟩:=N.o.ch.bO;obtain⟨⟨e5,f9,ab,rfl,f1,-,f2⟩,-,-⟩:=id a;have d4:m (f.c,2)=ο (e5,f9) (t.vs:D) ab:=cR x A;have I:m (f.c,3)=KD (δ f.r):=cR x A;have c4:m (f.c,4)=ξ f.s:=cR x A;have Y:m Z=J:=cR i.at_ A;have af:=F (vo _ t.vs (Z:D) J m a om Y);have W:=F (κ c7 (κ b9 a9));have c6:=F (kG (n:=J) (by simp only[Lit.wf,Jc,XE] at T;exact T));clear b7 s R b5 f7 T a9 c7 a f2 f1 i b9;go_wp2_with fail;go_call af.o as e j ⟨⟨ae,rfl,K⟩,c⟩;have a1:=F (N.o.aE c);have X:=W.1.aM (c.b _ N.o.ch.df.cS.lt) (c.b _ W.1.lt);have I:=c.ce I;have c4:=c.ce c4;have Y:=c.ce Y;clear af d4;cases ae with
 |true=>
  clear K c;go_wp2;go_roundw
  .exact⟨_,_,_,_,X,a1⟩
  rw[X.lA,l.lA];exact W.2.1
 |false=>
  have a4:=y (∀n∈t.vs,n.aG≠J) λn w e=>by
   have:=K.2 ⟨n,w,e⟩;cases this
  have a3:=y (¬∀g7∈o,∃v∈t.vs,g7.1=il v.aG) λp=>by
   let⟨v,a⟩:=c2.o;rw[(U.o.aM p).1] at a;let⟨n,w,e⟩:=p _ a;exact a4.o n w (jc e).s
  have a5:=y (cF γ j.drew 3 f.r (b:D) g (be (il J) G) e0) (X.aM (w':=j.drew) A A);have a2:=y (fD b f t o u P O g k j.drew) (a1.o.aE (Ge _ j).d);clear K c;go_upto_region 5 with fail;go_still_tail 5,Qz;change Ji _ _ _ _ _ j.drew;let⟨a6,b2⟩:∃a6,j.drew=a6:=⟨_,A⟩;have c4:j.drew (f.c,4)=ξ f.s:=c4;rw[b2] at a5 a2 c4 ⊢;clear b2 X;go_wp2_with (at_delete;refine xS A _ _ 95 3 A 9 eX Lv f.r g A a5.o _ _ A c6.o ?_;intro H e1 z f4 d1;have V:=F (a2.o.aah d1 z.cS a4.o a3.o);have c4:=V.o.ch.c4);have ag:=F (tY f.s f.m f.cg k g4 H V.o.ch.cO (oA W.2.2));go_call ag.o as e w5 ⟨⟨g3,rfl,-,-⟩,⟨f5,b6,b0⟩,M⟩;have d3:=F (V.o.WC b6 b0 M a3.o);have S:∀h,h<(H:D)->h≠f.m->(∀d9 ae g5,H.heap[h]?≠δ (θ d9 ae g5))->w5.heap[h]?=H.heap[h]?:=λh p f3 f6=>by
   rcases M.aG h p f3 with e|⟨_,_,_,_,_,_,e,_,_⟩
   .exact e
   exact absurd e (f6 _ _ _)
  have c8:=z.aM (S f.r z.cS.lt V.o.ch.fc.1 z.cS.bx) (S (b:D) z.lt (by
   intro e
   let⟨e2,left,⟨g9,d6,g1,g0,ab,e4,e6,e7,e8,q,e9⟩,f0⟩:=z
   let⟨f8,g6,a7⟩:=V.o.ch.cO.cS.gb
   rw[<-e,q] at a7;cases a7) z.bx)
  have c3:=y (e1<fS) (oA W.2.1);clear ag b6 b0 M S z f4 d1;go_wp2;go_roundw
  .exact⟨_,_,_,_,c8,d3⟩
  rw[c8.lA,l.lA];exact c3.o
def bd.aJ {t o:Obj}(j:bd g s w t)(f:bd s l w o):bd g l w o:=
 ⟨f.aH.t j.aH,f.at_,λb a=>(f.old b a).t (j.old b a),λB d e i=>f.aE B d e (j.aE B d e i)⟩
def yZ {J M j o t x y z:S}(A:g.heap[w]?=K #[m,J,M,j,o,t] p):
 bd g (((g.setCell w x).setCell (w,1) y).setCell (w,2) z) w (K #[x,y,z,j,o,t] p):=have u:=aF (j:=0) x A;have f:=aF (j:=1) y u.at_;(u.aJ f).aJ (aF (j:=2) z f.at_)
def za (t:L)(K:Pl)(j:Md.dY)(O M:E (IA×S))(U:Cc.Ca)(P:D)(a:C)(J:He)(u:L):Prop:=
 (∃(b:Md.dY) (a:C),bt u K b O M U P/\Fz K.b [101] [] t u/\b.aN=j.aN/\b.next=j.next/\(∀A,Md.bN j A->Md.bN b (a::A))/\(∃z∈b.vs,z.aG=a)/\J=f #[a,G 0])\/
 ∃o:C,1<=o/\o<=12/\T t t u/\(a= -1->∃z∈j.vs,z.aZ=1048576)/\J=f #[G 0,o]
def bt.aV {j:Pl}{f:Md.dY}{A:E (IA×S)}{O:Cc.Ca}(U:bt g j f n A O w):∃t u o,bC g (P (M ⟨t,u,J⟩) f.vs.length o) f.vs/\g.heap[j.c]?=K #[G f.aN,G f.next,P (M ⟨t,u,J⟩) f.vs.length o,KD (M j.r),V j.s,V j.h] 101:=by
 obtain⟨X,W,z⟩:=U.bO;obtain⟨⟨t,u,o,rfl,_⟩,_,_⟩:=id z;exact⟨t,u,o,z,W⟩
def Tp (j:Pl)(f:Md.dY)(H x:E (IA×π))(w:Cc.Ca)(W:D)(q:C)(o:ν)(k:bt o j f H x w W):
 τ γ 241 #[ξ j.c,G q] o (za o j f H x w W q):=by
 let⟨a3,a4,a1,b,i⟩:=k.aV;have e6:=k.cB;have Y:=F (na j o ⟨_,_,_,_,i⟩);have ab:=F (Tf _ f q o b om k.ok);have b0:=F k;have a9:=F i;have d2:o j.c=f.aN:=cR i A;have c1:o (j.c,1)=f.next:=cR i A;have b4:o (j.c,2)=P (a3,a4) (f.vs:D) a1:=cR i A;clear k b i;go_enter func241,ntmps241;go_wp2_with ((with_reducible go_call Y.o as I e1 ⟨rfl,c7⟩);subst c7);go_call ab.o as I a ⟨⟨O,v',V,a2⟩,b1⟩;clear ab Y d2 c1 b4;have r:=F b1;have t:=b1.ke a9.o;have al:bC a v' O\/∃a0,bC a v' a0:=by
  rcases a2 with⟨U,p,_,_,b,_⟩|⟨L,_,_,b,_⟩
  .exact Θ ⟨_,b⟩
  exact Ξ b
 obtain⟨e,n,K,h,rfl⟩:∃e n K h,v'=P (M ⟨e,n,J⟩) K h:=by
  rcases al with b|⟨a0,b⟩<;>(let⟨e,n,h,R,_⟩:=b.at_;exact⟨_,_,_,_,R⟩)
 let⟨CS,c⟩:∃CS:Q π,CS=#[G f.aN,G f.next,P (M ⟨e,n,J⟩) K h]:=⟨_,A⟩;have X:=F (b0.o.aE b1);have d0:a j.c=f.aN:=cR t A;have ae:a (j.c,1)=f.next:=cR t A;have af:a (j.c,2)=P (a3,a4) (f.vs:D) a1:=cR t A;have v:=F V;have e5:j.c<(a:D):=aw t;clear V al b1;rcases a2 with⟨U,p,m,ag,b,rfl⟩|⟨L,ai,aj,b,c2,rfl⟩
 .have T:((0:C) !=0)=σ:=dc;let⟨e7,c6,d4⟩:=aU a (θ #[G 0,G 0,P J 0 0] 93);have b3:=QC (∀g,ρ a a g->za o j f H x w W q (ι (χ #[G p.aG,G 0])) (((g.setCell j.c (G f.aN)).setCell (j.c,1) (G f.next)).setCell (j.c,2) (P (M ⟨e,n,J⟩) K h))) λg s=>by
   have ak:=Ok.iR X.o.ok v.o;have c8:=ak.Zd (i:=U) (v:=p) m ag;have ah:=Md.fE O U (p.aZ+1);let⟨b7,c0⟩:=(X.o.aE s).turn (md':=Md.fJ {f with vs:=O} U (p.aZ+1)) (G':=W) (v':=P (M ⟨e,n,J⟩) K h) (yZ (s.ke t)) (b.aE s) c8 X.o.next d X.o.rz (λa5 S=>by
    let⟨e8,c3,R⟩:=Md.hh ah.s S
    let⟨T,d3,b9,_⟩:=v.o.Wt c3
    rw[<-R,b9]
    exact X.o.df.fT T d3)
   refine Ξ ⟨_,p.aG,b7,(Fz.aE (r.o.t (s.m r.o.z)) _ _ _).aJ c0,A,A,λd8 b6=>Md.bN.Zd ak (Pinned.iR b6 v.o) m,?_,A⟩;exact Md.hh ah (GI.2 ⟨U,m⟩)
  have d9:=F b;have d6:∀l,a.frozen? ⟨j.c,l,J⟩=σ:=λl=>aI t l;have a8:=F t;clear m ag b d4 c6;rw[<-c];have b2:=F c;have a7:CS.size=3:=c▸rfl;have a6:CS.all (·.oneCell')=ψ:=by rw[c];simp[φ]
  clear c;go_upto_region 6 with(apply uS (Gc a _);intro u y);have z:ρ a a u:=y.aE _ _ d ((Ge _ a).a d _);have Z:=y.at_;rw[b2.o] at Z;have e0:u a=f.aN:=cR Z A;have e2:u (a,1)=f.next:=cR Z A;have e4:u (a,2)=P (M ⟨e,n,J⟩) K h:=cR Z A;have d0:=z.ce d0;have ae:=z.ce ae;have af:=z.ce af;have d6:∀l,u.frozen? ⟨j.c,l,J⟩=σ:=λl=>aI (z.ke a8.o) l;have N:=F (b3.o u z);clear y Z z;go_wp2;go_ret2;exact N.o
 have T:(L !=0)=ψ:=QB;have N:=QC (∀g,ρ a a g->za o j f H x w W q (ι (χ #[G 0,G L])) g) λg s=>Θ ⟨L,ai,aj,r.o.t (s.m r.o.z),λk=>by
  let⟨p,m,d1⟩:=c2 k
  let⟨a5,S,_,b5⟩:=v.o.Wt m
  exact⟨a5,S,b5▸d1⟩,A⟩
 rw[<-c];have a7:CS.size=3:=c▸rfl;have a6:CS.all (·.oneCell')=ψ:=by rw[c];simp[φ]
 clear c ai aj b;go_wp2_with (apply uS (Gc a _);intro u y);go_ret2;exact N.o _ (y.aE _ _ d ((Ge _ a).a d _))
def xE (u:L)(t:Pl)(j:Md.dY)(K:C)(W M:E (IA×S))(U:Cc.Ca)(P:D)(J:He)(z:L):Prop:=
 (∃o O A,bt z t o O A U P/\Fz t.b [101,192] [t.r,t.m] u z/\o.aN=j.aN/\o.next=j.next/\(∀f,Md.bN j (K::f)->Md.bN o f)/\J=G 0/\(∀V∈A,V∈M)/\Rv u z)\/
 (J=G 4/\T u u z/\∀f,¬Md.bN j (K::f))
def DG (f:Pl)(j:Md.dY)(X W:E (IA×π))(U:Cc.Ca)(z:D)(Z:C)(u:ν)(n:bt u f j X W U z):
 τ γ 79 #[ξ f.c,Z] u (xE u f j Z X W U z):=by
 let⟨f1,f2,e0,b,m⟩:=n.aV;have e9:=n.cB;have a9:=F (na f u ⟨_,_,_,_,m⟩);have b0:=F (Dt _ j Z u b om n.ok);have c0:=F n;have b9:=F m;have e1:=cJ 0 m;have c1:=cJ 1 m;have c2:=cJ 2 m;go_enter func79,ntmps79;go_wp2_with ((with_reducible go_call a9.o as J e5 ⟨rfl,d3⟩);subst d3);go_call b0.o as J a ⟨⟨T,v',a4,a8⟩,b1⟩;have I:=F b1;have K:=b1.ke b9.o;have b6:bC a v' T\/∃a2,bC a v' a2:=by
  rcases a8 with⟨w,x,_,_,_,b,_⟩|⟨b,_⟩
  .exact Θ ⟨_,b⟩
  exact Ξ b
 obtain⟨h,i,t,g,rfl⟩:∃h i t g,v'=P (M ⟨h,i,ζ⟩) t g:=by
  rcases b6 with b|⟨a2,b⟩<;>(let⟨h,i,g,S,_⟩:=b.at_;exact⟨_,_,_,_,S⟩)
 let⟨CS,e⟩:∃CS:Q π,CS=#[G j.aN,G j.next,P (M ⟨h,i,ζ⟩) t g]:=⟨_,A⟩;have O:=F (c0.o.aE b1);have d0:=cJ 0 K;have ah:=cJ 1 K;have ai:=cJ 2 K;have L:=F a4;have e8:f.c<a:=aw K;rcases a8 with⟨w,x,p,b7,b5,b,rfl⟩|⟨b,aj,rfl⟩
 .have ae:((0:C) !=0)=σ:=dc;have c8:=QC (∀c,ρ a a c->∃l,bt (((c.setCell f.c (G j.aN)).setCell (f.c,1) (G j.next)).setCell (f.c,2) (P (M ⟨h,i,ζ⟩) t g)) f l X W U z/\Fz f.b [101] [] u (((c.setCell f.c (G j.aN)).setCell (f.c,1) (G j.next)).setCell (f.c,2) (P (M ⟨h,i,ζ⟩) t g))/\l.aN=j.aN/\l.next=j.next/\(∀N,Md.bN j (Z::N)->Md.bN l N)) λc q=>by
   have a0:=Ok.iR O.o.ok L.o;have d2:=a0.tD (i:=w) (v:=x) p b5;let⟨c3,d1⟩:=(O.o.aE q).turn (md':=Md.tD {j with vs:=T} w x) (G':=z) (v':=P (M ⟨h,i,ζ⟩) t g) (yZ (q.ke K)) (b.aE q) d2 O.o.next d O.o.rz (λa5 k=>by
    have k:=(Md.gq _ _ _).subset k
    let⟨f3,d4,S⟩:=Md.hh (Md.fE T w (x.aZ-1)).s k
    let⟨ae,d9,c6,_⟩:=L.o.Wt d4
    rw[<-S,c6]
    exact O.o.df.fT ae d9)
   refine⟨_,c3,(Fz.aE (I.o.t (q.m I.o.z)) _ _ _).aJ d1,A,A,λN v=>?_⟩;rw[<-b7] at v;exact Md.bN.tD a0 p (Pinned.iR v L.o)
  rw[<-e];have c7:=F e;have a7:CS.size=3:=e▸rfl;have a6:CS.all (·.oneCell')=ψ:=by rw[e];simp[φ]
  clear e;go_upto_region 6 with(apply uS (Gc a _);intro V H);have y:ρ a a V:=H.aE _ _ d ((Ge _ a).a d _);have r:=H.at_;rw[c7.o] at r;have e2:=cJ 0 r;have e4:=cJ 1 r;have e7:=cJ 2 r;have d0:=y.ce d0;have ah:=y.ce ah;have ai:=y.ce ai;have f0:∀Y,V.frozen? ⟨f.c,Y,ζ⟩=σ:=λY=>aI (y.ke (F K).o) Y;let⟨ab,a1⟩:∃ab,(((V.setCell f.c (G j.aN)).setCell (f.c,1) (G j.next)).setCell (f.c,2) (P (M ⟨h,i,ζ⟩) t g))=ab:=⟨_,A⟩;let⟨l,af,ag,b2,b3,b4⟩:=c8.o V y;rw[a1] at af ag;have o:=F (κ ag (κ b2 (κ b3 b4)));go_upto_region 7 with fail;clear a1;go_wp2_with fail;go_call (F (pd f l X W U z ab af)).o as J e6 ⟨rfl,R',L',a3⟩;have s:=F a3;go_wp2;go_ret;exact Ξ ⟨l,R',L',s.o.ch,(o.1.cz R R).aJ (s.o.fz.cz R R),o.2.1,o.2.2.1,o.2.2.2,A,s.o.old,(Rv.fz o.1 (λ_ p=>by cases p) R).aJ s.o.rv⟩
 have ae:((4:C) !=0)=ψ:=dc;have o:=QC (∀c,ρ a a c->xE u f j Z X W U z (ι (G 4)) c) λc q=>Θ ⟨A,I.o.t (q.m I.o.z),λN v=>by
  let⟨a5,k,d6,d8⟩:=(Pinned.iR v L.o).Rk
  exact d8 (aj a5 k d6)⟩
 rw[<-e];have a7:CS.size=3:=e▸rfl;have a6:CS.all (·.oneCell')=ψ:=by rw[e];simp[φ]
 clear e aj b;go_wp2_with (apply uS (Gc a _);intro V H);go_ret;exact o.o _ (H.aE _ _ d ((Ge _ a).a d _))
def DI:xr (λg=>g=[]) QZ ⟨#[128]⟩:=λi e=>
 (pE i e.dm).m λc k ⟨a,b⟩=>⟨o ⟨zc,bE,cA,a,λh d=>(kn h d.dm).m λc k ⟨a,b⟩=>⟨⟨_,[],a,⟨o ⟨J,0,A,A⟩,.none _ _ _ _⟩,R,R,A⟩,b⟩⟩,b⟩
def Tq (Z W:D)(X:C)(u:L)(F:eI u)(m:bp u Z W X [])(N:1<=X)(e:X<=9223372036854775807):
 Y γ 42 #[V Z,P u 1 1] (u.alloc (K #[O ⟨#[128]⟩] 9)) λx b=>x=f #[O (bn ⟨#[128]⟩),G 0]/\hA W u b/\∃z,bp b Z W X z/\z.length<=1/\∃U w a,aT z (kl (bn ⟨#[128]⟩))=V (M ⟨U,0,J⟩)/\It b U ⟨#[128]⟩ w a:=by
 have c:T u u (u.alloc (K #[O ⟨#[128]⟩] 9)):=(Ge _ u).a QD _;go_call uZ Z W X [] _ [⟨#[128]⟩] (λa=>a=[]) QZ _ (F.aE c) (m.aE c) (kW u ⟨#[128]⟩) R R om e (λq v=>by
  obtain rfl:=GA.1 v
  exact⟨DI,by decide⟩) as x b (⟨n,_,_,_,_,_,t|t|⟨a,r,j,g,_⟩|t⟩|⟨x0,z,v,p,h,k,l,i,_,o⟩)
 .exact t.elim
 .cases t
 .rw[j] at g;cases g
 .simp at t;omega
 obtain rfl:=Gm v;refine⟨p,(hA.aE c W).aJ k,z,h,by simpa using l,?_⟩;rcases h.jl (bn ⟨#[128]⟩) with t|⟨U,S,w,a,t,I⟩
 .rw[t] at i;cases i
 obtain⟨q,y,H,s,_,d⟩:=o _ U A t;obtain rfl:=GA.1 s;exact⟨U,y,H,t,d⟩
structure jW (w:ν)(aN room:C)(p:Pl)(md:Md.dY)(R L:E (IA×S))(ca:Cc.Ca)(w':ν):Prop where
 ch:bt w' p md R L ca 0
 md:md=⟨min (max aN 1) 8,1,[⟨0,0,P J 0 0,P J 0 0⟩]⟩
 cg:p.cg=max room 0
 iY:p.b=w.heap.size
 oZ:aT R (il 0)=(bn ⟨#[128]⟩)
 xR:∀q∈R,q.1=il 0
 one:L.length<=1
 WE:∃b rv refs,aT L (kl (bn ⟨#[128]⟩))=V (M ⟨b,0,J⟩)/\It w' b ⟨#[128]⟩ rv refs
def Fp (j:L)(P o:C)(u:He)(t:L):Prop:=
 (o<1/\u=f #[V J,G 3]/\t=j)\/
 (1<=o/\T j j t/\∃z U K A O,jW j P o z U K A O t/\u=f #[V (M ⟨z.c,0,J⟩),G 0])
theorem Bv (S z b:C)(e:ν)(c2:eI e)(f5:z<=9223372036854775807):
 τ N 14 #[Z u S,Z u z,Z u b] e λc k=>Fp e S z c k:=by
 by_cases f4:z<1
 .have d8:Φ (Fp e S z (ι (χ #[V J,Z u 3])) e):=F (Ξ ⟨f4,A,A⟩);go_enter func14,ntmps14;go_wp2;go_ret2;exact d8.o
 have aj:=F (Ta S e);have g5:=@run_makeMap N;have e2:=F c2;clear c2;go_enter func14,ntmps14;go_wp2_with fail;apply aj.o.m;rintro c f ⟨⟨wd,c7,b9,rfl,c6,r⟩,b1⟩;clear aj;let⟨g,f9,L⟩:=aU f (Lz #[] 0);have b5:bj N g 3 (f:D) []:=f9▸bj.pk f N 3;have ao:=F (SG z g f5);have Y:=F (W (r.aE L.aE) b5);have ai:=F (b1.t (L.aE.m b1.z));have l:=F (W c6 b1.z);have b6:(g:D)=(f:D)+1:=L.aH;have ap:=F b6;clear r L b5 b1 c6 b6;go_wp2_with fail;apply ao.o.m;rintro c O ⟨rfl,b7,a3,c0⟩;clear ao;have al:=F (Cc.jr b O);have K:=F (W b7 (W a3 c0));clear b7 a3 c0;go_wp2_with fail;apply al.o.m;rintro c o ⟨c4,rfl,f0,ae,b2⟩;clear al;have p:T O O o:=b2.aE (Gb _);let⟨i,g7,q⟩:=aU o (θ #[Z u wd,Z u 1,P c7 1 b9,KD (M (f:D)),V (M ⟨g+1,0,J⟩),V c4] 101);have m:=p.t (q.aE.m p.z);have e5:=F (Y.1.aE (K.2.1.t (m.m K.2.1.z)));have am:Φ (bj N i 3 (f:D) []):=F (Y.2.aM ((K.2.1.t (m.m K.2.1.z)).b _ Y.2.lt));have a1:=F (K.1.aE m);have d3:Φ (Cc.bM i (O:D) c4 (Cc.kk b)):=F (ae.aM ⟨q.aE.os,q.aE.tape,q.aE.output,q.aE.z,λh a _=>q.aE.b h a⟩);have G:=F (ai.o.t ((K.2.1.t (m.m K.2.1.z)).m ai.o.z));have ah:=q.at_;have g4:=F q.aH;have a2:=F (W (ae.lt) p.z);have s:i.cell? ⟨o,4,J⟩=M (V (M ⟨g+1,0,J⟩)):=cR ah A;clear ae b2 p m q f0;have e4:Φ (∀e,τ N 43 #[β ⟨#[]⟩] e λc k=>c=ι (β ⟨#[128]⟩)/\T e e k):=F (by
  have c3:=λe=>cP ⟨#[]⟩ e dc
  rw[mN] at c3
  exact c3)
 have d2:=F (fun(ak:ν) (a4:T i i ak)=>Tq ((g:D)+1) (g:D) (max z 0) ak (e2.o.aE (G.o.t (a4.m G.o.z))) (a1.o.aE a4) H H);have d6:Φ (i.drew.cell? ⟨o,4,J⟩=M (V (M ⟨g+1,0,J⟩))):=F s;have e0:Φ (i.heap[(o:D)]?=M (θ #[Z u wd,Z u 1,P c7 1 b9,KD (M (f:D)),V (M ⟨g+1,0,J⟩),V c4] 101)):=F ah;have a9:T i i i.drew:=(Ge _ i).d;have g3:=F a9;clear ah a9;go_upto_region 4 with fail;go_region_held3 (λk=>k.cell? ⟨o,4,J⟩=M (V (M ⟨g+1,0,J⟩))) (first|exact s|exact d6.o|exact a5|exact e7|exact ag|go_keep) (first|(go_at_call 43;(apply(e4.o _).m);rintro c X ⟨rfl,w⟩;have j:Φ (T i i X):=F (by exact⟨w.os,w.tape,w.output,w.z,w.b⟩);have a5:=Below.ce j.o s;have e7:=Below.ce ((Ge _ X).a (Gb _) (θ #[β ⟨#[128]⟩] 9)) a5)|(go_at_call 42;(apply(d2.o X j.o).m);rintro c U ⟨rfl,af,a7⟩;have a0:=F af;have d9:=F a7;have I:Φ (U.heap[(o:D)]?=_):=F ((Fz.jR (B:=0) af (Gp _)).aM (Below.ke j.o e0.o) R (by simp;intro c;have:=a2.o;have:=K.2.2;omega));have ag:U.cell? ⟨o,4,J⟩=M (V (M ⟨g+1,0,J⟩)):=(cR I.o A);clear af a7));have y:=Fz.jR (B:=(e:D)) a0.o (oB l.2 ap.o);have ab:cM X [(g:D)]:=eH ((a1.o.aE j.o).cS.bx);have g8:=ap.o;have g9:=K.2.2;have a8:bj N U 3 (f:D) []:=y.hW (am.o.aM (j.o.b _ am.o.lt)) QB;have e3:U.cell? ⟨o,3,J⟩=M (KD (M (f:D))):=cR I.o A;have e6:=F ((e5.o.aE j.o).fz y ab R R R);have b0:Cc.bM X (O:D) c4 (Cc.kk b):=d3.o.aM ⟨j.o.os,j.o.tape,j.o.output,j.o.z,λh a _=>j.o.b h a⟩;have d4:=F (bM.fz b0 y ab QB R R);have d:=F y;have e1:=F a8;clear y ab b0 s;go_wp2_with (at_mapUpdate;refine wS eX Lv a8 dc (kG (n:=0) H) ?_;intro w8 f3 f8);go_ret2;have t:Fz (e:D) [] [(f:D)] U w8:=by
  have:=aL.dD (aL.bQ (· =(f:D)) U) f8 (λ_=>rfl);exact⟨this.os,this.cb,this.aW,this.aH,λh a=>by
   by_cases c:h=(f:D)
   .exact Θ (Θ (by simp[c]))
   exact Ξ (this.aG h a c)⟩
 have x:cM U [(f:D)]:=eH e1.o.bx;let⟨c8,f7,a6,d1,g1,g0,f2,f1⟩:=d9.o;have e9:T e e w8:=by
  have v:=G.o.t (j.o.m G.o.z);have f6:=l.2;refine⟨t.os.t (d.o.os.t v.os),t.cb.t (d.o.cb.t v.tape),t.aW.t (d.o.aW.t v.output),GB v.z (GB d.o.aH t.aH),λh a=>?_⟩;have b3:h<(X:D):=GP a v.z;have ag:U.heap[h]?=X.heap[h]?:=by
   rcases a0.o.aG h b3 H with c|⟨h2,h0,h3,h5,h1,h6,c,_,b4⟩
   .exact c
   omega
  have e8:w8.heap[h]?=U.heap[h]?:=by
   rcases t.aG h (GP b3 d.o.aH) with c|⟨_,_,_,_,c,_⟩|c
   .exact c
   .cases c
   have:=GA.1 c;omega
  exact e8.t (ag.t (v.b h a))
 refine Θ ⟨H,e9,⟨(o:D),(f:D),(g:D)+1,(g:D),c4,(O:D),max z 0,(e:D)⟩,⟨wd,1,[⟨0,0,P J 0 0,P J 0 0⟩]⟩,_,c8,Cc.kk b,⟨⟨⟨_,t.aM I.o R (λb4=>x _ b4 _ _ _ I.o),e6.o.fz t x R R R⟩,?_,⟨f3,?_,?_⟩,f7.fz t x QB R R R,bM.fz d4.o t x QB R R,⟨(H:(f:D)≠(g:D)),(H:(f:D)≠(O:D)),(H:(g:D)≠(O:D))⟩,⟨(H:1<=max z 0),(H:max z 0<=_)⟩,R,by simp[be],sU a6,⟨by simp[Cc.kk],by simp[Cc.kk]⟩,H,?_,by simp[Cc.kk]⟩,by rw[l.1],A,A,?_,?_,a6,⟨d1,g1,g0,f2,f1.fz t x R R⟩⟩,A⟩
 .have:=l.1;exact Md.Ok.iY H H _ _
 .intro g2 n;simp[be] at n;exact⟨0,bn ⟨#[128]⟩,n,ec _⟩
 .intro h4 r;cases GA.1 r;rw[(rfl:il (Md.dp.aG ⟨0,0,P J 0 0,P J 0 0⟩)=il 0),bY (iz 0)];rfl
 .have f6:=l.2;have g6:=a2.o;exact⟨(H:(e:D)<=(o:D)),(H:(e:D)<=(f:D)),(H:(e:D)<=(g:D)),(H:(e:D)<=(O:D))⟩
 .exact bY (iz 0) _ _
 intro g2 n;simp[be] at n;rw[n]
def vw:hD 40 3 1:=.of (z:=G 0) (bytes:=8) underlying40 e r A r
def b1 (f:Md.dp):E S:=[G f.aG]
def Tr {wr:L}{o:Obj}{u:Obj}(f:Φ (wr.ownsRow g 3 1 m w b/\T g g wr))(t:bd (wr.alloc o) l wr u):l.ownsRow g 3 1 m w b/\T g g l/\(wr:D)<=(l:D):=have j:T wr wr l:=t.aE _ _ d (Below.alloc QG d _);⟨aK f.1 λk h=>j.b k (bG f.1 h).2,f.2.t (j.m f.2.z),j.z⟩
def sh (P:Pl)(j:Md.dY)(Z W:E (IA×π))(y:Cc.Ca)(n:D)(f:ν)(V:bt f P j Z W y n):
 τ γ 33 #[ξ P.c] f λs e=>(∃m,s=ι m/\e.ownsRow f 3 1 m (j.vs:D) (j.vs.flatMap b1))/\T f f e:=by
 have ag:=V.cB;let⟨m,p,r⟩:=V.bO;have v:=F (na P f ⟨_,_,_,_,p⟩);obtain⟨⟨u,z,a9,rfl,a7,-,q⟩,-,-⟩:=id r;have ab:=cJ 2 p;have w:=F r;go_enter func33,ntmps33;go_wp2_with ((with_reducible go_call v.o as s a1 ⟨rfl,K⟩);subst K);go_loopw [3,15] (λi iv wr=>∃(a:D),a<=(j.vs:D)/\iv=G a/\Φ (wr.ownsRow f 3 1 i a ((j.vs.take a).flatMap b1)/\T f f wr)) (λ_ iv _=>(j.vs:D)-(QI iv).toNat)
 .exact⟨0,H,A,F ⟨⟨sm,Ξ ⟨A,A⟩⟩,QG⟩⟩
 obtain⟨a,af,rfl,J⟩:=hrel;by_cases N:a<(j.vs:D)
 .let⟨d,b⟩:∃d,j.vs[a]?=M d:=⟨_,Gf N⟩;have U:=w.o.aE J.2;let⟨⟨a0,a4,S,I⟩,⟨R,a8,Y,k⟩⟩:=U.fL (Gl b);let⟨aj,g,h,a2⟩:wr (u,z+a*4)=G d.aG/\wr (u,z+a*4+1)=M d.ei/\wr (u,z+a*4+2)=M d.fI/\wr (u,z+a*4+3)=G d.aZ:=by
   let⟨ae,ai,a3,c,_,_,q⟩:=U.at_;simp only[Gy,Gd,GS,QW] at c;obtain⟨⟨rfl,rfl⟩,-,rfl⟩:=c;exact q a d b
  rw[I] at g;rw[k] at h;have x:=F b;go_upto_region 7 with(apply uT (Gc wr _);intro X O;have ah:X (wr,0)=G d.aG:=(cR O.at_ rfl);have t:=F (Tr J O));clear O;go_wp2_with (at_builtin;apply aP vw t.1 t.2.1.z;intro a5 a6 L l);have o:=F (κ L (l.cT t.1 t.2.1 t.2.1.z));go_roundw
  .exact⟨a+1,H,gN,F ⟨by
   have:=o.1
   rw[KX,x.o,Hj]
   simpa[b1] using this,o.2⟩⟩
  simp[QI];omega
 obtain rfl:a=(j.vs:D):=H;have o:=QC (wr.ownsRow f 3 1 u3 (j.vs:D) (j.vs.flatMap b1)/\T f f wr) ⟨by have:=J.1;rwa [Iy] at this,J.2⟩;go_wp2;go_ret;exact⟨⟨_,A,o.1⟩,o.2⟩
def Bw (t:Pl)(O:Md.dY)(J u:E (IA×S))(M:Cc.Ca)(K P p W q:D)(X:XB)(j:L)(r:bt j t O J u M K)(w:j P=z U)(x:j W=V t.c):
 CallsD N 45 #[V P,V p,V W,V q] X j λk b v=>b=X/\(k=f #[]/\∃n Z,fD j t O J u M K n Z v):=by
 have s:=F (pd t O J u M K j r);go_enter_d func45,ntmps45
 go_wp2_with fail;go_call s.o as k o ⟨rfl,i⟩;have a:=F i;go_wp2;go_end0;exact⟨A,a.o⟩
def kH (o:L)(f j:D)(t u z:S):L:=(((o.setCell f t).setCell (f,1) u).setCell (f,2) z).setCell j (G 0)
def zb (j:Pl)(p:Md.dY)(l Z:E (IA×S))(n:Cc.Ca)(m q z u t:D)(w:XB)(f:ν)(U W:C)(K:QV JM)(O M:D)(I k x i:S)(d:bt (kH f j.c t (G U) (G W) (P K O M)) j p l Z n m)(a4:f q=υ X)(g:f u=V j.c)
 (a0:f z=U) (a1:f (z,1)=W) (a2:f (z,2)=P K O M) (d0:f j.c=I) (T:f (j.c,1)=k) (Y:f (j.c,2)=x) (a6:∀c,f.frozen? ⟨j.c,c,ζ⟩=X)
 (a5:f t=i) (a3:f.frozen? t=X) (h:t≠j.c) (b:u≠j.c) (v:u≠t):
 CallsD γ 45 #[V q,V z,V u,V t] w f λa L H=>L=w/\(a=χ #[]/\∃N y,fD (kH f j.c t (G U) (G W) (P K O M)) j p l Z n m N y H):=by
 have s:=F (pd j p l Z n m _ d);generalize r:kH f j.c t (G U) (G W) (P K O M)=R at s ⊢;unfold kH at r;have c5:R u=V j.c:=by
  rw[<-r];simp[ID,g,h,b,v,Ne.symm b,Ne.symm v]
 go_enter_d func45,ntmps45
 go_wp2_with fail;go_call s.o as a J ⟨rfl,o⟩;have e:=F o;go_wp2;go_end0;exact⟨A,e.o⟩
section
variable {B:Nat}{T:List Λ}{M:List Nat}{w a:ν}
def Fz.qq (u:Fz B T M w a){z:JM}(O:(w:D)<=z.block)(A:S):Fz B T M w (a.setCell z A):=by
 have t:ρ w a (a.setCell z A):=(Ge _ a).s O A;refine⟨t.os.t u.os,t.tape.t u.cb,t.output.t u.aW,GB u.aH t.z,λh g=>?_⟩;rcases u.aG h g with f|⟨U,P,J,f,K⟩|f
 .exact o ((t.b h g).t f)
 .exact j (o ⟨U,P,J,f,K⟩)
 exact j (j f)
def Fz.iY {z:L}(u:Fz B T M w a)(t:ρ w a z):Fz B T M w z:=by
 refine⟨t.os.t u.os,t.tape.t u.cb,t.output.t u.aW,GB u.aH t.z,λg b=>?_⟩;rcases u.aG g b with f|⟨O,K,A,f,J⟩|f
 .exact o ((t.b g b).t f)
 .exact j (o ⟨O,K,A,f,J⟩)
 exact j (j f)
structure lZ (w:ν)(p:Pl)(R L:E (IA×S))(ca:Cc.Ca):Prop where
 df:bj N w 3 p.r R
 sD:∀q∈R,∃b root,q=(il b,O root)/\ByteArray.size root=32
 cO:bp w p.s p.m p.cg L
 gO:Cc.bM w p.k p.h ca
def bt.afk {u:Pl}{A:Md.dY}{o j:E (IA×S)}{t:Cc.Ca}{z:D}(f:bt w u A o j t z):lZ w u o j t:=⟨f.df.cS,f.df.sD,f.cO,f.gO⟩
def lZ.fz {K:L}{j:Pl}{z u:E (IA×S)}{A:Cc.Ca}(o:lZ w j z u A)(t:Fz B T M w K)(J:cM w M)(U:j.r∉M)(P:j.m∉M)(O:j.k∉M)(f:∀n∈[181,192,9,185,518],n∉T):lZ K j z u A:=
 ⟨t.hW o.df U,o.sD,o.cO.fz t J P (f _ R) (f _ R) (f _ R),bM.fz o.gO t J O (f _ R) (f _ R)⟩
def lZ.jR {o:L}{f:Pl}{z K u:E (IA×S)}{A:Cc.Ca}(j:lZ w f z K A)(U:bp o f.s f.m f.cg u)(V:hA f.m w o)(O:B<=f.m)(J:f.r≠f.m/\f.r≠f.k/\f.m≠f.k):lZ o f z u A/\Fz B [192] [f.m] w o:=have t:=Fz.jR V O;have P:cM w [f.m]:=eH j.cO.cS.bx;⟨⟨t.hW j.df (by simp;exact J.1),j.sD,U,bM.fz j.gO t P (by simp;exact λk=>J.2.2 k.s) R R⟩,t⟩
def lZ.oZ {t:L}{f:Pl}{A P:E (IA×S)}{V:Cc.Ca}{z:C}{J:QE}(u:lZ w f A P V)(s:w.mapTurned t f.r)(Z:bj N t 3 f.r ((il z,O J)::be (il z) A))(X:J.size=32)(W:f.r≠f.m/\f.r≠f.k/\f.m≠f.k):
 lZ t f ((il z,O J)::be (il z) A) P V/\Fz f.b [] [f.r] w t:=by
 have K:Fz f.b [] [f.r] w t:=by
  have:=aL.dD (aL.bQ (· =f.r) w) s (λ_=>rfl);exact⟨this.os,this.cb,this.aW,this.aH,λn q=>by
   by_cases c:n=f.r
   .exact j (j (by simp[c]))
   exact o (this.aG n q c)⟩
 have U:cM w [f.r]:=eH u.df.bx;refine⟨⟨Z,λb h=>?_,u.cO.fz K U (by simp;exact λc=>W.1 c.s) R R R,bM.fz u.gO K U (by simp;exact λc=>W.2.1 c.s) R R⟩,K⟩;rcases GF.1 h with c|h
 .exact⟨_,_,c,X⟩
 exact u.sD b (GX.1 h).1
def lZ.cl {f:Pl}{o:Md.dY}{u A:E (IA×S)}{t:Cc.Ca}{j:D}{J:S}(z:lZ w f u A t)(b:w.heap[f.c]?=K #[G o.aN,G o.next,J,KD (δ f.r),V f.s,V f.h] 101)
 (x:bC w J o.vs) (c:Md.Ok o) (q:∀O∈o.vs,(aT u (il O.aG)).isSome=U) (Z:f.r≠f.m/\f.r≠f.k/\f.m≠f.k) (d:1<=f.cg/\f.cg<=9223372036854775807) (s:o.next<=1+j) (X:u.length<=1+j) (W:A.length<=1+780*j) (p:t.n<=j/\t.C.length<=j) (P:j<=51)
 (r:f.b<=f.c/\f.b<=f.r/\f.b<=f.m/\f.b<=f.k) (v:∀O∈t.T,O.2.size<=80):bt w f o u A t j:=
 ⟨⟨J,b,x⟩,c,⟨z.df,z.sD,q⟩,z.cO,z.gO,Z,d,s,X,W,p,P,r,v⟩
end
section
def oe (B:D)(w:L)(v:S)(j:E fj):Prop:=eh w v j/\∀p n t,v=P (M p) n t->0<n->p.block<B\/eN w p.block 56
def jv.u {w:L}{v:S}{z:E fj}(B:D)(t:jv w v z):oe B w v z:=⟨t.1,λp n d c _=>j (t.2 p n d c)⟩
def oe.aE {B:D}{w z:L}{v:S}{u:E fj}(j:oe B w v u)(t:T w w z):oe B z v u:=⟨j.1.aE t,λp n a c h=>(j.2 p n a c h).imp_right λq=>q.aE t⟩
def oe.of {B:D}{w z:L}{v:S}{t:E fj}(u:eh w v t)(A:T w w z)(M:(w:D)<=B):oe B z v t:=⟨u.aE A,λp n a d m=>Ξ (by
 rcases u with⟨O,J,j,-⟩|⟨P,U,J,j,-,K⟩
 .rw[d] at j;simp[Gy] at j;omega
 rw[d] at j
 simp only[Gy,Gd] at j
 obtain⟨rfl,rfl,-⟩:=j
 exact GP (bH (K 0 _ (Gf m)).1) M)⟩
def oe.fz {B:D}{P:E Λ}{w O:L}{v:S}{U:E fj}(z:oe B w v U)(K:Fz B P [] w O)(V:56∉P):oe B O v U:=by
 have X:cM w []:=λc k=>by cases k
 refine⟨?_,λp n c h I=>(z.2 p n c h I).imp_right λa=>K.Tj X a V⟩;rcases z.1 with F|⟨t,d,Z,rfl,G,u⟩
 .exact Ξ F
 refine j ⟨t,d,Z,A,G,λg x b=>?_⟩;have m:=(Gg.1 b).1;have J:O.heap[t]?=w.heap[t]?:=by
  rcases z.2 _ _ _ A H with M|M
  .rcases K.aG t (bH (u g x b).1) with a|⟨_,_,_,_,_,a⟩|a
   .exact a
   .exact absurd (show t<B from M) H
   cases a
  exact K.jJ X M V
 exact⟨(GQ (w:=w) J).t (u g x b).1,(GQ (w:=w) J).t (u g x b).2.1,(GQ (w:=w) J).t (u g x b).2.2⟩
def TK (tx:B)(n:C)(u t:E (IA×S))(K:L):Prop:=aT u (il n)=(bn tx)/\∃j A z,aT t (kl (bn tx))=V (M ⟨j,0,J⟩)/\It K j tx A z
def Fs (u:Prop)(tx:B)(w:L)(p:Pl)(j:Md.dY)(J:Cc.Ca)(A:D)(K:He)(t:L):Prop:=
 Fz p.b [101,192] [p.r,p.m] w t/\
 ((∃(d:Md.dY) (c b:E (IA×S)),bt t p d c b J (A+1)/\d.aN=j.aN/\d.next=j.next+1/\(∀z,Md.bN j z->Md.bN d z)/\K=χ #[j.next,G 0]/\(u->TK tx j.next c b t))\/
 ¬u/\∃(n:C) (c b:E (IA×S)),1<=n/\n<=12/\bt t p j c b J A/\K=χ #[G 0,n])
structure Cm (W:L)(p:Pl)(x y:C)(v:S)(f i l o:D)(done:Bool)(n:C):Prop where
 c0:W.heap[f]?=K #[V p.c] 50 (0,0)
 n0:W.heap[i]?=K #[n] 3 (0,0)
 v0:W.heap[l]?=K #[x,y,v] 93 (0,0)
 d0:W.heap[o]?=K #[done] 4 (0,0)
variable {W e w:ν}{p:Pl}{x y:Int}{v:π}{f i l o:Nat}{done:Bool}{n:Int}
def Cm.fz {B:D}{A:E Λ}{J:E D}(j:Cm W p x y v f i l o done n)(z:Fz B A J W e)(t:cM W J)(u:∀k∈[50,3,93,4],k∉A):Cm e p x y v f i l o done n:=
 ⟨z.aM j.c0 (u _ R) (λb=>t _ b _ _ _ j.c0),z.aM j.n0 (u _ R) (λb=>t _ b _ _ _ j.n0),z.aM j.v0 (u _ R) (λb=>t _ b _ _ _ j.v0),z.aM j.d0 (u _ R) (λb=>t _ b _ _ _ j.d0)⟩
def Cm.aE (j:Cm W p x y v f i l o done n)(t:T W W e):Cm e p x y v f i l o done n:=
 j.fz (Fz.aE t 0 [] []) (λd c=>by cases c) R
def Cm.fc (j:Cm W p x y v f i l o done n):i≠f/\i≠l/\i≠o/\o≠f/\o≠l/\o≠i:=by
 refine⟨?_,?_,?_,?_,?_,?_⟩<;>rintro rfl
 .have:=j.n0.s.t j.c0;simp at this
 .have:=j.n0.s.t j.v0;simp at this
 .have:=j.n0.s.t j.d0;simp at this
 .have:=j.d0.s.t j.c0;simp at this
 .have:=j.d0.s.t j.v0;simp at this
 have:=j.n0.s.t j.d0;simp at this
def Cm.dg (j:Cm W p x y v f i l o done n)(u:C):Cm (W.setCell i (G u)) p x y v f i l o done u:=by
 have t:=aF (j:=0) (G u) j.n0;obtain⟨z,A,J,-⟩:=j.fc;exact⟨(t.old _ z.symm).t j.c0,t.at_,(t.old _ A.symm).t j.v0,(t.old _ J.symm).t j.d0⟩
def Cm.do (j:Cm W p x y v f i l o done n)(u:Bool):Cm (W.setCell o (z u)) p x y v f i l o u n:=have t:=aF (j:=0) (z u) j.d0;let⟨_,_,_,d,h,g⟩:=j.fc;⟨(t.old _ d.symm).t j.c0,(t.old _ g.symm).t j.n0,(t.old _ h.symm).t j.v0,t.at_⟩
def Cm.aV (j:Cm W p x y v f i l o done n):W f=V p.c/\W i=n/\W l=x/\W (l,1)=y/\W (l,2)=v/\W o=z done/\(∀b,W.frozen? ⟨i,b,J⟩=X)/\∀b,W.frozen? ⟨o,b,J⟩=X:=by
 refine⟨?_,?_,?_,?_,?_,?_,λb=>aI j.n0 b,λb=>aI j.d0 b⟩
 .rw[QH j.c0];rfl
 .rw[QH j.n0];rfl
 .rw[QH j.v0];rfl
 .rw[QH j.v0];rfl
 .rw[QH j.v0];rfl
 rw[QH j.d0];rfl
def Cm.jk (t:Cm W p x y v f i l o done n)(J:p.c≠f)(K:p.c≠i)(O:p.c≠l)(M:p.c≠o)(u z A:π):Cm (((W.setCell p.c u).setCell (p.c,1) z).setCell (p.c,2) A) p x y v f i l o done n:=by
 have j:∀c,p.c≠c->(((W.setCell p.c u).setCell (p.c,1) z).setCell (p.c,2) A).heap[c]?=W.heap[c]?:=λc r=>by
  rw[QJ (by simp;omega),QJ (by simp;omega),QJ (by simp;omega)]
 exact⟨(j _ J).t t.c0,(j _ K).t t.n0,(j _ O).t t.v0,(j _ M).t t.d0⟩
def Cm.S (j:Cm W p x y v f i l o done n):W f=V p.c/\W l=x/\W (l,1)=y/\W (l,2)=v:=
 ⟨j.aV.1,j.aV.2.2.1,j.aV.2.2.2.1,j.aV.2.2.2.2.1⟩
def Fz.By {B:D}{j:D}{A:S}{u:Λ}(t:W.heap[j]?=K #[A] u (0,0))(J:B<=j)(z:S):Fz B [u] [] W (W.setCell j z):=
 Fz.cV (aF (j:=0) z t) t R J []
def TC {u z M O P U:S}{j:D}(t:W.heap[j]?=K #[u,z,M,O,P,U] 101 (0,0)):W j=u/\W (j,1)=z/\W (j,2)=M/\∀c,W.frozen? ⟨j,c,J⟩=X:=
 ⟨cR t A,cR t A,cR t A,λc=>aI t c⟩
def ady {w:L}{t u:D}(z:∀b j c,w.heap[t]?≠M (K b j c))(A:∀b j c,w.heap[u]?≠M (K b j c)):cM w [t,u]:=λm a=>by
 rcases GF.1 a with rfl|a
 .exact z
 cases GA.1 a;exact A
def kq (w:L)(p:Pl)(P:Md.dY)(J:Cc.Ca)(z i:D)(O:C)(A:E (IA×S)->E (IA×S)->L->Prop)(U:XB)(K:He)(M:XB)(j:L):Prop:=
 M=U/\(K=χ #[]/\j i=O/\Fz p.b [101,192] [p.r,p.m] w j/\∃u t,bt j p P u t J z/\A u t j)
def Z0:E (IA×S)->E (IA×S)->L->Prop:=λ_ _ _=>True
def fD.door {P:E (IA×S)->E (IA×S)->L->Prop}{w:L}{M:Md.dY}{Z t j L1:E (IA×S)}{z:Cc.Ca}{u:D}{U:C}(d:Fz p.b [101,192] [p.r,p.m] w W)(O:W.heap[i]?=K #[U] 3 (0,0))(a:∃R0 q,bt W p M R0 q z u)(J:fD W p M Z L1 z u t j e)(X:P t j e)(V:XB):
 kq w p M z u i U P V (ι (χ #[])) V e:=by
 let⟨R0,q,a⟩:=a;refine⟨A,A,?_,d.aJ (J.fz.cz R R),t,j,J.ch,X⟩;have c:=ady a.df.cS.bx a.cO.cS.bx;rw[QH (J.fz.aM O R (λb=>c _ b _ _ _ O))];rfl
def Of {K:E (IA×S)->E (IA×S)->ν->Prop}{w:ν}{u:Md.dY}{R L:E (IA×S)}{t:Cc.Ca}{j:D}{P:C}(X:Fz p.b [101,192] [p.r,p.m] w W)(A:Cm W p x y v f i l o U P)(O:bt W p u R L t j)(Z:∀g z e,fD W p u R L t j g z e->K g z e)(J:XB):
 CallsD N 45 #[V o,V l,V f,V i] J W (kq w p u t j i P K J):=by
 apply(Bw p u R L t j o l f i J W O A.aV.2.2.2.2.2.1 A.aV.1).mono;rintro c b a ⟨rfl,rfl,g,z,M⟩;exact M.door X A.n0 ⟨_,_,O⟩ (Z _ _ _ M) _
def DJ {w:ν}{j:Md.dY}{U O:E (IA×π)}{M:Cc.Ca}{X:D}{ak:C}{t:QV JM}{z u:D}{x' y' z':π}(A:bt w p j U O M X)(ah:Fz p.b [101,192] [p.r,p.m] w W)(J:Cm W p j.aN j.next (P t z u) f i l o σ ak)(S:(w:D)<=f/\(w:D)<=i)
 (N:lZ W p U O M) (af:bC W (P t z u) j.vs) (K:W.heap[p.c]?=θ #[x',y',z',KD (δ p.r),V p.s,V p.h] 101 (0,0)) (a8:p.c<(w:D)) (Z:XB):
 CallsD γ 45 #[V o,V l,V f,V i] Z W (kq w p j M X i 0 Z0 Z):=by
 have ae:p.c≠l:=by rintro rfl;have:=K.s.t J.v0;simp at this
 have ab:p.c≠o:=by rintro rfl;have:=K.s.t J.d0;simp at this
 have d:=yZ (x:=G j.aN) (y:=G j.next) (z:=P t z u) K;have F:=A.dK;have g:Fz p.b [101] [] W _:=Fz.cV d K R F.1 [];have b:=J.jk H H ae ab (G j.aN) (G j.next) (P t z u);have q:=Fz.By (B:=p.b) b.n0 H (G 0);have a:Fz p.b [101,3] [] W (kH W p.c i (G j.aN) (G j.next) (P t z u)):=(g.cz R R).aJ (q.cz R R);have c:cM W []:=λb0 Y=>by cases Y
 have T:(kH W p.c i (G j.aN) (G j.next) (P t z u)).heap[p.c]?=θ #[G j.aN,G j.next,P t z u,KD (δ p.r),V p.s,V p.h] 101 (0,0):=by
  rw[kH,QJ QB];exact d.at_
 have h:bt (kH W p.c i (G j.aN) (G j.next) (P t z u)) p j U O M X:=
  lZ.cl (N.fz a c R R R R) T (af.fz a c R R R) A.ok A.df.fT A.fc A.cg A.next A.rq A.ru A.ry A.rz F A.ep
 have L:Cm (kH W p.c i (G j.aN) (G j.next) (P t z u)) p j.aN j.next (P t z u) f i l o σ 0:=b.dg 0;have s:Fz p.b [101,192] [p.r,p.m] w (kH W p.c i (G j.aN) (G j.next) (P t z u)):=(ah.aJ (g.cz R R)).qq (sU S.2) _;let⟨d0,m,I,aj⟩:=TC K;let⟨k,ai,a1,a2,a3,a0,r,a7⟩:=J.aV;apply(zb p j U O M X o l f i Z W j.aN j.next t z u x' y' z' _ h a0 k a1 a2 a3 d0 m I aj ai (r 0) H H J.fc.1.symm).mono;rintro a6 a9 b2 ⟨rfl,rfl,a5,a4,ag⟩;exact ag.door s L.n0 ⟨_,_,h⟩ tV _
def TD {w:L}{J:Md.dY}{b Z U s:S}{t j:C}{u:QV JM}{A z:D}{x0 m:C}(a:Cm W p x y v f i l o X n)(I:T w w W)(O:W.heap[p.c]?=K #[x0,m,b,Z,U,s] 101 (0,0))
 (d:p.c≠f) (F:(w:D)<=i) (g:p.c≠l) (h:p.c≠o) (k:p.b<=p.c) (q:p.c<(w:D)):
 Cm ((((W.setCell p.c (G J.aN)).setCell (p.c,1) (G t)).setCell (p.c,2) (P u A z)).setCell i (G j)) p x y v f i l o X j/\
 Fz p.b [101,3] [] W ((((W.setCell p.c (G J.aN)).setCell (p.c,1) (G t)).setCell (p.c,2) (P u A z)).setCell i (G j))/\
 Fz p.b [101] [] w ((((W.setCell p.c (G J.aN)).setCell (p.c,1) (G t)).setCell (p.c,2) (P u A z)).setCell i (G j))/\
 ((((W.setCell p.c (G J.aN)).setCell (p.c,1) (G t)).setCell (p.c,2) (P u A z)).setCell i (G j)).heap[p.c]?=K #[J.aN,t,P u A z,Z,U,s] 101 (0,0):=by
 have M:=yZ (x:=G J.aN) (y:=G t) (z:=P u A z) O;have V:Fz p.b [101] [] W _:=Fz.cV M O R k [];have c1:=a.jk d H g h (G J.aN) (G t) (P u A z);have c:=Fz.By (B:=p.b) c1.n0 H (G j);refine⟨c1.dg j,(V.cz R R).aJ (c.cz R R),((Fz.aE I _ _ _).aJ V).qq (sU F) _,?_⟩;rw[QJ QB];exact M.at_
def vx {w:L}{j:Md.dY}{U O:E (IA×S)}{u:Cc.Ca}{Z:D}{F:C}{a:QV JM}{c r:D}{A J M:S}(b:bt w p j U O u Z)(N:Fz p.b [101,192] [p.r,p.m] w W)(k:Cm W p j.aN j.next (P a c r) f i l o X F)(q:(w:D)<=f/\(w:D)<=i)
 (d:lZ W p U O u) (h:bC W (P a c r) j.vs) (g:W.heap[p.c]?=K #[A,J,M,KD (δ p.r),V p.s,V p.h] 101 (0,0)) (I:p.c<(w:D)) (t:C) (z:XB):
 CallsD γ 45 #[V o,V l,V f,V i] z (W.setCell i (G t)) (kq w p j u Z i 0 Z0 z):=by
 have T:=b.dK;have s:=Fz.By (B:=p.b) k.n0 om (G t);have m:cM W []:=λY H=>by cases H
 refine DJ (x':=A) (y':=J) (z':=M) b (N.qq (sU q.2) _) (k.dg t) q (d.fz s m R R R R) (h.fz s m R R R) ?_ I z;rw[QJ QB];exact g
def It.fR {w A:L}{t:D}{z u:B}{Z X:S}{U O:E B}(J:It w t z Z U)(M:Rv w A)(V:It A t u X O):u=z:=by
 obtain⟨d,hd,P⟩:=J.bO;obtain⟨b,a,j⟩:=V.bO;obtain⟨c,x,K⟩:=M _ _ _ _ _ P;rw[K] at j;simp only[Gd,Hq,IU,GN,IT] at j;exact j.1.1.s
def fD.tk {W e:L}{M:Md.dY}{t z J A:E (IA×S)}{X:Cc.Ca}{Z:D}{tx:B}{n:C}(u:fD W p M t z X Z J A e)(O:∀U∈t,∃v∈M.vs,U.1=il v.aG)(P:TK tx n t z W):TK tx n J A e:=by
 obtain⟨rfl,rfl⟩:=u.aM O;let⟨c,q,H,F,a,b⟩:=P;refine⟨c,?_⟩;rcases u.ch.cO.jl (bn tx) with j|⟨V,g,I,G,j,K⟩
 .rw[a] at j;cases j
 have d:V=q:=by rw[a] at j;simp at j;exact j.s
 subst d;cases b.fR u.rv K;exact⟨_,_,_,j,K⟩
theorem Og {H:Prop}{tx:QE}{w:ν}{j:Md.dY}{u L c:E (IA×π)}{Z:Cc.Ca}{d:D}{z:C}{M:E Md.dp}{en J:π}{K:QE}{I:QV JM}{s q:D}(t:bt w p j u L Z d)(ah:d+1<=51)(a5:Fz p.b [101,192] [p.r,p.m] w W)(S:Cm W p x y v f i l o σ z)(T:(w:D)<=i/\(w:D)<=o)
 (ai:lZ W p ((il j.next,O K)::be (il j.next) u) c Z) (b2:(c:D)<=(L:D)+780) (a3:j.next≠1048576) (k:eW j.vs M) (a:bC W (ο I s q) (Md.cX (j.next+1) j.aN (M++[⟨j.next,0,en,J⟩])))
 (aj:W.heap[p.c]?=θ #[G j.aN,G (j.next+1),ο I s q,KD (δ p.r),V p.s,V p.h] 101 (0,0)) (b4:p.c<(w:D)) (hF:H->TK tx j.next ((il j.next,O K)::be (il j.next) u) c W/\∀a9∈(il j.next,O K)::be (il j.next) u,∃v∈(Md.jb {j with vs:=M} en J).vs,a9.1=il v.aG) (X:XB):
 CallsD γ 45 #[V o,V l,V f,V i] X ((W.setCell o (υ U)).setCell i (G z)) (kq w p (Md.jb {j with vs:=M} en J) Z (d+1) i z (λN c e=>H->TK tx j.next N c e) X):=by
 have a1:=t.dK;have b:∀W:ν,cM W []:=λW b5 a2=>by cases a2
 have r:=S.do U;have ab:=Fz.By (B:=p.b) S.d0 om (υ U);have ae:=Fz.By (B:=p.b) r.n0 om (G z);have P:Fz p.b [4,3] [] W ((W.setCell o (υ U)).setCell i (G z)):=(ab.cz sm sm).aJ (ae.cz sm sm);have a4:=Ok.iR t.ok k;refine Of ((a5.qq (sU T.2) _).qq (sU T.1) _) (r.dg z) (R:=(il j.next,O K)::be (il j.next) u) (L:=c) ?_ (λN c e a h=>a.tk (hF h).2 (by
  let⟨r,a8,a7,a6,af,ag⟩:=(hF h).1
  exact⟨r,a8,a7,a6,af,ag.fz P (b _) sm sm⟩)) X
 refine lZ.cl (ai.fz P (b _) sm sm sm sm) (P.aM aj sm sm) (a.fz P (b _) sm sm sm) (a4.jb a3 en J) ?_ t.fc t.cg ?_ ?_ ?_ ?_ ah a1 t.ep
 .intro b0 A;rcases GO.1 ((Md.gq _ _ _).subset A) with A|A
  .let⟨Y,m,a0,_⟩:=k.Wt A;have b3:=Md.jF t.ok Y m;have F:il j.next≠il b0.aG:=λg=>oA (jc g);have:=t.df.fT Y m;rw[<-a0] at this;rwa[ck F,dO (λg=>F g.s)]
  cases GA.1 A;rw[bY (iz _)];rfl
 .have:=t.next;show j.next+1<=_;push_cast;omega
 .have:=bB (il j.next) u;have:=t.rq;simp[Gx];omega
 .have:=t.ru;omega
 have:=t.ry;omega
def iB {t:Func}{p u:Tmp}(z:t.results=#[.cell p 3,.tmp u]){j:Q S}{w:L}{a:JM}{v:S}(K:j.getD p undef=V (M a))(A:w a=v):
 (results t j).run N w=Je (χ #[v,j.getD u undef]) w:=by
 have J:j[p]?.getD undef=V (M a):=by simpa using K
 simp[go_sem,results,z,J,asAddr,A,Hu]
def vq.bZ {K:Prop}{u:Md.dY}{d:E fj}{M:He}{O:L}(X:vq K u d M O):∃(q:C) (k:QV JM) (r s:D) (m b:C),M=χ #[t #[u.aN,q,P k r s],G m,G b]/\
 ((b=0/\q=u.next+1/\m=u.next/\u.next≠1048576/\∃J en g,eW u.vs J/\bC O (P k r s) (Md.cX (u.next+1) u.aN (J++[⟨u.next,0,en,g⟩])))\/(¬K/\1<=b/\b<=12)):=by
 obtain⟨J,h,a,⟨en,g,z,H,rfl⟩|⟨I,n,Z,F,z,rfl⟩⟩:=X.vm
 .obtain⟨U,V,c,rfl,_⟩:=z.at_;exact⟨_,_,_,_,_,_,A,Ξ ⟨A,A,A,H,J,en,g,a,z⟩⟩
 obtain⟨U,V,c,rfl,_⟩:=z.at_;exact⟨_,_,_,_,_,_,A,j ⟨I,Z,F⟩⟩
def adz (z:Prop)(tx:B)(w j:L)(p:Pl)(K:E (IA×S))(u:B)(n:C):Prop:=
 Fz p.b [192] [p.m] w j/\((¬z/\n≠0/\0<=n/\n<=12/\T w w j)\/(n=0/\u.size=32/\∃t,bp j p.s p.m p.cg t/\hA p.m w j/\t.length<=K.length+780/\(z->u=bn tx/\∃A P O,aT t (kl u)=V (M ⟨A,0,J⟩)/\It j A tx P O)))
def afl {u:Prop}{tx:B}{w O t:L}{z:E (IA×S)}{J:He}(hd:T w w O)(U:p.b<=p.m)(c:sT u tx O p.s p.m p.cg z J t):∃(a:B) (n:C),J=χ #[a,n]/\adz u tx w t p z a n:=by
 rcases c with⟨b,n,q,r,d,rfl,P⟩|⟨a,m,rfl,s,X,Z,V,-,-,G⟩
 .have K:=hd.t (P.m hd.z);exact⟨_,n,A,Fz.aE K _ _ _,Ξ ⟨b,q,r,d,K⟩⟩
 have M:hA p.m w t:=(hA.aE hd _).aJ Z;exact⟨a,0,A,Fz.jR M U,j ⟨A,s,m,X,M,V,G⟩⟩
structure ad0 (p:Pl)(md:Md.dY)(R L:E (IA×S))(cs:E fj)(tx:B)(c:fj)(w:ν):Prop where
 cf:∃x,md.vs.getLast?=M x/\Fh x.ei
 ok:(∀c∈cs,c.wC=U)/\cs.length<=40/\md.next≠1048576
 oZ:∀x root,md.vs.getLast?=M x->aT R (il x.aG)=O root->adj p.cg L root cs tx c
 WE:∃b rv refs,aT L (kl (bn ⟨#[128]⟩))=V (M ⟨b,0,J⟩)/\It w b ⟨#[128]⟩ rv refs
 aM:∀us en ch rt,eW md.vs us->∀q∈(il md.next,O rt)::be (il md.next) R,∃v∈(Md.jb {md with vs:=us} en ch).vs,q.1=il v.aG
def vy (O:Prop)(tx:B)(j3:fj)(p:Pl)(j:Md.dY)(Z U:E (IA×π))(af:Cc.Ca)(a1:D)(k:π)(z:E fj)(w:ν)(f4:eI w)(o3:2<=p.b)(L:bt w p j Z U af a1)(d2:oe p.b w k z)(j8:z.length<=1000)(n5:a1+1<=51)(b:O->ad0 p j Z U z tx j3 w):
 τ N 15 #[V p.c,k] w (Fs O tx w p j af a1):=by
 have a3:=F b;clear b;let⟨h,q0,m,f5,ah⟩:=L.aV;have s5:=L.cB;obtain⟨d8,d9,rfl,-⟩:=d2.1.bZ;let⟨c,p6,a7⟩:=aU w (θ #[V p.c] 50);let⟨g,p7,a8⟩:=aU c (θ #[G 0] 3);let⟨q3,p8,a9⟩:=aU g (θ #[G 0,G 0,P ζ 0 0] 93);let⟨e4,p9,a0⟩:=aU q3 (θ #[υ X] 4);have ab:=a7.aE.t (a8.aE.m a7.aE.z);have g6:=ab.t (a9.aE.m ab.z);have g7:=g6.t (a0.aE.m g6.z);have s1:=a7.aH;have r1:=a8.aH;have r2:=a9.aH;have s4:=a0.aH;have al:e4.heap[w.heap.size]?=_:=Below.ke a0.aE (Below.ke a9.aE (Below.ke a8.aE a7.at_));have a6:e4.heap[c.heap.size]?=_:=Below.ke a0.aE (Below.ke a9.aE a8.at_);have l7:e4.heap[g.heap.size]?=_:=Below.ke a0.aE a9.at_;have l8:=a0.at_;have i9:=F (na p g ⟨_,_,_,_,Below.ke ab ah⟩);have rS:∀(I:Fn) (first i8:Q π) (w:ν),(Instr.makeFunc I first i8).run N w=Je (Hl I first i8) w:=λ_ _ _ _=>rfl;have c2:=cJ 0 (Below.ke a8.aE a7.at_);have n0:=cJ 0 (Below.ke ab ah);have n1:=cJ 1 (Below.ke ab ah);have n2:=cJ 2 (Below.ke ab ah);have c4:=cJ 0 al;have d3:=Below.ke g7 ah;have d0:=cJ 0 d3;have g8:=cJ 1 d3;have g9:=cJ 2 d3;have q2:=F (κ f4 (κ L (κ f5 (κ d2 (κ g7 ah)))));have b4:=F (κ al (κ a6 (κ l8 d3)));have h4:w.heap.size<c.heap.size/\c.heap.size<g.heap.size/\g.heap.size<q3.heap.size/\q3.heap.size<e4.heap.size:=by omega
 clear f4 L f5 d2 ab g6 g7 a7 a8 a9 a0 ah al a6 l8 d3 s1 r1 r2 s4;let⟨CS,j7⟩:∃CS:Q π,CS=#[G j.aN,G j.next,P (h,q0) j.vs.length m]:=⟨_,A⟩;have r5:=F j7;clear j7;go_enter_defers func15,ntmps15;go_upto_region 4 with(first|((with_reducible apply i9.o.m);rintro q4 d ⟨rfl,p5⟩;subst p5)|(refine uS l7 ?_;intro i7 S;have q5:i7 q3=υ X:=(by rw[GQ (w:=e4) (S.old q3.heap.size H),QH b4.o.2.2.1];rfl);have n3:∀i6,i7.frozen? ⟨q3.heap.size,i6,ζ⟩=X:=λi6=>aI ((S.old q3.heap.size H).t b4.o.2.2.1) i6;let⟨q,h6⟩:∃q,i7.setCell q3 (υ X)=q:=⟨_,rfl⟩));have Y:=QC (ρ w w q) (by rw[<-h6];exact(S.aE _ _ H q2.2.2.2.2.1).s (by simp only;omega) _);have g3:=QC (Cm q p j.aN j.next (P (h,q0) j.vs.length m) w.heap.size c.heap.size g.heap.size q3.heap.size X 0) (by
  rw[<-h6]
  exact Cm.do ⟨(S.old w.heap.size H).t b4.1,(S.old c.heap.size H).t b4.2.1,S.at_,(S.old q3.heap.size H).t b4.2.2.1⟩ X)
 have k3:q.heap[p.c]?=θ #[G j.aN,G j.next,P (h,q0) j.vs.length m,KD (M p.r),V p.s,V p.h] 101 (0,0):=by
  exact(Y.o.b _ (aw q2.2.2.2.2.2)).t q2.2.2.2.2.2
 let⟨ae,d4,e0,e1,e2,b6,I,b9⟩:=g3.o.aV;have m6:=QC (τ N 47 #[Γ #[G j.aN,G j.next,P (h,q0) j.vs.length m],P d8 z.length d9] q.drew λq4 d=>vq O j z q4 d/\ρ q q d) (by
  have hd:ρ q q q.drew:=QG.d
  exact(Du O _ (P d8 z.length d9) j z q.drew ((q2.2.2.1.aE Y.o).aE hd) H q2.2.1.ok ((q2.2.2.2.1.1.aE Y.o).aE hd) j8 (λb=>⟨(a3.o b).cf,(a3.o b).ok⟩)).m λq4 d ⟨h1,h2⟩=>⟨h1,hd.t (h2.m hd.z)⟩)
 clear S q5 n3 h6 n0 n1 n2 d0 g8 g9 c4 c2 l7 p6 p7 p8 p9 i9;have f3:p.c<w.heap.size:=aw q2.2.2.2.2.2;have s7:¬c=p.c:=by omega
 have s8:¬p.c=c:=by omega
 go_upto_region 5 with fail;have i0:=g3.o.S;have m0:q.drew w=V p.c/\q.drew g=G j.aN/\q.drew (g.heap.size,1)=G j.next/\q.drew (g.heap.size,2)=P (h,q0) j.vs.length m:=i0;have r6:=F h4;go_region_held3 (λd=>d w=V p.c/\d g=G j.aN/\d (g.heap.size,1)=G j.next/\d (g.heap.size,2)=P (h,q0) j.vs.length m)
  (first|with_reducible exact i0|with_reducible exact m0|with_reducible exact m1|with_reducible exact d6 _ _ _|with_reducible exact f7 _ _ _ _|(trace_state;fail))
  (first|(go_at_call 47;(with_reducible apply m6.o.m);rintro q4 f8 ⟨l1,e7⟩;obtain⟨l9,i1,i3,i2,e8,j4,rfl,l0⟩:=l1.bZ;have g5:=F l0;have g2:=F e7;have b2:=F (g3.o.aE e7);let⟨ae,d4,e0,e1,e2,b6,I,b9⟩:=b2.o.aV;let⟨d0,g8,g9,n4⟩:=TC (Below.ke e7 k3);have m1:=b2.o.S;have d6:=λx y e5=>(b2.o.jk H H H H x y e5).S;have f7:=λx y e5 s=>((b2.o.jk H H H H x y e5).dg s).S;clear l0 l1 e7))
 let⟨w8,h7⟩:∃w8,(((f8.setCell p.c (G j.aN)).setCell (p.c,1) (G l9)).setCell (p.c,2) (P i1 i3 i2)).setCell c (G e8)=w8:=⟨_,A⟩;rw[h7];have u:=QC (Cm w8 p j.aN j.next (P (h,q0) j.vs.length m) w.heap.size c.heap.size g.heap.size q3.heap.size X e8/\Fz p.b [101,3] [] f8 w8/\Fz p.b [101] [] w w8/\
  w8.heap[p.c]?=θ #[G j.aN,G l9,P i1 i3 i2,KD (M p.r),V p.s,V p.h] 101 (0,0)) (by
  rw[<-h7]
  exact TD b2.o (Y.o.t (g2.o.m Y.o.z)) (Below.ke g2.o k3) H H H H q2.2.1.dK.1 f3)
 clear ae d4 e0 e1 e2 b6 I b9 d0 g8 g9 n4 i0 m0 m1 d6 f7 h7;have t:=QC (eI w8/\lZ w8 p Z U af/\bC w8 (P (h,q0) j.vs.length m) j.vs/\oe p.b w8 (P d8 z.length d9) z) (by
  have c7:=Y.o.t (g2.o.m Y.o.z)
  have f0:cM f8 []:=λf9 a=>by cases a
  let⟨f4,j5,f5,d2,_,_⟩:=q2.o
  have q1:=u.2.1
  have s6:=j5.dK
  exact⟨(f4.aE c7).at (u.2.1.dn R (by have:=c7.z;omega)) o3,(j5.aE c7).afk.fz q1 f0 R R R R,(f5.aE c7).fz q1 f0 R R R,(d2.aE c7).fz q1 R⟩)
 let⟨ae,d4,e0,e1,e2,b6,I,b9⟩:=u.1.aV;rcases g5.o with⟨rfl,rfl,rfl,k8,i4,en,e9,k6,l5⟩|⟨d1,k0,k1⟩
 .have t5:((0:C) !=0)=X:=by decide
  let⟨x,a5,r0⟩:=q2.2.1.ok.cf;let⟨s,k2⟩:∃s,j.vs.length=s+1:=⟨j.vs.length-1,by
   have:j.vs≠[]:=by rintro q4;rw[q4] at a5;cases a5
   have:=KC.2 this;omega⟩
  have h8:j.vs[s]?=M x:=by rw[Lo,k2] at a5;exact a5
  have r9:(0:C)<=(s:C):=by omega
  have s2:(s:C)<(j.vs.length:C):=by omega
  have s3:η.wrap ((j.vs.length:C)-1)=(s:C):=by rw[QQ H];omega
  let⟨t4,_⟩:w8 ⟨h,q0+s*4,ζ⟩=G x.aG/\True:=by
   let⟨r8,t3,r4,j9,_,_,o5⟩:=t.2.2.1.at_;simp only[Gy,Gd,GS,QW] at j9;obtain⟨⟨rfl,rfl⟩,-,rfl⟩:=j9;exact⟨(o5 s x h8).1,trivial⟩
  have o9:=q2.2.1.ok.n1;have p1:=q2.2.1.ok.n2;let⟨r,h3,ai⟩:∃r:B,r.size=32/\aT Z (il x.aG)=r:=by
   have:=q2.2.1.df.fT x (Gl h8);cases q4:aT Z (il x.aG) with
   |none=>rw[q4] at this;cases this
   |some f6=>
    obtain⟨r,h3,rfl⟩:=xz q2.2.1.df.sD q4;exact⟨r,h3,A⟩
  have f2:∀W,W.heap[p.r]?=w8.heap[p.r]?->(Instr.lookup 95 (KD (M p.r)) (G x.aG) X).run N W=Je (β r) W:=λW o0=>by
   have:=(t.2.1.df.aM o0).jE eX Lv (YG W) (kG (n:=x.aG) H);rwa [ai] at this
  have e3:=cJ 3 u.2.2.2;have h0:=cJ 4 u.2.2.2;have j2:=F a5;have a4:=F (κ k8 (κ k6 l5));have r7:=F (κ o9 p1);have m5:=F f2;have d6:=(κ ae (κ e3 (κ h0 (f2 w8 A))));have m2:w8.drew w=V p.c/\w8.drew (p.c,3)=KD (M p.r)/\w8.drew (p.c,4)=V p.s/\(Instr.lookup 95 (KD (M p.r)) (G x.aG) X).run N w8.drew=Je (β r) w8.drew:=⟨ae,e3,h0,f2 w8.drew A⟩;have j1:=QC (τ N 48 #[V p.s,β r,P d8 z.length d9] w8.drew λq4 d=>∃(b0:B) (n:C),q4=χ #[b0,n]/\adz O tx w8 d p U b0 n/\
   (d w=V p.c/\d (p.c,3)=KD (M p.r)/\d (p.c,4)=V p.s/\(Instr.lookup 95 (KD (M p.r)) (G x.aG) X).run N d=Je (β r) d)) (by
   have hd:ρ w8 w8 w8.drew:=QG.d
   have ag:cM w8 [p.m]:=eH t.2.1.cO.cS.bx
   refine(Dp O tx j3 p.s p.m p.cg U r (P d8 z.length d9) z w8.drew (t.1.aE hd) (t.2.1.cO.aE hd) h3 (t.2.2.2.1.aE hd) j8 (by have:=q2.2.1.ru;omega) (by have:=q2.2.1.cg;omega) q2.2.1.cg.2 (λb=>(a3.o b).oZ x r j2.o ai) (by
    by_cases b:O
    .have p3:=((a3.o b).oZ x r j2.o ai).fst.oZ
     let⟨g1,f6,h9,al,a6⟩:=(a3.o b).WE
     apply(DH p.s p.m p.cg U r g1 f6 h9 w8.drew (t.1.aE hd) (t.2.1.cO.aE hd) (p3▸al) ((a6.fz u.2.2.1 (λf9 a=>by cases a) R R).aE hd) H).m
     rintro q4 d ⟨rfl,o2⟩
     exact⟨.none,ψ,A,.OW o2,λ_=>⟨A,A⟩⟩
    exact(ML p.s p.m p.cg U r w8.drew (t.1.aE hd) (t.2.1.cO.aE hd) H).m λ_ _ ⟨m4,r3,h1,h2⟩=>⟨m4,r3,h1,h2,λL=>absurd L b⟩)).m λq4 d L=>?_
   let⟨b0,n,o6,ak⟩:=afl hd q2.2.1.dK.2.2.1 L
   refine⟨b0,n,o6,ak,?_⟩
   have o4:=u.1.fz ak.1 ag R
   have k4:=ak.1.aM u.2.2.2 R (λa=>ag _ a _ _ _ u.2.2.2)
   exact⟨o4.aV.1,cR k4 A,cR k4 A,m5.o _ (ak.1.cS t.2.1.df.gb (by simp;exact q2.2.1.fc.1))⟩)
  clear k8 k6 l5 a5 r0 k2 h8 ai g5 f2;go_upto_region 9 with fail;go_region_held3 (λd=>d w=V p.c/\d (p.c,3)=KD (M p.r)/\d (p.c,4)=V p.s/\(Instr.lookup 95 (KD (M p.r)) (G x.aG) X).run N d=Je (β r) d)
   (first|with_reducible exact d6|with_reducible exact m2|with_reducible exact f7)
   (first|(go_at_call 48;(with_reducible apply j1.o.m);rintro q4 J ⟨b0,n,rfl,ak,f7⟩;have b5:=F ak;clear ak))
  have K:=QC (Cm J p j.aN j.next (P (h,q0) j.vs.length m) w.heap.size c.heap.size g.heap.size q3.heap.size X j.next/\Fz p.b [101,192] [p.r,p.m] w J/\J.heap[p.c]?=θ #[G j.aN,G (j.next+1),P i1 i3 i2,KD (M p.r),V p.s,V p.h] 101 (0,0)) (by
   have ag:cM w8 [p.m]:=eH t.2.1.cO.cS.bx
   exact⟨u.1.fz b5.1 ag R,(u.2.2.1.cz R R).aJ (b5.1.cz R R),b5.1.aM u.2.2.2 R (λa=>ag _ a _ _ _ u.2.2.2)⟩)
  let⟨ae,d4,e0,e1,e2,b6,I,b9⟩:=K.1.aV;clear d6 m2 e3 h0 j1;rcases b5.2 with⟨d1,o8,p0,p2,h5⟩|⟨rfl,ai,T,l2,l4,k5,l6⟩
  .have e5:(n !=0)=ψ:=by simp;omega
   have a2:=QC (∀k,CallsD N 45 #[V q3,V g,V w,V c] k (J.setCell c (G j.next)) (kq w p j af a1 c.heap.size 0 Z0 k)) (λk=>by
    have f0:cM w8 []:=λf9 a=>by cases a
    have q1:=Fz.aE h5 p.b [] []
    exact vx q2.2.1 K.2.1 K.1 ⟨QD,by omega⟩ (t.2.1.fz q1 f0 R R R R) (t.2.2.1.aE h5) K.2.2 f3 j.next k)
   have b3:=QC (1<=n/\n<=12) H;have g4:=F d1;clear o8 p0 p2 h5 d1;go_wp2;apply XI (f:=45) (args:=#[V q3,V g,V w,V c]) R (by simp[go_sem]);apply(a2.o _).mono;rintro q4 m3 d ⟨rfl,rfl,c8,hF,aj,T,c0,-⟩;refine⟨_,iB (a:=c) A rf c8,hF,Θ ⟨g4.o,n,aj,T,b3.1,b3.2,c0,?_⟩⟩;rfl
  have e3:=cJ 3 K.2.2;have e6:=QC (lZ J p Z T af/\b0.size=32/\T.length<=U.length+780) ⟨(t.2.1.jR l2 l4 q2.2.1.dK.2.2.1 q2.2.1.fc).1,ai,k5⟩;have m8:=F l6;have j0:=QC (bj N J.drew 3 p.r Z) (e6.1.df.aM A);have n9:Z.length<Ie:=by have:=q2.2.1.rq;unfold Ie;omega
  clear ai l2 l4 k5 l6;go_upto_region 12 with fail;go_still_tail 6,Qz;change Ji _ _ _ _ _ J.drew;go_upto_region 13 with(at_mapUpdate;refine wS eX Lv j0.o n9 (kG (n:=j.next) H) ?_;intro i5 k7 l3);have a2:=QC ((∀k,CallsD N 45 #[V q3,V g,V w,V c] k ((i5.setCell q3 (υ ψ)).setCell c (G j.next)) (kq w p (Md.jb {j with vs:=i4} en e9) af (a1+1) c.heap.size j.next (λaj T e=>O->TK tx j.next aj T e) k))/\Cm i5 p j.aN j.next (P (h,q0) j.vs.length m) w.heap.size c.heap.size g.heap.size q3.heap.size X j.next) (by
   have hd:ρ J J J.drew:=QG.d
   have n8:cM f8 []:=λf9 a=>by cases a
   have ag:cM w8 [p.m]:=eH t.2.1.cO.cS.bx
   have f1:cM J.drew [p.r]:=eH j0.o.bx
   have n7:=e6.1.fz (Fz.aE hd p.b [] []) (λf9 a=>by cases a) R R R R
   let⟨n6,b7⟩:=n7.oZ l3 k7 e6.2.1 q2.2.1.fc
   have j6:Cm i5 p j.aN j.next (P (h,q0) j.vs.length m) w c.heap.size g.heap.size q3.heap.size X j.next:=(K.1.aE hd).fz b7 f1 R
   have o7:=b7.aM (Below.ke hd K.2.2) R (λa=>f1 _ a _ _ _ (Below.ke hd K.2.2))
   have p4:=(((a4.2.2.fz u.2.1 n8 R R R).fz b5.1 ag R R R).aE hd).fz b7 f1 R R R
   exact⟨λk=>Og q2.2.1 n5 ((K.2.1.then hd).aJ (b7.cz R R)) j6 ⟨by omega,by omega⟩ n6 e6.2.2 a4.1 a4.2.1 p4 o7 f3 (λb=>by
    obtain⟨rfl,g1,f6,h9,al,a6⟩:=m8.o b
    exact⟨⟨bY (iz _) _ _,g1,f6,h9,al,(a6.aE hd).fz b7 f1 R R⟩,(a3.o b).aM i4 en e9 _ a4.2.1⟩) k,j6⟩)
  have k9:=q2.2.1.ok;have m7:=QC (∀g0,Md.bN j g0->Md.bN (Md.jb {j with vs:=i4} en e9) g0) λg0 h4=>Md.bN.jb (Ok.iR k9 a4.2.1) (Pinned.iR h4 a4.2.1) en e9;let⟨ae,d4,e0,e1,e2,b6,I,b9⟩:=a2.2.aV;have s9:¬q3.heap.size=c.heap.size:=by omega
  have t0:¬c.heap.size=q3.heap.size:=by omega
  clear k7 l3 k9;go_wp2;apply XI (f:=45) (args:=#[V q3,V g,V w,V c]) R (by simp[go_sem]);apply(a2.1 _).mono;rintro q4 m3 d ⟨rfl,rfl,c8,hF,aj,m9,c0,o1⟩;refine⟨_,iB (a:=c) A rf c8,hF,Ξ ⟨_,aj,m9,c0,A,A,m7.o,?_,o1⟩⟩;rfl
 have e5:(j4 !=0)=ψ:=by simp;omega
 have a2:=QC (∀k,CallsD N 45 #[V q3,V g,V w,V c] k (w8.setCell c (G e8)) (kq w p j af a1 c.heap.size 0 Z0 k)) (λk=>by
  exact(vx q2.2.1 (u.2.2.1.cz R R) u.1 ⟨QD,by omega⟩ t.2.1 t.2.2.1 u.2.2.2 f3 e8 k))
 have b3:=F (κ k0 k1);have g4:=F d1;clear g5 k0 k1 d1;go_wp2;apply XI (f:=45) (args:=#[V q3,V g,V w,V c]) R (by simp[go_sem]);apply(a2.o _).mono;rintro q4 m3 d ⟨rfl,rfl,c8,hF,aj,T,c0,-⟩;refine⟨_,iB (a:=c) A rf c8,hF,Θ ⟨g4.o,j4,aj,T,b3.1,b3.2,c0,?_⟩⟩;rfl
def Bz (p:Pl)(z:Md.dY)(K J:E (IA×S))(t:Cc.Ca)(j:D)(A:S)(u:E fj)(w:L)(O:eI w)(P:2<=p.b)(c:bt w p z K J t j)(U:oe p.b w A u)(M:(u:D)<=1000)(Z:j+1<=51):
 Y N 15 #[V p.c,A] w λm a=>Fs QZ ⟨#[]⟩ w p z t j m a:=vy QZ _ ⟨⟨#[]⟩,⟨#[]⟩,X⟩ p z K J t j A u w O P c U M Z λc=>c.elim
end
namespace Cc
def vz (f:Cs)(j:B):(ds f j:D)<=(f:D)+1:=by
 induction f with
 |nil=>simp[ds]
 |cons e d c=>
  unfold ds;split
  .simp
  simp[Gx];omega
def Oh (f:Ca)(j:B):(kU f j:D)<=(f.C:D)+1:=by
 unfold kU;split
 .exact GB (sx _) (vz _ _)
 exact vz _ _
def TE (f:Ca)(j:B):kV f<=f.n+1:=by
 unfold kV;split<;>omega
def vA {u:Ts}{t:B×B}(f:t∈dX u w k):t.2=k\/t∈u:=by
 unfold dX at f;split at f
 .rcases GF.1 f with rfl|f
  .exact o A
  rcases GO.1 f with f|f
  .exact j (JZ f)
  exact j (LS f)
 exact j f
def DK {o:Ca}(f:∀b∈o.T,b.2.size<=w):(∀b∈(oQ o k).T,b.2.size<=w)/\(we o k).size<=w:=by
 refine⟨λb a=>?_,?_⟩
 .unfold oQ at a;split at a
  .exact f b a
  simp only at a;split at a
  .rename_i t j;rcases vA a with u|a
   .rw[u];exact f t (Gl j)
   exact f b a
  exact f b a
 unfold we;split
 .rename_i t j;exact f t (Gl j)
 exact QK
def TG (f:Ca)(j:B):(oQ f j).n<=f.n+1/\(oQ f j).C.length<=(f.C:D)+1:=by
 unfold oQ;split
 .omega
 exact⟨TE f j,Oh f j⟩
def zf {u:Ca}{z:B}(o:∀j∈u.T,j.2.size<=w)(t:z.size<=w):∀j∈ik u k z,j.2.size<=w:=by
 intro j f;unfold ik at f;split at f
 .exact o j f
 split at f
 .rcases vA f with A|f
  .rwa[A]
  exact o j f
 split at f
 .rcases GF.1 f with rfl|f
  .exact t
  exact o j f
 split at f
 .rcases GF.1 f with rfl|f
  .exact t
  exact o j (JZ f)
 exact o j f
end Cc
def bt.rB {j:Pl}{J:Md.dY}{A:E (IA×S)}{O o:Cc.Ca}{G':D}(f:bt g j J n A O w)(V:Cc.Fr j.k g s)(U:Cc.bM s j.k j.h o)(W:o.n<=G'/\(o.C:D)<=G')(X:∀Z∈o.T,Z.2.size<=80)(I:w<=G')(P:G'<=51):
 bt s j J n A o G'/\Fz j.b [185,518] [j.k] g s:=by
 have t:=Fz.fr (B:=j.b) V f.dK.2.2.2;have u:cM g [j.k]:=eH (by
  obtain⟨bm,a,c,h,l,rfl,i,⟨e,G,M,_⟩,b⟩:=f.gO
  intro d H F K
  rw[M] at K;cases K)
 have z:=f.fc;let⟨a,m,q⟩:=f.bO;refine⟨⟨⟨a,t.aM m R (λk=>u _ k _ _ _ m),q.fz t u R R R⟩,f.ok,f.df.fz t (by simp;exact z.2.1),f.cO.fz t u (by simp;exact z.2.2) R R R,U,z,f.cg,oA f.next,oA f.rq,oA f.ru,W,P,f.dK,X⟩,t⟩
def Ft (K:L)(f:Pl)(J:Md.dY)(t o:E (IA×S))(u:D)(A:He)(j:L):Prop:=
 Fz f.b [185,518] [f.k] K j/\(∃z,bt j f J t o z (u+1))/\yJ A
def bt.c5 {f:Pl}{u:Md.dY}{o:E (IA×S)}{t:Cc.Ca}(j:bt g f u n o t w):g (f.c,5)=V f.h:=by
 let⟨a,h,_⟩:=j.bO;rw[QH h];rfl
def bt.up {u:Pl}{t:Md.dY}{j:E (IA×S)}{o:Cc.Ca}(f:bt g u t n j o w)(z:w+1<=51):bt g u t n j o (w+1):=
 ⟨f.bO,f.ok,f.df,f.cO,f.gO,f.fc,f.cg,oA f.next,oA f.rq,oA f.ru,oA f.ry,z,f.dK,f.ep⟩
def TH (f:Pl)(W:Md.dY)(V P:E (IA×π))(t:Cc.Ca)(u:D)(a:C)(r:B)(b:ν)(ai:eI b)(a8:2<=f.b)(m:bt b f W V P t u)(b3: -9223372036854775808<=a/\a<=9223372036854775807)(c3:r.size<=4000)(e:u+1<=51):
 τ γ 244 #[ξ f.c,ϑ a,β r] b (Ft b f W V P u):=by
 have S:=F (lY f W V P t u a b m b3);have J:=F m;have a7:=F ai;clear m ai;go_enter func244,ntmps244;go_wp2_with fail;go_call S.o as j z ⟨b6,b1⟩;clear S;rcases b6 with⟨e0,a2,b5,s,ab,b2,rfl⟩|⟨b4,rfl⟩
 .let⟨⟨c8,d9,d2,ah⟩,⟨d1,d6,d3,ag⟩⟩:=J.o.fL a2;rw[ah,ag];have U:=F b1;have N:=F ab;have b7:¬9223372036854775807<s.size+1:=om;have b9:¬9223372036854775807<s.size+1+r.size:=om;clear a2 b5 ab b2 ah ag b1;go_wp2_with (first|(refine uT (Gc z _) ?_;intro k v;have X:=y (ρ b b k) (v.aE _ _ U.o.z (U.o.a U.o.z _));have c5:=(J.o.aE X.o).c5;have c4:=(J.o.aE X.o).c4;clear v)|((with_reducible go_call ku 4 _ as j q ⟨rfl,K⟩);subst K));let⟨c,g⟩:∃c,s++⟨#[32]⟩++r=c:=⟨_,A⟩;rw[g];have ae:c.size<=Ie:=by
   have:=N.o;rw[<-g];simp only[aA];rw[show ByteArray.size ⟨#[32]⟩=1 from A];unfold Ie;omega
  clear g b7 b9;have b0:=J.o.ry;have c6:=Cc.TG t c;have h:=Cc.DK (k:=c) J.o.ep;go_call Cc.fN f.h f.k t c k (J.o.aE X.o).gO ae (by unfold Ie;omega) om as j q ⟨rfl,Z,a3⟩;have o:=y (bt q f W V P (Cc.oQ t c) (u+1)/\Fz f.b [185,518] [f.k] b q) (by
   let⟨w,x⟩:=(J.o.aE X.o).rB a3 Z (G':=u+1) om h.1 om e
   exact⟨w,(Fz.aE X.o _ _ _).aJ x⟩)
  have Y:=F h.2;have c5:=o.1.c5;have c4:=o.1.c4;let⟨L,a1⟩:∃L,Cc.we t c=L:=⟨_,A⟩;let⟨n,af⟩:∃n,Cc.Ah t c=n:=⟨_,A⟩;rw[a1] at Y ⊢;rw[af];clear Z a3 b0 c6 h a1 af;cases n with
  |true=>
   go_wp2;go_ret2;exact⟨o.2,⟨_,o.1⟩,L,0,A,Y.o,om,om⟩
  |false=>
   have R:=F (SL f.s f.m f.cg P s r q (a7.o.at (o.2.dn (oS o.1.dK) (by have:=o.1.dK;have:=J.o.bO;let⟨_,c2,_⟩:=this;have:=aw c2;omega)) a8) o.1.cO (oA N.o) c3);go_wp2_with fail;go_call R.o as j w4 ⟨⟨a9,M,rfl,a6,I,H⟩,G⟩;have O:=y (bt w4 f W V P (Cc.oQ t c) (u+1)/\Fz f.b [185,518] [f.k] b w4) ⟨o.1.aE G,o.2.then G⟩;have c5:=O.1.c5;have T:=F (κ a6 (κ I H));clear R a6 G;by_cases i:M=0
   .subst i;have d4:((0:C) !=0)=σ:=dc;have p:=F (Cc.HP f.h f.k (Cc.oQ t c) c a9 w4 O.1.gO ae);clear I H;go_wp2_with fail;go_call p.o as j w5 ⟨rfl,a0,a4⟩;let⟨w,x⟩:=O.1.rB a4 a0 (G':=u+1) O.1.ry (Cc.zf O.1.ep T.1) QD e;have d:=F (κ w (O.2.aJ x));clear p a0 a4 w x;go_wp2;go_ret2;exact⟨d.2,⟨_,d.1⟩,a9,0,A,T.1,om,om⟩
   have d8:(M !=0)=ψ:=by simp[i]
   clear i;go_wp2;go_ret2;exact⟨O.2,⟨_,O.1⟩,⟨#[]⟩,M,A,QK,I,H⟩
 have U:=F b1;have d:=y (∀l,ρ b b l->Ft b f W V P u (ι (χ #[eS,ϑ 4])) l) λl n=>⟨Fz.aE n _ _ _,⟨t,(J.o.aE n).up e⟩,⟨#[]⟩,4,A,QK,om,om⟩;clear b4 b1;have a5:=y (∀b,τ γ 50 #[Δ 27 (ϑ 4),Δ 27 (ϑ 4)] b λc0 c7=>c0=υ ψ/\b=c7) (λb=>hG 4 4 b);go_wp2_with (first|(refine uT (Gc z _) ?_;intro k v)|((with_reducible go_call a5.o _ as j q ⟨rfl,K⟩);subst K));go_ret2;exact d.o _ (v.aE _ _ U.o.z (U.o.a U.o.z _))
def vB (j:He):Prop:=∃(b:B) (a:C),j=f #[b,a]/\b.size<=65536/\0<=a/\a<=12
def SU.big {t o:B}{j:He}(f:SU c k t o v j):vB j:=by
 rcases f with⟨_,rfl⟩|⟨_,_,rfl⟩|⟨_,f,rfl⟩
 .exact⟨_,_,A,QK,H,H⟩
 .exact⟨_,_,A,QK,H,H⟩
 exact⟨_,_,A,f,H,H⟩
def DL (t:Pl)(ae:Md.dY)(n O:E (IA×π))(h:Cc.Ca)(ag:Nat)(K:C)(j:B)(a:ν)(r:eI a)(Z:bt a t ae n O h ag)(a6: -9223372036854775808<=K/\K<=9223372036854775807):
 τ γ 16 #[ξ t.c,G K,β j] a λc w=>vB c/\T a a w:=by
 have ah:=F (lY t ae n O h ag K a Z a6);have W:=F Z;have a2:=F r;clear Z r;go_enter func16,ntmps16;go_wp2_with fail;go_call ah.o as c g ⟨d,b1⟩;clear ah;have X:=y (∀(b:C) p,0<=b->b<=12->T a a p->vB (ι (χ #[eS,G b]))/\T a a p) λb p d a4 a3=>⟨⟨⟨#[]⟩,b,rfl,QK,d,a4⟩,a3⟩;rcases d with⟨c7,R,a8,ab,l,a5,rfl⟩|⟨a7,rfl⟩
 .let⟨⟨b6,b,b3,q⟩,⟨b2,b7,b4,m⟩⟩:=W.o.fL R;rw[q,m];have f:=F b1;have ai:=F l;clear R a8 l a5 q m b1;by_cases x:j.size<=6
  .have b0:¬(6:C)<(j.size:C):=H;have a0:=F x;clear x;go_wp2_with (first|(apply uT (Gc g _);intro z o;have u:=y (T a a z) (o.aE _ _ f.o.z (f.o.a f.o.z _));have c4:=(W.o.aE u.o).c4;clear o)|((with_reducible go_call ku 4 _ as c k ⟨rfl,i⟩);subst i));have e:=F (Dq t.s t.m t.cg O ab j z (a2.o.aE u.o) (W.o.aE u.o).cO (oA ai.o) (oA a0.o));go_call e.o as c k ⟨⟨v,xs,D,rfl,A,b5,S,V⟩,I⟩;have U:=F (u.o.t (I.m u.o.z));have a1:=F (qk 0 ab j ⟨#[]⟩ v xs k A H);obtain⟨b9,c0,rfl,-⟩:=A.bZ;clear e A b5 I;by_cases M:D=0
   .subst M;have c2:((0:C) !=0)=σ:=dc;clear S V;go_wp2_with fail;go_call a1.o as c w4 ⟨P,J⟩;obtain⟨af,Y,rfl,L,N,s⟩:=P.big;have ak:=y (vB (ι (χ #[β af,G Y]))/\T a a w4) ⟨⟨af,Y,rfl,L,N,s⟩,U.o.t (J.m U.o.z)⟩;clear P L N s J;go_wp2;go_ret2;exact ak.o
   have c3:(D !=0)=ψ:=by simp[M]
   clear M;go_wp2;go_ret2;exact X.o D _ S V U.o
  have b0:(6:C)<(j.size:C):=H;clear x;go_wp2_with (first|(apply uT (Gc g _);intro z o)|((with_reducible go_call ku 4 _ as c k ⟨rfl,i⟩);subst i));go_ret2;exact X.o 1 _ H H (o.aE _ _ f.o.z (f.o.a f.o.z _))
 have f:=F b1;clear a7 b1;have aj:=y (∀a,τ γ 50 #[Δ 27 (G 4),Δ 27 (G 4)] a λa9 w=>a9=υ ψ/\a=w) (λa=>hG 4 4 a);go_wp2_with (first|(apply uT (Gc g _);intro z o)|((with_reducible go_call aj.o _ as c k ⟨rfl,i⟩);subst i));go_ret2;exact X.o 4 _ H H (o.aE _ _ f.o.z (f.o.a f.o.z _))
end Go.Proofs.YtajnhfklchlahaaGreatDoor
