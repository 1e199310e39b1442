import Derived.Test.YtajnhfklchlahaaGreatDoorMZ
import Derived.WalkSpells
import Derived.WalkLawsBesides
import Derived.Deep.DeepCutAuto
import Derived.Deep.WholeRow
import Derived.Deep.AppendLies
import Derived.Laws.CopyOwn
import Derived.Stop.Asserts
import Derived.RowKitTokens
import Derived.RangeFuncNested
import Derived.Shelf.RegionOpen
import Derived.OwnWalkIn
import Derived.LoopNIn
import Derived.LoopIn
import Derived.StillTailTactics
import Derived.Deep.RegionHeld3
import Derived.Lib.BufferWrite
set_option linter.all false
set_option maxHeartbeats 1600000
set_option maxRecDepth 100000
namespace Go.Proofs.YtajnhfklchlahaaGreatDoor
open Go.Proofs.Tryz Go.RowKit Go.Stop Go.Extern Go.Shelf
open And renaming intro->W
open Bool renaming false->σ,false->X,true->ψ,true->U
open Go renaming Addr->JM,Calls->τ,TypeId->Λ,Value->π,World->ν,Calls->Y,Value->S,World->L,binOp->Xc,run_underlying->Xo,heap_alloc_new->Xm,Oper->Le,Operand->Kg,maxLen->Ie,wpList->Ji,info_parts->Xv,World->QY,Ending->He,bodyPost_ret->QM,Program->Xp,Boxed->LP,callFunc->Xa,execOp->Xb,LoopState->Xh,wpListIn->Xn,run_loadVar_row->XH,wpList_store_row->Xw,wpList_load_row->XK,all_oneCell_toArray->XN,yielded->Xg,wpList_load_mid->Xj,setRow_other->XL,zeroValue->Xs,wpList_plain->Xt
open Go.Ending renaming returned->ι
open Go.IntKind renaming u8->Ix,i64->u,u64->If,u32->Ik
open Go.Obj renaming cells->θ,cells->K,deferred->Kc,loop->IK
open Go.Proofs.Tryz renaming prog->γ,prog->N
open Go.RowKit renaming Below->ρ,Hid->Φ,Below->T,intOf->QI,wrap64->Xd
open Go.Value renaming int->ε,slice->ο,tuple->χ,int->Z,slice->P,tuple->f,agg->Γ,bool->υ,iface->Δ,nilIface->ω,pointer->ξ,agg->t,bool->z,pointer->V,oneCell'->φ,string->β,string->O,func->Hl,ownBlock->Ψ
open Go.World renaming cell?->Iz,setCell->PZ
open Option renaming none->ζ,some->δ,none->J,some->M
open _root_ renaming rfl->A,ByteArray->B,Int->C,Nat->D,List->E,if_neg->QT,if_pos->QU,congrArg->Xl,Array->Q,Option->QV,False->QZ,UInt8->QO,beq_eq_false_iff_ne->Xk,ByteArray->QE,Array->QF,decide_eq_true->Xr,decide_eq_false->Xx,or_false->Xf
open YtajnhfklchlahaaGreatDoor renaming Ga->F,ϑ->G,om->H,eS->I,sm->R,QD->d,Qz->e,dc->r,QC->y
open Go.Extern.ReflectliteType renaming typeOf->Ko
open Go.Instr renaming typeAssert->Kf
open Go.Result renaming ok->Je,andThen->Ω
open UInt8 renaming ofNat->Ka
open Go.Oper renaming wp->Ld
open Decidable renaming decide->LH
open Or renaming inl->Ξ,inr->Θ,inl->o,inr->j
open Go.Fn renaming func->Ic
open Go.LoopState renaming ready->NG
open List renaming replicate->Jr
open Go.Region renaming wanted->Jb
variable {w q a i:Nat}{g s l:ν}{k:ByteArray}{v:List ByteArray}{h:Array π}{m:π}{x:List Nat}{b:List π}{c:Int}{p:Λ}
def aI (f:g.heap[w]?=K h p (0,0))(j:D):g.frozen? (w,j)=X:=by
 simp[World.frozen?,f]
def cd {xs:E S}(j:g.heap[w]?=K xs.toArray p (0,0))(f:D):g (w,f)=xs[f]?:=by
 simp[Iz,j]
def bJ {w:L}{f:D}{j:D×D}(t:w.heap[f]?=K h p j)(z:D)(o:S):(w.setCell (f,z) o).heap[f]?=K (h.setIfInBounds z o) p j:=by
 have u:=aw t;have A:w.heap[f]=K h p j:=by simpa[IB u] using t
 show(w.heap.modify f _)[f]?=_;rw[IB (by simpa using u),Kl,A];rfl
structure cQ (B g:D)(w w':L):Prop where
 os:w'.os=w.os
 cb:w'.tape=w.tape
 aW:w'.output=w.output
 aH:w.heap.size<=w'.heap.size
 aG:∀k,k<B->k≠g->w'.heap[k]?=w.heap[k]?
def cQ.bQ (B j:D)(f:L):cQ B j f f:=⟨A,A,A,d,λ_ _ _=>rfl⟩
def cQ.aJ (f:cQ w q g s)(j:cQ w q s l):cQ w q g l:=
 ⟨j.os.t f.os,j.cb.t f.cb,j.aW.t f.aW,GB f.aH j.aH,λi h d=>(j.aG i h d).t (f.aG i h d)⟩
def cQ.aE {B:D}(c:cQ B a g s)(j:q<=a)(f:q<=B):T q g s:=⟨c.os,c.cb,c.aW,c.aH,λb i=>c.aG b H H⟩
def cQ.set (f:cQ w q g s)(j:D)(o:S):cQ w q g (s.setCell (q,j) o):=
 f.aJ ⟨A,A,A,by simp[PZ],λb _ e=>QJ e⟩
def cQ.cI (f:cQ w q g s)(n:D):cQ w q g (s.drewN n):=⟨f.os,f.cb,f.aW,f.aH,f.aG⟩
def UY {f:C}(j:c=f):G c=G f:=by rw[j]
def lB (j t:E S)(o u:D):Prop:=
 t.length=j.length/\∀f,f<j.length->t[f]?=if f<o/\(f<u\/o-1-f<u) then j[o-1-f]? else j[f]?
def lB.OW (f:E S)(j:D):lB f f j 0:=⟨A,λc _=>by rw[QT H]⟩
def lB.done {j:E S}(d:lB b j w q)(O:w<=b.length)(M:w<=2*q+1):j=(b.take w).reverse++b.drop w:=by
 apply LC;intro f;have t:(b.take w).length=w:=by rw[GR];omega
 have u:((b.take w).reverse).length=w:=by rw[KA,t]
 by_cases J:f<b.length
 .rw[d.2 f J];by_cases z:f<w
  .rw[Ir H,List.getElem?_reverse H,t,Jt,QU (show w-1-f<w by omega)];by_cases o:f<q\/w-1-f<q
   .rw[QU (W z o)]
   rw[QT (λd=>o d.2)];have A:w-1-f=f:=by omega
   rw[A]
  rw[QT (λd=>z d.1),Jj H,u,JV];congr 1;omega
 have K:=d.1;rw[KU H,KU (by rw[Gk,u,JD];omega)]
def lB.fb {d j:E S}{o:S}(f:lB d j w q)(P:w<=d.length)(O:2*q+1<w)(K:j[q]?=m)(M:j[w-1-q]?=o):
 lB d ((j.set q o).set (w-1-q) m) w (q+1):=by
 refine⟨by simp[f.1],λe p=>?_⟩;have z:d[q]?=m:=by rw[<-K,f.2 q H,QT H]
 have A:d[w-1-q]?=o:=by rw[<-M,f.2 (w-1-q) H,QT H]
 by_cases J:e=w-1-q
 .subst J;rw[KH (by simp[f.1];omega),QU H,show w-1-(w-1-q)=q by omega,z]
 rw[La H];by_cases u:e=q
 .subst u;rw[KH (by rw[f.1];omega),QU H,A]
 rw[La H,f.2 e p];by_cases t:e<w/\(e<q\/w-1-e<q)
 .rw[QU t,QU H]
 rw[QT t,QT H]
theorem zy (j f q:D)(o:E S)(u:ν)(d:u.heap[j]?=K o.toArray 5 (0,0))(V:f<=(o:D))(T:f<=1000000)(p:∀M,M<f->∃e:C,o[M]?=Z Ix e):
 τ γ 214 #[ο j f q] u λx v=>x=χ #[]/\v.heap[j]?=K ((o.take f).reverse++o.drop f).toArray 5 (0,0)/\cQ u j u v:=by
 have w:=F d;have U:=F p;go_enter func214,ntmps214;go_wp2_with fail;go_loopw [2,3] (λl c wr=>∃(a:D) (i:E S),2*a<=f+1/\l=G a/\c=G ((f:C)-1-(a:C))/\Φ (lB o i f a)/\Φ (wr.heap[j]?=K i.toArray 5 (0,0))/\Φ (cQ u j u wr)) (λl _ _=>f-(QI l).toNat)
 .exact⟨0,o,H,A,sm,lB.OW _ _,w.o,cQ.bQ _ _ _⟩
 obtain⟨a,i,R,rfl,rfl,z,t,X⟩:=hrel;by_cases y:2*a+1<f
 .have r:=z.1;let⟨g,n⟩:∃g:C,i[a]?=Z Ix g:=by rw[z.2 a H,QT H];exact U.o a H
  let⟨h,b⟩:∃h:C,i[f-1-a]?=Z Ix h:=by rw[z.2 _ H,QT H];exact U.o _ H
  have s:wr (j,a)=Z Ix g:=by rw[cd t.o,n]
  have I:wr (j,f-1-a)=Z Ix h:=by rw[cd t.o,b]
  have L:=aI t.o a;have N:=aI t.o (f-1-a);have a0:(0:C)<=(a:C):=H;have a1:(a:C)<(f:C):=H;have a2:(0:C)<=(f:C)-1-(a:C):=H;have a3:(f:C)-1-(a:C)<(f:C):=H;have a4:((f:C)-1-(a:C)).toNat=f-1-a:=H;have a5:(a:C)<(f:C)-1-(a:C):=H;have Y:((j,a):JM)≠(j,f-1-a):=λk=>oU (Xl Addr.off k);have P:=F (W n b);go_upto_region 3 with fail;go_region;have O:=bJ (bJ t.o a (Z Ix h)) (f-1-a) (Z Ix g);rw[Gi,Gi] at O;have m:=z.o.fb V y P.1 P.2;have J:=F (W O (W m ((X.o.set a (Z Ix h)).set (f-1-a) (Z Ix g))));go_wp2;go_roundw
  .exact⟨a+1,_,H,gN,UY H,J.2.1,J.1,J.2.2.cI 1⟩
  simp[QI];omega
 go_wp2_with fail;go_end0;have k:=t.o;rw[z.o.done V H] at k;exact⟨A,k,X.o⟩
def zz (j:L):Y N 214 #[P J 0 0] j λb e=>b=f #[]/\j=e:=by
 go_enter func214,ntmps214;go_wp2_with fail;go_loop [2,3] (λc d=>c=G 0/\d=G (-1)) (λ_ _=>0)
 .exact⟨A,A⟩
 obtain⟨rfl,rfl⟩:=hrel;go_wp2_with fail;go_end0;exact⟨A,A⟩
noncomputable def UZ:Q S->Sem S:=Extern.ReflectliteType.method λa=>do Extern.Rtype.noPackHeld "Comparable" a;pure (z (<-typeInfo a).comparable)
def th (j:S)(f:L):(Ko #[Δ 27 j]).run N f=Je (Δ 311 (t #[V (3,27)])) f:=by kernel_rfl
def lC (f:L):(UZ #[t #[V (3,27)]]).run N f=Je (z U) f:=by kernel_rfl
def gT (f:S)(j:L):(Go.method 674 311 f "Comparable").run N j=Je (386,f) j:=by kernel_rfl
def YW:(N.info? 27).map (·.comparable)=U:=by kernel_rfl
def OX (t:S)(o:Λ)(j:L):(Kf (Δ 27 t) o 313 U).run N j=Je (f #[ω,z X]) j:=run_typeAssert_lacksB underlying313 e e t o j
def qK (t:S)(o:Λ)(j:L):(Kf (Δ 27 t) o 316 U).run N j=Je (f #[ω,z X]) j:=run_typeAssert_lacksB LY e e t o j
def oF (t:S)(o:Λ)(j:L):(Kf (Δ 27 t) o 318 U).run N j=Je (f #[ω,z X]) j:=run_typeAssert_lacksB underlying318 e e t o j
def qL (f j:C)(o:L):(Xc .eql 110 (Δ 27 (G f)) (Δ 27 (G j))).run N o=Je (z (f==j)) o:=by
 obtain⟨K,J,A⟩:=Jd.1 YW;have u:∀d:D,(Op.equalIn (d+1) 27 (G f) (G j)).run N o=Je (f==j) o:=λd=>by simp[Op.equalIn,Xo KJ]
 have t:∀d:D,(Op.equalIn (d+1+1) 110 (Δ 27 (G f)) (Δ 27 (G j))).run N o=Je (f==j) o:=λd=>by
  rw[Op.equalIn];simp[Xo IW,typeInfo,J,A,u]
 simp only[Xc];simp[Op.equal,Op.maxDepth,t 9998]
def Ch (f j:C)(o:L):Y N 100 #[Δ 27 (G f),Δ 27 (G j),z U] o λa g=>a=z (f==j)/\o=g:=by
 have u:=qL f j;have J:=OX;have K:=qK;have M:=oF;cases t:(f==j);all_goals
  rw[t] at u;go_enter func100,ntmps100;go_wp2_with fail;refine wp_loop_rounds 1 ?_;rw[rounds_succ];go_wp2_with fail;go_ret;exact⟨A,A⟩
def hG (f j:C)(o:L):Y N 50 #[Δ 27 (G f),Δ 27 (G j)] o λa d=>a=z (f==j)/\o=d:=by
 have J:=@run_callFunc_extern N 99 _ Ko NI e e e e;have u:=@run_callFunc_extern N 386 _ UZ func386 e e e e;have M:=th;have t:=lC;have K:=gT;go_enter func50,ntmps50;go_wp2_with (first|((with_reducible refine(Ch _ _ _).m ?_);rintro f d ⟨rfl,rfl⟩));go_ret;exact⟨A,A⟩
def kt (j:C)(f:L):(Xc .eql 110 ω (Δ 27 (G j))).run N f=Je (z X) f:=run_eql_iface_nil_left (P:=N) f 27 _ IW
def iC (j:C)(f:L):(Xc .eql 110 (Δ 27 (G j)) ω).run N f=Je (z X) f:=by
 have o:∀c:D,(Op.equalIn (c+1) 110 (Δ 27 (G j)) ω).run N f=Je X f:=λc=>by simp[Op.equalIn,Xo IW]
 simp only[Xc];simp[Op.equal,Op.maxDepth,o 9999]
def ku (j:C)(f:L):Y N 50 #[ω,Δ 27 (G j)] f λb d=>b=z X/\f=d:=by
 have o:=kt;go_enter func50,ntmps50;go_wp2_with fail;go_ret;exact⟨A,A⟩
def YX (t:S)(o:Λ)(j:L):(Kf (Δ 458 t) o 313 U).run N j=Je (f #[ω,z X]) j:=run_typeAssert_lacksB underlying313 e e t o j
def FQ (j:S)(t:Λ)(o:L):(Kf (Δ 458 j) t 316 U).run N o=Je (f #[Δ 458 j,z U]) o:=run_typeAssert_hasB LY e j t o
def FR (f:S)(j:L):(Go.method 674 458 f "Unwrap").run N j=Je (407,f) j:=by kernel_rfl
def OY (t:D)(j o:C)(f:L)(K:f (t,1)=Δ 27 (G j)):
 Y N 100 #[Δ 458 (V t),Δ 27 (G o),z U] f λg h=>g=z (j==o)/\f=h:=by
 have J:=qL j o;have p:=OX;have q:=qK;have b:=oF;have W:=YX;have Z:=FQ;have a:=FR;have P:=run_eql_iface_types (P:=N) 458 27 (V t) (G o) IW r f;have M:=kt;have O:(Xc .eql 110 (Δ 27 (G j)) ω).run N f=Je (z X) f:=iC j f;cases u:(j==o);all_goals
  rw[u] at J;go_enter func100,ntmps100;go_wp2_with fail;refine wp_loop_rounds 2 ?_;rw[rounds_succ];go_wp2;rw[rounds_succ];go_wp2;go_ret;exact⟨A,A⟩
def YY (o:D)(f t:C)(j:L)(u:j (o,1)=Δ 27 (G f)):
 Y N 50 #[Δ 458 (V o),Δ 27 (G t)] j λg a=>g=z (f==t)/\j=a:=by
 have M:=@run_callFunc_extern N 99 _ Ko NI e e e e;have K:=@run_callFunc_extern N 386 _ UZ func386 e e e e;have P:=th;have J:=lC;have O:=gT;go_enter func50,ntmps50;go_wp2_with (first|((with_reducible refine(OY _ _ _ _ u).m ?_);rintro f a ⟨rfl,rfl⟩));go_ret;exact⟨A,A⟩
def vR (at_:C)(f:L):Y N 279 #[at_] f λa c=>
 ∃j,a=Δ 458 (V (j,0))/\c (j,1)=Δ 27 (G 2)/\f.heap.size<=j/\T f f c:=by
 go_enter func279,ntmps279;go_wp2_with fail;go_ret;refine⟨f,A,?_,d,QG.a d _⟩;exact(cd (xs:=[G at_,Δ 27 (G 2)]) (Xm f _) 1)
section
structure aL (S:D->Prop)(w w':L):Prop where
 os:w'.os=w.os
 cb:w'.tape=w.tape
 aW:w'.output=w.output
 aH:w.heap.size<=w'.heap.size
 aG:∀k,k<w.heap.size->¬S k->w'.heap[k]?=w.heap[k]?
variable {S T:Nat->Prop}{a b c w w':ν}
def aL.bQ (S:D->Prop)(w:L):aL S w w:=⟨A,A,A,d,λ_ _ _=>rfl⟩
def aL.aJ (f:aL S a b)(j:aL S b c):aL S a c:=
 ⟨j.os.t f.os,j.cb.t f.cb,j.aW.t f.aW,GB f.aH j.aH,λh d g=>(j.aG h (GP d f.aH) g).t (f.aG h d g)⟩
def aL.gU (f:aL S a b)(j:aL T b c)(o:∀d,d<a.heap.size->T d->S d):aL S a c:=
 ⟨j.os.t f.os,j.cb.t f.cb,j.aW.t f.aW,GB f.aH j.aH,λd g h=>(j.aG d (GP g f.aH) (λe=>h (o d g e))).t (f.aG d g h)⟩
def aL.cz (f:aL S a b)(j:∀d,d<a.heap.size->S d->T d):aL T a b:=
 ⟨f.os,f.cb,f.aW,f.aH,λd e i=>f.aG d e (λh=>i (j d e h))⟩
def aL.aE (f:ρ w w w')(S:D->Prop):aL S w w':=⟨f.os,f.tape,f.output,f.z,λd e _=>f.b d e⟩
def aL.cE {B:D}(f:aL S w w')(t:B<=w.heap.size)(o:∀j,S j->B<=j):ρ B w w':=⟨f.os,f.cb,f.aW,f.aH,λd e=>f.aG d H (λh=>by have:=o d h;omega)⟩
def aL.jn (e:aL (λ_=>QZ) w w'):ρ w w w':=e.cE d (λ_ e=>e.elim)
def aL.bV (f:aL S a w){p:JM}(j:p.block<a.heap.size->S p.block)(o:π):aL S a (w.setCell p o):=
 ⟨f.os,f.cb,f.aW,GB f.aH (by simp[PZ]),λi g d=>(QJ (λe=>d (by rw[e];exact j (by rwa[<-e])))).t (f.aG i g d)⟩
def aL.oG (f:aL S a b):aL S a b.drew:=⟨f.os,f.cb,f.aW,f.aH,f.aG⟩
def aL.cI (f:aL S a b)(j:D):aL S a (b.drewN j):=⟨f.os,f.cb,f.aW,f.aH,f.aG⟩
def aL.eM {k:D}(f:aL S (a.drewN k) b):aL S a b:=⟨f.os,f.cb,f.aW,f.aH,f.aG⟩
def aL.mz {o:QV D}(f:aL S a w)(j:w.grownBy w' o)(t:∀d,o=M d->d<a.heap.size->S d):aL S a w':=
 ⟨j.os.t f.os,j.tape.t f.cb,j.output.t f.aW,GB f.aH j.size,λd g h=>(j.block d (GP g f.aH) (λe=>h (t d e.s g))).t (f.aG d g h)⟩
def aL.dD {f:D}(j:aL S a w)(t:w.mapTurned w' f)(o:f<(a:D)->S f):aL S a w':=j.mz t.grown (λd e g=>by cases e;exact o g)
def aL.then (f:aL S a w)(j:ρ w w w'):aL S a w':=f.aJ (aL.aE j S)
def aL.aM {f:D}{o:Obj}(t:aL S w w')(j:w.heap[f]?=o)(u:¬S f):w'.heap[f]?=o:=(t.aG f (aw j) u).t j
def bH {j:JM}{t:π}(o:w j=t):j.block<(w:D):=by
 rcases KG j.block w with f|f
 .exact f
 simp[Iz,LG f] at o
def aL.dN {f:JM}{o:π}(t:aL S w w')(j:w f=o)(u:¬S f.block):w' f=o:=
 (GQ (w:=w) (t.aG f.block (bH j) u)).t j
def eN (w:L)(b:D)(o:Λ):Prop:=∃f j,w.heap[b]?=K f o j
def iZ (w:L)(u:π)(t:Λ):Prop:=∀f o j,u=P (M f) o j->eN w f.block t
def eN.aE {j:D}{o:Λ}(f:eN w j o)(u:ρ w w w'):eN w' j o:=by
 obtain⟨t,z,f⟩:=f;exact⟨t,z,(u.b j (aw f)).t f⟩
def eN.bV {o:D}{z:Λ}(f:eN w o z)(p:JM)(A:π):eN (w.setCell p A) o z:=by
 obtain⟨j,u,f⟩:=f;by_cases t:p.block=o
 .subst t;refine⟨if p.spot.isSome then j else j.setIfInBounds p.off A,u,?_⟩;simp only[PZ,Array.getElem?_modify,f,if_true,JR]
 exact⟨j,u,(QJ (λk=>t k.s)).t f⟩
def eN.lt {f:D}{j:Λ}(d:eN w f j):f<(w:D):=let⟨g,h,d⟩:=d;aw d
def iZ.aE {j:π}{f:Λ}(o:iZ w j f)(t:ρ w w w'):iZ w' j f:=λk e i d=>(o k e i d).aE t
def iZ.none (w:L)(j f:D)(o:Λ):iZ w (P J j f) o:=λe i h d=>by cases d
def iZ.cT {base f z u:D}{j:π}{A:E π}(o:w.ownsRow base f z j u A):iZ w j f:=λq p e d=>by
 rcases o.2 with⟨rfl,_⟩|⟨K,J,M,rfl,_,t,_⟩
 .cases d
 simp only[Gy,Gd] at d;obtain⟨rfl,_⟩:=d;exact⟨_,_,t⟩
end
namespace Rl
def pn:D->E QO
 |0=>[]
 |a+1=>Ka ((a+1)%256)::pn ((a+1)/256)
decreasing_by omega
def vS (f:D):E QO:=(pn f).reverse
def zB (j:0<w):pn w=Ka (w%256)::pn (w/256):=by
 obtain⟨f,rfl⟩:∃f,w=f+1:=⟨w-1,by omega⟩;rw[pn]
def qM:pn 0=[]:=by rw[pn]
def iI (b:D):∀f,f<256^b->(pn f).length<=b:=by
 induction b with
 |zero=>
  intro f j;have:f=0:=by simpa using j
  subst this;simp[qM]
 |succ b e=>
  intro f j;by_cases o:f=0
  .subst o;simp[qM]
  rw[zB H,Gx];have:=e (f/256) (by rw[Nat.pow_succ] at j;omega);omega
def oH {n k:D}(f:n<256^k):(vS n).length<=k:=by
 unfold vS;rw[KA];exact iI k n f
def mA (j f:D):E QO:=
 if f<=55 then [Ka (j+f)] else Ka (j+55+(vS f).length)::vS f
def bK (f:E QO):E QO:=if f.length=1/\(f.getD 0 0).toNat<128 then f else mA 128 f.length++f
def dg (f:D):E QO:=bK (vS f)
def eK (f:E QO):E QO:=mA 192 f.length++f
end Rl
def wA:(N.info? 5).map (λa=>(a.zero,a.size,a.bytes))=M (M (Z Ix 0),1,1):=e
def b8 (f:E QO):E S:=f.map λa=>Z Ix ((a.toNat:D):C)
def FT (f:E QO):(b8 f:D)=(f:D):=by simp[b8]
def FU (f j:E QO):b8 (f++j)=b8 f++b8 j:=Io
def tx (f:E QO):B:=⟨f.toArray⟩
def dP (f:E QO):(tx f).size=(f:D):=(R:f.toArray.size=_)
def nB (f j:E QO):tx f++tx j=tx (f++j):=by
 apply Ju;rw[ByteArray.data_append,Array.toList_append];rfl
theorem zC {w:L}{g n cap:D}{l:E QO}(u:(l:D)=n)(t:∀b,b<n->w (g,b)=(b8 l)[b]?):
 (convert 288 9 (ο g n cap)).run N w=Je (O (tx l)) w:=by
 have f:=run_convert_bytes_arg (P:=N) w 288 5 Jm Pz g 0 n cap (l.map λa=>((a.toNat:D):C)) (sU u) (λb h=>by
  rw[GU,t b h]
  simp[b8,IL,(H:b<(l:D))]) 9 Jh
 have o:∀a∈l,((λn:C=>Ka n.toNat)∘λa:QO=>((a.toNat:D):C)) a=id a:=λa _=>R;have j:strOfNums (l.map λa=>((a.toNat:D):C))=tx l:=Ju (by rw[strOfNums_data,Js,Kz o,List.map_id];rfl);rw[j] at f;exact f
theorem ti (f:D)(j:ν)(s:f<18446744073709551616):
 τ γ 161 #[Z If (f:C)] j λc I=>c=β (tx (Rl.vS f))/\T j j I:=by
 let⟨a4,k,a1,a2,a3⟩:=Xv wA;have V:=F s;go_enter func161,ntmps161;go_wp2_with fail;go_loopw [0,3] (λd a5 wr=>∃(a:D) (b:E QO),d=Z If (a:C)/\Φ (b++Rl.pn a=Rl.pn f)/\Φ (wr.ownsRow (j:D) 5 1 a5 (b:D) (b8 b))/\Φ (T j j wr)) (λd _ _=>(QI d).toNat)
 .exact⟨f,[],A,A,QN,QG⟩
 obtain⟨a,b,rfl,O,P,t⟩:=hrel;by_cases Y:0<a
 .have a9:(0:C)<(a:C):=H;have h:(b:D)<=1000:=by
   have c:=Xl List.length O.o;rw[Gk] at c;have:=Rl.iI 8 f (oA V.o);omega
  have l:=F h;go_wp2_with (at_builtin;apply wpList_append_own _ A (.tmp 8) (.tmp 11) 288 A (j:D) 5 a4 (Z Ix 0) 1 1 Jm k a1 a2 a3 A dc _ (b:D) _ A (P.o.alloc _) ((wr:D),0) 1 1 [Z Ix ((a:C)%256)] A A ?c1 ?c2 ?c3 ?c4 ?c5);case c1=>exact World.news_of_block (cs:=#[Z Ix ((a:C)%256)]) (t:=5) (fr:=(0,0)) (Xm wr _)
  case c2=>simp[φ]
  case c3=>have:=l.o;unfold Ie;omega
  case c4=>have:=l.o;omega
  case c5=>have:=t.o.z;simp;omega
  intro b0 U J N _;have m:T j j U:=(t.o.a t.o.z _).grown N (oS t.o.z) (λg k=>(P.o.lt g k).1);have L:b8 b++[Z Ix ((a:C)%256)]=b8 (b++[Ka (a%256)]):=by
   rw[FU];simp[b8]
  have hd:(b++[Ka (a%256)])++Rl.pn (a/256)=Rl.pn f:=by
   rw[<-O.o,Rl.zB Y,Km];rfl
  rw[L] at J;have r:(b:D)+1=(b++[Ka (a%256)]:D):=sm;rw[r] at J;have K:=F (W J (W m hd));go_wp2;go_roundw
  .exact⟨a/256,_,sm,K.2.2,K.1,K.2.1⟩
  simp[QI];omega
 have ab:a=0:=H;subst ab;have u:=O.o;rw[Rl.qM,IS] at u;subst u;rcases P.2 with⟨rfl,x⟩|⟨e,X,M,rfl,p,n,ae,a8,a7,z⟩
 .have R:Rl.pn f=[]:=GH x;have y:=run_convert_bytes_nil (P:=γ) (w:=wr) 288 5 Jm Pz 0 0 9 Jh;have S:tx (Rl.vS f)=ByteArray.empty:=by unfold Rl.vS;rw[R];rfl
  go_wp2_with ((with_reducible apply(zz _).m);rintro c I ⟨rfl,rfl⟩);go_ret;exact⟨by rw[(F S).o];rfl,t.o⟩
 generalize u:(Rl.pn f:D)=d at ae z;have i:d<=(M.toList:D):=by rw[JG];omega
 have h:d<=8:=by rw[<-u];exact Rl.iI 8 f (oA V.o)
 rw[Ny] at z;have v:∀q,q<d->∃a6:C,M.toList[q]?=Z Ix a6:=λq a0=>by
  have c:=Xl (λb:E π=>b[q]?) z;simp only[Jt,QU a0] at c;rw[c];unfold b8;rw[Ip,Gf H];exact⟨_,A⟩
 have o:=F (W z (W p (W i (W u t.o))));go_wp2_with ((with_reducible apply(F (zy e d X M.toList wr (by rw[Array.toArray_toList];exact n) i H v)).o.m);rintro c U ⟨rfl,G,w⟩;have y:=zC (w:=U) (g:=e) (n:=d) (cap:=X) (l:=Rl.vS f) (by unfold Rl.vS;rw[KA];exact o.o.2.2.2.1) (λg k=>by rw[cd G,o.o.1,Ir (by rw[KA,FT,o.o.2.2.2.1];exact k)];unfold b8 Rl.vS;rw[List.map_reverse]));go_ret;exact⟨A,o.2.2.2.2.t ((F (W G w)).2.aE o.2.1 o.2.2.2.2.z)⟩
def rL (j:L)(f:D)(t:f<256):(convert 288 9 (P j 1 1)).run N (j.alloc (K #[Z Ix (f:C)] 5))=Je (O (tx [Ka f])) (j.alloc (K #[Z Ix (f:C)] 5)):=by
 refine zC (l:=[Ka f]) A λd e=>?_;have o:d=0:=H;subst o;rw[cd (xs:=[Z Ix (f:C)]) (Xm j _)];simp[b8];omega
theorem tj (j f:D)(u:L)(q:j<=192)(w:f<1099511627776):
 Y N 86 #[Z Ix (j:C),G (f:C)] u λg i=>g=O (tx (Rl.mA j f))/\T u u i:=by
 have X:=Rl.oH (n:=f) (k:=5) H;have z:=F w;have h:=F X;clear w X;by_cases V:f<=55
 .have l:(f:C)<=55:=H;have K:=rL u (j+f) H;rw[Int.natCast_add] at K;have t:Rl.mA j f=[Ka (j+f)]:=by rw[Rl.mA,QU V]
  rw[t];generalize Ka (j+f)=a at K ⊢;have b1:(j:C)<=192:=H;go_enter func86,ntmps86;go_wp2_with fail;go_ret;exact⟨A,QG.a d _⟩
 have l:¬(f:C)<=55:=H;have t:Rl.mA j f=Ka (j+55+(Rl.vS f:D))::Rl.vS f:=by rw[Rl.mA,QT V]
 have k:=F t;let⟨c,e⟩:∃c,c=Rl.vS f:=⟨_,A⟩;have I:(tx c).size=(c:D):=dP c;have r:(c:D)<=5:=e▸h.o;have J:=ti f;rw[<-e] at J;have P:=F (W J e);have y:(f:C)<=18446744073709551615:=oA z.o;have R:=F y;clear t e J y;have v:If.wrap (f:C)=(f:C):=by simp[IntKind.wrap,IntKind.bits,IntKind.signed];have:=z.o;omega
 have o:=λp:L=>rL p (j+55+(c:D)) H;rw[show((j+55+(c:D):D):C)=(j:C)+55+(c.length:C) by omega] at o;let⟨a,b⟩:∃a,a=Ka (j+55+(c:D)):=⟨_,A⟩;rw[<-b] at o;have s:(tx [a]).size=1:=A;have U:=F (W o b);clear o b;have b1:(j:C)<=192:=H;have n:((c:D):C)<=5:=H;go_enter func86,ntmps86;go_wp2_with fail;have x:f<18446744073709551616:=oA z.o;apply(P.1 _ x).m;clear x;rintro g p ⟨rfl,b1⟩;have K:=U.1 p;have M:=F b1;clear b1;go_wp2_with fail;go_ret;refine⟨?_,M.o.a M.o.z _⟩;rw[k.o,<-P.2,<-U.2];exact Xl (λm=>ι (O m)) (nB [a] c)
def dJ (j f:D)(o:f<1099511627776):(Rl.mA j f:D)<=6:=by
 have:=Rl.oH (n:=f) (k:=5) H;unfold Rl.mA;split
 .simp
 simp;omega
def bs (f:B):E QO:=f.data.toList
def aX (f:B):(bs f:D)=f.size:=by rw[bs,JG];rfl
def OZ (f:B):tx (bs f)=f:=Ju A
def Ys (f:E QO):bs (tx f)=f:=rfl
theorem fh {s:B}{k:D}(f:k<s.size):(bs s)[k]?=s[k]:=by
 rw[bs,Gf (JG▸f)];rfl
theorem cP (f:B)(K:L)(q:f.size<1099511627776):
 Y N 43 #[O f] K λm c=>m=O (tx (Rl.bK (bs f)))/\T K K c:=by
 have t:=F q;clear q;by_cases M:f.size=1
 .have w:((f.size:C)==1)=U:=by simp[M]
  have b:0<f.size:=H;have H1:=F M;clear M;have e:(0:C)<(f.size:C):=H;have J:=fh (s:=f) (k:=0) b;generalize d:f[0]=P at J;by_cases a:P.toNat<128
  .have x:((P.toNat:D):C)<128:=H;have o:Rl.bK (bs f)=bs f:=by
    rw[Rl.bK,QU ⟨by rw[aX];exact H1.o,by rwa[IL,J]⟩]
   rw[o,OZ];clear J o;go_enter func43,ntmps43;go_wp2_with fail;go_ret;exact⟨A,QG⟩
  have x:¬((P.toNat:D):C)<128:=H;have o:Rl.bK (bs f)=Rl.mA 128 f.size++bs f:=by
   rw[Rl.bK,QT (λn=>a (by have:=n.2;rwa[IL,J] at this)),aX]
  have V:=F o;have p:=dP (Rl.mA 128 f.size);have Z:=dJ 128 f.size t.o;have j:=tj 128 f.size K H t.o;rw[show((128:D):C)=128 from A] at j;generalize u:Rl.mA 128 f.size=r at p Z j;have z:=F (W j u);have v:(f.size:C)<=1099511627776:=oA t.o;clear J o j u;go_enter func43,ntmps43;go_wp2_with ((with_reducible apply z.o.1.m);rintro m y ⟨rfl,b1⟩);go_ret;refine⟨?_,b1⟩;rw[V.o,<-z.2,<-nB,OZ];rfl
 have w:((f.size:C)==1)=X:=QB;have o:Rl.bK (bs f)=Rl.mA 128 f.size++bs f:=by
  rw[Rl.bK,QT (λn=>M (by have:=n.1;rwa[aX] at this)),aX]
 have V:=F o;have p:=dP (Rl.mA 128 f.size);have Z:=dJ 128 f.size t.o;have j:=tj 128 f.size K H t.o;generalize u:Rl.mA 128 f.size=r at p Z j;rw[show((128:D):C)=128 from A] at j;have z:=F (W j u);have v:(f.size:C)<=1099511627776:=oA t.o;clear o j u;go_enter func43,ntmps43;go_wp2_with ((with_reducible apply z.o.1.m);rintro m y ⟨rfl,b1⟩);go_ret;refine⟨?_,b1⟩;rw[V.o,<-z.2,<-nB,OZ];rfl
def lD (f:D)(j:L)(J:f<18446744073709551616):
 Y N 104 #[Z If (f:C)] j λc l=>c=O (tx (Rl.dg f))/\T j j l:=by
 have M:=Rl.oH (n:=f) (k:=8) H;have o:=λg=>cP (tx (Rl.vS f)) g (by rw[dP];omega);rw[Ys] at o;have u:=F (W (ti f j J) o);go_enter func104,ntmps104;go_wp2_with (first|((with_reducible apply u.o.1.m);rintro c g ⟨rfl,b1⟩;have t:=F b1)|((with_reducible apply(u.o.2 _).m);rintro c P ⟨rfl,z⟩;have K:=F z));go_ret;exact⟨A,t.o.t (K.o.m t.o.z)⟩
namespace Rl
def iD:E QO->D->QV D
 |[],a=>some a
 |b::c,a=>if a*256+b.toNat>1048576 then none else iD c (a*256+b.toNat)
def qN (f:E QO)(j:D):QV D:=
 if f.length<j then none
 else if f.getD 1 0=0 then none
 else match iD ((f.drop 1).take (j-1)) 0 with
  |none=>none
  |some c=>if c<=55 then none else some c
end Rl
def Bad (B:D)(o:QY)(j:Value):Prop:=∃f,j=.iface 458 (.pointer (f,0))/\o (f,1)=some (.iface 27 (.int .i64 2))/\B<=f
def dr (B:D)(at_:C)(f:QY)(J:B<=(f:D)):Calls Tryz.prog 279 #[.int .i64 at_] f λg b=>
 ∃j,g=.returned j/\Bad B b j/\Below f f b:=by
 apply(vR at_ f).m;rintro z b ⟨t,rfl,o,K,u⟩;exact⟨_,A,⟨t,A,o,H⟩,u⟩
def Ra (B:D)(f:Ending)(o:QY):QV D->Prop
 |some c=>f=.returned (.tuple #[.int .i64 (c:C),.nilIface])
 |none=>∃j,f=.returned (.tuple #[.int .i64 0,j])/\Bad B o j
def Rb (f:C)(j: -9223372036854775808<=f/\f<=9223372036854775807):Xd f=f:=by unfold Xd;omega
def Va (f:D)(j:QO)(u:f<=1048576):bits .or .i64 ((f:C)*256) (Xd ((j.toNat:D):C))=((f*256+j.toNat:D):C):=by
 have hd:=j.toNat_lt;have o:Xd ((j.toNat:D):C)=((j.toNat:D):C):=Rb _ H;rw[o,show((f:C)*256)=((f*256:D):C) from A];show IntKind.i64.wrap ((BitVec.ofInt 64 ((f*256:D):C)|||BitVec.ofInt 64 ((j.toNat:D):C)).toNat:C)=_;rw[BitVec.toNat_or,BitVec.ofInt_natCast,BitVec.ofInt_natCast,BitVec.toNat_ofNat,BitVec.toNat_ofNat,Nat.mod_eq_of_lt H,Nat.mod_eq_of_lt H];have t:f*256|||j.toNat=f*256+j.toNat:=by
  have:=Nat.two_pow_add_eq_or_of_lt (i:=8) (b:=j.toNat) (sU hd) f;rw[show(2:D)^8=256 from A,Nat.mul_comm 256 f] at this;exact this.s
 rw[t];simp only[IntKind.wrap,IntKind.bits,IntKind.signed];simp;omega
theorem Ci (f:B)(j:D)(t:QY)(e:f.size<1099511627776)(T:2<=j)(r:j<=9):
 Calls Tryz.prog 280 #[.string f,.int .i64 (j:C)] t λn g=>Ra (t:D) n g (Rl.qN (bs f) j)/\Below t t g:=by
 have R:=Lib.hid e;clear e;by_cases F:f.size<j
 .have l:(f.size:C)<(j:C):=H;have K:Rl.qN (bs f) j=none:=by rw[Rl.qN,QU (by rw[aX];exact F)]
  rw[K];go_enter func280,ntmps280;go_wp2_with ((with_reducible apply(dr (t:D) _ _ (Nat.le_refl _)).m);rintro n V ⟨W,rfl,b1,z⟩);go_ret2;exact⟨⟨_,A,b1⟩,z⟩
 have l:¬(f.size:C)<(j:C):=H;have i:1<f.size:=H;have a1:(1:C)<(f.size:C):=H;have u:=fh (s:=f) (k:=1) i;generalize s:f[1]=M at u;have K:Rl.qN (bs f) j=if M=0 then none else match Rl.iD (((bs f).drop 1).take (j-1)) 0 with|none=>none|some d=>if d<=55 then none else some d:=by
  rw[Rl.qN,QT (by rw[aX];exact F),List.getD_eq_getElem?_getD,u];rfl
 by_cases J:M=0
 .have N:(((M.toNat:D):C)==0)=true:=by subst J;rfl
  rw[K,QU J];clear K u J;go_enter func280,ntmps280;go_wp2_with ((with_reducible apply(dr (t:D) _ _ (Nat.le_refl _)).m);rintro n V ⟨W,rfl,b1,z⟩);go_ret2;exact⟨⟨_,A,b1⟩,z⟩
 have N:(((M.toNat:D):C)==0)=false:=by
  simp only[Xk,ne_eq];intro S;apply J;apply UInt8.toNat_inj.mp;have:M.toNat=0:=H;rw[this];rfl
 rw[K,QT J];clear K u J;let⟨x,hF⟩:∃x,x=Rl.iD (((bs f).drop 1).take (j-1)) 0:=⟨_,A⟩;rw[<-hF];have I:=Lib.hid hF;clear hF;go_enter func280,ntmps280;go_wp2_with fail;go_loopw [6,7] (λq b wr=>∃(d c:D),q=.int .i64 (d:C)/\b=.int .i64 (c:C)/\d<=1048576/\1<=c/\c<=j/\Hid (Rl.iD (((bs f).drop c).take (j-c)) d=x)/\t=wr) (λ_ b _=>j-(QI b).toNat);case atStart=>exact⟨0,1,A,A,H,H,H,Lib.hid I.o.s,A⟩
 case round=>
  obtain⟨d,c,rfl,rfl,k,Y,w,O,rfl⟩:=hrel;by_cases v:c<j
  .have m:(c:C)<(j:C):=H;have U:c<f.size:=H;have a0:(c:C)<(f.size:C):=H;have u:=fh (s:=f) (k:=c) U;generalize hd:f[c]=y at u;have o:=O.o;rw[(H:j-c=(j-(c+1))+1),List.drop_eq_getElem_cons (by rw[aX];exact U),List.take_succ_cons,Rl.iD] at o;have X:(bs f)[c]'(by rw[aX];exact U)=y:=by
    have:=List.getElem?_eq_getElem (l:=bs f) (i:=c) (by rw[aX];exact U);rw[u] at this;exact(Option.some.inj this).s
   rw[X] at o;have L:=Va d y k;let⟨a,G⟩:∃a,a=d*256+y.toNat:=⟨_,A⟩;rw[<-G] at L o;clear G;by_cases P:a>1048576
   .rw[QU P] at o;have Z:(1048576:C)<(a:C):=H;clear O X u;subst o;go_wp2_with ((with_reducible apply(dr (t:D) _ _ (Nat.le_refl _)).m);rintro n V ⟨W,rfl,b1,z⟩);go_ret2;exact⟨⟨_,A,b1⟩,z⟩
   rw[QT P] at o;have Z:¬(1048576:C)<(a:C):=H;have p:a<=1048576:=H;have h:=Lib.hid o;clear o O X u;go_wp2_with ((with_reducible apply(dr (t:D) _ _ (Nat.le_refl _)).m);rintro n V ⟨W,rfl,b1,z⟩);case roundEnd=>
    refine⟨⟨a,c+1,A,A,p,H,H,h,tV⟩,?_⟩;simp[QI];omega
  have m:¬(c:C)<(j:C):=H;have o:=O.o;rw[(H:j-c=0),List.take_zero,Rl.iD] at o;subst o;clear O;by_cases P:d<=55
  .have Z:(d:C)<=55:=H;go_wp2_with ((with_reducible apply(dr (t:D) _ _ (Nat.le_refl _)).m);rintro n V ⟨W,rfl,b1,z⟩);go_ret2;simp only[QU P];exact⟨⟨_,A,b1⟩,z⟩
  have Z:¬(d:C)<=55:=H;go_wp2_with fail;go_ret2;simp only[QT P];exact⟨A,Below.refl _ _⟩
namespace Rl
def tm (j:E QO)(f:D):QV (D×D):=
 if f>55 then match qN j (f-54) with
  |none=>J
  |some c=>M (f-54,c)
 else M (1,f)
def fX (f:E QO):QV (Bool×D×D):=
 match f with
 |[]=>J
 |a::_=>
  if a.toNat<128 then M (X,0,1) else
  match tm f (if a.toNat<192 then a.toNat-128 else a.toNat-192) with
  |none=>J
  |some (d,c)=>
   if f.length<d+c then J
   else if a.toNat<192/\c=1/\(f.getD 1 0).toNat<128 then J
   else M (!(LH (a.toNat<192)),d,c)
end Rl
def cG {o:Func}{t u z J:Tmp}(M:o.results=#[.tmp t,.tmp u,.tmp z,.tmp J])(j:Q S)(K:Xp)(A:L):
 (results o j).run K A=Je (f #[j.getD t undef,j.getD u undef,j.getD z undef,j.getD J undef]) A:=by
 simp[results,M]
def kv (j:QE)(B:D)(o:He)(u:L):QV (Bool×D×D)->Prop
 |some (b,a,d)=>o=f #[z b,O (j.extract a (a+d)),O (j.extract (a+d) j.size),ω]
 |none=>∃t,o=f #[z X,I,I,t]/\Bad B u t
def zD (o:B)(t:C)(f:D)(j:L)(A:t=(f:C))(J:o.size<1099511627776)(u:2<=f)(z:f<=9):
 Y N 280 #[O o,G t] j λa e=>Ra (j:D) a e (Rl.qN (bs o) f)/\T j j e:=by
 subst A;exact Ci o f j J u z
def cj {p:B}(f:p.size=0):p.toList.isEmpty=U:=by
 rw[Lib.toList_data];have:(p.data.toList:D)=0:=sU f;rw[GH this];rfl
def cp {p:B}(j:0<p.size):p.toList.isEmpty=X:=by
 rw[Lib.toList_data];rw[PO];intro f;have:(p.data.toList:D)=0:=List.isEmpty_iff.mp f▸rfl;have o:p.size=0:=sU this;omega
def nC {f:QO}(j:(bs k)[0]?=f):Rl.fX (bs k)=
 if f.toNat<128 then M (X,0,1) else
 match Rl.tm (bs k) (if f.toNat<192 then f.toNat-128 else f.toNat-192) with
 |none=>J
 |some (e,d)=>
  if k.size<e+d then J
  else if f.toNat<192/\d=1/\((bs k).getD 1 0).toNat<128 then J
  else M (!(LH (f.toNat<192)),e,d):=by
 rw[<-aX];generalize bs k=o at j;cases o with
 |nil=>simp at j
 |cons a h=>
  have hd:a=f:=sU j;subst hd;rfl
def Rc (f:B)(j:L)(o:f.size=0):
 Y N 228 #[O f] j λa b=>kv f (j:D) a b (Rl.fX (bs f))/\T j j b:=by
 have z:=cj o;have t:bs f=[]:=GH (by rwa[aX]);rw[t,(rfl:Rl.fX []=J)];clear o t;go_enter JQ,JH;go_wp2_with ((with_reducible apply(dr (j:D) _ _ d).m);rintro a K ⟨M,rfl,b1,u⟩);apply QM (cG A _ _ _) A;exact⟨⟨_,A,b1⟩,u⟩
def Vb (f:B)(j:L)(J:f.size<1099511627776)(o:0<f.size)(z:f[0].toNat<128):
 Y N 228 #[O f] j λg e=>kv f (j:D) g e (Rl.fX (bs f))/\T j j e:=by
 have M:(0:C)<(f.size:C):=H;have U:=cp o;have t:=fh (s:=f) (k:=0) o;rw[nC t,QU z];generalize K:f[0]=u at *;have P:((u.toNat:D):C)<128:=H;clear t J;go_enter JQ,JH;go_wp2_with fail;go_region;go_wp2;apply QM (cG A _ _ _) A;exact⟨A,QG.d⟩
theorem xT (f:B)(z:ν)(k:f.size<1099511627776)(r:0<f.size)(o:D)(M:o<=55)(W:f[0].toNat=128+o):
 Y γ 228 #[β f] z λl w=>kv f (z:D) l w (Rl.fX (bs f))/\T z z w:=by
 have m:(0:C)<(f.size:C):=H;have S:=cp r;have v:=fh (s:=f) (k:=0) r;have c:Rl.fX (bs f)=if f.size<1+o then J else if 128=128/\o=1/\((bs f).getD 1 0).toNat<128 then J else δ (X,1,o):=by
  rw[nC v,QT H,show(if f[0].toNat<192 then f[0].toNat-128 else f[0].toNat-192)=o by split<;>omega];simp[Rl.tm,show¬o>55 by omega,show(f[0].toNat<192) by omega,show(128+o<192) by omega,W]
 rw[c];generalize F:f[0]=j at *;have I:¬((j.toNat:D):C)<128:=H;have n:((j.toNat:D):C)<192:=H;have p:(128:C)<=((j.toNat:D):C):=H;have L:¬(55:C)<((j.toNat:D):C)-128:=H;have t:=Ga W;have G:(f.size:C)<=1099511627776:=H;clear v k c W;by_cases u:f.size<1+o
 .rw[QU u];have g:(f.size:C)-1<((j.toNat:D):C)-128:=oA t.o;clear u M;go_enter JQ,JH;go_wp2_with ((with_reducible apply(dr (z:D) _ _ QD).m);rintro l x ⟨e,rfl,b1,P⟩);apply QM (cG A _ _ _) A;exact⟨⟨_,A,b1⟩,P⟩
 rw[QT u];have g:¬(f.size:C)-1<((j.toNat:D):C)-128:=oA t.o;have q:1+(((j.toNat:D):C)-128)<=(f.size:C):=oA t.o;have N:0<=1+(((j.toNat:D):C)-128):=H;have s:1<=1+(((j.toNat:D):C)-128):=H;by_cases K:o=1
 .have h:((((j.toNat:D):C)-128)==1)=U:=oS t.o;have y:1<f.size:=H;have R:(1:C)<(f.size:C):=H;have Z:=fh (s:=f) (k:=1) y;rw[IL,Z];generalize hd:f[1]=O at *;by_cases b:O.toNat<128
  .rw[QU ⟨A,K,b⟩];have i:((O.toNat:D):C)<128:=H;clear u M K Z;go_enter JQ,JH;go_wp2_with ((with_reducible apply(dr (z:D) _ _ QD).m);rintro l x ⟨e,rfl,b1,P⟩);apply QM (cG A _ _ _) A;exact⟨⟨_,A,b1⟩,P⟩
  rw[QT (λa=>b a.2.2)];have i:¬((O.toNat:D):C)<128:=H;clear Z K;clear u M;go_enter JQ,JH;go_wp2_with fail;go_region;go_wp2;apply QM (cG A _ _ _) A;refine⟨?_,QG.d⟩;have V:j.toNat-128=o:=oA t.o;simp[kv,V]
 have h:((((j.toNat:D):C)-128)==1)=X:=oS t.o;rw[QT (λa=>K a.2.1)];clear u M;go_enter JQ,JH;go_wp2_with fail;go_region;go_wp2;apply QM (cG A _ _ _) A;refine⟨?_,QG.d⟩;have V:j.toNat-128=o:=oA t.o;simp[kv,V]
theorem xU (f:B)(t:L)(r:f.size<1099511627776)(P:0<f.size)(o:D)(X:o<=55)(K:f[0].toNat=192+o):
 Y N 228 #[O f] t λh a=>kv f (t:D) h a (Rl.fX (bs f))/\T t t a:=by
 have c:(0:C)<(f.size:C):=H;have w:=cp P;have W:=fh (s:=f) (k:=0) P;have V:Rl.fX (bs f)=if f.size<1+o then J else if 192=128/\o=1/\((bs f).getD 1 0).toNat<128 then J else M (U,1,o):=by
  rw[nC W,QT H,show(if f[0].toNat<192 then f[0].toNat-128 else f[0].toNat-192)=o by split<;>omega];simp[Rl.tm,show¬o>55 by omega,show¬(f[0].toNat<192) by omega,show¬(192+o<192) by omega,K]
 rw[V];generalize y:f[0]=j at *;have e:¬((j.toNat:D):C)<128:=H;have g:¬((j.toNat:D):C)<192:=H;have k:(192:C)<=((j.toNat:D):C):=H;have G:¬(55:C)<((j.toNat:D):C)-192:=H;have u:=F K;have n:(f.size:C)<=1099511627776:=H;clear W r V K;by_cases z:f.size<1+o
 .rw[QU z];have b:(f.size:C)-1<((j.toNat:D):C)-192:=oA u.o;clear z X;go_enter JQ,JH;go_wp2_with ((with_reducible apply(dr (t:D) _ _ QD).m);rintro h x ⟨i,rfl,b1,Z⟩);apply QM (cG A _ _ _) A;exact⟨⟨_,A,b1⟩,Z⟩
 rw[QT z];have b:¬(f.size:C)-1<((j.toNat:D):C)-192:=oA u.o;have l:1+(((j.toNat:D):C)-192)<=(f.size:C):=oA u.o;have m:0<=1+(((j.toNat:D):C)-192):=H;have v:1<=1+(((j.toNat:D):C)-192):=H;rw[QT R];clear z X;go_enter JQ,JH;go_wp2_with fail;go_region;go_wp2;apply QM (cG A _ _ _) A;refine⟨?_,QG.d⟩;have q:j.toNat-192=o:=oA u.o;simp[kv,q]
def rM:∀(e:E QO) (b:D) {c:D},b<=1048576->Rl.iD e b=c->c<=1048576
 |[],b,c,d,a=>by simp[Rl.iD,Gd] at a;omega
 |h::g,b,c,d,a=>by
  unfold Rl.iD at a;split at a
  .simp at a
  exact rM g _ H a
def zE {o:E QO}(f:Rl.qN o w=q):55<q/\q<=1048576:=by
 unfold Rl.qN at f;split at f
 .simp at f
 split at f
 .simp at f
 split at f
 .simp at f
 next t j=>
 have:=rM _ _ H j;split at f
 .simp at f
 simp[Gd] at f;omega
def zF (u:D)(t:C)(B:Bool)(V:u=128/\t=128/\B=X\/u=192/\t=192/\B=ψ)(f:QE)(O:ν)(h:f.size<1099511627776)(l:0<f.size)(o:D)(Z:55<o)(c:o<=63)(M:f[0].toNat=u+o):
 τ γ 228 #[β f] O λa i=>kv f O.heap.size a i (Rl.fX (bs f))/\ρ O O i:=by
 have r:(0:C)<(f.size:C):=H;have a3:=cp l;have e:=fh (s:=f) (k:=0) l;have d:Rl.fX (bs f)=match Rl.qN (bs f) (o-54) with|none=>J|some b=>if f.size<o-54+b then J else δ (B,o-54,b):=by
  rw[nC e,QT H,show(if f[0].toNat<192 then f[0].toNat-128 else f[0].toNat-192)=o by split<;>omega];simp only[Rl.tm,QU (show o>55 by omega)];cases G:Rl.qN (bs f) (o-54) with
  |none=>rfl
  |some b=>
   have:=zE G;rcases V with⟨rfl,rfl,rfl⟩|⟨rfl,rfl,rfl⟩
   .simp[show b≠1 by omega,show(f[0].toNat<192) by omega,M,show(128+o<192) by omega]
   simp[show b≠1 by omega,show¬(f[0].toNat<192) by omega,M,show¬(192+o<192) by omega]
 rw[d];have z:=zD f ((1:C)+(((f[0].toNat:D):C)-t)-55) (o-54) O H h H H;generalize L:f[0]=j at *;have s:¬((j.toNat:D):C)<128:=H;have S:(55:C)<((j.toNat:D):C)-t:=H;have I:=QC (1+(j.toNat-u)-55=o-54) H;have N:(f.size:C)<=1099511627776:=H;have d0:∀b:D,f.size<o-54+b->(f.size:C)-((1:C)+(((j.toNat:D):C)-t)-55)<(b:C):=λb g=>H;have K:∀b:D,¬f.size<o-54+b->¬(f.size:C)-((1:C)+(((j.toNat:D):C)-t)-55)<(b:C)/\(1:C)+(((j.toNat:D):C)-t)-55+(b:C)<=(f.size:C)/\0<=(1:C)+(((j.toNat:D):C)-t)-55/\0<=(1:C)+(((j.toNat:D):C)-t)-55+(b:C)/\(1:C)+(((j.toNat:D):C)-t)-55<=(1:C)+(((j.toNat:D):C)-t)-55+(b:C):=λb g=>H;clear e h d;cases U:Rl.qN (bs f) (o-54) with
 |none=>
  rw[U] at z;have W:=F z;clear z U d0 K;rcases V with⟨rfl,rfl,rfl⟩|⟨rfl,rfl,rfl⟩
  all_goals
   first|(have v:((j.toNat:D):C)<192:=H;have u:(128:C)<=((j.toNat:D):C):=H;have w:((j.toNat:D):C)<=191:=H;clear M Z c)|(have v:¬((j.toNat:D):C)<192:=H;have u:(192:C)<=((j.toNat:D):C):=H;have w:((j.toNat:D):C)<=255:=H;clear M Z c)
   go_enter JQ,JH;go_wp2_with (first|((with_reducible refine W.o.m ?_);rintro a k ⟨⟨p,rfl,n,rfl,b1,y⟩,P⟩));refine QM (cG A _ _ _) A ?_;exact⟨⟨_,A,n,A,b1,y⟩,P⟩
 |some b=>
  rw[U] at z;have q:=zE U;have W:=F z;have a2:(55:C)<(b:C):=H;have a4:(b:C)<=1048576:=H;clear z U;simp only[];have d0:=d0 b;have K:=K b;rcases V with⟨rfl,rfl,rfl⟩|⟨rfl,rfl,rfl⟩
  all_goals
   first|(have v:((j.toNat:D):C)<192:=H;have u:(128:C)<=((j.toNat:D):C):=H;have w:((j.toNat:D):C)<=191:=H)|(have v:¬((j.toNat:D):C)<192:=H;have u:(192:C)<=((j.toNat:D):C):=H;have w:((j.toNat:D):C)<=255:=H)
   by_cases g:f.size<o-54+b
   .rw[QU g];have m:=d0 g;clear g Z c M d0 K;go_enter JQ,JH;go_wp2_with (first|((with_reducible refine(dr O.heap.size _ _ (by have:=x.o.z;omega)).m ?_);rintro a a5 ⟨p,rfl,b1,y⟩)|((with_reducible refine W.o.m ?_);rintro a k ⟨rfl,P⟩;have x:=F P));refine QM (cG A _ _ _) A ?_;exact⟨⟨_,A,b1⟩,x.o.t (y.m x.o.z)⟩
   rw[QT g];obtain⟨m,T,Y,a0,R⟩:=K g;have a1:((b:C)==1)=X:=by simp;omega
   clear g Z c M d0 K;go_enter JQ,JH;go_wp2_with (first|((with_reducible refine W.o.m ?_);rintro a k ⟨rfl,P⟩));go_region;go_wp2;refine QM (cG A _ _ _) A ?_;refine⟨?_,P.d⟩;have V:=I.o;simp[kv,V]
theorem ki (f:B)(t:L)(z:f.size<1099511627776):
 Y N 228 #[O f] t λg a=>kv f (t:D) g a (Rl.fX (bs f))/\T t t a:=by
 by_cases K:f.size=0
 .exact Rc f t K
 have u:0<f.size:=H;have V:=f[0].toNat_lt;by_cases M:f[0].toNat<128
 .exact Vb f t z u M
 by_cases P:f[0].toNat<192
 .by_cases J:f[0].toNat-128<=55
  .exact xT f t z u _ J H
  exact zF 128 128 X (o ⟨A,A,A⟩) f t z u (f[0].toNat-128) H H H
 by_cases J:f[0].toNat-192<=55
 .exact xU f t z u _ J H
 exact zF 192 192 U (j ⟨A,A,A⟩) f t z u (f[0].toNat-192) H H H
def Re (j:B)(o:He):QV (Bool×D×D)->Prop
 |some (e,a,d)=>o=f #[z e,O (j.extract a (a+d)),O (j.extract (a+d) j.size),G 0]
 |none=>o=f #[z X,I,I,G 2]
def kK (f:B)(o:L)(M:f.size<1099511627776):
 Y N 181 #[f] o λb n=>Re f b (Rl.fX (bs f))/\T o o n:=by
 have j:=ki f o M;cases K:Rl.fX (bs f) with
 |none=>
  rw[K] at j;have t:=F j;have W:((2:C)==2)=U:=r;go_enter func181,ntmps181;go_wp2_with (first|((with_reducible refine t.o.m ?_);rintro b z ⟨⟨Z,rfl,J,rfl,b1,V⟩,u⟩)|((with_reducible refine(YY J 2 2 z b1).m ?_);rintro b O ⟨rfl,rfl⟩));refine QM (cG A _ _ _) A ?_;exact⟨A,u⟩
 |some l=>
  obtain⟨J,P,X⟩:=l;rw[K] at j;have t:=F j;go_enter func181,ntmps181;go_wp2_with (first|((with_reducible refine t.o.m ?_);rintro b z ⟨rfl,u⟩)|((with_reducible refine(ku 2 z).m ?_);rintro b O ⟨rfl,rfl⟩));refine QM (cG A _ _ _) A ?_;exact⟨A,u⟩
section
def rec (B:D)(o:FuncId)(z:Q S)(A:Q Tmp)(f j:Code)(u:Xh)(t:QV Code):Loop:=
 {state:=u,pending:=t,fn:=o,tmps:=z,params:=A,assign:=f,body:=j,defers:=B}
def kL (f:L)(t:FuncId)(u:Q S)(z:Q Tmp)(j o:Code):L:=
 (f.alloc (Kc (M []))).alloc (IK (rec f.heap.size t u z j o NG J))
def tn (f:L)(t:FuncId)(u:Q S)(z:Q Tmp)(j o:Code):(kL f t u z j o:D)=(f:D)+2:=by simp[kL]
def wB (f:L)(t:FuncId)(u:Q S)(z:Q Tmp)(j o:Code):(kL f t u z j o).heap[(f:D)+1]?=IK (rec (f:D) t u z j o NG J):=by
 have:=Gc (f.alloc (Kc (M []))) (IK (rec (f:D) t u z j o NG J));rwa [GG] at this
def tp (f:L)(t:FuncId)(u:Q S)(z:Q Tmp)(j o:Code):(kL f t u z j o).heap[(f:D)]?=Kc (M []):=
 (QP R).t (Gc f _)
def rN (f:L)(t:FuncId)(u:Q S)(z:Q Tmp)(j o:Code):T f f (kL f t u z j o):=
 ((Ge _ f).a d _).a R _
def mq (o:Fence)(t:D)(P:Xp)(f:Exit->Act->L->Prop)(j:Act):QV Code->L->Prop
 |none,a=>f .normal j a
 |some e,a=>e.wpIn o t P f j a
variable {P:Program}
def FV {M:Fence}{U:D}{X:Kg}{K:Q Tmp}{u z:Code}{V:Exit->Act->L->Prop}{j:Act}{f:L}(b:M.round=J)(v:1<=U){A:D}{O:Q S}
 (y:j.eval X=Hl (Ic A) #[] O) (hF:M.fn A) (c:∀W f,(Xa A W).run P f=Je (.enter A W) f)
 (d:∀o,M.fn o->CallsIn M (U-1) P A (#[Hl (.yield ((f:D)+1)) #[] #[]]++O) (kL f o j.tmps K u z) λq l=>(∃s,q=ι s)/\
  ∃t,l.heap[(f:D)+1]?=IK (rec (f:D) o j.tmps K u z (if t.isNone then NG else .done) t)/\
   mq M U P V {j with defers:={target:=.collected (f:D),args:=#[]}::j.defers} t
    (l.putObj ((f:D)+1) (IK (rec (f:D) o j.tmps K u z .exhausted t)))):
 (Code.rangeFunc X K u z).wpIn M U P V j f:=by
 apply wpIn_rangeFunc;intro o x;rw[b];refine⟨(f:D)+1,[{target:=.collected (f:D),args:=#[]}],kL f o j.tmps K u z,{target:=.fn (Ic A) O,args:=#[Hl (.yield ((f:D)+1)) #[] #[]]},kL f o j.tmps K u z,A,
  #[Hl (.yield ((f:D)+1)) #[] #[]]++O,kL f o j.tmps K u z,run_enterLoop_outer _ _ _ _ _,?_,?_,?_,λ_=>v,?_⟩
 .simp only[resolve,y];simp[go_sem]
 .intro g Z;simp[Target.leads] at Z;subst Z;exact hF
 .simp[invoke,go_sem,c]
 apply(d o x).m;rintro q l ⟨⟨s,rfl⟩,t,e,a⟩;have w:=run_endLoop (P:=P) e (by cases t<;>simp[rec]);exact⟨t,_,w,by cases t<;>exact a⟩
def tq (j:D)(f:Xh->QV Code->Loop)(o:He->L->Prop):Exit->Act->L->Prop
 |.normal,_,a=>a.heap[j]?=IK (f .busy J)/\o (ι (z U)) (a.putObj j (IK (f NG J)))
 |.ret,_,a=>a.heap[j]?=IK (f .busy J)/\o (ι (z X)) (a.putObj j (IK (f .done (M .ret))))
 |.exit id,_,a=>a.heap[j]?=IK (f .busy J)/\o (ι (z X)) (a.putObj j (IK (f .done (M (.exit id)))))
 |.goto e,_,a=>a.heap[j]?=IK (f .busy J)/\o (ι (z X)) (a.putObj j (IK (f .done (M (.goto e)))))
 |.panic _,_,_=>QZ
 |.outgrown,_,_=>QZ
def zG {O:Fence}{X:D}{j B:D}{u:FuncId}{K:Q S}{z:Q Tmp}{o t:Code}{V:Q S}{U:L}{Z:He->L->Prop}(hF:O.fn u)
 (d:U.heap[j]?=IK (rec B u K z o t NG J)) (w:V.size=z.size)
 (a:o.wpIn (O.inRound j) X P (Exit.then (λs q=>q.heap[j]?=IK (rec B u K z o t NG J)/\
  t.wpIn (O.inRound j) X P (tq j (rec B u K z o t) Z) s (q.putObj j (IK (rec B u K z o t .busy J)))) (λ_ _ _=>QZ))
  {tmps:=(z.zip V).foldl (λk (v,x)=>k.setIfInBounds v x) K,defers:=[]} U):YieldAt O X P j V U Z:=by
 refine⟨u,_,o,t,run_yield d w,roundIn_of_wpIn hF ?_⟩;apply wpIn_mono a;intro W r y f;cases W with
 |normal=>
  let⟨b,c⟩:=f;refine⟨_,run_beginRound b A,wpIn_mono c ?_⟩;intro W r y f;cases W with
  |normal=>let⟨b,c⟩:=f;exact⟨_,_,run_endRound J b,c⟩
  |ret=>let⟨b,c⟩:=f;exact⟨_,_,run_endRound (M .ret) b,c⟩
  |exit id=>let⟨b,c⟩:=f;exact⟨_,_,run_endRound (M (.exit id)) b,c⟩
  |goto k=>let⟨b,c⟩:=f;exact⟨_,_,run_endRound (M (.goto k)) b,c⟩
  |panic _=>exact f
  |outgrown=>exact f
 |ret=>exact f
 |exit id=>exact f
 |goto k=>exact f
 |panic _=>exact f
 |outgrown=>exact f
def fY {j:L}{o:D}(u:Obj){f:JM}(t:f.block≠o):(j.putObj o u) f=j f:=GQ (w:=j) (Gu t)
def bP {B o:D}{j t:L}(f:T B j t)(z:B<=o)(u:Obj):T B j (t.putObj o u):=
 ⟨f.os,f.tape,f.output,by rw[IH];exact f.z,λa e=>(Gu H).t (f.b a e)⟩
def aK {U w':L}{J u O K:D}{t:S}{V:E S}(z:U.ownsRow J u O t K V)(a:∀f,t.ownBlock=M f->w'.heap[f]?=U.heap[f]?):w'.ownsRow J u O t K V:=by
 refine⟨z.1,?_⟩;rcases z.2 with n|⟨f,X,W,rfl,Z,m,p⟩
 .exact o n
 exact j ⟨f,X,W,A,Z,(a f A).t m,p⟩
def xV (P:Xp)(o:Fence)(f:D)(j:Xh->QV Code->Loop)(t:Q Tmp)(u z:Code)(A:Q S):Prop:=
 ∀(e:Q S) (d:L) (g:He->L->Prop) (a:D),e.size=t.size->d.heap[f]?=IK (j NG J)->
  u.wpIn (o.inRound f) a P (Exit.then (λk h=>h.heap[f]?=IK (j NG J)/\z.wpIn (o.inRound f) a P (tq f j g) k (h.putObj f (IK (j .busy J)))) (λ_ _ _=>QZ))
   {tmps:=(t.zip e).foldl (λb (n,p)=>b.setIfInBounds n p) A,defers:=[]} d->YieldAt o a P f e d g
def xV.oj {t:Fence}{f:D}{u:Xh->QV Code->Loop}{O:Q Tmp}{V W:Code}{Z:Q S}(s:xV P t f u O V W Z)
 (z:Q S) (j:L) (M:He->L->Prop) (K:D) (w:z.size=O.size) (X:j.heap[f]?=IK (u NG J))
 (c:∀U,U=j.putObj f (IK (u .busy J))->V.wpIn (t.inRound f) K P (Exit.then (λq p=>p=j/\W.wpIn (t.inRound f) K P (tq f u M) q U) (λ_ _ _=>QZ))
  {tmps:=(O.zip z).foldl (λa (v,x)=>a.setIfInBounds v x) Z,defers:=[]} j):YieldAt t K P f z j M:=by
 refine s z j M K w X (wpIn_mono (c _ A) ?_);intro r y d o;cases r with
 |normal=>obtain⟨rfl,b⟩:=o;exact⟨X,b⟩
 |ret=>exact o
 |exit id=>exact o
 |goto a=>exact o
 |panic _=>exact o
 |outgrown=>exact o
def gl {j:Fence}{n:D}{V:Kg}{K:Q Tmp}{u z:Code}{O:Exit->Act->L->Prop}{o:Act}{f:L}(y:j.round=J)(b:1<=n){gf:D}{lb:Q S}
 (w:o.eval V=Hl (Ic gf) #[] lb) (hF:j.fn gf) (X:∀U f,(Xa gf U).run P f=Je (.enter gf U) f)
 (Z:∀(d:D) (a:Xh->QV Code->Loop) (e:L),d=(f:D)+1->(e:D)=(f:D)+2->T f f e->e.heap[d]?=IK (a NG J)->e.heap[(f:D)]?=Kc (M [])->
  xV P j d a K u z o.tmps->
  CallsIn j (n-1) P gf (#[Hl (.yield d) #[] #[]]++lb) e λp m=>(∃W,p=ι W)/\
   ∃t,m.heap[d]?=IK (a (if t.isNone then NG else .done) t)/\
    mq j n P O {o with defers:={target:=.collected (f:D),args:=#[]}::o.defers} t (m.putObj d (IK (a .exhausted t)))):
 (Code.rangeFunc V K u z).wpIn j n P O o f:=
 FV y b w hF X λr v=>Z _ (rec (f:D) r o.tmps K u z) _ A (tn ..) (rN ..) (wB ..) (tp ..) λ_ _ _ _ g x c=>zG v x g c
def zH {t j:L}{f B:D}{J K:Λ}{O:D}{u o:S}{x W:D}{F v:E S}{g:Obj}
 (G:LP t B J u) (e:t.ownsRow f K O u x F) (I:f<=t.heap.size) (c:B<f)
 (X:j.ownsRow f K O o W v) (z:(t.alloc g).grownBy j u.ownBlock):
 LP j B J u/\LP (j.setCell B o) B J o/\(j.setCell B o).ownsRow f K O o W v/\
  (∀a,a<f->a≠B->(j.setCell B o).heap[a]?=t.heap[a]?)/\aL (λa=>a=B\/f<=a) t (j.setCell B o):=by
 have A:∀b,u.ownBlock=M b->f<=b:=by
  intro b A;rcases e.2 with⟨rfl,_⟩|⟨i,w,y,rfl,C,_⟩
  .cases A
  simp only[Ψ,Gd] at A;omega
 have U:∀a,a<f->j.heap[a]?=t.heap[a]?:=λa m=>(z.block a (by simp;omega) (λh=>by have:=A a h.s;omega)).t (QP H);have Z:LP j B J u:=(U B c).t G;have V:∀a,a<f->a≠B->(j.setCell B o).heap[a]?=t.heap[a]?:=λa m d=>(QJ d).t (U a m);refine⟨Z,Z.set o,aK X λb r=>QJ (λh=>?_),V,?_⟩
 .simp only at h;subst h;rcases X.2 with⟨rfl,_⟩|⟨i,w,y,rfl,C,_⟩
  .cases r
  simp only[Ψ,Gd] at r;omega
 refine⟨z.os,z.tape,z.output,?_,λa m k=>V a H H⟩;have:=z.size;simp only[GG] at this;simp[PZ];omega
def cL {W:L}{l:D}(t:l<(W:D))(j:Obj){f:L}(o:f=W.putObj l j):f.heap[l]?=j/\(∀b,b≠l->f.heap[b]?=W.heap[b]?)/\(f:D)=(W:D)/\(∀B c,B<=l->T B c W->T B c f):=by
 subst o;exact⟨Ht t,λb h=>Gu h,IH,λB c a g=>bP g a j⟩
def nD {f:L}{B:D}{j:Λ}{t v':S}(o:LP f B j t):LP (f.setCell B v') B j v'/\(∀b,b≠B->(f.setCell B v').heap[b]?=f.heap[b]?)/\(f.setCell B v':D)=(f:D):=
 ⟨o.set v',λb e=>QJ e,by simp[PZ]⟩
def hH {z:Fence}{n:D}{k:Q Le}{m:E Le}{o:Le}{A:Act}{u:L}{Z:Exit->Act->L->Prop}(c:o.guard=J)(f:Λ)(p:Kg)(O:o.op=.load f p)
 (W:D) (x:A.eval p=V W) (a:Λ) (j:Q S) (l:D×D) (M:TypeDesc) (b:u.heap[W]?=K j a l)
 (w:P.underlying f=M) (hd:(match M with|.struct _|.array _ _=>U|_=>X)=U) (v:(P.info? f).map (·.size)=j.size)
 (q:Xn z n P k Z m (A.put o.dst (t j)) u):Xn z n P k Z (o::m) A u:=by
 refine wpListIn_plain c λd r=>?_;unfold Oper.wpIn;refine⟨by simp[Oper.about,O],?_⟩;rw[Oper.semAt_plain z _ _ (by rw[O];intro y s;cases s)];simp only[Xb,O,x,Instr.loadAt,Instr.sureAddr,IE,Kb,Kv,XH u W a f j l M b w hd v];exact r _ _ q
end
def cR {f:D×D}(j:g.heap[w]?=K h p f)(o:h[q]?=m):g (w,q)=m:=by rwa[QH j]
def dA {j:D×D}(o:g.heap[w]?=K h p j)(f:D):g (w,f)=h[f]?:=QH o
structure gJ (w w1:L)(o:Obj):Prop where
 aH:w1.heap.size=w.heap.size+1
 at_:w1.heap[w.heap.size]?=o
 old:∀k,k<w.heap.size->w1.heap[k]?=w.heap[k]?
 aE:T w w w1
def aU (j:L)(f:Obj):∃o,j.alloc f=o/\gJ j o f:=
 ⟨_,A,by simp,Gc j f,λa e=>QP e,(Ge _ j).a d f⟩
def gJ.ab3 (f:gJ g s (K #[m] p)):LP s g p m:=f.at_
def ic (f:Exit->Act->L->Prop):Exit->Act->L->Prop
 |.normal,b,c=>f .normal b c
 |_,_,_=>QZ
def tt {d:Fence}{n:Nat}{e:Xp}{c:Code}{f:Exit->Act->ν->Prop}{b:Act}(i:c.wpIn d n e (ic f) b g):c.wpIn d n e f b g:=by
 refine wpIn_mono i ?_;intro h b g a;cases h with
 |normal=>exact a
 |ret=>exact a.elim
 |exit id=>exact a.elim
 |goto j=>exact a.elim
 |panic _=>exact a.elim
 |outgrown=>exact a.elim
namespace Rl
def Rf:E QO->D->D
 |[],a=>a
 |b::c,a=>Rf c (a*256+b.toNat)
def tu (f j:B)(o:Bool):QV D:=
 if o=U\/j.size≠0\/8<f.size then J
 else if f.size≠0/\((bs f).getD 0 0)=0 then J
 else M (Rf (bs f) 0)
def FW (f:B):QV D:=
 match fX (bs f) with
 |none=>J
 |some (d,b,c)=>tu (f.extract b (b+c)) (f.extract (b+c) f.size) d
end Rl
def Cj (j:He):QV D->Prop
 |some b=>j=f #[Z If (b:C),G 0]
 |none=>j=f #[Z If 0,G 2]
def Vc (f:D)(j:QO)(o:f<72057594037927936):bits .or If ((f:C)*256) ((j.toNat:D):C)=((f*256+j.toNat:D):C):=by
 have hd:=j.toNat_lt;rw[show((f:C)*256)=((f*256:D):C) from A,u64_or_nat _ _ H H];have:=Nat.two_pow_add_eq_or_of_lt (i:=8) (b:=j.toNat) (sU hd) f;rw[show(2:D)^8=256 from A,Nat.mul_comm 256 f] at this;rw[this]
def YZ {k:D}(f:k<8):256^k<=72057594037927936:=have:(256:D)^k<=256^7:=Nat.pow_le_pow_right r H;GB this r
theorem Za (T f u:B)(l:Bool)(x:ν)(ag:f.size<1099511627776)
 (W:Φ (τ γ 181 #[O T] x λa n=>a=χ #[υ l,O f,O u,G 0]/\ρ x x n)):
 τ γ 111 #[O T] x λa n=>Cj a (Rl.tu f u l)/\ρ x x n:=by
 have a7:((0:C)==0)=U:=r;cases l with
 |true=>
  rw[show Rl.tu f u U=J from QU (Ξ A)];clear ag;go_enter Nm,LO;go_wp2_with ((with_reducible apply W.o.m);rintro a V ⟨rfl,b1⟩);go_ret2;exact⟨A,b1⟩
 |false=>
  by_cases Z:u.size=0
  .have ai:=cj Z;by_cases i:8<f.size
   .rw[show Rl.tu f u X=J from QU (j (j i))];have ak:(8:C)<(f.size:C):=H;clear Z;go_enter Nm,LO;go_wp2_with ((with_reducible apply W.o.m);rintro a V ⟨rfl,b1⟩);go_ret2;exact⟨A,b1⟩
   have ak:¬(8:C)<(f.size:C):=H;have L:Rl.tu f u X=if f.size≠0/\((bs f).getD 0 0)=0 then J else δ (Rl.Rf (bs f) 0):=by
    rw[Rl.tu,QT];rintro(e|e|e)
    .simp at e
    .exact e Z
    exact i e
   rw[L];have a9:=F i;clear L Z;by_cases t:f.size=0
   .have a0:=cj t;rw[QT (λe=>e.1 t),(GH (by rw[aX];exact t):bs f=[])];have H0:=F t;have a6:(f.size:C)=0:=H;let⟨h,hF⟩:∃h,h=Rl.Rf (bs f) 0:=⟨_,A⟩;have s:bs f=[]:=GH (by rw[aX];exact t);rw[show Rl.Rf [] 0=h by rw[hF,s]];have g:=F hF;clear t hF s;go_enter Nm,LO;go_wp2_with ((with_reducible apply W.o.m);rintro a V ⟨rfl,b1⟩);have q:=F b1;clear b1;go_loopw [8,42] (λm p wr=>∃(c b:D),m=ε If (c:C)/\p=G (b:C)/\b<=f.size/\Φ (c<256^b)/\Φ (Rl.Rf ((bs f).drop b) c=h)/\wr=V) (λ_ p _=>f.size-(QI p).toNat)
    .exact⟨0,0,A,A,QK,F r,F g.o.s,A⟩
    obtain⟨c,b,rfl,rfl,af,M,P,rfl⟩:=hrel;by_cases v:b<f.size
    .exact absurd v (oA H0.o)
    have S:¬(b:C)<(f.size:C):=H;have o:=P.o;rw[JP (by rw[aX];omega),Rl.Rf] at o;have y:=F o;clear P o M;go_wp2_with fail;go_ret2;rw[<-y.o];exact⟨A,q.o⟩
   have I:0<f.size:=H;have a0:=cp I;have a5:(0:C)<(f.size:C):=H;have K:=fh (s:=f) (k:=0) I;rw[IL,K];generalize a2:f[0]=d at K;have a1:=F K;clear K;by_cases w:d=0
   .rw[QU ⟨t,w⟩];have aj:(((d.toNat:D):C)==0)=U:=by subst w;rfl
    clear w t;go_enter Nm,LO;go_wp2_with ((with_reducible apply W.o.m);rintro a V ⟨rfl,b1⟩);go_ret2;exact⟨A,b1⟩
   rw[QT (λe=>w e.2)];have aj:(((d.toNat:D):C)==0)=X:=by
    simp only[Xk,ne_eq];intro e;apply w;apply Lu.mp;have:d.toNat=0:=H;rw[this];rfl
   let⟨h,hF⟩:∃h,h=Rl.Rf (bs f) 0:=⟨_,A⟩;rw[<-hF];have g:=F hF;clear t hF w;go_enter Nm,LO;go_wp2_with ((with_reducible apply W.o.m);rintro a V ⟨rfl,b1⟩);have q:=F b1;clear b1;go_loopw [8,42] (λm p wr=>∃(c b:D),m=ε If (c:C)/\p=G (b:C)/\b<=f.size/\Φ (c<256^b)/\Φ (Rl.Rf ((bs f).drop b) c=h)/\wr=V) (λ_ p _=>f.size-(QI p).toNat)
   .exact⟨0,0,A,A,QK,F r,F g.o.s,A⟩
   obtain⟨c,b,rfl,rfl,af,M,P,rfl⟩:=hrel;by_cases v:b<f.size
   .have S:(b:C)<(f.size:C):=H;have K:=fh (s:=f) (k:=b) v;generalize hd:f[b]=z at K;have ah:=YZ (k:=b) (oA a9.o);have o:=P.o;rw[Kk (by rw[aX];exact v),Rl.Rf] at o;have N:(bs f)[b]'(by rw[aX];exact v)=z:=by
     have:=Gf (l:=bs f) (i:=b) (by rw[aX];exact v);rw[K] at this;exact(Gm this).s
    rw[N] at o;have R:=Vc c z (oA M.o);have a4:If.wrap ((c:C)*256)=(c:C)*256:=by
     rw[IntKind.wrap_u64];have:=M.o;omega
    have k:c*256+z.toNat<256^ (b+1):=by
     have:=M.o;have:=z.toNat_lt;rw[Nat.pow_succ];omega
    have a3:(c:C)*256<18446744073709551616:=oA M.o;generalize a8:c*256+z.toNat=Y at R o k;have y:=F o;have ab:=F k;have ae:=F R;clear a8 o P N K k M ah;go_wp2_with fail;case roundEnd=>
     refine⟨⟨Y,b+1,?_,A,H,ab,y,tV⟩,?_⟩
     .rw[show If.wrap ((z.toNat:D):C)=((z.toNat:D):C) by rw[IntKind.wrap_u64];have:=z.toNat_lt;omega,ae.o]
     simp[QI];omega
   have S:¬(b:C)<(f.size:C):=H;have o:=P.o;rw[JP (by rw[aX];omega),Rl.Rf] at o;have y:=F o;clear P o M;go_wp2_with fail;go_ret2;rw[<-y.o];exact⟨A,q.o⟩
  have ai:=cp (H:0<u.size);rw[show Rl.tu f u X=J from QU (j (Ξ Z))];clear Z;go_enter Nm,LO;go_wp2_with ((with_reducible apply W.o.m);rintro a V ⟨rfl,b1⟩);go_ret2;exact⟨A,b1⟩
def Rg (o:B)(j:L)
 (t:Φ (Y N 181 #[o] j λb c=>b=f #[z X,I,I,G 2]/\T j j c)):
 Y N 111 #[o] j λb c=>Cj b J/\T j j c:=by
 have K:((2:C)==0)=X:=r;go_enter Nm,LO;go_wp2_with ((with_reducible apply t.o.m);rintro b u ⟨rfl,b1⟩);go_ret2;exact⟨A,b1⟩
def tv (f:B)(j:L)(u:f.size<1099511627776):
 Y N 111 #[f] j λa i=>Cj a (Rl.FW f)/\T j j i:=by
 have o:=kK f j u;unfold Rl.FW;cases t:Rl.fX (bs f) with
 |none=>rw[t] at o;exact Rg f j (F o)
 |some h=>
  let⟨e,b,k⟩:=h;rw[t] at o;exact Za f _ _ e j eZ (F o)
namespace Rw
abbrev B:=E QO
def tz {j:Type}(f:E (B×j)):Prop:=f.Pairwise (λb c=>b.1<c.1)
def Zc (a f j:B):a++f<a++j↔f<j:=by
 induction a with
 |nil=>rfl
 |cons e a d=>rw[Hz,Hz,KV];simp[d,UInt8.lt_irrefl]
def mid (c:B):∀(d e b:B),¬b<c++d->¬c++e<b->∃u,b=c++u:=by
 induction c with
 |nil=>intro d e b _ _;exact⟨b,A⟩
 |cons i c l=>
  intro d e b f t;cases b with
  |nil=>exact absurd (List.nil_lt_cons _ _) f
  |cons g b=>
   rw[Hz,KV] at f t;have z:i=g:=by
    rcases PH i.toNat g.toNat with a|a|a
    .exact absurd (o (KQ.2 a)) t
    .exact Lu.1 a
    exact absurd (o (KQ.2 a)) f
   subst z;obtain⟨u,rfl⟩:=l d e b (λa=>f (j ⟨A,a⟩)) (λa=>t (j ⟨A,a⟩));exact⟨u,A⟩
def Cl {u:Type}{o:B×u}{t:E (B×u)}(z:tz (o::t)):∀j∈o::t,¬j.1<o.1:=by
 intro j f;rcases GF.1 f with rfl|f
 .exact Ns _
 exact λg=>Ns _ (List.lt_trans g ((Nr.1 z).1 j f))
def FX {z:Type}{j:E (B×z)}(J:tz j){o:B×z}(A:j.getLast?=o):∀t∈j,¬o.1<t.1:=by
 obtain⟨u,rfl⟩:∃u,j=u++[o]:=by
  rwa[Ln] at A
 intro t f;rcases GO.1 f with f|f
 .have:=(LR.1 J).2.2 t f o R;exact λi=>Ns _ (List.lt_trans i this)
 cases GA.1 f;exact Ns _
def zJ {K:Type}{x y:B×K}{l:E (B×K)}(u:tz (x::l))(O:(x::l).getLast?=y)(j o t:B)(M:x.1=j++o)(P:y.1=j++t):∀f∈x::l,∃U,f.1=j++U:=by
 intro f J;have z:=Cl u f J;have A:=FX u O f J;rw[M] at z;rw[P] at A;exact mid j o t f.1 z A
def wF {K:Type}{f:E (B×K)}(z:tz f)(j:B)(u:∀a∈f,∃o,a.1=j++o):tz (f.map λa=>(a.1.drop (j:D),a.2)):=by
 rw[tz,Jy];refine List.Pairwise.imp_of_mem ?_ z;intro a o A J t;let⟨g,b⟩:=u a A;let⟨h,k⟩:=u o J;rw[b,k] at t ⊢;simp only[List.drop_left];exact(Zc j g h).1 t
def zL {o:Type}{j:E (B×o)}(t:tz j)(f:B×o->Bool):tz (j.filter f):=t.filter f
def cU (f:B):B:=f.flatMap (λa=>[a/16,a%16])
def oI (f:QO)(j:B):cU (f::j)=f/16::f%16::cU j:=rfl
def En:∀{b c:B},b<c->cU b<cU c
 |[],[],a=>absurd a (Ns _)
 |[],_::_,_=>List.nil_lt_cons _ _
 |_::_,[],a=>absurd a (List.not_lt_nil _)
 |d::b,e::c,a=>by
  rw[KV] at a;rw[oI,oI,KV,KV];rcases a with a|⟨rfl,a⟩
  .rw[KQ] at a;rw[KQ,KQ,<-Lu,<-Lu];simp[Ng,Nf,show(16:QO).toNat=16 from A];omega
  exact j ⟨A,j ⟨A,En a⟩⟩
def mC (a:B):(cU a:D)=2*(a:D):=by
 induction a with
 |nil=>rfl
 |cons c a b=>rw[oI];simp[Gx,b];omega
def bu {j:Type}(f:E (B×j)):D:=(f.map λb=>b.1.length+1).sum
def Ve {f:Type}(a:E (B×f)):(a:D)<=bu a:=by
 induction a with
 |nil=>exact d
 |cons b a c=>simp[bu,Ij,List.sum_cons,Gx] at *;omega
def wG {h:Type}:∀(b:E (B×h)) (a:D),(∀c∈b,a<=(c.1:D))->bu (b.map λc=>(c.1.drop a,c.2))+a*(b:D)=bu b
 |[],a,_=>by simp[bu]
 |c::b,a,d=>by
  have j:=wG b a (λg e=>d g (GK _ e));have f:=d c (Hk ..);simp[bu,Ij,List.sum_cons,Gx,JD,Nat.mul_add] at *;omega
end Rw
namespace Md
structure dp where
 aG:C
 aZ:C
 ei:S
 fI:S
structure dY where
 aN:C
 next:C
 vs:E dp
def aM (j o:C)(f:dp):Prop:=j-o<=f.aG\/0<f.aZ
instance (n w:Int)(v:dp):Decidable (aM n w v):=inferInstanceAs (Decidable (_\/_))
def cX (f j:C):E dp->E dp
 |[]=>[]
 |[a]=>[a]
 |a::e::d=>if aM f j a then a::cX f j (e::d) else cX f j (e::d)
def ja (f:E dp):Prop:=f.Pairwise λa b=>a.aG<b.aG
structure Ok (m:dY):Prop where
 w1:1<=m.aN
 w8:m.aN<=8
 n1:1<=m.next
 n2:m.next<=1048576
 cf:∃v,m.vs.getLast?=M v/\v.aG=m.next-1
 kx:ja m.vs
 dK:∀v∈m.vs,0<=v.aG
 aZ:∀v∈m.vs,0<=v.aZ/\v.aZ<=1048576
 fR:∀v∈m.vs.dropLast,aM m.next m.aN v
 FY:∀b:C,m.next-m.aN<=b->0<=b->b<m.next->∃v∈m.vs,v.aG=b
def gq (f j:C):∀o,(cX f j o).Sublist o
 |[]=>NA _
 |[_]=>NA _
 |a::d::c=>by
  unfold cX;split
  .exact(gq f j (d::c)).cons_cons _
  exact(gq f j (d::c)).cons _
def mD (f o:C):∀j,j≠[]->cX f o j≠[]
 |[],d=>absurd A d
 |[_],_=>by simp[cX]
 |g::a::e,_=>by
  unfold cX;split
  .simp
  exact mD f o (a::e) R
def tA (f j:C):∀o,(cX f j o).getLast?=o.getLast?
 |[]=>rfl
 |[_]=>rfl
 |i::d::c=>by
  have t:=tA f j (d::c);unfold cX;split
  .let⟨b,h,a⟩:=Qg (mD f j (d::c) R);rw[a] at t ⊢;rwa[NK,NK]
  rwa[NK]
def nG (f j:C):∀(c:E dp) (b:dp),b∈c->aM f j b->b∈cX f j c
 |[],b,a,_=>a
 |[_],b,a,_=>a
 |i::h::g,b,a,e=>by
  unfold cX;rcases GF.1 a with rfl|a
  .rw[QU e];exact Hk ..
  have:=nG f j (h::g) b a e;split
  .exact GK _ this
  exact this
def tB (f j:C):∀(c:E dp),∀b∈(cX f j c).dropLast,aM f j b
 |[],b,a=>by simp[cX] at a
 |[_],b,a=>by simp[cX] at a
 |l::h::g,b,a=>by
  have o:=tB f j (h::g);unfold cX at a;split at a
  .rename_i t;let⟨m,k,e⟩:=Qg (mD f j (h::g) R);rw[e,List.dropLast_cons_of_ne_nil R] at a;rcases GF.1 a with rfl|a
   .exact t
   exact o b (by rwa[e])
  exact o b a
def Rj {t:E dp}{z:dp}(f:z∈t):z∈t.dropLast\/t.getLast?=z:=by
 cases u:t.getLast? with
 |none=>rw[List.getLast?_eq_none_iff] at u;subst u;cases f
 |some a=>
  obtain⟨J,rfl⟩:=Ln.1 u;rw[List.dropLast_concat];rcases GO.1 f with f|f
  .exact o f
  cases GA.1 f;exact j A
def Ok.cX {m:dY}(w1:1<=m.aN)(w8:m.aN<=8)(n1:1<=m.next)(n2:m.next<=1048576)(last:∃v,m.vs.getLast?=δ v/\v.aG=m.next-1)(kx:ja m.vs)(low:∀v∈m.vs,0<=v.aG)
 (pins:∀v∈m.vs,0<=v.aZ/\v.aZ<=1048576) (full:∀b:Int,m.next-m.aN<=b->0<=b->b<m.next->∃v∈m.vs,v.aG=b):Ok {m with vs:=cX m.next m.aN m.vs} where
 w1:=w1
 w8:=w8
 n1:=n1
 n2:=n2
 cf:=by obtain⟨v,h1,h2⟩:=last;exact⟨v,(tA ..).t h1,h2⟩
 kx:=kx.sublist (gq ..)
 dK v hv:=low v ((gq ..).subset hv)
 aZ v hv:=pins v ((gq ..).subset hv)
 fR:=tB _ _ _
 FY b h1 h2 h3:=by
  obtain⟨v,hv,rfl⟩:=full b h1 h2 h3;exact⟨v,nG _ _ _ _ hv (Ξ h1),rfl⟩
def fS (f:E C)(j:C):D:=f.count j
structure bN (m:dY)(S:E C):Prop where
 aZ:∀v∈m.vs,v.aZ=(fS S v.aG:C)
 eO:∀b∈S,∃v∈m.vs,v.aG=b
def bN.cX {m:dY}{S:List Int}(h:bN m S):bN {m with vs:=Md.cX m.next m.aN m.vs} S where
 aZ v hv:=h.aZ v ((gq ..).subset hv)
 eO b hb:=by
  obtain⟨v,hv,rfl⟩:=h.eO b hb;refine⟨v,nG _ _ _ _ hv (Θ ?_),rfl⟩;rw[h.aZ v hv];have:0<S.count v.aG:=List.count_pos_iff.2 hb;unfold fS;omega
def jb (f:dY)(o j:S):dY:={f with next:=f.next+1,vs:=Md.cX (f.next+1) f.aN (f.vs++[⟨f.next,0,o,j⟩])}
def jF {j:dY}(t:Ok j):∀o∈j.vs,o.aG<=j.next-1:=by
 intro o f;let⟨h,g,i⟩:=t.cf;let⟨a,e⟩:=Ln.1 g;rw[e] at f;have u:=t.kx;rw[ja,e] at u;rcases GO.1 f with f|f
 .have:=(LR.1 u).2.2 o f h R;omega
 cases GA.1 f;omega
def Ok.jb {o:dY}(j:Ok o)(O:o.next≠1048576)(z u:S):Ok (Md.jb o z u):=by
 refine Ok.cX (m:={o with next:=o.next+1,vs:=o.vs++[⟨o.next,0,z,u⟩]}) j.w1 j.w8 (by have:=j.n1;simp only;omega) (by have:=j.n2;simp only;omega) ⟨⟨o.next,0,z,u⟩,R,R⟩ ?_ ?_ ?_ ?_
 .simp only[ja];rw[LR];refine⟨j.kx,List.pairwise_singleton ..,λi n g h=>?_⟩;cases GA.1 h;have:=(jF j) i n;simp only;omega
 .intro t f;rcases GO.1 f with f|f
  .exact j.dK t f
  cases GA.1 f;have:=j.n1;simp only;omega
 .intro t f;rcases GO.1 f with f|f
  .exact j.aZ t f
  cases GA.1 f;simp
 intro g J K M;simp only at J M;by_cases h:g=o.next
 .exact⟨⟨o.next,0,z,u⟩,R,h.s⟩
 obtain⟨t,f,rfl⟩:=j.FY g H K H;exact⟨t,Jq _ f,A⟩
def bN.jb {j:dY}{t:E C}(O:Ok j)(z:bN j t)(K J:S):bN (Md.jb j K J) t:=by
 refine bN.cX (m:={j with next:=j.next+1,vs:=j.vs++[⟨j.next,0,K,J⟩]}) ⟨?_,?_⟩
 .intro o f;rcases GO.1 f with f|f
  .exact z.aZ o f
  obtain rfl:=GA.1 f;have:t.count j.next=0:=by
   rw[List.count_eq_zero];intro u;obtain⟨o,f,P⟩:=z.eO _ u;have:=(jF O) o f;omega
  simp[fS,this]
 intro M u;obtain⟨o,f,rfl⟩:=z.eO M u;exact⟨o,Jq _ f,A⟩
def fJ (f:dY)(i:D)(p:C):dY:={f with vs:=f.vs.modify i λb=>{b with aZ:=p}}
def fE (f:E dp)(j:D)(t:C):(f.modify j λe=>{e with aZ:=t}).map (·.aG)=f.map (·.aG):=by
 apply LC;intro o;simp only[Ip,Lb];cases f[o]?<;>simp;split<;>rfl
def tC {f j:E dp}(o:j.map (·.aG)=f.map (·.aG))(u:ja f):ja j:=by
 have t:(f.map (·.aG)).Pairwise (· < ·):=by rwa[Jy]
 rwa[<-o,Jy] at t
def hh {o j:E dp}(t:j.map (·.aG)=o.map (·.aG)){f:dp}(u:f∈o):∃b∈j,b.aG=f.aG:=by
 have:f.aG∈j.map (·.aG):=t▸GL.2 ⟨f,u,A⟩;let⟨b,g,a⟩:=GL.1 this;exact⟨b,g,a⟩
def oJ {t:E dp}{d:dp}(X:ja t)(W:d∈t.modify w λd=>{d with aZ:=c}):
 (∃b,t[w]?=M b/\d={b with aZ:=c})\/(d∈t/\∀b,t[w]?=M b->b.aG≠d.aG):=by
 obtain⟨z,f⟩:=GI.1 W;rw[Lb] at f;cases u:t[z]? with
 |none=>rw[u] at f;simp at f
 |some b=>
  rw[u] at f;by_cases A:w=z
  .subst A;simp at f;exact o ⟨b,u,f.s⟩
  simp[A] at f;subst f;refine j ⟨GI.2 ⟨z,u⟩,λs r=>?_⟩;obtain⟨K,O⟩:=Gg.1 r;obtain⟨P,U⟩:=Gg.1 u;have V:=JU.1 X;rcases Nat.lt_or_gt_of_ne A with J|J
  .have:=V w z K P J;rw[O,U] at this;omega
  have:=V z w P K J;rw[O,U] at this;omega
def zM {f:dY}(o:∃b,f.vs.getLast?=M b/\b.aG=f.next-1):∃b,(fJ f w c).vs.getLast?=M b/\b.aG=f.next-1:=by
 let⟨b,g,h⟩:=o;have j:((fJ f w c).vs.map (·.aG)).getLast?=M (f.next-1):=by
  show((f.vs.modify w _).map _).getLast?=_;rw[fE f.vs w c,LB,g,JR,h]
 rw[LB] at j;let⟨k,i,a⟩:=Jd.1 j;exact⟨k,i,a⟩
def Ok.fJ {f:dY}(j:Ok f){i:D}{p:C}(t:0<=p)(u:p<=1048576):(1<=f.aN/\f.aN<=8/\1<=f.next/\f.next<=1048576)/\(∃a,(Md.fJ f i p).vs.getLast?=M a/\a.aG=f.next-1)/\ja (Md.fJ f i p).vs/\
 (∀a∈(Md.fJ f i p).vs,0<=a.aG)/\(∀a∈(Md.fJ f i p).vs,0<=a.aZ/\a.aZ<=1048576)/\(∀d:C,f.next-f.aN<=d->0<=d->d<f.next->∃a∈(Md.fJ f i p).vs,a.aG=d):=by
 have o:=fE f.vs i p;refine⟨⟨j.w1,j.w8,j.n1,j.n2⟩,zM j.cf,tC o j.kx,λa e=>?_,λa e=>?_,λd g k l=>?_⟩
 .let⟨h,c,m⟩:=hh o.s e;rw[<-m];exact j.dK h c
 .rcases oJ j.kx e with⟨h,c,rfl⟩|⟨c,_⟩
  .exact⟨t,u⟩
  exact j.aZ a c
 obtain⟨a,e,rfl⟩:=j.FY d g k l;exact hh o e
def nH {o:E dp}{t:dp}:t∈o.dropLast↔∃f,f+1<(o:D)/\o[f]?=t:=by
 rw[GI];constructor
 .rintro⟨f,j⟩;rw[NR] at j;split at j
  .exact⟨f,H,j⟩
  cases j
 rintro⟨f,u,z⟩;exact⟨f,by rwa[NR,QU H]⟩
def Ok.Zd {o:dY}(t:Ok o){i:D}{v:dp}(u:o.vs[i]?=v)(A:v.aZ≠1048576):Ok (Md.fJ o i (v.aZ+1)):=by
 have J:=t.aZ v (GI.2 ⟨i,u⟩);let⟨⟨d,k,l,m⟩,n,e,q,r,s⟩:=t.fJ (i:=i) (p:=v.aZ+1) H H;refine⟨d,k,l,m,n,e,q,r,λx a=>?_,s⟩;let⟨c,h,a⟩:=nH.1 a;simp only[Md.fJ,Nu] at h;simp only[Md.fJ,Lb] at a;cases f:o.vs[c]? with
 |none=>rw[f] at a;simp at a
 |some g=>
  rw[f] at a;by_cases z:i=c
  .subst z;rw[f] at u;cases Gm u;simp at a;subst a;exact j uo
  simp[z] at a;subst a;exact t.fR g (nH.2 ⟨c,h,f⟩)
def bN.Zd {j:dY}{u:E C}(A:Ok j)(t:bN j u){i:D}{v:dp}(o:j.vs[i]?=v):bN (Md.fJ j i (v.aZ+1)) (v.aG::u):=by
 have z:=fE j.vs i (v.aZ+1);refine⟨λn l=>?_,λh d=>?_⟩
 .rcases oJ A.kx l with⟨K,f,rfl⟩|⟨f,J⟩
  .rw[o] at f;obtain rfl:=Gm f;have:=t.aZ v (GI.2 ⟨i,o⟩);simp only[fS,Pe] at *;omega
  have:=t.aZ n f;rw[this];simp only[fS,List.count_cons_of_ne (J v o)]
 rcases GF.1 d with rfl|d
 .exact hh z (GI.2 ⟨i,o⟩)
 obtain⟨K,f,rfl⟩:=t.eO h d;exact hh z f
def tD (f:dY)(i:D)(v:dp):dY:={f with vs:=Md.cX f.next f.aN (Md.fJ f i (v.aZ-1)).vs}
def Ok.tD {f:dY}(j:Ok f){i:D}{v:dp}(o:f.vs[i]?=v)(t:v.aZ≠0):Ok (Md.tD f i v):=have u:=j.aZ v (GI.2 ⟨i,o⟩);let⟨⟨c,d,e,a⟩,g,h,k,l,m⟩:=j.fJ (i:=i) (p:=v.aZ-1) H H;Ok.cX (m:=Md.fJ f i (v.aZ-1)) c d e a g h k l m
def bN.tD {j:dY}{u:E C}(z:Ok j){i:D}{v:dp}(t:j.vs[i]?=v)(o:bN j (v.aG::u)):bN (Md.tD j i v) u:=by
 refine bN.cX (m:=Md.fJ j i (v.aZ-1)) ⟨λn k=>?_,λa h=>?_⟩
 .rcases oJ z.kx k with⟨J,f,rfl⟩|⟨f,A⟩
  .rw[t] at f;obtain rfl:=Gm f;have:=o.aZ v (GI.2 ⟨i,t⟩);simp only[fS,Pe] at *;omega
  have:=o.aZ n f;rw[this];simp only[fS,List.count_cons_of_ne (A v t)]
 obtain⟨J,f,rfl⟩:=o.eO a (GK _ h);exact hh (fE j.vs i (v.aZ-1)) f
def bN.vT {u:dY}{f j:E C}(o:bN u f)(t:f.Perm j):bN u j:=
 ⟨λi h=>by rw[o.aZ i h];simp only[fS,t.count_eq],λa g=>o.eO a (t.mem_iff.2 g)⟩
def bN.Rk {t:dY}{u:E C}(j:bN t (c::u)):∃f∈t.vs,f.aG=c/\f.aZ≠0:=by
 obtain⟨f,o,rfl⟩:=j.eO c (Hk ..);refine⟨f,o,A,?_⟩;rw[j.aZ f o];simp only[fS,Pe];omega
def zN:∀(e:E C) (a b:C),e.Pairwise (· < ·)->(∀c,c∈e↔a<=c/\c<b)->e=(List.range (b-a).toNat).map λk:D=>a+(k:C)
 |[],a,b,_,d=>by
  have:(b-a).toNat=0:=by
   by_cases z:a<b
   .exact absurd ((d a).2 ⟨LW _,z⟩) R
   omega
  rw[this];rfl
 |c::e,a,b,n,d=>by
  obtain⟨o,u⟩:=Nr.1 n;have K:=(d c).1 (Hk ..);have A:c=a:=by
   rcases GF.1 ((d a).2 ⟨LW _,by omega⟩) with t|j
   .exact t.s
   have:=o a j;omega
  subst A;have J:=zN e (c+1) b u (λh=>by
   constructor
   .intro f
    have:=o h f
    have:=(d h).1 (GK _ f)
    omega
   intro f
   rcases GF.1 ((d h).2 ⟨by omega,f.2⟩) with t|j
   .omega
   exact j)
  rw[J,show(b-c).toNat=(b-(c+1)).toNat+1 by omega,List.range_succ_eq_map,Ij,Js];congr 1
  .simp
  apply Kz;intro k _;simp only[Function.comp];omega
def ab5 {j:dY}(f:Ok j)(K:bN j []):j.vs.map (·.aG)=(List.range (j.next-max 0 (j.next-j.aN)).toNat).map λk:D=>max 0 (j.next-j.aN)+(k:C):=by
 apply zN
 .rw[Jy];exact f.kx
 intro O;rw[GL];constructor
 .rintro⟨t,o,rfl⟩;have P:=f.dK t o;have V:=jF f t o;have M:=K.aZ t o;rcases Rj o with hd|J
  .rcases f.fR t hd with A|A
   .have:=f.w1;omega
   simp[fS] at M;omega
  obtain⟨X,u,W⟩:=f.cf;rw[J] at u;obtain rfl:=Gm u;have:=f.w1;omega
 rintro⟨U,z⟩;exact f.FY O H H z
def Ok.iY (o:1<=c)(u:c<=8)(f j:S):Ok ⟨c,1,[⟨0,0,f,j⟩]⟩:=by
 refine⟨o,u,by simp,by simp,⟨_,A,by simp⟩,by simp[ja],by simp,by simp,by simp,?_⟩;intro z _ J t;exact⟨_,Hk ..,by simp only at t ⊢;omega⟩
def bN.iY (j f:S):bN ⟨c,1,[⟨0,0,j,f⟩]⟩ []:=⟨by simp[fS],by simp⟩
end Md
section
variable {P:Program}
def Cn {M:Fence}{V:D}{Z:Kg}{K:Q Tmp}{u z:Code}{W:Exit->Act->L->Prop}{j:Act}{f:L}(d:M.round=J)(w:1<=V){A:D}{O U:Q S}
 (g:j.eval Z=Hl (Ic A) O U) (hF:M.fn A) (e:∀X f,(Xa A X).run P f=Je (.enter A X) f)
 (v:∀o,M.fn o->CallsIn M (V-1) P A (O++#[Hl (.yield ((f:D)+1)) #[] #[]]++U) (kL f o j.tmps K u z) λr n=>(∃a,r=ι a)/\
  ∃t,n.heap[(f:D)+1]?=IK (rec f o j.tmps K u z (if t.isNone then NG else .done) t)/\
   mq M V P W {j with defers:={target:=.collected f,args:=#[]}::j.defers} t
    (n.putObj ((f:D)+1) (IK (rec f o j.tmps K u z .exhausted t)))):
 (Code.rangeFunc Z K u z).wpIn M V P W j f:=by
 apply wpIn_rangeFunc;intro o y;rw[d];refine⟨f+1,[{target:=.collected f,args:=#[]}],kL f o j.tmps K u z,{target:=.fn (Ic A) U,args:=O++#[Hl (.yield (f+1)) #[] #[]]},kL f o j.tmps K u z,A,
  O++#[Hl (.yield (f+1)) #[] #[]]++U,kL f o j.tmps K u z,run_enterLoop_outer _ _ _ _ _,?_,?_,?_,λ_=>w,?_⟩
 .simp only[resolve,g];simp[go_sem]
 .intro h s;simp[Target.leads] at s;subst s;exact hF
 .simp[invoke,go_sem,e]
 apply(v o y).m;rintro r n ⟨⟨a,rfl⟩,t,b,c⟩;have x:=run_endLoop (P:=P) b (by cases t<;>simp[rec]);exact⟨t,_,x,by cases t<;>exact c⟩
def Co {j:Fence}{u:D}{W:Kg}{O:Q Tmp}{z K:Code}{U:Exit->Act->L->Prop}{o:Act}{f:L}(y:j.round=J)(b:1<=u){gf:D}{fa lb:Q S}
 (w:o.eval W=Hl (Ic gf) fa lb) (hF:j.fn gf) (Z:∀V f,(Xa gf V).run P f=Je (.enter gf V) f)
 (s:∀(d:D) (a:Xh->QV Code->Loop) (e:L),d=(f:D)+1->(e:D)=(f:D)+2->T f f e->e.heap[d]?=IK (a NG J)->e.heap[(f:D)]?=Kc (M [])->
  xV P j d a O z K o.tmps->
  CallsIn j (u-1) P gf (fa++#[Hl (.yield d) #[] #[]]++lb) e λp n=>(∃X,p=ι X)/\
   ∃t,n.heap[d]?=IK (a (if t.isNone then NG else .done) t)/\
    mq j u P U {o with defers:={target:=.collected f,args:=#[]}::o.defers} t (n.putObj d (IK (a .exhausted t)))):
 (Code.rangeFunc W O z K).wpIn j u P U o f:=
 Cn y b w hF Z λr v=>s _ (rec f r o.tmps O z K) _ A (tn ..) (rN ..) (wB ..) (tp ..) λ_ _ _ _ g x c=>zG v x g c
end
section
variable {F:Fence}{n:Nat}{P:Program}{ops:Array Le}{md:Region.Mode}{C:ν->Prop}
def nI (f:Le):Bool:=match f.op with
 |.defer _=>X
 |_=>U
def Cp {j:Le}(f:nI j=U):∀b,j.op≠.defer b:=λb d=>by
 unfold nI at f;rw[d] at f;cases f
def Oper.qO {o:Le}{f:Act}{A:Act->Prop}{J:Act->L->Prop}{K:Exit->Act->L->Prop}{t:L}(hd:nI o=U)(u:C t)(z:∀f g,C g->A f->J f g)
 (M:o.askedIn F P f C) (V:o.quietIn F n P f C A):o.wpIn F n P f t J K:=by
 let⟨e,p,a⟩:=V;have j:=p t u;unfold Oper.quietAtIn at j;unfold Oper.wpIn;refine⟨M t u,?_⟩;rw[Oper.semAt_plain F _ _ (Cp hd)];generalize (Xb f.eval o).run P t=O at *;cases O with
 |ok m g=>
  cases m<;>simp only[Oper.quietUponIn] at j<;>simp only[Oper.uponIn];case value Z=>
   let⟨c,h⟩:=j;rw[c,h];exact z _ _ u a
  case skip=>
   let⟨c,h⟩:=j;rw[c,<-h];exact z _ _ u a
  case enter X W=>
   let⟨c,hd,r⟩:=j;rw[c];exact⟨hd,r.m λb d ⟨s,v⟩=>by subst s;exact z _ _ v a⟩
 |halt m g=>simp only[Oper.quietUponIn] at j
def oK {M:D}{f:Act}{J:Act->Prop}{K:Act->L->Prop}{V:Exit->Act->L->Prop}{A:L}(hd:∀z∈ops.toList,nI z=U)(o:C A)(t:∀f O,C O->J f->K f O)
 (a:qOpIn F n P ops C M J f):wpOpIn F n P ops V M K f A:=by
 unfold qOpIn at a;unfold wpOpIn;split
 .rename_i j;simp only[j] at a;exact t _ _ o a
 rename_i z j;simp only[j] at a;let⟨l,a⟩:=a;split
 .rename_i u;simp only[u,if_true] at a;exact Oper.qO (hd z (by rw[<-IQ] at j;exact Gl j)) o t l a
 rename_i u;simp only[u] at a;exact⟨l A o,t _ _ o a⟩
def jj {Q:Act->Prop}{j:Exit->Act->L->Prop}(hd:∀o∈ops.toList,nI o=U)(f:∀a c,C c->Q a->j .normal a c):∀(d:D) (h:QF Bool) (a:Act) (c:L),C c->
 wpAnyQIn F n P md ops C Q d h a->wpAnyIn F n P md ops j d h a c
 |0,_,_,_,e,b=>⟨b.1,f _ _ e b.2⟩
 |d+1,_,_,_,e,b=>⟨λg=>f _ _ e (b.1 g),λk l=>oK hd e (λi p m=>jj hd f d _ i p m) (b.2 k l)⟩
def pq {id:D}{o:Exit->Act->L->Prop}{t:Act}{j:L}{f:E Le}(z:P.follows .mixedOrders=U)(u:Region.lexB .any f.toArray=U)(hd:f.all nI=U)
 (g:wpQuietIn F n P f.toArray (λa=>∃n,a=j.drewN n) (λb=>∀a,(∃n,a=j.drewN n)->o .normal b a) f t):(Code.region id f.toArray U).wpIn F n P o t j:=by
 simp only[Region.lexB,Jc] at u;refine wpIn_region_any z (jj (C:=λa=>∃n,a=j.drewN n) (Q:=λb=>∀a,(∃n,a=j.drewN n)->o .normal b a) (λl c=>LN.1 hd l (sU c)) (λ_ a k g=>g a k) _ _ _ _ ⟨1,A⟩ ?_);have:=wpAnyQIn_lex (F:=F) (n:=n) (C:=λa=>∃n,a=j.drewN n) (md:=.any) u.1 f.toArray.toList 0 (Array.replicate f.toArray.size X) t R (sU u.2) (sU g);simpa using this
end
namespace Nib
def rP (j o:L):Prop:=∃f,o=j.drewN f
def rP.bQ (f:L):rP f f:=⟨0,A⟩
def rP.cI (f:rP g s)(n:D):rP g (s.drewN n):=by
 obtain⟨j,rfl⟩:=f;exact⟨j+n,World.drewN_drewN _ _ _⟩
def bF (f:E QO):Bool:=f.all (λa=>a<=15)
def at_list (f:w<k.size):k.data.toList[w]'(by simpa using f)=k[w]:=by
 rw[Array.getElem_toList];rfl
def ie (f:w<k.size):k.data.toList.take (w+1)=k.data.toList.take w++[k[w]]:=by
 rw[JO (sU f),at_list f]
def pr (f:B)(j:f.size<=w):f.data.toList.take w=f.data.toList:=Hr (sU j)
def Cq {j:E QO}{c:QO}(f:bF j=U)(o:c.toNat<=15):bF (j++[c])=U:=by
 unfold bF at f ⊢;rw[List.all_append,f];simp[Ki];omega
def Rm {l:E QO}{k:D}(f:k<(l:D))(j:15<l[k].toNat):bF l=X:=by
 rw[bF,List.all_eq_false];exact⟨l[k],NL f,by simp[Ki];omega⟩
theorem ig (f:B)(J:L)(P:f.size<=4000000):Y N 281 #[f] J λi m=>i=z (bF f.data.toList)/\m=J:=by
 go_enter func281,ntmps281;go_wp2;go_loop [3,6] (λ_ a=>∃j:D,j<=f.size/\a=G j/\Φ (bF (f.data.toList.take j)=U)) (λ_ a=>f.size-(QI a).toNat)
 .exact⟨0,QK,A,by rw[Φ];rfl⟩
 obtain⟨j,O,rfl,u⟩:=hrel;by_cases t:j<f.size
 .by_cases M:15<f[j].toNat
  .have K:(15:C)<((f[j].toNat:D):C):=H;have o:=F (Rm (l:=f.data.toList) (k:=j) (sU t) (by rwa[at_list t]));go_wp2;go_ret;rw[o.o];exact⟨A,A⟩
  have K:((f[j].toNat:D):C)<=15:=H;have o:=F (Cq u.o (c:=f[j]) H);go_wp2;go_round
  .exact⟨j+1,H,gN,by rw[Φ,ie t];exact o.o⟩
  simp[QI];omega
 have o:Φ (bF f.data.toList=U):=by
  have:=u.o;rwa[pr f H] at this
 go_wp2;go_ret;rw[o.o];exact⟨A,A⟩
def bT:E QO->E QO->D
 |a::c,b::d=>if a=b then bT c d+1 else 0
 |_,_=>0
def qP:∀(a:D) (c B:E QO),a<=(c:D)->a<=(B:D)->c.take a=B.take a->(a=(c:D)\/a=(B:D)\/c[a]?≠B[a]?)->bT c B=a
 |0,c,B,_,_,_,g=>by
  match c,B with
  |[],_=>simp[bT]
  |_::_,[]=>simp[bT]
  |h::k,i::l=>
   have:h≠i:=by rcases g with b|b|b<;>simp at b;exact b
   simp[bT,this]
 |a+1,h::k,i::l,d,e,b,g=>by
  simp only[GW,GN] at b;obtain⟨rfl,b⟩:=b;have:=qP a k l (sU d) (sU e) b (sU g);simp[bT,this]
 |a+1,[],_,d,_,_,_=>by simp at d
 |a+1,_::_,[],_,e,_,_=>by simp at e
theorem jG (o t:B)(Z:L)(m:o.size<=4000000)(n:t.size<=4000000):Y N 321 #[O o,O t] Z λs y=>s=G (bT o.data.toList t.data.toList)/\rP Z y:=by
 let⟨d,v⟩:∃d:D,d=min o.size t.size:=⟨_,A⟩;have w:d<=o.size:=H;have x:d<=t.size:=H;have p:o.data.toList.take d=t.data.toList.take d->bT o.data.toList t.data.toList=d:=λg=>
  qP d _ _ (sU w) (sU x) g QB
 have q:=F p;clear p;rcases(H:o.size<=t.size/\o.size=d\/t.size<o.size/\t.size=d) with⟨a,M⟩|⟨a,M⟩
 all_goals
  clear v;have K:=F M;clear M;go_enter func321,ntmps321;go_wp2;go_loopw [6,13] (λ_ k wr=>∃f:D,f<=d/\k=G f/\Φ (o.data.toList.take f=t.data.toList.take f)/\rP Z wr) (λ_ k _=>d-(QI k).toNat)
  .exact⟨0,QK,A,by rw[Φ];rfl,rP.bQ _⟩
  obtain⟨f,i,rfl,P,hd⟩:=hrel;by_cases l:f<d
  .have V:f<o.size:=H;have W:f<t.size:=H;have c:(0:C)<=(f:C):=H;have e:(f:C)<(o.size:C):=H;have h:(f:C)<(t.size:C):=H;by_cases u:o[f]=t[f]
   .have t1:(((o[f].toNat:D):C) !=((t[f].toNat:D):C))=X:=by rw[u];simp
    have z:Φ (o.data.toList.take (f+1)=t.data.toList.take (f+1)):=by
     rw[Φ,ie V,ie W,P.o,u]
    clear u;go_wp2_with fail;go_quiet (fail);go_wp2;go_roundw
    .exact⟨f+1,H,gN,z,hd.cI _⟩
    simp[QI];omega
   have t1:(((o[f].toNat:D):C) !=((t[f].toNat:D):C))=U:=by
    rw[bne_iff_ne];intro g;exact u (Lu.1 H)
   have z:Φ (bT o.data.toList t.data.toList=f):=
    qP f _ _ QB QB P.o (j (j (by
     rw[Gf (sU V),Gf (sU W),at_list V,at_list W]
     exact λg=>u (Gm g))))
   clear u;go_wp2_with fail;go_quiet (fail);go_wp2;go_ret;exact⟨by rw[z.o];rfl,hd.cI _⟩
  have J:f=d:=H;have z:Φ (bT o.data.toList t.data.toList=f):=by rw[Φ,q.o (J▸P.o),J]
  first
   |have b:(o.size:C)<=(f:C):=oA K.o
   |have b:(t.size:C)<=(f:C):=oA K.o
  have r:=F J;clear J;go_wp2;go_ret;refine⟨?_,hd⟩;rw[z.o,r.o,<-K.o];rfl
def wA:(N.info? 5).map (λa=>(a.zero,a.size,a.bytes))=M (M (Z Ix 0),1,1):=e
def fZ (f:E QO):E S:=f.map (λa=>Z Ix ((a.toNat:D):C))
def oq (f j:E QO):fZ (f++j)=fZ f++fZ j:=Io
def gK (f:E QO):(fZ f:D)=(f:D):=Hp _
def cU (f:E QO):E QO:=f.flatMap (λa=>[a/16,a%16])
def xX (f j:E QO):cU (f++j)=cU f++cU j:=Hj
def pt (f:E QO):(cU f:D)=2*(f:D):=by
 induction f with
 |nil=>rfl
 |cons c d b=>simp[cU,GV,Gk,Gx,Hy] at b ⊢;omega
def zO (f:QO):[Z Ix (((f.toNat:D):C)/16),Z Ix (bits .and Ix ((f.toNat:D):C) 15)]=fZ [f/16,f%16]:=by
 have o:f.toNat<256:=f.toNat_lt;have j:bits .and Ix ((f.toNat:D):C) 15=((f.toNat%16:D):C):=by
  have:=u8_and_nat f.toNat 15 o H;rw[show((15:D):C)=15 from A] at this;rw[this,show(15:D)=2^4-1 from A,Nat.and_two_pow_sub_one_eq_mod]
 rw[j];simp[fZ,Ng,Nf]
def zP {f:E QO}(j:g.ownsRow w 5 1 (P q a i) a (fZ f)):(f:D)=a/\
 ∀c,c<a->g (q,0+c)=Z Ix ((f.map (λb=>((b.toNat:D):C))).getD c 0):=by
 have o:(f:D)=a:=by have:=j.1;rw[gK] at this;omega
 refine⟨o,λc k=>?_⟩;rw[GU,j.cellAt c H];simp[fZ,List.getD,(H:c<(f:D))]
def bK (f:E QO):B:=⟨f.toArray⟩
def wH (f:E QO):(bK f).data.toList=f:=rfl
def FZ (f:E QO):strOfNums (f.map (λb=>((b.toNat:D):C)))=bK f:=by
 unfold strOfNums bK;congr 2;rw[Js];conv=>rhs;rw[<-List.map_id f]
 refine Kz λb _=>?_;simp
def oL {f:E QO}(j:g.ownsRow w 5 1 (P q a i) a (fZ f)):
 (convert 288 9 (P q a i)).run N g=Je (O (bK f)) g:=by
 let⟨c,b⟩:=zP j;rw[<-FZ];exact run_convert_bytes_arg g 288 5 Jm Pz q 0 a i _ (sU c) b 9 Jh
theorem ga (b:B)(j:ν)(R:b.size<=4000000):τ γ 173 #[O b] j λy F=>y=O (bK (cU b.data.toList))/\T j j F:=by
 let⟨p,a,k,l,m⟩:=Xv wA;go_enter func173,ntmps173;go_wp2_with (at_make;apply wpList_make_own _ A _ _ 288 A (j:D) 5 p (Z Ix 0) 1 Jm a k l u u _ (2*b.size) A A ?c1 ?c2 ?c3 ?c4);case c1=>omega
 case c2=>rw[m];omega
 case c3=>unfold Ie;omega
 case c4=>omega
 intro i o q;have W:T j j i:=(Ge _ j).grown q QD (λb c=>by cases c);go_wp2_with fail;go_loopw [3,4,11] (λd _ h wr=>∃f:D,f<=b.size/\h=G f/\(∃t K,d=P (M ⟨t,0,J⟩) (2*f) K/\wr.ownsRow (j:D) 5 1 (P (M ⟨t,0,J⟩) (2*f) K) (2*f) (fZ (cU (b.data.toList.take f))))/\T j j wr) (λ_ _ h _=>b.size-(QI h).toNat)
 .exact⟨0,QK,A,⟨_,_,A,o⟩,W⟩
 obtain⟨f,N,rfl,⟨t,K,rfl,o⟩,z⟩:=hrel;by_cases r:f<b.size
 .have S:(0:C)<=(f:C):=H;have Y:(f:C)<(b.size:C):=H;have g:=z.z;have w:Φ (fZ (cU (b.data.toList.take f))++[Z Ix (((b[f].toNat:D):C)/16),Z Ix (bits .and Ix ((b[f].toNat:D):C) 15)]=fZ (cU (b.data.toList.take (f+1)))):=by
   rw[Φ,zO,<-oq,ie r,xX];rfl
  have L:=o.lt t A;go_wp2_with fail;go_region_law (apply step_append_lies _ rf _ _ _ rf (j:D) 5 p _ 1 1 Jm a k l m A H _ (2*f) _ rf ((o.alloc _).drew) ⟨(wr:D),0,J⟩ 2 2 [Z Ix (((b[f].toNat:D):C)/16),Z Ix (bits .and Ix ((b[f].toNat:D):C) 15)] rf rf (World.news_of_block (cs:=#[Z Ix (((b[f].toNat:D):C)/16),Z Ix (bits .and Ix ((b[f].toNat:D):C) 15)]) (t:=5) (fr:=(0,0)) (Xm wr _)) QA H (by unfold Ie;omega) H QB ((wr:D)+1) sm;intro n x v V U X s)
  all_goals
   rw[w.o] at V;have e:T j j v:=((z.a g _).d).grown U QB (λh a=>by simp[Ψ,Gd] at a;omega);clear o U X s a k l m;go_wp2;go_roundw
   .exact⟨f+1,H,gN,⟨n,x,A,V⟩,e⟩
   simp[QI];omega
 skip;have I:=oL o;rw[pr b H] at I;clear o;go_wp2;go_ret;exact⟨A,z⟩
def bJ {w:L}{f:D}{j:D×D}(t:w.heap[f]?=K h p j)(z:D)(o:S):(w.setCell (f,z) o).heap[f]?=K (h.setIfInBounds z o) p j:=by
 have u:=aw t;have A:w.heap[f]=K h p j:=by simpa[IB u] using t
 show(w.heap.modify f _)[f]?=_;rw[IB (by simpa using u),Kl,A];rfl
def xY (f:g.ownsRow w p 1 (P q a a) a b):g.heap[q]?=K b.toArray p (0,0):=by
 rcases f.2 with⟨f,_⟩|⟨A,u,z,j,_,o,_,_,J,t⟩
 .cases f
 simp only[Gy,Gd,GS] at j;obtain⟨⟨rfl,_⟩,_,rfl⟩:=j;rw[o,<-t,Hr QB]
def pv (o:g.heap[w]?=K b.toArray p (0,0))(f:(b:D)=q)(t:q<=Ie):g.ownsRow 0 p 1 (P w q q) q b:=
 ⟨H,j ⟨w,q,b.toArray,A,QK,o,d,t,by simp[f],by simp[Hr,f]⟩⟩
def cd {xs:E S}(j:g.heap[w]?=K xs.toArray p (0,0))(f:D):g (w,f)=xs[f]?:=by
 simp[Iz,j]
def aI (f:g.heap[w]?=K h p (0,0))(j:D):g.frozen? (w,j)=X:=by
 simp[World.frozen?,f]
def zQ (f j:QO):QO:=f*16|||j
def dQ:E QO->E QO
 |a::b::c=>zQ a b::dQ c
 |_=>[]
def tE:∀(b:D) (e:E QO) (c d:QO),(e:D)=2*b->dQ (e++[c,d])=dQ e++[zQ c d]
 |0,[],_,_,_=>rfl
 |b+1,h::i::g,c,d,a=>by
  simp only[Hz,dQ];rw[tE b g c d (by simp at a;omega)]
 |b+1,[],_,_,a=>by simp at a
 |b+1,[_],_,_,a=>by simp at a;omega
 |0,_::_,_,_,a=>by simp at a
def lG:∀(b:D) (c:E QO),(c:D)=2*b->(dQ c:D)=b
 |0,[],_=>rfl
 |b+1,e::g::d,a=>by
  simp only[dQ,Gx];rw[lG b d (by simp at a;omega)]
 |b+1,[],a=>by simp at a
 |b+1,[_],a=>by simp at a;omega
 |0,_::_,a=>by simp at a
def Rn (f j:QO):bits .or Ix (((f.toNat:D):C)*16%256) ((j.toNat:D):C)=(((zQ f j).toNat:D):C):=by
 have o:(((f.toNat:D):C)*16%256)=((f.toNat*16%256:D):C):=H;rw[o,u8_or_nat _ _ H j.toNat_lt];rw[zQ,UInt8.toNat_or,UInt8.toNat_mul];rfl
def Ha (f:E S)(j:D)(t o:S):(f++Jr (j+1) t).set (f:D) o=(f++[o])++Jr j t:=by
 rw[IC _ _ d,PG,Lq,Gw];simp
def mE (f:E QO)(j:D):E S:=fZ f++Jr j (Z Ix 0)
def Hb {f:E QO}(j:QO)(o:(f:D)=q):(mE f (w+1)).set q (Z Ix ((j.toNat:D):C))=mE (f++[j]) w:=by
 subst o;unfold mE;rw[<-gK f,Ha,oq];rfl
def xZ (f:E QO)(j:D):(mE f j:D)=(f:D)+j:=by simp[mE,gK]
def Ro (f:2*w+1<k.size):k.data.toList.take (2*(w+1))=k.data.toList.take (2*w)++[k[2*w],k[2*w+1]]:=by
 rw[(H:2*(w+1)=2*w+1+1),ie f,ie (by omega:2*w<k)];simp
def Cr (f:B)(d:w=f.size/2):dQ (f.data.toList.take (2*w))=dQ f.data.toList:=by
 by_cases u:f=2*w
 .rw[pr f H]
 have t:2*w<f:=H;have o:f.data.toList=f.data.toList.take (2*w)++[f[2*w]]:=by
  rw[<-ie t,pr f H]
 rw[o];have j:(f.data.toList.take (2*w))=2*w:=by
  have:(f.data.toList:D)=f:=R;simp[GR];omega
 generalize f.data.toList.take (2*w)=c at j;have:∀(a:D) (c:E QO) (e:QO),c=2*a->dQ (c++[e])=dQ c:=by
  intro a;induction a with
  |zero=>intro c e d;match c,d with|[],_=>rfl
  |succ a b=>
   intro c e d;match c,d with
   |m::n::k,d=>simp only[Hz,dQ];rw[b k e (by simp at d;omega)]
 rw[Ja H,Hr H,this w c _ j]
theorem qQ (j:B)(o:ν)(ae:j.size<=4000000):τ γ 282 #[O j] o λh N=>h=O (bK (dQ j.data.toList))/\T o o N:=by
 let⟨x,a,e,v,w⟩:=Xv wA;let⟨c,r⟩:∃c:D,c=j/2:=⟨_,A⟩;have J:=F r;have ab:2*c<=j:=H;clear r;go_enter func282,ntmps282;go_wp2_with (at_make;apply wpList_make_full _ A _ _ 288 A o 5 x (Z Ix 0) 1 Jm a e v u u _ _ c A A ?c1 ?c2 ?c3 ?c4 ?c5);case c1=>have:=J.o;omega
 case c2=>have:=J.o;omega
 case c3=>rw[w];omega
 case c4=>unfold Ie;omega
 case c5=>omega
 intro V t X;have m:T o o V:=(Ge _ o).grown X QD (λal i=>by cases i);have P:=xY t;rw[toList_madeCells_one] at P;have Y:Φ (V.heap[(o:D)]?=K (mE [] c).toArray 5 (0,0)):=by simpa[Φ,mE,fZ] using P
 clear t X P a e v w;go_wp2_with fail;go_loopw [4,11] (λ_ k wr=>∃f:D,f<=c/\k=ϑ f/\Φ (wr.heap[(o:D)]?=K (mE (dQ (j.data.toList.take (2*f))) (c-f)).toArray 5 (0,0))/\T o o wr) (λ_ k _=>c-(QI k).toNat)
 .exact⟨0,QK,A,Y,m⟩
 obtain⟨f,a8,rfl,z,W⟩:=hrel;by_cases a9:f<c
 .have I:2*f+1<j:=H;have a3:2*f<j:=H;have b:(j.data.toList:D)=j:=R;have U:(j.data.toList.take (2*f))=2*f:=by rw[GR];omega
  have s:Φ ((dQ (j.data.toList.take (2*f)))=f):=lG f _ U;have G:Φ (dQ (j.data.toList.take (2*(f+1)))=dQ (j.data.toList.take (2*f))++[zQ j[2*f] j[2*f+1]]):=by
   rw[Φ,Ro I,tE f _ _ _ U]
  clear U b;have n:=F (Rn j[2*f] j[2*f+1]);have x:(0:C)<=(f:C):=H;have af:(f:C)<(c:C):=H;have ag:u.wrap (2*(f:C))=2*(f:C):=QQ H;have ah:(0:C)<=2*(f:C):=H;have ai:2*(f:C)<(j:C):=H;have aj:u.wrap (2*(f:C)+1)=2*(f:C)+1:=QQ H;have ak:(0:C)<=2*(f:C)+1:=H;have a0:2*(f:C)+1<(j:C):=H;have a1:(2*(f:C)).toNat=2*f:=H;have a2:(2*(f:C)+1).toNat=2*f+1:=H;let⟨a5,a4⟩:∃L,wr (o,f)=δ L:=by
   rw[cd z.o];exact⟨_,Gf (by rw[xZ,s.o];omega)⟩
  have a6:=aI z.o f;go_wp2_with fail;go_region;have p:=W.s (p:=(o,f)) QD (Z Ix (bits BinOp.or Ix (((j[2*f].toNat:D):C)*16%256) ((j[2*f+1].toNat:D):C)));have y:=bJ z.o f (Z Ix (bits BinOp.or Ix (((j[2*f].toNat:D):C)*16%256) ((j[2*f+1].toNat:D):C)));have g:Φ ((wr.setCell (o,f) (Z Ix (bits BinOp.or Ix (((j[2*f].toNat:D):C)*16%256) ((j[2*f+1].toNat:D):C)))).heap[(o:D)]?=K (mE (dQ (j.data.toList.take (2*(f+1)))) (c-(f+1))).toArray 5 (0,0)):=by
   rw[Φ,y,n.o,G.o,<-Hb _ s.o];rw[(H:c-f=c-(f+1)+1)];simp
  have S:=F p;go_wp2;go_roundw
  .exact⟨f+1,H,gN,g,S.o.d⟩
  simp[QI];omega
 have q:Φ (dQ (j.data.toList.take (2*f))=dQ j.data.toList):=Cr j (oA J.o);have t:wr.ownsRow 0 5 1 (ο o c c) c (fZ (dQ j.data.toList)):=by
  have M:=z.o;rw[q.o,(H:c-f=0)] at M;have l:mE (dQ j.data.toList) 0=fZ (dQ j.data.toList):=by simp[mE]
  rw[l] at M;refine pv M ?_ (by unfold Ie;omega);rw[gK,<-q.o];have b:(j.data.toList:D)=j:=R;rw[lG f _ (by rw[GR];omega)];omega
 have a7:=oL t;go_wp2;go_ret;exact⟨A,W⟩
def gm (f:E QO):Bool:=LH (f.length%2=0)&&bF f
def pw (f:E QO):E QO:=if gm f=U then dQ f else []
def Rq {f:E QO}(j:gm f=U):pw f=dQ f:=QU j
def Eo {f:E QO}(j:gm f=X):pw f=[]:=by rw[pw,j];rfl
theorem px (j:B)(J:L)(W:j.size<=4000000):Y N 230 #[j] J λe a=>e=f #[O (bK (pw j.data.toList)),z (gm j.data.toList)]/\T J J a:=by
 have P:(j.data.toList:D)=j.size:=R;by_cases M:j.size%2=0
 .have t1:((j.size:C)%2 !=0)=X:=QB;have t:gm j.data.toList=bF j.data.toList:=by rw[gm,P,Xr M,Bool.true_and]
  have u:=ig j J W;cases V:bF j.data.toList with
  |true=>
   rw[V] at u t;have K:=F u;have o:=F t;go_enter func230,ntmps230;go_wp2_with fail;apply K.o.m;rintro e Z ⟨rfl,rfl⟩;go_wp2_with fail;apply(qQ j Z W).m;rintro e p ⟨rfl,n⟩;go_wp2;go_ret2;rw[o.o,Rq o.o];exact⟨A,n⟩
  |false=>
   rw[V] at u t;have K:=F u;have o:=F t;go_enter func230,ntmps230;go_wp2_with fail;apply K.o.m;rintro e Z ⟨rfl,rfl⟩;go_wp2;go_ret2;rw[o.o,Eo o.o];exact⟨A,QG⟩
 have t1:((j.size:C)%2 !=0)=U:=QB;have t:gm j.data.toList=X:=by rw[gm,P,Xx M,Bool.false_and]
 have o:=F t;go_enter func230,ntmps230;go_wp2;go_ret2;rw[o.o,Eo o.o];exact⟨A,QG⟩
def Rr (f j:Bool):QO:=(if j then 1 else 0)+(if f then 2 else 0)
theorem py (f j:Bool)(o:L):Y N 343 #[f,j] o λd e=>d=Z Ix (((Rr f j).toNat:D):C)/\e=o:=by
 cases f<;>cases j;all_goals
  go_enter func343,ntmps343;go_wp2;go_ret;exact⟨A,A⟩
def Ct {w:L}{g:D}{l:E QO}(f:w.heap[g]?=K (fZ l).toArray 5 (0,0))(j:(l:D)<=4000000):
 (convert 288 9 (P g (l:D) (l:D))).run N w=Je (O (bK l)) w:=
 oL (pv f (gK l) (by unfold Ie;omega))
def Hc (f:E QO):(bK f).size=(f:D):=by simp[bK,ByteArray.size]
def tF (f j:B):(f++j).data.toList=f.data.toList++j.data.toList:=by
 rw[ByteArray.data_append,Array.toList_append]
def vU (f:E QO):Bool:=LH (f.length%2=1)
theorem Ep (u:D)(f:B)(o:L)(P:f.size<=4000000)(M:o.heap[u]?=K #[f] 9 (0,0)):
 Y N 342 #[V u] o λg i=>g=z (vU f.data.toList)/\i=o:=by
 have J:(f.data.toList:D)=f.size:=R;have O:=cell_of_one M;by_cases t:f.size%2=1
 .have t1:((f.size:C)%2==1)=U:=QB;have j:Φ (vU f.data.toList=U):=by rw[vU,Φ,J,Xr t]
  go_enter func342,ntmps342;go_wp2;go_ret;rw[j.o];exact⟨A,A⟩
 have t1:((f.size:C)%2==1)=X:=QB;have j:Φ (vU f.data.toList=X):=by rw[vU,Φ,J,Xx t]
 go_enter func342,ntmps342;go_wp2;go_ret;rw[j.o];exact⟨A,A⟩
def dX (f:E QO)(j:Bool):E QO:=Rr j (vU f)::(if vU f=U then [] else [0])
def ih (f:E QO)(j:Bool):E QO:=if bF f=U then dQ (dX f j++f) else []
theorem hK (j:B)(u:Bool)(b:L)(n:j.size<=2000000):Y N 309 #[j,u] b λd i=>d=f #[O (bK (ih j.data.toList u)),υ (bF j.data.toList)]/\T b b i:=by
 have v:T b b (b.alloc (K #[j] 9)):=QG.a QD _;have x:(b.alloc (K #[j] 9)).heap[(b:D)]?=K #[j] 9 (0,0):=Xm _ _;have rS:∀(a:Fn) (first r:Q S) (b:L),(Instr.makeFunc a first r).run N b=Je (Hl a first r) b:=λ_ _ _ _=>rfl;have M:=ig j (b.alloc (K #[j] 9)) H;cases U:bF j.data.toList with
 |false=>
  rw[U] at M;have W:=F M;have H0:=F U;go_enter func309,ntmps309;go_wp2_with fail;apply W.o.m;rintro d t ⟨rfl,rfl⟩;go_wp2;go_ret2;rw[ih,H0.o];exact⟨A,v⟩
 |true=>
  rw[U] at M;have W:=F M;have H0:=F U;have h:=Ep (b:D) j (b.alloc (K #[j] 9)) H x;have k:=F h;go_enter func309,ntmps309;go_wp2_with fail;apply W.o.m;rintro d t ⟨rfl,rfl⟩;go_wp2_with fail;apply k.o.m;rintro d t ⟨rfl,rfl⟩;go_wp2_with fail;apply(py u (vU j.data.toList) _).m;rintro d t ⟨rfl,rfl⟩;generalize g:Rr u (vU j.data.toList)=o;have V:=F g;have m:(convert 288 9 (P ((b:D)+1,0) 1 1)).run N ((b.alloc (K #[j] 9)).alloc (K #[Z Ix ((o.toNat:D):C)] 5))=Je (O (bK [o])) ((b.alloc (K #[j] 9)).alloc (K #[Z Ix ((o.toNat:D):C)] 5)):=by
   have:=Ct (w:=(b.alloc (K #[j] 9)).alloc (K #[Z Ix ((o.toNat:D):C)] 5)) (g:=(b:D)+1) (l:=[o]) (by rw[(R:(b:D)+1=(b.alloc (K #[j] 9):D)),Xm];rfl) R;exact this
  have p:((b.alloc (K #[j] 9)).alloc (K #[Z Ix ((o.toNat:D):C)] 5)).heap[(b:D)]?=K #[j] 9 (0,0):=(QP R).t x;have J:T b b ((b.alloc (K #[j] 9)).alloc (K #[Z Ix ((o.toNat:D):C)] 5)):=v.a R _;have e:=F (Ep (b:D) j _ H p);go_wp2_with fail;apply e.o.m;rintro d t ⟨rfl,rfl⟩;have I:=cell_of_one p;generalize ((b.alloc (K #[j] 9)).alloc (K #[Z Ix ((o.toNat:D):C)] 5))=t at J I p ⊢;generalize G:vU j.data.toList=l at V;have s:=F G;have w:(bK [o]).size<=1:=by rw[Hc];simp
  cases l with
  |true=>
   have q:Φ (dQ (bK [o]++j).data.toList=ih j.data.toList u):=by
    rw[Φ,tF,wH];rw[ih,dX,H0.o,s.o,V.o];rfl
   go_wp2_with fail;apply(qQ (bK [o]++j) t (by rw[aA];omega)).m;rw[q.o];rintro d c ⟨rfl,X⟩;go_wp2;go_ret2;exact⟨A,J.t (X.m J.z)⟩
  |false=>
   have y:(bK [o]++(⟨#[0]⟩:B)++j).size<=4000000:=by
    rw[aA,aA,show(⟨#[0]⟩:B).size=1 from A];omega
   have q:Φ (dQ (bK [o]++(⟨#[0]⟩:B)++j).data.toList=ih j.data.toList u):=by
    rw[Φ,tF,tF,wH];rw[ih,dX,H0.o,s.o,V.o];rfl
   go_wp2_with fail;apply(qQ (bK [o]++(⟨#[0]⟩:B)++j) t y).m;rw[q.o];rintro d c ⟨rfl,X⟩;go_wp2;go_ret2;exact⟨A,J.t (X.m J.z)⟩
end Nib
namespace Hs
namespace Sh
def agp {j:Type}(o:D)(f:D->j):j:=match o with|0=>f 0|c+1=>f (c+1)
def xo (f j:D):D:=(f^^^j)%4294967296
def an (f j:D):D:=(f&&&j)%4294967296
def oo (f j:D):D:=(f|||j)%4294967296
def ad (f j:D):D:=(f+j)%4294967296
def nt (f:D):D:=xo 4294967295 f
def ky (j f:D):D:=oo (j*2^ (32-f)%4294967296) (j/2^f)
def wd (x0 f j o:D):D:=oo (oo (oo (x0*16777216%4294967296) (f*65536%4294967296)) (j*256%4294967296)) (o%4294967296)
def first(f:E D):D->E D
 |0=>[]
 |b+1=>first f b++[wd (f.getD (4*b) 0) (f.getD (4*b+1) 0) (f.getD (4*b+2) 0) (f.getD (4*b+3) 0)]
def s0 (f:D):D:=xo (xo (ky f 7) (ky f 18)) (f/8)
def s1 (f:D):D:=xo (xo (ky f 17) (ky f 19)) (f/1024)
def Er (j:E D)(f:D):D:=ad (ad (ad (j.getD (f-16) 0) (s0 (j.getD (f-15) 0))) (j.getD (f-7) 0)) (s1 (j.getD (f-2) 0))
def fk (f:E D):D->E D
 |0=>first f 16
 |b+1=>fk f b++[Er (fk f b) (16+b)]
def gE (f:E D):E D:=fk f 48
def t1 (f o t j u z:D):D:=ad (ad (ad (ad j (xo (xo (ky f 6) (ky f 11)) (ky f 25))) (xo (an f o) (an (nt f) t))) u) z
def t2 (f j o:D):D:=ad (xo (xo (ky f 2) (ky f 13)) (ky f 22)) (xo (xo (an f j) (an f o)) (an j o))
def rnd (j o:D)(f:E D):E D:=
 ad (t1 (f.getD 4 0) (f.getD 5 0) (f.getD 6 0) (f.getD 7 0) j o) (t2 (f.getD 0 0) (f.getD 1 0) (f.getD 2 0))::
  [f.getD 0 0,f.getD 1 0,f.getD 2 0,ad (f.getD 3 0) (t1 (f.getD 4 0) (f.getD 5 0) (f.getD 6 0) (f.getD 7 0) j o),f.getD 4 0,f.getD 5 0,f.getD 6 0]
def cubes:E D:=[1116352408,1899447441,3049323471,3921009573,961987163,1508970993,2453635748,2870763221,3624381080,310598401,607225278,1426881987,1925078388,2162078206,2614888103,3248222580,3835390401,4022224774,264347078,604807628,770255983,1249150122,1555081692,1996064986,2554220882,2821834349,2952996808,3210313671,3336571891,3584528711,113926993,338241895,666307205,773529912,1294757372,1396182291,1695183700,1986661051,2177026350,2456956037,2730485921,2820302411,3259730800,3345764771,3516065817,3600352804,4094571909,275423344,430227734,506948616,659060556,883997877,958139571,1322822218,1537002063,1747873779,1955562222,2024104815,2227730452,2361852424,2428436474,2756734187,3204031479,3329325298]
def lH (j f:E D):D->E D
 |0=>f
 |a+1=>rnd (cubes.getD a 0) (j.getD a 0) (lH j f a)
def Yt (f j:E D):E D:=List.zipWith ad f (lH (gE j) f 64)
def H0:E D:=[1779033703,3144134277,1013904242,2773480762,1359893119,2600822924,528734635,1541459225]
def jo (f:E D)(a:D):(first f a:D)=a:=by
 induction a with
 |zero=>rfl
 |succ a b=>simp[first,b]
def ff (f:E D)(a:D):(fk f a:D)=16+a:=by
 induction a with
 |zero=>exact jo f 16
 |succ a c=>simp[fk,c];omega
def kz (f:E D):(gE f:D)=64:=ff f 48
def kA (o f:E D)(j:(f:D)=8)(a:D):(lH o f a:D)=8:=by
 cases a with
 |zero=>exact j
 |succ a=>rfl
def oM (f o:E D)(j:(f:D)=8):(Yt f o:D)=8:=by
 rw[Yt,List.length_zipWith,j,kA _ _ j];rfl
structure St where
 H:E D
 gr:E D
def fb (f:St)(j:D):St:=if f.gr.length=63 then⟨Yt f.H (f.gr++[j]),[]⟩ else⟨f.H,f.gr++[j]⟩
def ew (j:St)(f:E D):St:=f.foldl fb j
def St.ok (f:St):Prop:=f.H.length=8/\f.gr.length<64
def Vf {j:St}(f:j.ok)(o:D):(fb j o).ok:=by
 unfold fb;split
 .exact⟨oM _ _ f.1,R⟩
 exact⟨f.1,oS f.2⟩
def tG {f:St}(j:f.ok)(o:E D):(ew f o).ok:=by
 induction o generalizing f with
 |nil=>exact j
 |cons e a d=>exact d (Vf j e)
def lI (o:St)(f j:E D):ew o (f++j)=ew (ew o f) j:=KY
def zR (f:St)(j:E D)(t:(f.gr:D)+(j:D)<64):ew f j=⟨f.H,f.gr++j⟩:=by
 induction j generalizing f with
 |nil=>simp[ew]
 |cons d c g=>
  simp only[Gx] at t;have o:ew f (d::c)=ew (fb f d) c:=A;rw[o];rw[fb,QT om,g _ QB];simp
def Cv (f:St)(j:E D)(o:(f.gr:D)+(j:D)=64)(z:(f.gr:D)<64):ew f j=⟨Yt f.H (f.gr++j),[]⟩:=by
 induction j generalizing f with
 |nil=>simp at o;omega
 |cons a c h=>
  simp only[Gx] at o;have u:ew f (a::c)=ew (fb f a) c:=A;rw[u];unfold fb;by_cases t:(f.gr:D)=63
  .obtain rfl:c=[]:=GH om;rw[QU t];rfl
  rw[QT t,h _ QB QB];simp
def st0:St:=⟨H0,[]⟩
def Rs:st0.ok:=⟨A,r⟩
def dB (f:D):D:=(119-f)%64
def Cw (f:D):E D:=(List.range 8).map λa=>f*8%18446744073709551616/2^ (56-8*a)%256
def ya (f j:D):E D:=128::(Jr (dB f) 0++Cw j)
def mF (f:E D):E D:=f.flatMap λa=>[a/16777216%256,a/65536%256,a/256%256,a%256]
def sum (f:St)(j:D):E D:=mF (ew f (ya f.gr.length j)).H
def of (f:E D):E D:=sum (ew st0 f) f.length
def pz (f:E D):(mF f:D)=4*(f:D):=by
 induction f with
 |nil=>rfl
 |cons d c b=>simp[mF] at b ⊢;omega
def Hd (f:E D):(of f:D)=32:=by
 rw[of,sum,pz,(tG (tG Rs f) _).1]
end Sh
def rr (j:C)(f:D):C:=bits .or Ik (j*2^ (32-f)%4294967296) (j/2^f)
theorem Zf (j:C)(f:L):Y N 268 #[Z Ik j,G 2] f λc d=>c=Z Ik (rr j 2)/\d=f:=by
 have o:bits BinOp.and If (If.wrap (-2)) 31=30:=e;go_enter KL,Kr;go_wp2;go_ret;exact⟨A,A⟩
theorem Zg (j:C)(f:L):Y N 268 #[Z Ik j,G 6] f λc d=>c=Z Ik (rr j 6)/\d=f:=by
 have o:bits BinOp.and If (If.wrap (-6)) 31=26:=e;go_enter KL,Kr;go_wp2;go_ret;exact⟨A,A⟩
theorem Zh (j:C)(f:L):Y N 268 #[Z Ik j,G 7] f λc d=>c=Z Ik (rr j 7)/\d=f:=by
 have o:bits BinOp.and If (If.wrap (-7)) 31=25:=e;go_enter KL,Kr;go_wp2;go_ret;exact⟨A,A⟩
theorem Vg (j:C)(f:L):Y N 268 #[Z Ik j,G 11] f λc d=>c=Z Ik (rr j 11)/\d=f:=by
 have o:bits BinOp.and If (If.wrap (-11)) 31=21:=e;go_enter KL,Kr;go_wp2;go_ret;exact⟨A,A⟩
theorem Vh (j:C)(f:L):Y N 268 #[Z Ik j,G 13] f λc d=>c=Z Ik (rr j 13)/\d=f:=by
 have o:bits BinOp.and If (If.wrap (-13)) 31=19:=e;go_enter KL,Kr;go_wp2;go_ret;exact⟨A,A⟩
theorem Vi (j:C)(f:L):Y N 268 #[Z Ik j,G 17] f λc d=>c=Z Ik (rr j 17)/\d=f:=by
 have o:bits BinOp.and If (If.wrap (-17)) 31=15:=e;go_enter KL,Kr;go_wp2;go_ret;exact⟨A,A⟩
theorem Vj (j:C)(f:L):Y N 268 #[Z Ik j,G 18] f λc d=>c=Z Ik (rr j 18)/\d=f:=by
 have o:bits BinOp.and If (If.wrap (-18)) 31=14:=e;go_enter KL,Kr;go_wp2;go_ret;exact⟨A,A⟩
theorem Vk (j:C)(f:L):Y N 268 #[Z Ik j,G 19] f λc d=>c=Z Ik (rr j 19)/\d=f:=by
 have o:bits BinOp.and If (If.wrap (-19)) 31=13:=e;go_enter KL,Kr;go_wp2;go_ret;exact⟨A,A⟩
theorem Vl (j:C)(f:L):Y N 268 #[Z Ik j,G 22] f λc d=>c=Z Ik (rr j 22)/\d=f:=by
 have o:bits BinOp.and If (If.wrap (-22)) 31=10:=e;go_enter KL,Kr;go_wp2;go_ret;exact⟨A,A⟩
theorem Vm (j:C)(f:L):Y N 268 #[Z Ik j,G 25] f λc d=>c=Z Ik (rr j 25)/\d=f:=by
 have o:bits BinOp.and If (If.wrap (-25)) 31=7:=e;go_enter KL,Kr;go_wp2;go_ret;exact⟨A,A⟩
def jH (f:D):Ik.wrap (f:C)=((f%4294967296:D):C):=by
 simp[IntKind.wrap,IntKind.bits,IntKind.signed]
def m32:(4294967296:D)=2^32:=rfl
def Vn (f j:D):bits .or Ik (f:C) (j:C)=((Sh.oo f j:D):C):=by
 rw[bits,Sh.oo,show Ik.bits=32 from A,Kp,Kp];simp only[BitVec.toNat_or,PB,jH];rw[m32,Nat.or_mod_two_pow,Nz,Nz,<-Nat.or_mod_two_pow]
def wI (f j:D):bits .xor Ik (f:C) (j:C)=((Sh.xo f j:D):C):=by
 rw[bits,Sh.xo,show Ik.bits=32 from A,Kp,Kp];simp only[BitVec.toNat_xor,PB,jH];rw[m32,Nat.xor_mod_two_pow,Nz,Nz,<-Nat.xor_mod_two_pow]
def ab8 (f j:D):bits .and Ik (f:C) (j:C)=((Sh.an f j:D):C):=by
 rw[bits,Sh.an,show Ik.bits=32 from A,Kp,Kp];simp only[BitVec.toNat_and,PB,jH];rw[m32,Nat.and_mod_two_pow,Nz,Nz,<-Nat.and_mod_two_pow]
def Rt (f j:D):Ik.wrap ((f:C)+(j:C))=((Sh.ad f j:D):C):=by
 rw[<-Int.natCast_add,jH];rfl
def ab9 (f j:D):Ik.wrap ((f:C)*(j:C))=((f*j%4294967296:D):C):=by
 rw[<-Qc,jH]
def aca (f:D):bits .xor Ik (if Ik.signed=U then -1 else Ik.max) (f:C)=((Sh.nt f:D):C):=by
 rw[show(if Ik.signed=U then(-1:C) else Ik.max)=((4294967295:D):C) by decide,wI];rfl
def ae1 (f:D):(f:C)/8=((f/8:D):C):=H
def Vo (f:D):(f:C)/1024=((f/1024:D):C):=H
def kB (j f:D):rr (j:C) f=((Sh.ky j f:D):C):=by
 rw[rr,Sh.ky,<-Vn];congr 1
def ae2 (j:D)(f:L):Y N 268 #[Z Ik (j:C),G 2] f λd e=>d=Z Ik ((Sh.ky j 2:D):C)/\f=e:=by
 have a:=Zf (j:C) f;rw[kB] at a;exact a.m λd e a=>⟨a.1,a.2.s⟩
def acb (j:D)(f:L):Y N 268 #[Z Ik (j:C),G 2] f λc e=>c=Z Ik ((Sh.ky j 2:D):C)/\e=f:=
 (ae2 j f).m λc e d=>⟨d.1,d.2.s⟩
def ae3 (j:D)(f:L):Y N 268 #[Z Ik (j:C),G 6] f λd e=>d=Z Ik ((Sh.ky j 6:D):C)/\f=e:=by
 have a:=Zg (j:C) f;rw[kB] at a;exact a.m λd e a=>⟨a.1,a.2.s⟩
def acd (j:D)(f:L):Y N 268 #[Z Ik (j:C),G 6] f λc e=>c=Z Ik ((Sh.ky j 6:D):C)/\e=f:=
 (ae3 j f).m λc e d=>⟨d.1,d.2.s⟩
def ace (j:D)(f:L):Y N 268 #[Z Ik (j:C),G 7] f λd e=>d=Z Ik ((Sh.ky j 7:D):C)/\f=e:=by
 have a:=Zh (j:C) f;rw[kB] at a;exact a.m λd e a=>⟨a.1,a.2.s⟩
def acf (j:D)(f:L):Y N 268 #[Z Ik (j:C),G 7] f λc e=>c=Z Ik ((Sh.ky j 7:D):C)/\e=f:=
 (ace j f).m λc e d=>⟨d.1,d.2.s⟩
def acg (j:D)(f:L):Y N 268 #[Z Ik (j:C),G 11] f λd e=>d=Z Ik ((Sh.ky j 11:D):C)/\f=e:=by
 have a:=Vg (j:C) f;rw[kB] at a;exact a.m λd e a=>⟨a.1,a.2.s⟩
def Zi (j:D)(f:L):Y N 268 #[Z Ik (j:C),G 11] f λc e=>c=Z Ik ((Sh.ky j 11:D):C)/\e=f:=
 (acg j f).m λc e d=>⟨d.1,d.2.s⟩
def ach (j:D)(f:L):Y N 268 #[Z Ik (j:C),G 13] f λd e=>d=Z Ik ((Sh.ky j 13:D):C)/\f=e:=by
 have a:=Vh (j:C) f;rw[kB] at a;exact a.m λd e a=>⟨a.1,a.2.s⟩
def Zj (j:D)(f:L):Y N 268 #[Z Ik (j:C),G 13] f λc e=>c=Z Ik ((Sh.ky j 13:D):C)/\e=f:=
 (ach j f).m λc e d=>⟨d.1,d.2.s⟩
def Yu (j:D)(f:L):Y N 268 #[Z Ik (j:C),G 17] f λd e=>d=Z Ik ((Sh.ky j 17:D):C)/\f=e:=by
 have a:=Vi (j:C) f;rw[kB] at a;exact a.m λd e a=>⟨a.1,a.2.s⟩
def Zk (j:D)(f:L):Y N 268 #[Z Ik (j:C),G 17] f λc e=>c=Z Ik ((Sh.ky j 17:D):C)/\e=f:=
 (Yu j f).m λc e d=>⟨d.1,d.2.s⟩
def Yv (j:D)(f:L):Y N 268 #[Z Ik (j:C),G 18] f λd e=>d=Z Ik ((Sh.ky j 18:D):C)/\f=e:=by
 have a:=Vj (j:C) f;rw[kB] at a;exact a.m λd e a=>⟨a.1,a.2.s⟩
def Zl (j:D)(f:L):Y N 268 #[Z Ik (j:C),G 18] f λc e=>c=Z Ik ((Sh.ky j 18:D):C)/\e=f:=
 (Yv j f).m λc e d=>⟨d.1,d.2.s⟩
def Yw (j:D)(f:L):Y N 268 #[Z Ik (j:C),G 19] f λd e=>d=Z Ik ((Sh.ky j 19:D):C)/\f=e:=by
 have a:=Vk (j:C) f;rw[kB] at a;exact a.m λd e a=>⟨a.1,a.2.s⟩
def Zm (j:D)(f:L):Y N 268 #[Z Ik (j:C),G 19] f λc e=>c=Z Ik ((Sh.ky j 19:D):C)/\e=f:=
 (Yw j f).m λc e d=>⟨d.1,d.2.s⟩
def aci (j:D)(f:L):Y N 268 #[Z Ik (j:C),G 22] f λd e=>d=Z Ik ((Sh.ky j 22:D):C)/\f=e:=by
 have a:=Vl (j:C) f;rw[kB] at a;exact a.m λd e a=>⟨a.1,a.2.s⟩
def Zn (j:D)(f:L):Y N 268 #[Z Ik (j:C),G 22] f λc e=>c=Z Ik ((Sh.ky j 22:D):C)/\e=f:=
 (aci j f).m λc e d=>⟨d.1,d.2.s⟩
def acj (j:D)(f:L):Y N 268 #[Z Ik (j:C),G 25] f λd e=>d=Z Ik ((Sh.ky j 25:D):C)/\f=e:=by
 have a:=Vm (j:C) f;rw[kB] at a;exact a.m λd e a=>⟨a.1,a.2.s⟩
def Zo (j:D)(f:L):Y N 268 #[Z Ik (j:C),G 25] f λc e=>c=Z Ik ((Sh.ky j 25:D):C)/\e=f:=
 (acj j f).m λc e d=>⟨d.1,d.2.s⟩
def zS (j:D)(o:C)(t:o∈[(2:C),6,7,11,13,17,18,19,22,25])(f:L):Y N 268 #[Z Ik (j:C),G o] f λe a=>e=Z Ik ((Sh.ky j o.toNat:D):C)/\a=f:=by
 simp only[GF,Hv,Xf] at t;rcases t with rfl|rfl|rfl|rfl|rfl|rfl|rfl|rfl|rfl|rfl
 .exact acb j f
 .exact acd j f
 .exact acf j f
 .exact Zi j f
 .exact Zj j f
 .exact Zk j f
 .exact Zl j f
 .exact Zm j f
 .exact Zn j f
 exact Zo j f
def aI (f:g.heap[w]?=K h p (0,0))(j:D):g.frozen? (w,j)=X:=by
 simp[World.frozen?,f]
def cd {xs:E S}(j:g.heap[w]?=K xs.toArray p (0,0))(f:D):g (w,f)=xs[f]?:=by
 simp[Iz,j]
def bJ {w:L}{f:D}{j:D×D}(t:w.heap[f]?=K h p j)(z:D)(o:S):(w.setCell (f,z) o).heap[f]?=K (h.setIfInBounds z o) p j:=by
 have u:=aw t;have A:w.heap[f]=K h p j:=by simpa[IB u] using t
 show(w.heap.modify f _)[f]?=_;rw[IB (by simpa using u),Kl,A];rfl
def Vp (f:L)(j o:Obj):T f f ((f.alloc j).alloc o)/\((f.alloc j).alloc o).heap[f.heap.size]?=j/\((f.alloc j).alloc o).heap[f.heap.size+1]?=o/\((f.alloc j).alloc o).heap.size=f.heap.size+2:=by
 refine⟨(QG.a d _).a R _,?_,?_,by simp⟩
 .rw[QP R];exact Xm _ _
 have:=Xm (f.alloc j) o;simpa using this
def wdI (x0 f j o:D):C:=
 bits .or Ik (bits .or Ik (bits .or Ik (Ik.wrap (Ik.wrap (x0:C)*16777216)) (Ik.wrap (Ik.wrap (f:C)*65536))) (Ik.wrap (Ik.wrap (j:C)*256))) (Ik.wrap (o:C))
def Zp (x0 j o t:D):wdI x0 j o t=((Sh.wd x0 j o t:D):C):=by
 unfold wdI Sh.wd;have f (z u:D):Ik.wrap (Ik.wrap (z:C)*(u:C))=((z*u%4294967296:D):C):=by
  rw[jH,ab9,Nat.mod_mul_mod]
 rw[show(16777216:C)=((16777216:D):C) from A,show(65536:C)=((65536:D):C) from A,show(256:C)=((256:D):C) from A];rw[f,f,f,jH,Vn,Vn,Vn]
def kc (f:E D):E S:=f.map λb:D=>Z Ik (b:C)
def cr (f:E D):(kc f:D)=(f:D):=by simp[kc]
def lJ (f:w<(x:D)):(kc x)[w]?=Z Ik ((x.getD w 0:D):C):=by
 simp[kc,f]
def pA (o:E D):∀j∈kc o,j.oneCell'=U:=by
 intro j f;simp only[kc,GL] at f;obtain⟨t,_,rfl⟩:=f;rfl
def kC (f:E D):E S:=kc (f++Jr (64-f.length) 0)
def jI {ws:E D}(f:(ws:D)<=64):(kC ws:D)=64:=by simp[kC,kc];omega
def Es (f:D)(o:(x:D)<64):(kC x).set (x:D) (Z Ik (f:C))=kC (x++[f]):=by
 unfold kC kc;have j:(Z Ik (f:C))=(λa:D=>Z Ik (a:C)) f:=A;rw[j,<-NQ];congr 1;rw[IC _ _ d,PG,Gk,Gx,Hy];let⟨c,e⟩:∃c,64-(x:D)=c+1:=⟨63-(x:D),H⟩;rw[e,Lq,Gw,(H:64-((x:D)+(0+1))=c),Km];rfl
def sJ (f:w<(x:D)):(kC x)[w]?=Z Ik ((x.getD w 0:D):C):=by
 rw[kC,lJ QB];simp[Ir f]
def Ru (f:(x:D)=64):kC x=kc x:=by simp[kC,f]
theorem Cx (o off:D)(f:ν)(j:E D)(X:∀a5,a5<64->f ⟨o,off+a5,J⟩=Z Ix ((j.getD a5 0:D):C))(s:o<(f:D)):
 τ γ 267 #[ο (o,off) 64 64] f λh g=>h=Γ (kc (Sh.gE j)).toArray/\T f f g:=by
 go_enter func267,ntmps267;go_wp2_with fail;go_loopw [11] (λi wr=>∃(a:D),a<=16/\i=ϑ a/\Φ (wr.heap[(f:D)+1]?=K (kC (Sh.first j a)).toArray 442 (0,0))/\Φ (wr.heap[(f:D)]?=K (kC []).toArray 442 (0,0))/\T f f wr) (λi _=>16-(QI i).toNat)
 .let⟨t1,t2,g5,j4⟩:=Vp f (K (kC []).toArray 442) (K (kC []).toArray 442);exact⟨0,H,A,g5,t2,t1⟩
 obtain⟨a,f1,rfl,M,p,t⟩:=hrel;have e:=jI (ws:=Sh.first j a) (by rw[Sh.jo];omega);have q:=M.o;generalize a6:kC (Sh.first j a)=e2 at q e;have b3:=F a6;clear a6;by_cases h5:a<16
 .have h8:u.wrap (4*(a:C))=4*(a:C):=QQ H;have h9:u.wrap (4*(a:C)+4)=4*(a:C)+4:=QQ H;have b5:wr (o,off+4*a)=Z Ix ((j.getD (4*a) 0:D):C):=(t.cell (p:=⟨o,off+4*a,J⟩) s).t (X (4*a) H);have c1:wr (o,off+4*a+1)=Z Ix ((j.getD (4*a+1) 0:D):C):=(t.cell (p:=⟨o,off+4*a+1,J⟩) s).t (X (4*a+1) H);have c2:wr (o,off+4*a+2)=Z Ix ((j.getD (4*a+2) 0:D):C):=(t.cell (p:=⟨o,off+4*a+2,J⟩) s).t (X (4*a+2) H);have c3:wr (o,off+4*a+3)=Z Ix ((j.getD (4*a+3) 0:D):C):=(t.cell (p:=⟨o,off+4*a+3,J⟩) s).t (X (4*a+3) H);have i2:(0:C)<=4*(a:C):=H;have i3:4*(a:C)<=4*(a:C)+4:=H;have i4:4*(a:C)+4<=64:=H;have i5:(4*(a:C)).toNat=4*a:=H;have i6:(4*(a:C)+4).toNat=4*a+4:=H;have h3:o<(wr:D):=GP s t.z;have f4:=aw q;have b7:∃N,wr ⟨(f:D)+1,a,J⟩=δ N:=⟨e2[a]'H,by rw[cd q];simp[e]⟩;let⟨N,b7⟩:=b7;have g7:=aI q a;generalize d3:j.getD (4*a) 0=x0 at b5;generalize d4:j.getD (4*a+1) 0=l at c1;generalize d6:j.getD (4*a+2) 0=m at c2;generalize d8:j.getD (4*a+3) 0=n at c3;have i7:(0:C)<=(a:C):=H;have i8:(a:C)<64:=H;clear X;have ae:∀i e0:D,(⟨o,i,J⟩:JM)≠⟨(f:D)+1,e0,J⟩:=λi e0 b=>oU (Xl Addr.block b);have I:∀c,(((wr.setCell ⟨(f:D)+1,a,J⟩ c).drew) (o,off+4*a)=Z Ix x0/\((wr.setCell ⟨(f:D)+1,a,J⟩ c).drew) (o,off+4*a+1)=Z Ix l/\((wr.setCell ⟨(f:D)+1,a,J⟩ c).drew) (o,off+4*a+2)=Z Ix m/\((wr.setCell ⟨(f:D)+1,a,J⟩ c).drew) (o,off+4*a+3)=Z Ix n):=λc=>by
   refine⟨?_,?_,?_,?_⟩
   .exact(ID wr _ _ _ (λb=>ae _ _ b.s)).t b5
   .exact(ID wr _ _ _ (λb=>ae _ _ b.s)).t c1
   .exact(ID wr _ _ _ (λb=>ae _ _ b.s)).t c2
   exact(ID wr _ _ _ (λb=>ae _ _ b.s)).t c3
  have ag:=F I;have Y:=F (W d3.s (W d4.s (W d6.s d8.s)));clear I d3 d4 d6 d8;go_upto_region 6 with fail;go_region_held3 (λg=>g (o,off+4*a)=Z Ix x0/\g (o,off+4*a+1)=Z Ix l/\g (o,off+4*a+2)=Z Ix m/\g (o,off+4*a+3)=Z Ix n) (first|exact ag.o _|go_keep) (fail);all_goals
   have y:=bJ q a (Z Ik (wdI x0 l m n));have h:(e2.toArray.setIfInBounds a (Z Ik (wdI x0 l m n)))=(kC (Sh.first j (a+1))).toArray:=by
    rw[show Sh.first j (a+1)=Sh.first j a++[Sh.wd (j.getD (4*a) 0) (j.getD (4*a+1) 0) (j.getD (4*a+2) 0) (j.getD (4*a+3) 0)] from A,<-Y.1,<-Y.2.1,<-Y.2.2.1,<-Y.2.2.2,<-Es _ (by rw[Sh.jo];omega),Sh.jo,b3.o,Zp];simp
   rw[h] at y;have L:(wr.setCell ⟨(f:D)+1,a,J⟩ (Z Ik (wdI x0 l m n))).heap[(f:D)]?=_:=(QJ sm).t p.o;have G:T f f (wr.setCell ⟨(f:D)+1,a,J⟩ (Z Ik (wdI x0 l m n))):=t.s (p:=⟨(f:D)+1,a,J⟩) (H:(f:D)<=(f:D)+1) _;have U:=F (W y (W L G));clear y L G h;go_wp2;go_roundw
   .exact⟨a+1,H,gN,U.1,U.2.1,U.2.2.d⟩
   simp[QI];omega
 have f2:a=16:=H;subst f2;clear q e b3;have h2:=F X;clear X;go_wp2_with fail;let⟨e1,h7⟩:∃e1:ν,e1=wr:=⟨_,A⟩;have e4:=F t;clear t;have r:((16:D):C)=(16:C):=A;rw[r];clear r;go_loopw [6] (λi wr=>∃(a d:D),Φ (a=16+d)/\16<=a/\a<=64/\i=ϑ a/\Φ (wr.heap[(f:D)+1]?=K (kC (Sh.fk j d)).toArray 442 (0,0))/\Φ (wr.heap[(f:D)]?=K (kC []).toArray 442 (0,0))/\Φ (T f f wr)) (λi _=>64-(QI i).toNat)
 .exact⟨16,0,A,H,H,A,M,p,e4⟩
 obtain⟨a,d,x,f1,h4,rfl,M,p,G⟩:=hrel;by_cases h6:a<64
 .have a0:=Sh.ff j d;have ab:=x.o;have f9:u.wrap ((a:C)-15)=(a:C)-15:=QQ H;have g0:u.wrap ((a:C)-2)=(a:C)-2:=QQ H;have b6:wr ⟨(f:D)+1,a-15,J⟩=Z Ik (((Sh.fk j d).getD (a-15) 0:D):C):=by
   rw[cd M.o,sJ H]
  have c2:wr ⟨(f:D)+1,a-2,J⟩=Z Ik (((Sh.fk j d).getD (a-2) 0:D):C):=by
   rw[cd M.o,sJ H]
  have g3:((a:C)-15).toNat=a-15:=H;have g4:((a:C)-2).toNat=a-2:=H;have e8:(0:C)<=(a:C)-15:=H;have e9:(0:C)<=(a:C)-2:=H;have g1:(a:C)-15<64:=H;have g2:(a:C)-2<64:=H;generalize d2:(Sh.fk j d).getD (a-15) 0=R at b6;generalize d9:(Sh.fk j d).getD (a-2) 0=S at c2;have b4:=F (W d2.s d9.s);clear d2 d9 a0 ab;go_upto_region 11 with fail;go_quiet (fail);have z:(wr.drewN nq).heap[(f:D)+1]?=K (kC (Sh.fk j d)).toArray 442 (0,0):=M.o;have al:(wr.drewN nq).heap[(f:D)]?=K (kC []).toArray 442 (0,0):=p.o;have ak:T f f (wr.drewN nq):=below_drewN G.o nq;have ah:(wr.drewN nq) ⟨(f:D)+1,a-16,J⟩=Z Ik (((Sh.fk j d).getD (a-16) 0:D):C):=by
   rw[cd z,sJ (by have:=x.o;rw[Sh.ff];omega)]
  have ai:(wr.drewN nq) ⟨(f:D)+1,a-7,J⟩=Z Ik (((Sh.fk j d).getD (a-7) 0:D):C):=by
   rw[cd z,sJ (by have:=x.o;rw[Sh.ff];omega)]
  have e:=jI (ws:=Sh.fk j d) (by have:=x.o;rw[Sh.ff];omega);have aj:∃N,(wr.drewN nq) ⟨(f:D)+1,a,J⟩=δ N:=⟨(kC (Sh.fk j d))[a]'H,by rw[cd z];simp[e]⟩;let⟨N,aj⟩:=aj;have e7:=aI z a;generalize wr.drewN nq=k at z al ak ah ai aj e7 ⊢;have af:=F (W z (W al ak));have f4:=aw z;clear z al ak e b6 c2 g3 g4 e8 e9 g1 g2 f9 g0;have f6:bits .xor Ik (bits .xor Ik ((Sh.ky R 7:D):C) ((Sh.ky R 18:D):C)) ((R:C)/8)=((Sh.s0 R:D):C):=by
   rw[wI,ae1,wI];rfl
  have f7:bits .xor Ik (bits .xor Ik ((Sh.ky S 17:D):C) ((Sh.ky S 19:D):C)) ((S:C)/1024)=((Sh.s1 S:D):C):=by
   rw[wI,Vo,wI];rfl
  go_upto_region 14 with(first|((with_reducible refine(ace _ _).m ?_);rintro h g ⟨rfl,rfl⟩)|((with_reducible refine(Yv _ _).m ?_);rintro h g ⟨rfl,rfl⟩)|((with_reducible refine(Yu _ _).m ?_);rintro h g ⟨rfl,rfl⟩)|((with_reducible refine(Yw _ _).m ?_);rintro h g ⟨rfl,rfl⟩));clear f6 f7;let⟨v,a3⟩:∃v,v=Sh.s0 R:=⟨_,A⟩;let⟨w,a4⟩:∃w,w=Sh.s1 S:=⟨_,A⟩;rw[<-a3,<-a4];have b2:=F (W a3 a4);clear a3 a4;generalize b9:(Sh.fk j d).getD (a-16) 0=P at ah;generalize c0:(Sh.fk j d).getD (a-7) 0=O at ai;have a7:=F (W b9.s c0.s);clear b9 c0;have i0:u.wrap ((a:C)-16)=(a:C)-16:=QQ H;have i1:u.wrap ((a:C)-7)=(a:C)-7:=QQ H;have j2:((a:C)-16).toNat=a-16:=H;have j3:((a:C)-7).toNat=a-7:=H;have g8:(0:C)<=(a:C)-16:=H;have g9:(0:C)<=(a:C)-7:=H;have i9:(a:C)-16<64:=H;have j0:(a:C)-7<64:=H;have j1:(a:C)<64:=H;have gk:(0:C)<=(a:C):=H;have f0:=Rt;have h0:(16:C)<=(a:C):=H;have h1:(7:C)<=(a:C):=H;have a1:(⟨(f:D)+1,a,J⟩:JM)≠⟨(f:D)+1,a-16,J⟩:=λb=>oU (Xl Addr.off b);have a2:(⟨(f:D)+1,a,J⟩:JM)≠⟨(f:D)+1,a-7,J⟩:=λb=>oU (Xl Addr.off b);have I:∀c,((k.setCell ⟨(f:D)+1,a,J⟩ c).drew) ⟨(f:D)+1,a-16,J⟩=Z Ik P/\((k.setCell ⟨(f:D)+1,a,J⟩ c).drew) ⟨(f:D)+1,a-7,J⟩=Z Ik O:=λc=>
   ⟨(ID k _ _ _ a1).t ah,(ID k _ _ _ a2).t ai⟩
  have ag:=F I;have g6:=F (W a1 a2);clear I a1 a2;go_region_held3 (λg=>g ⟨(f:D)+1,a-16,J⟩=Z Ik P/\g ⟨(f:D)+1,a-7,J⟩=Z Ik O) (first|exact ag.o _|go_keep) (fail);all_goals
   have y:=bJ af.1 a (Z Ik ((Sh.ad (Sh.ad (Sh.ad P v) O) w:D):C));have h:((kC (Sh.fk j d)).toArray.setIfInBounds a (Z Ik ((Sh.ad (Sh.ad (Sh.ad P v) O) w:D):C)))=(kC (Sh.fk j (d+1))).toArray:=by
    have a0:=Sh.ff j d;have ab:=x.o;have e5:Sh.fk j (d+1)=Sh.fk j d++[Sh.Er (Sh.fk j d) (16+d)]:=A;have e6:Sh.Er (Sh.fk j d) (16+d)=Sh.ad (Sh.ad (Sh.ad P v) O) w:=by
     rw[Sh.Er,a7.1,a7.2,b2.1,b2.2,b4.1,b4.2,ab]
    rw[e5,<-Es _ H,a0,e6,ab];simp
   rw[h] at y;have L:=(Gq k ⟨(f:D)+1,a,J⟩ (Z Ik ((Sh.ad (Sh.ad (Sh.ad P v) O) w:D):C)) (f:D) sm).t af.2.1;have c8:T f f (k.setCell ⟨(f:D)+1,a,J⟩ (Z Ik ((Sh.ad (Sh.ad (Sh.ad P v) O) w:D):C))):=af.2.2.s (p:=⟨(f:D)+1,a,J⟩) (H:(f:D)<=(f:D)+1) _;have U:=F (W y (W L c8));clear y L c8 h f0;go_wp2;go_roundw
   .exact⟨a+1,d+1,by have:=x.o;show a+1=16+(d+1);omega,H,H,gN,U.1,U.2.1,U.2.2.d⟩
   simp[QI];omega
 have f3:a=64:=H;subst f3;have f5:d=48:=oA x.o;subst f5;have r:((64:D):C)=(64:C):=A;rw[r];clear r;have am:=jI (ws:=Sh.fk j 48) (by rw[Sh.ff];omega);have d1:(kC []:D)=64:=jI sm;have c7:(γ.info? 442).map (·.size)=δ (kC (Sh.fk j 48)).toArray.size:=by
  rw[GZ,am];kernel_rfl
 have V:=F (W M.o (W p.o (W G.o c7)));have a8:(kC []).toArray.size=(kC (Sh.fk j 48)).toArray.size:=by rw[GZ,GZ,am,d1]
 have b0:=XN (pA (Sh.fk j 48++Jr (64-(Sh.fk j 48:D)) 0));have a9:=F (W a8 b0);clear am d1 c7 a8 b0 M p G;go_wp2_with (first|(apply XK A 442 (.tmp 3) A ((f:D)+1) A 442 (kC (Sh.fk j 48)).toArray (0,0) (.array 64 383) V.1 underlying442 A V.2.2.2)|(apply Xw A 442 (.tmp 2) (.tmp 92) A (f:D) (kC (Sh.fk j 48)).toArray A A 442 (kC []).toArray V.2.1 V.2.2.2 a9.1 a9.2));have f8:=setRow_heap wr (f:D) (kC []).toArray (kC (Sh.fk j 48)).toArray 442 (0,0) V.2.1;refine QM (results_cell_row Tryz.results267 _ _ (f:D) 442 (kC (Sh.fk j 48)).toArray (0,0) (.array 64 383) A f8 underlying442 A V.2.2.2) A ⟨?_,below_setRow V.2.2.1 QD _⟩;rw[Ru (by rw[Sh.ff])];rfl
structure cQ (B g:D)(w w':QY):Prop where
 os:w'.os=w.os
 cb:w'.tape=w.tape
 aW:w'.output=w.output
 aH:w.heap.size<=w'.heap.size
 aG:∀k,k<B->k≠g->w'.heap[k]?=w.heap[k]?
def cQ.bQ (B j:D)(f:QY):cQ B j f f:=⟨A,A,A,Nat.le_refl _,λ_ _ _=>rfl⟩
def cQ.aJ (f:cQ w q g s)(j:cQ w q s l):cQ w q g l:=
 ⟨j.os.t f.os,j.cb.t f.cb,j.aW.t f.aW,Nat.le_trans f.aH j.aH,λi h d=>(j.aG i h d).t (f.aG i h d)⟩
def cQ.cz {j o:QY}(f:cQ w a j o)(t:q<=w):cQ q a j o:=⟨f.os,f.cb,f.aW,f.aH,λg i b=>f.aG g H b⟩
def cQ.Rx {j o:QY}(f:Below w j o):cQ w q j o:=⟨f.os,f.tape,f.output,f.z,λa d _=>f.b a d⟩
def cQ.aE {B:D}{f j:QY}(c:cQ B a f j)(t:q<=a)(o:q<=B):Below q f j:=⟨c.os,c.cb,c.aW,c.aH,λb i=>c.aG b H H⟩
def cQ.set {f o:QY}(t:cQ w q f o)(j:D)(u:Value):cQ w q f (o.setCell (q,j) u):=
 t.aJ ⟨A,A,A,by simp[World.setCell],λg _ e=>Below.heap_setCell _ _ _ _ e⟩
def cQ.cI {j o:QY}(f:cQ w q j o)(n:D):cQ w q j (o.drewN n):=⟨f.os,f.cb,f.aW,f.aH,f.aG⟩
def cQ.Zq {j f:QY}(t:cQ w q j f)(o:Q Value):cQ w q j (f.setRow q o):=
 t.aJ ⟨A,A,A,by simp[World.setRow],λg _ a=>XL f q g o a⟩
def w8 (f:E D):E Value:=f.map λb:D=>Value.int .u8 (b:C)
def ee (f:E D):(w8 f:D)=(f:D):=by simp[w8]
def Ry (f:w<(x:D)):(w8 x)[w]?=some (.int .u8 ((x.getD w 0:D):C)):=by simp[w8,f]
def bR (f t:E D)(j o:D):E Value:=kc f++(w8 t++[.int .i64 (j:C),.int .u64 (o:C)])
def kD {f:E D}(j:(x:D)=8)(o:(f:D)=64)(t u:D):(bR x f t u:D)=74:=by
 simp[bR,cr,ee,j,o]
def mG {t:E D}(j o:D)(f:w<(x:D)):(bR x t j o)[w]?=some (.int .u32 ((x.getD w 0:D):C)):=by
 rw[bR,List.getElem?_append_left (by rw[cr];exact f),lJ f]
def zT {f:E D}(o:(x:D)=8)(t u:D)(j:w<(f:D)):(bR x f t u)[8+w]?=some (.int .u8 ((f.getD w 0:D):C)):=by
 rw[bR,List.getElem?_append_right (by rw[cr];omega),cr,o,(H:8+w-8=w),List.getElem?_append_left (by rwa[ee]),Ry j]
def zU {j:E D}(o:(x:D)=8)(t:(j:D)=64)(f u:D):(bR x j f u)[72]?=some (.int .i64 (f:C)):=by
 rw[bR,List.getElem?_append_right (by rw[cr];omega),cr,o,List.getElem?_append_right (by rw[ee];omega),ee,t];rfl
def zV {j:E D}(o:(x:D)=8)(t:(j:D)=64)(u f:D):(bR x j u f)[73]?=some (.int .u64 (f:C)):=by
 rw[bR,List.getElem?_append_right (by rw[cr];omega),cr,o,List.getElem?_append_right (by rw[ee];omega),ee,t];rfl
def tH {o:E D}(f j:D)(u:w<(x:D))(t:D):(bR x o f j).set w (.int .u32 (t:C))=bR (x.set w t) o f j:=by
 rw[bR,List.set_append_left _ _ (by rw[cr];exact u)];congr 1;simp[kc,List.map_set]
def jq (j:QY):Prop:=1<j.heap.size/\∀f,f<64->j (1,f)=some (.int .u32 ((Sh.cubes.getD f 0:D):C))
def jq.only {f t:QY}(j:jq f)(o:cQ w q f t)(z:1<q)(u:1<w):jq t:=
 ⟨Nat.lt_of_lt_of_le j.1 o.aH,λh g=>(World.cell?_of_block (w:=f) (o.aG 1 u H)).t (j.2 h g)⟩
def jq.aE {B:D}{f t:QY}(j:jq f)(o:Below B f t)(c:1<B):jq t:=
 ⟨Nat.lt_of_lt_of_le j.1 o.z,λg a=>(World.cell?_of_block (w:=f) (o.b 1 c)).t (j.2 g a)⟩
def Zr {f j:QY}{J:E D}(z:f.heap[w]?=some (.cells (bR x J q a).toArray 387))(u:jq f)(o:Below f f j):
 j.rangeAt w 0 (kc x)/\j.heap[w]?=some (.cells (bR x J q a).toArray 387)/\jq j/\Below f f j:=by
 have K:=aw z;have t:=(o.b w K).t z;refine⟨λb p h=>?_,t,u.aE o u.1,o⟩;have A:b<(x:D):=by have:=(List.getElem?_eq_some_iff.1 h).1;rwa [cr] at this
 rw[lJ A] at h;rwa[Nat.zero_add,cd t,mG q a A]
def Zs {t j o:QY}{z:E D}{u:Q Value}
 (f:j.rangeAt w 0 (kc x)/\j.heap[w]?=some (.cells (bR x z q a).toArray 387)/\jq j/\Below t t j) (A:o=j.alloc (.cells u 442)):
 o.rangeAt w 0 (kc x)/\o.heap[w]?=some (.cells (bR x z q a).toArray 387)/\jq o/\Below t t o/\o.heap[(j:D)]?=some (.cells u 442)/\(t:D)<=(j:D):=by
 subst A;exact⟨World.rangeAt_alloc f.1 _,by rw[Below.heap_alloc _ _ _ (aw f.2.1)];exact f.2.1,f.2.2.1.aE ((Below.refl _ _).a (Nat.le_refl _) _) f.2.2.1.1,f.2.2.2.a f.2.2.2.z _,heap_alloc_last _ _,f.2.2.2.z⟩
def Zt {t j o:QY}{A:E D}{z u:Q Value}
 (f:j.rangeAt w 0 (kc x)/\j.heap[w]?=some (.cells (bR x A a i).toArray 387)/\jq j/\Below t t j/\j.heap[q]?=some (.cells z 442)/\(t:D)<=q) (J:o=j.alloc (.cells u 384)):
 o.heap[w]?=some (.cells (bR x A a i).toArray 387)/\jq o/\Below t t o/\o.heap[q]?=some (.cells z 442)/\o.heap[(j:D)]?=some (.cells u 384)/\(t:D)<=q/\q<(j:D):=by
 subst J;exact⟨by rw[Below.heap_alloc _ _ _ (aw f.2.1)];exact f.2.1,f.2.2.1.aE ((Below.refl _ _).a (Nat.le_refl _) _) f.2.2.1.1,f.2.2.2.1.a f.2.2.2.1.z _,by rw[Below.heap_alloc _ _ _ (aw f.2.2.2.2.1)];exact f.2.2.2.2.1,heap_alloc_last _ _,f.2.2.2.2.2,aw f.2.2.2.2.1⟩
def Zu:(Tryz.prog.info? 383).map (·.size)=some 1:=e
def zW (o:QY)(J j t:D)(z u:E D)(K M:D)(A:E D)(f:QY):Prop:=
 f.heap[J]?=some (.cells (bR z u K M).toArray 387)/\jq f/\Below o o f/\f.heap[j]?=some (.cells (kc (Sh.gE u)).toArray 442)/\f.heap[t]?=some (.cells (kc A).toArray 384)/\o.heap.size<=j/\j<t
def zW.cI {o:QY}{u j:E D}{t:D}{wr:QY}(f:zW o w q a x u i t j wr)(n:D):zW o w q a x u i t j (wr.drewN n):=
 ⟨f.1,f.2.1,below_drewN f.2.2.1 n,f.2.2.2⟩
def zW.jJ {j:QY}{t z:E D}{o:D}{wr:QY}(A:zW j w q a x t i o z wr)(W:w<j.heap.size)(f:E D):zW j w q a x t i o f (wr.setRow a (kc f).toArray):=by
 obtain⟨U,J,K,V,M,O,u⟩:=A;have P:=below_setRow (B:=j) (g:=a) (Below.refl _ wr) H (kc f).toArray;exact⟨by rwa[XL _ _ _ _ H],J.aE (below_setRow (B:=a) (g:=a) (Below.refl _ wr) (Nat.le_refl _) (kc f).toArray) H,K.t P,by rwa[XL _ _ _ _ H],setRow_heap _ _ _ _ _ _ M,O,u⟩
def Vq (f:E D)(j o:D):(kc f).toArray.setIfInBounds j (.int .u32 (o:C))=(kc (f.set j o)).toArray:=by
 rw[kc,kc,List.map_set];simp
def zW.set {f:QY}{o u t:E D}{z:D}{wr:QY}(J:zW f w q a o u i z t wr)(X:w<f.heap.size)(j x:D):zW f w q a o u i z (t.set j x) (wr.setCell (a,j) (.int .u32 (x:C))):=by
 obtain⟨K,M,O,P,A,U,V⟩:=J;have W:Below f wr (wr.setCell (a,j) (.int .u32 (x:C))):=(Below.refl _ wr).s (p:=(a,j)) (by show f<=a;omega) _;refine⟨by rw[Below.heap_setCell _ _ _ _ (by show w≠a;omega)];exact K,M.aE ((Below.refl a wr).s (p:=(a,j)) (Nat.le_refl _) (.int .u32 (x:C))) H,O.t W,by rw[Below.heap_setCell _ _ _ _ (by show q≠a;omega)];exact P,?_,U,V⟩;rw[bJ A,Vq]
def zW.dN {w:QY}{z:D}{J f:E D}{A:D}{wr:QY}(t:zW w z q a x J i A f wr)(j:D)(u:j<f.length):wr (a,j)=some (.int .u32 ((f.getD j 0:D):C))/\wr.frozen? (a,j)=false:=by
 obtain⟨M,O,P,U,o,K,V⟩:=t;exact⟨by rw[cd o,lJ u],aI o j⟩
def yb {z:Xp}{a:Q Oper}{j:Oper}{o:Act}{u:QY}{W:Act->QY->Prop}{H:Exit->Act->QY->Prop}{c:Prop}(k:j.guard=none)(V w:Operand)(M v:TypeId)
 (l:j.op=.call {callee:=.builtin .copy,args:=#[V,w],argTypes:=#[M,v]}) (O:TypeId) (g:z.underlying M=some (.slice O)) (F:(z.info? O).map (·.size)=some 1)
 (A off K Z:D) (ad:Addr) (P b:D) (hd:o.eval V=.slice (A,off) K Z) (s:o.eval w=.slice (some ad) P b)
 (t:Q Value) (x:TypeId) (L:u.heap[A]?=some (.cells t x)) (f:E Value) (e:(f:D)=Nat.min P K)
 (d:∀X J,f[X]?=some J->u (ad.add X)=some J) (i:off+(f:D)<=t.size) (h:∀J∈f,J.oneCell'=true) (U:Q Value) (y:(t.toList.take off++f++t.toList.drop (off+(f:D))).toArray=U)
 (I:W (o.put j.dst (goInt (f:D))) (u.setRow A U)):if Region.wanted j (Xg a o.tmps)=true then Oper.wp z j o u W H else c:=by
 have G:Region.wanted j (Xg a o.tmps)=true:=by simp[Region.wanted,k]
 rw[QU G];have r:=run_copy_row (P:=z) u M v j.type O A off K Z ad P b t x f g F L e d i h;rw[y] at r;simp only[Oper.wp,Xb,l,resolve,invoke,builtin,hd,s,Result.andThen,List.map_toArray,List.map_cons,List.map_nil];simp[hd,s,r,Result.andThen];exact I
def Yx (f:E D)(j:f.length=8):∃b c d e a g h i,f=[b,c,d,e,a,g,h,i]:=by
 match f,j with
 |[b,c,d,e,a,g,h,i],_=>exact⟨_,_,_,_,_,_,_,_,A⟩
def zW.mH {W:QY}{P j:E D}{V f:D}{wr:QY}(X:zW W w q a x P i V j wr)(o:f<64){A J K M O u z U:D}
 (b:j=[A,J,K,M,O,u,z,U]):
 wr a=some (.int .u32 A)/\wr (a,1)=some (.int .u32 J)/\wr (a,2)=some (.int .u32 K)/\wr (a,3)=some (.int .u32 M)/\
 wr (a,4)=some (.int .u32 O)/\wr (a,5)=some (.int .u32 u)/\wr (a,6)=some (.int .u32 z)/\wr (a,7)=some (.int .u32 U)/\
 wr ⟨1,f,none⟩=some (.int .u32 ((Sh.cubes.getD f 0:D):C))/\wr (q,f)=some (.int .u32 (((Sh.gE P).getD f 0:D):C)):=by
 obtain⟨_,Z,_,v,t,_⟩:=X;rw[b] at t;refine⟨?_,?_,?_,?_,?_,?_,?_,?_,Z.2 f o,?_⟩;all_goals first|(rw[cd v,lJ (by rw[Sh.kz];exact o)])|(rw[cd t];rfl)
def jK (f o:E D)(j:D):E D:=(List.zipWith Sh.ad f o).take j++f.drop j
def Hn (f j:E D):jK f j 0=f:=by simp[jK]
def HA {f:E D}(j:(x:D)=8)(o:(f:D)=8):jK x f 8=List.zipWith Sh.ad x f:=by
 rw[jK,List.take_of_length_le (by simp[j,o]),List.drop_of_length_le H,List.append_nil]
def rQ {f:E D}(j:(x:D)=8)(o:(f:D)=8)(t:w<=8):(jK x f w:D)=8:=by
 simp[jK,j,o];omega
def Rz {f:E D}(j:(x:D)=8)(o:(f:D)=8)(u:w<8):(jK x f w).getD w 0=x.getD w 0:=by
 have t:((List.zipWith Sh.ad x f).take w:D)=w:=by simp[j,o];omega
 rw[jK,List.getD_eq_getElem?_getD,List.getElem?_append_right H,t,Nat.sub_self,List.getElem?_drop];simp
def RA {f:E D}(j:(x:D)=8)(o:(f:D)=8)(u:w<8):(jK x f w).set w (Sh.ad (x.getD w 0) (f.getD w 0))=jK x f (w+1):=by
 have t:((List.zipWith Sh.ad x f).take w:D)=w:=by simp[j,o];omega
 unfold jK;rw[List.set_append_right _ _ H,t,Nat.sub_self,List.take_succ_eq_append_getElem (by simp[j,o];omega),List.append_assoc];congr 1;rw[List.drop_eq_getElem_cons H,List.set_cons_zero];simp[List.getD_eq_getElem?_getD,(H:w<(x:D)),(H:w<(f:D))]
def vV (t:QY)(f o:D)(u j K:E D)(z J A:D)(wr:QY):Prop:=
 wr.heap[f]?=some (.cells (bR (jK u j A) K z J).toArray 387)/\wr.heap[o]?=some (.cells (kc j).toArray 384)/\cQ t.heap.size f t wr/\f<o
def zW.ae4 {f:QY}{t j:E D}{o:D}{wr:QY}(u:zW f w q a x t i o j wr)(z:(x:D)=8)(A:w<(f:D)):vV f w a x j t i o 0 wr:=let⟨m,n,k,c,l,p,b⟩:=u;⟨by rwa[Hn],l,.Rx k,H⟩
def vV.mH {K:QY}{f M:E D}{j:D}{wr:QY}(A:vV K w q x f M a i j wr)(z:j<8)(t:x.length=8)(u:f.length=8):
 wr (w,j)=some (.int .u32 ((x.getD j 0:D):C))/\wr.frozen? (w,j)=false/\wr (q,j)=some (.int .u32 ((f.getD j 0:D):C)):=by
 obtain⟨o,J,P,O⟩:=A;exact⟨by rw[cd o,mG a i (by rw[rQ t u H];exact z),Rz t u z],aI o j,by rw[cd J,lJ H]⟩
def vV.set {A:QY}{o J:E D}{f:D}{wr:QY}(M:vV A w q x o J a i f wr)(z:f<8)(u:x.length=8)(t:o.length=8):
 vV A w q x o J a i (f+1) (wr.setCell ⟨w,f,none⟩ (.int .u32 ((Sh.ad (x.getD f 0) (o.getD f 0):D):C))):=by
 obtain⟨O,P,K,j⟩:=M;refine⟨?_,by rw[Below.heap_setCell _ _ _ _ (by show q≠w;omega)];exact P,K.set f _,j⟩;rw[bJ O,<-RA u t z,<-tH a i (by rw[rQ u t H];exact z)];simp
def vV.cI {t:QY}{j u:E D}{o:D}{wr:QY}(f:vV t w q x j u a i o wr)(n:D):vV t w q x j u a i o (wr.drewN n):=
 ⟨f.1,f.2.1,f.2.2.1.cI n,f.2.2.2⟩
def Vr (o:D)(t:QY)(j f:E D)(O P:D)(z:j.length=8)(h2:f.length=64)(d8:jq t)(h0:1<o)
 (L:t.heap[o]?=some (.cells (bR j f O P).toArray 387)):
 Calls Tryz.prog 213 #[.pointer o,.slice (o,8) 64 64] t λi b2=>
  i=.returned (.tuple #[])/\b2.heap[o]?=some (.cells (bR (Sh.Yt j f) f O P).toArray 387)/\cQ t o t b2:=by
 have W:=aw L;have e4:∀g,g<64->t (o,8+g)=some (.int .u8 ((f.getD g 0:D):C)):=λg N=>by
  rw[cd L,zT z O P H]
 have f7:=Lib.hid (Cx o 8 t f e4 W);have d6:(Tryz.prog.info? 442).map (·.size)=some (kc (Sh.gE f)).toArray.size:=by
  rw[List.size_toArray,cr,Sh.kz];kernel_rfl
 have b6:(Tryz.prog.info? 384).map (·.size)=some (kc j).length:=by
  rw[cr,z];kernel_rfl
 have d4:(Tryz.prog.info? 384).map (·.size)=some (kc j).toArray.size:=by rwa[List.size_toArray]
 have a0:=Lib.hid (And.intro L d8);have r:=Lib.hid (And.intro d6 (And.intro b6 d4));have b7:(kC []).toArray.size=(kc (Sh.gE f)).toArray.size:=by
  rw[List.size_toArray,List.size_toArray,jI sm,cr,Sh.kz]
 have b9:((List.replicate 8 (Value.int .u32 0)).toArray).size=(kc j).toArray.size:=by
  rw[List.size_toArray,List.size_toArray,cr,z];rfl
 have a1:=Lib.hid (And.intro b7 b9);go_enter func213,ntmps213;go_wp2_with (first|((refine(f7.o).m ?_);rintro i x ⟨rfl,c3⟩;have c0:=Lib.hid (Zr a0.1 a0.2 c3))|(refine Xw A 442 (.tmp 4) (.tmp 13) A _ _ A A 442 (kC []).toArray (heap_alloc_last _ _) r.1 a1.1 (XN (pA _)) ?_;rw[World.setRow_alloc_new];generalize e1:World.alloc x _=R;have Y:=Lib.hid (Zs c0.o e1.s))|(refine Xj A 384 (.tmp 16) A o 0 A (kc j) (.array 8 383) Y.1 underlying384 A r.2.1 ?_)|(refine Xw A 384 (.tmp 5) (.tmp 17) A _ _ A A 384 (List.replicate 8 (Value.int .u32 0)).toArray (heap_alloc_last _ _) r.2.2 a1.2 (XN (pA _)) ?_;rw[World.setRow_alloc_new];generalize e2:World.alloc R _=g0;have c7:=Lib.hid (Zt Y.o e2.s)));have c8:zW t o x R j f O P (Sh.lH (Sh.gE f) j 0) g0:=c7.o;have V:=Lib.hid c8;generalize x=e9 at V ⊢;generalize R=K at V ⊢;go_loopw [18] (λq wr=>∃(a:D),a<=64/\q=.int .i64 a/\Hid (zW t o e9 K j f O P (Sh.lH (Sh.gE f) j a) wr)) (λq _=>64-(QI q).toNat)
 .exact⟨0,by omega,A,V⟩
 obtain⟨a,f3,rfl,J⟩:=hrel;by_cases v:a<64
 .have G:=J.o;let⟨d,l,n,c,b,s,e,a6,af⟩:=Yx _ (Sh.kA (Sh.gE f) j z a);have b5:=G.mH v af;let⟨T,c1,a7,a8,c4,c5,a9,b0,y,h⟩:=b5;generalize I:Sh.cubes.getD a 0=b3 at y;generalize k:(Sh.gE f).getD a 0=b4 at h;have u:=Lib.hid (And.intro I.s k.s);have Z:=Lib.hid af;have f8:(0:C)<=(a:C):=H;have f9:(a:C)<64:=H;have c2:=Rt;have g3:=ab8;have g6:=wI;have g4:=aca;go_upto_region 5 with fail;go_quiet (fail);have M:=J.o.cI nq;generalize wr.drewN nq=g2 at M ⊢;let⟨T,c1,a7,a8,c4,c5,a9,b0,y,h⟩:=M.mH v Z.o;rw[<-u.1] at y;rw[<-u.2] at h;have d1:=Lib.hid M;go_upto_region 6 with fail;go_quiet ((go_at_call 268;exact Calls.quiet_of_same (zS _ _ dc _)));have m:=d1.o.cI nq;generalize g2.drewN nq=g1 at m ⊢;let⟨T,c1,a7,a8,c4,c5,a9,b0,y,h⟩:=m.mH v Z.o;rw[<-u.1] at y;rw[<-u.2] at h;have d2:=Lib.hid m;go_upto_region 7 with fail;go_quiet ((go_at_call 268;exact Calls.quiet_of_same (zS _ _ dc _)));have X:=d2.o.cI nq;generalize g1.drewN nq=p at X ⊢;generalize d9:Sh.ad (Sh.ad (Sh.ad (Sh.ad a6 (Sh.xo (Sh.xo (Sh.ky b 6) (Sh.ky b 11)) (Sh.ky b 25))) (Sh.xo (Sh.an b s) (Sh.an (Sh.nt b) e))) b3) b4=T1;generalize e0:Sh.ad (Sh.xo (Sh.xo (Sh.ky d 2) (Sh.ky d 13)) (Sh.ky d 22)) (Sh.xo (Sh.xo (Sh.an d l) (Sh.an d n)) (Sh.an l n))=a3;have a2:=Lib.hid (And.intro d9 e0);rw[Z.o] at X;have ag:=X.2.2.2.2.1;have d3:=Lib.hid X;have e6:∀g S,(kc [d,l,n,c,b,s,e])[g]?=some S->p ((K:Addr).add g)=some S:=λg S N=>by
   have f6:g<7:=by have:=(List.getElem?_eq_some_iff.1 N).1;rwa [cr] at this
   rw[Addr.add_mid,Nat.zero_add,cd ag,<-N];match g,f6 with
   |0,_=>rfl
   |1,_=>rfl
   |2,_=>rfl
   |3,_=>rfl
   |4,_=>rfl
   |5,_=>rfl
   |6,_=>rfl
  have ab:=Lib.hid (And.intro e6 ag);go_upto_region 8 with fail;go_region_law (refine yb A (.tmp 79) (.tmp 80) 445 445 A 383 underlying445 Zu K 1 7 7 K 7 8 A A (kc [d,l,n,c,b,s,e,a6]).toArray 384 ab.2 (kc [d,l,n,c,b,s,e]) A ab.1 (Nat.le_refl 8) (pA _) (kc [d,d,l,n,c,b,s,e]).toArray A ?_)
  have U:=(d3.o.cI 1).jJ W [d,d,l,n,c,b,s,e];rw[show p.drewN 1=p.drew from A] at U;generalize p.drew.setRow K _=h3 at U ⊢;let⟨f1,g8⟩:=U.dN 4 (show 4<8 by decide);let⟨d0,g7⟩:=U.dN 0 (show 0<8 by decide);have ae:=(U.set W 4 (Sh.ad c T1)).set W 0 (Sh.ad T1 a3);have i:([d,d,l,n,c,b,s,e].set 4 (Sh.ad c T1)).set 0 (Sh.ad T1 a3)=Sh.lH (Sh.gE f) j (a+1):=by
   rw[show Sh.lH (Sh.gE f) j (a+1)=Sh.rnd (Sh.cubes.getD a 0) ((Sh.gE f).getD a 0) (Sh.lH (Sh.gE f) j a) from A,Z.o,<-u.1,<-u.2,<-a2.1,<-a2.2];rfl
  rw[i] at ae;have e7:=Lib.hid ae;simp only[List.getD_cons_zero,List.getD_cons_succ] at f1 d0;go_wp2;go_roundw
  .exact⟨a+1,H,gN,e7.o⟩
  simp[QI];omega
 have f4:a=64:=H;subst f4;go_wp2_with fail;have e5:=(J.o).ae4 z W;have ah:=Lib.hid e5;have c6:((64:D):C)=(64:C):=A;rw[c6];generalize G:Sh.lH (Sh.gE f) j 64=F at ah;have w:(F:D)=8:=by rw[<-G];exact Sh.kA _ _ z _
 have V:=Lib.hid G;let⟨p,g5⟩:∃p:QY,p=wr:=⟨_,A⟩;go_loopw [92] (λq wr=>∃(a:D),a<=8/\q=.int .i64 a/\Hid (vV t o K j F f O P a wr)) (λq _=>8-(QI q).toNat)
 .exact⟨0,H,A,ah⟩
 obtain⟨a,f3,rfl,J⟩:=hrel;by_cases a5:a<8
 .let⟨f0,g9,cv⟩:=J.o.mH a5 z w;have h1:o≠K:=oA J.2.2.2;generalize I:j.getD a 0=b3 at f0;generalize k:F.getD a 0=b4 at cv;have u:=Lib.hid (And.intro I.s k.s);have f8:(0:C)<=(a:C):=H;have f9:(a:C)<8:=H;have c2:=Rt;go_upto_region 15 with fail;go_region;have M:=(J.o.set a5 z w).cI 1;rw[<-u.1,<-u.2] at M;have e8:=Lib.hid M;go_wp2;go_roundw
  .exact⟨a+1,H,gN,e8.o⟩
  simp[QI];omega
 have f5:a=8:=H;subst f5;go_wp2_with fail;go_end0;have a4:=J.o;have f2:Sh.Yt j f=List.zipWith Sh.ad j F:=by rw[<-V.o];rfl
 rw[f2,<-HA z w];exact⟨A,a4.1,a4.2.2.1⟩
def bl (f:B):E D:=f.data.toList.map UInt8.toNat
def fF (f:B):(bl f:D)=f.size:=by rw[bl,Hp,JG];rfl
def tI (f:B)(j:D):bl (f.extract j f.size)=(bl f).drop j:=by
 unfold bl;rw[ByteArray.data_extract,Pg,Ql,Ps,Pu];rw[Hr];simp[<-ByteArray.size_data]
def RC (o:E D):∀j∈w8 o,j.oneCell'=U:=by
 intro j f;simp only[w8,GL] at f;obtain⟨t,_,rfl⟩:=f;rfl
def vW {P:Xp}(z:L)(V v w A:Λ)(u t U p:D)(j:B)(o:Q S)(n:Λ)
 (c:P.underlying V=M (.slice A)) (s:(P.info? A).map (·.size)=M 1) (r:z.heap[u]?=K o n) (f:D) (X:f=Nat.min j.size U) (q:t+f<=o.size):
 (Builtin.copy_ #[V,v] w #[ο (u,t) U p,O j]).run P z=
  Je (goInt f) (z.setRow u (o.toList.take t++w8 ((bl j).take f)++o.toList.drop (t+f)).toArray):=by
 have y:f<=j.size:=X▸Nat.min_le_left _ _;have W:(w8 ((bl j).take f):D)=f:=by rw[ee,GR,fF];omega
 have J:=run_storeCells_at P u t n (w8 ((bl j).take f)) 0 o z r (by rw[W];simpa using q) (RC _);have b:List.take f (List.map (λa:QO=>Z Ix (a.toNat:C)) j.data.toList)=w8 ((bl j).take f):=by
  rw[w8,bl,Ps,Js];rfl
 rw[W] at J;simp only[JC] at J;cases m:P.info? A with
 |none=>simp[m] at s
 |some x=>
  simp[Builtin.copy_,Xo c,Builtin.lenOf,Builtin.firstCells,sizeOf,typeInfo,m,<-X];rw[b,J];simp[Ω]
def tJ {u:Xp}{q:Q Le}{f:Le}{j:Act}{n:Act->L->Prop}{y:Exit->Act->L->Prop}{w:Prop}(e:f.guard=J)(m s:Kg)(W r:Λ)
 (G:f.op=.call {callee:=.builtin .copy,args:=#[m,s],argTypes:=#[W,r]}) (X:Λ) (i:u.underlying W=M (.slice X)) (x:(u.info? X).map (·.size)=M 1)
 (z off V a:D) (A:B) (hd:j.eval m=ο (z,off) V a) (H:j.eval s=O A)
 (t:Q S) (b:Λ) (d:g.heap[z]?=K t b) (o:D) (h:o=Nat.min A.size V) (c:off+o<=t.size) (Z:Q S) (F:(t.toList.take off++w8 ((bl A).take o)++t.toList.drop (off+o)).toArray=Z)
 (k:n (j.put f.dst (goInt o)) (g.setRow z Z)):if Jb f (Xg q j.tmps)=U then Ld u f j g n y else w:=by
 have v:Jb f (Xg q j.tmps)=U:=by simp[Jb,e]
 rw[QU v];have p:=vW (P:=u) g W r f.type X z off V a A t b i x d o h c;rw[F] at p;simp[Ld,Xb,G,resolve,invoke,builtin,hd,H,p,Ω];exact k
def over (j:E D)(f:D)(part:E D):E D:=j.take f++part++j.drop (f+part.length)
def zX {f:E D}(j:w+(f:D)<=(x:D)):(over x w f:D)=(x:D):=by
 simp[over];omega
def HB {wait:E D}{held:D}{part:E D}(f:held+(part:D)<=(wait:D)):(over wait held part).take (held+(part:D))=wait.take held++part:=by
 rw[over,Ja QB];exact Hr QB
def zY {H wait:E D}(u:(H:D)=8)(z:(wait:D)=64)(f o:D){part:E D}(A:f+(part:D)<=64)(j:D):
 ((bR H wait j o).take (8+f)++w8 part++(bR H wait j o).drop (8+f+(part:D)))=bR H (over wait f part) j o:=by
 have t:(kc H:D)=8:=by rw[cr,u]
 have J:(w8 wait:D)=64:=by rw[ee,z]
 unfold bR over;rw[List.take_append,Hr (show(kc H).length<=8+f by omega),t,(om:8+f-8=f),Ja (om:f<=(w8 wait:D))];rw[List.drop_append,List.drop_of_length_le (show(kc H).length<=8+f+part.length by omega),t,(om:8+f+(part:D)-8=f+(part:D)),LV (om:f+(part:D)<=(w8 wait:D))];simp[w8,Ps,Pu]
def tK {f:E D}(t:(x:D)=8)(u:(f:D)=64)(z j o:D):(bR x f z j).set 72 (G (o:C))=bR x f o j:=by
 rw[bR,IC _ _ (by rw[cr];omega),cr,t,IC _ _ (by rw[ee];omega),ee,u];rfl
def tM {f:E D}(t:(x:D)=8)(u:(f:D)=64)(j z o:D):(bR x f j z).set 73 (Z If (o:C))=bR x f j o:=by
 rw[bR,IC _ _ (by rw[cr];omega),cr,t,IC _ _ (by rw[ee];omega),ee,u];rfl
def fm (u:L)(o:D)(f:Sh.St)(t:D):Prop:=
 f.ok/\∃j:E D,j.length=64/\j.take f.gr.length=f.gr/\u.heap[o]?=K (bR f.H j f.gr.length t).toArray 387
def fp (z:L)(o:D)(f j:E D)(t u:D):Prop:=f.length=8/\j.length=64/\z.heap[o]?=K (bR f j t u).toArray 387
def fp.mH {u:E D}(t:fp g w x u q a):
 g (w,72)=(q:C)/\g.frozen? (w,72)=X/\g (w,73)=Z If (a:C)/\g.frozen? (w,73)=X:=by
 obtain⟨j,o,f⟩:=t;exact⟨by rw[cd f,zU j o],aI f _,by rw[cd f,zV j o],aI f _⟩
def fp.ack {t:E D}(u:fp g w x t q a)(f:D):fp (g.setCell (w,72) (G (f:C))) w x t f a:=by
 obtain⟨j,o,z⟩:=u;refine⟨j,o,?_⟩;rw[bJ z,<-tK j o q a f];simp
def fp.acm {t:E D}(u:fp g w x t q a)(f:D):fp (g.setCell (w,73) (Z If (f:C))) w x t q f:=by
 obtain⟨j,o,z⟩:=u;refine⟨j,o,?_⟩;rw[bJ z,<-tM j o q a f];simp
def fp.over {w:L}{f:D}{j:E D}(o:fp w f x j q a){m:D}{part:E D}(t:m+(part:D)<=64):
 fp (w.setRow f (bR x (over j m part) q a).toArray) f x (over j m part) q a:=let⟨g,i,h⟩:=o;⟨g,by rwa[zX H],setRow_heap _ _ _ _ _ _ h⟩
def fm.open {f:Sh.St}(t:fm g w f q):∃j:E D,j.take f.gr.length=f.gr/\fp g w f.H j f.gr.length q:=by
 obtain⟨u,j,A,z,o⟩:=t;exact⟨j,z,u.1,A,o⟩
def fm.mk {f:Sh.St}(t:f.ok){wait:E D}(o:wait.take (f.gr:D)=f.gr)(j:fp g w f.H wait (f.gr:D) q):fm g w f q:=
 ⟨t,wait,j.2.1,o,j.2.2⟩
def acn:(N.info? 5).map (·.size)=M 1:=e
def Cy (f:k.size=0):k.toList=[]:=by
 have:k=ByteArray.empty:=by
  apply ByteArray.ext;apply Array.eq_empty_of_size_eq_zero;exact f
 rw[this,Lib.toList_data];rfl
def aco:S->D|O a=>a.size|_=>0
def sr {t:Sh.St}{x:B}(o:w=(t.gr:D))(f:w+q<64)(j:q<=x.size):
 Sh.ew t (bl x)=Sh.ew ⟨t.H,t.gr++(bl x).take q⟩ (bl (x.extract q x.size)):=by
 rw[tI];conv=>lhs;rw[<-IZ q (bl x),Sh.lI]
 rw[Sh.zR t _ (by rw[GR,fF];omega)]
def su {t:Sh.St}{x:B}{f:E D}(u:t.ok)(K:w=(t.gr:D))(A:w+q=64)(J:q<=x.size)(z:f.take w=t.gr)(M:(f:D)=64):
 Sh.ew t (bl x)=Sh.ew ⟨Sh.Yt t.H (over f w ((bl x).take q)),[]⟩ (bl (x.extract q x.size)):=by
 have j:((bl x).take q:D)=q:=by rw[GR,fF];omega
 rw[tI];conv=>lhs;rw[<-IZ q (bl x),Sh.lI]
 rw[Sh.Cv t _ (oA j) u.2];have o:over f w ((bl x).take q)=t.gr++(bl x).take q:=by
  rw[over,z,j,List.drop_of_length_le om,IS]
 rw[o]
def wJ (j:D)(z:ν)(M:Sh.St)(o:D)(f:B)(J:fm z j M o)(v:jq z)(r:1<j)(y:o+f.size<=4611686018427387904):
 τ γ 158 #[ξ j,f] z λh a5=>
  h=ι (ξ j)/\fm a5 j (Sh.ew M (bl f)) (o+f.size)/\cQ (z:D) j z a5:=by
 let⟨e4,a2,n⟩:=J.open;let⟨q,s,a7,a8⟩:=n.mH;have ae:f.size<=4611686018427387904:=om;have b3:If.wrap ((o:C)+(f.size:C))=((o+f.size:D):C):=by
  simp[IntKind.wrap,IntKind.bits,IntKind.signed];omega
 have b4:If.wrap (f.size:C)=(f.size:C):=by
  simp[IntKind.wrap,IntKind.bits,IntKind.signed];omega
 have b9:=F y;have a6:=F ae;have K:=F (W a2 (W n (W J.1 v)));clear y ae n J v a2;go_enter func158,ntmps158;go_wp2_with fail;have O:=F (W (K.2.1.acm (o+f.size)) ((cQ.bQ (z:D) j z).set 73 (ε If ((o+f.size:D):C))));rw[show((o+f.size:D):C)=(o:C)+(f.size:C) from A] at O;generalize z.setCell (j,73) (ε If ((o:C)+(f.size:C)))=e1 at O ⊢;clear b3 b4 q s a7 a8;go_loopw [1] (λl wr=>∃(c:B) (e:Sh.St),l=β c/\Φ (Sh.ew e (bl c)=Sh.ew M (bl f))/\Φ (c.size<=4611686018427387904)/\Φ (fm wr j e (o+f.size))/\Φ (cQ (z:D) j z wr)) (λl _=>aco l)
 .exact⟨f,M,A,A,a6,fm.mk K.2.2.1 K.1 O.1,O.2⟩
 obtain⟨c,e,rfl,G,a4,J,Y⟩:=hrel;by_cases I:c.toList=[]
 .go_wp2_with fail;go_ret;have b0:bl c=[]:=by rw[bl,<-Lib.toList_data,I];rfl
  have h:=G.o;rw[b0] at h;exact⟨A,h▸J.o,Y.o⟩
 have e0:(!c.toList.isEmpty)=ψ:=sU I;have e2:c.size≠0:=λh=>I (Cy h);let⟨k,i,n⟩:=J.o.open;let⟨q,s,_,_⟩:=n.mH;let⟨b,d⟩:∃b,b=(e.gr:D):=⟨_,A⟩;rw[<-d] at q n i;have d9:b<64:=d▸J.1.2;let⟨a,T⟩:∃a,a=min c.size (64-b):=⟨_,A⟩;have x:a<=c.size:=om;have d8:b+a<=64:=om;have d6:0<a:=om;have a0:((bl c).take a:D)=a:=by rw[GR,fF];omega
 have ab:((bR e.H k b (o+f.size)).toArray.toList.take (8+b)++w8 ((bl c).take a)++(bR e.H k b (o+f.size)).toArray.toList.drop (8+b+a)).toArray=(bR e.H (over k b ((bl c).take a)) b (o+f.size)).toArray:=by
  have h:=zY (H:=e.H) (wait:=k) J.1.1 n.2.1 b (o+f.size) (part:=(bl c).take a) om b;rw[a0] at h;rw[Nk,h]
 have R:8+b+a<=(bR e.H k b (o+f.size)).toArray.size:=by
  rw[GZ,kD n.1 n.2.1];omega
 have c7:(0:C)<=(b:C):=om;have c8:(b:C)<=64:=om;have d1:(b:C)<64:=om;have d2:b≠64:=om;have c2:64≠b:=om;have u:=F (W d (W T (W ab (W R (W i n)))));clear d T ab R i n a0;go_upto_region 3 with fail;go_region_law (refine tJ A (.tmp 25) (.tmp 26) 288 9 A 5 Jm acn j (8+b) (64-b) (64-b) c A A _ 387 u.2.2.2.2.2.2.2 a u.2.1 u.2.2.2.1 _ u.2.2.1 ?_)
 have P:fp (wr.drew.setRow j (bR e.H (over k b ((bl c).take a)) b (o+f.size)).toArray) j e.H (over k b ((bl c).take a)) b (o+f.size):=by
  have a9:=fp.over (w:=wr.drew) (m:=b) (part:=(bl c).take a) u.2.2.2.2.2 (by rw[GR,fF];omega);exact a9
 have g:cQ (z:D) j z (wr.drew.setRow j (bR e.H (over k b ((bl c).take a)) b (o+f.size)).toArray):=(Y.o.cI 1).Zq _;generalize wr.drew.setRow j _=b6 at P g ⊢;clear q s;let⟨q,s,_,_⟩:=P.mH;have L:=P.ack (b+a);have V:=g.set 72 (ϑ ((b+a:D):C));rw[show((b+a:D):C)=(b:C)+(a:C) from A] at L V;have w:jq (b6.setCell (j,72) (ϑ ((b:C)+(a:C)))):=K.2.2.2.only V r (by have:=K.2.2.2.1;exact this);have a3:(c.extract a c.size).size<=4611686018427387904:=by have:=a4.o;simp[ax];omega
 have t:=F (W L (W V (W w a3)));clear P g L V w a3;have c3:(a:C)<=(c.size:C):=om;have c6:(0:C)<=(a:C):=om;have d3:(b:C)+(a:C)<=64:=om;have b5:=a4.o;have d4:(c.size:C)<=4611686018427387904:=om;clear b5;by_cases U:b+a=64
 .have b2:((b:C)+(a:C)==64)=ψ:=QB;have m:=F U;clear U;go_wp2_with ((apply(Vr j _ e.H _ _ _ t.1.1 t.1.2.1 t.2.2.1 r t.1.2.2).m);rintro h b7 ⟨rfl,S,af⟩;have X:fp b7 j _ _ _ _:=⟨Sh.oM _ _ t.1.1,t.1.2.1,S⟩;let⟨c4,c0,_,_⟩:=X.mH;have p:=F (W X af);clear X af S);go_roundw
  .have h:=su (t:=e) (x:=c) J.1 u.1 m.o x u.2.2.2.2.1 u.2.2.2.2.2.2.1;exact⟨c.extract a c.size,⟨Sh.Yt e.H (over k b ((bl c).take a)),[]⟩,A,h.s.t G.o,t.2.2.2,fm.mk ⟨Sh.oM _ _ t.1.1,sm⟩ A (p.1.ack 0),(t.2.1.aJ (p.2.cz (by have:=t.2.1.aH;exact this))).set 72 _⟩
  show(c.extract a c.size).size<c.size;simp[ax];omega
 have b2:((b:C)+(a:C)==64)=σ:=QB;have m:=F U;clear U;go_wp2_with fail;go_roundw
 .have a1:b+a<64:=oA m.o;have h:=sr (t:=e) (x:=c) u.1 a1 x;have Z:(e.gr++(bl c).take a:D)=b+a:=by rw[Gk,GR,fF,<-u.1];omega
  refine⟨c.extract a c.size,⟨e.H,e.gr++(bl c).take a⟩,A,h.s.t G.o,t.2.2.2,fm.mk ⟨J.1.1,Z▸a1⟩ (wait:=over k b ((bl c).take a)) ?_ ?_,t.2.1⟩
  .have N:=HB (wait:=k) (held:=b) (part:=(bl c).take a) (by have:=u.2.2.2.2.2.2.1;rw[GR,fF];omega);rw[show((bl c).take a).length=a by rw[GR,fF];omega,u.2.2.2.2.1] at N;show(over k b ((bl c).take a)).take (e.gr++(bl c).take a:D)=_;rw[Z,N]
  show fp _ j e.H _ (e.gr++(bl c).take a:D) _;rw[Z];exact t.1
 show(c.extract a c.size).size<c.size;simp[ax];omega
def wA:(N.info? 5).map (λa=>(a.zero,a.size,a.bytes))=M (M (Z Ix 0),1,1):=e
def Zv:(N.info? 387).map (·.size)=M 74:=e
def Zw:(N.info? 384).map (·.size)=M 8:=e
def RD (f:L):(Xs 387).run N f=Je (Γ (bR (Jr 8 0) (Jr 64 0) 0 0).toArray) f:=
 (zero_of_info (P:=N) (t:=387) (n:=74) e).1 f
def tx (f:E D):B:=strOfNums (f.map λb:D=>(b:C))
def acp (f:∀b∈x,b<256):bl (tx x)=x:=by
 rw[bl,tx,strOfNums_data,Js,Js];conv=>rhs;rw[<-List.map_id x]
 refine Kz λb d=>?_;have:=f b d;simp[PF];omega
def dP (f:E D):(tx f).size=(f:D):=by simp[tx,strOfNums_size]
def zC {w:L}{g n cap:D}{l:E D}(j:(l:D)=n)(f:∀a,a<n->w (g,a)=(w8 l)[a]?):
 (convert 288 9 (P g n cap)).run N w=Je (O (tx l)) w:=by
 refine run_convert_bytes_arg w 288 5 Jm Pz g 0 n cap _ (sU j) (λa c=>?_) 9 Jh;rw[GU,f a c,Ry H];simp[(H:a<(l:D))]
def RE (f:g.ownsRow w 5 1 (P q a a) a b):g.heap[q]?=K b.toArray 5:=by
 obtain⟨_,f|⟨J,z,A,j,_,t,_,_,u,o⟩⟩:=f
 .cases f.1
 simp only[Gy,Gd,GS] at j;obtain⟨⟨rfl,_⟩,_,rfl⟩:=j;rw[Hr (by simp[u])] at o;rw[t,<-o]
def sw (j:E D)(u:(j:D)=8)(f:D)(W:f<8)(o:L):(Instr.index 384 (t (kc j).toArray) (G (f:C))).run N o=Je (Z Ik ((j.getD f 0:D):C)) o:=by
 obtain⟨A,J,K,M,V,O,P,U,rfl⟩:=Yx j u;have z:f=0\/f=1\/f=2\/f=3\/f=4\/f=5\/f=6\/f=7:=H;rcases z with rfl|rfl|rfl|rfl|rfl|rfl|rfl|rfl<;>(show _=_;kernel_rfl)
def Cz (f:D):If.wrap (f:C)=((f%18446744073709551616:D):C):=by
 simp[IntKind.wrap,IntKind.bits,IntKind.signed]
def tl (j o f:D):E D:=128::(Jr (Sh.dB j) 0++((Sh.Cw o).take f++Jr (8-f) 0))
def iK (f:D):(Sh.Cw f:D)=8:=by simp[Sh.Cw]
def qR (f o j:D)(t:j<=8):(tl f o j:D)=Sh.dB f+9:=by
 simp[tl,iK];omega
def Et (f j:D):tl f j 8=Sh.ya f j:=by
 rw[tl,Sh.ya,Hr (by rw[iK];omega)];simp
def Zx (j o f:D)(u:f<8):(tl j o f).set (Sh.dB j+1+f) (o*8%18446744073709551616/2^ (56-8*f)%256)=tl j o (f+1):=by
 unfold tl;rw[show Sh.dB j+1+f=(Sh.dB j+f)+1 by omega,Gn,IC _ _ R,LJ,show Sh.dB j+f-Sh.dB j=f by omega];rw[IC _ _ (by rw[GR,iK];omega),JO (by rwa[iK])];have t:((Sh.Cw o).take f:D)=f:=by rw[GR,iK];omega
 let⟨d,a⟩:∃d,8-f=d+1:=⟨7-f,H⟩;rw[t,PG,a,Lq,Gw,(H:8-(f+1)=d),Km];congr 4;simp[Sh.Cw]
def Vs (f j:D):w8 (tl f j 0)=(madeCells #[Z Ix 0] ((Sh.dB f+9)*1)).toList.set 0 (Z Ix 128):=by
 rw[Ny,toList_madeCells_one,(H:Sh.dB f+9=(Sh.dB f+8)+1),Lq,Gw];rw[tl,w8,Hw,Ho,List.replicate_append_replicate,Ij,List.map_replicate];rfl
def Vt (o t:D):∀j∈Sh.ya o t,j<256:=by
 intro j f;simp only[Sh.ya,Sh.Cw,GF,GO,List.mem_replicate,GL,List.mem_range] at f;rcases f with rfl|⟨_,rfl⟩|⟨u,_,rfl⟩<;>omega
def acq (o:E D):∀j∈Sh.mF o,j<256:=by
 intro j f;simp only[Sh.mF,Jw,GF,Hv,Xf] at f;obtain⟨t,_,rfl|rfl|rfl|rfl⟩:=f<;>omega
def fm.mk0 {f:Sh.St}(j:f.ok)(u:(x:D)=64)(t:x.take (f.gr:D)=f.gr)(o:g.heap[w]?=K (bR f.H x (f.gr:D) q).toArray 387):fm g w f q:=
 ⟨j,x,u,t,o⟩
def RF (j:L)(f tb:D)(u A:E D)(t o z:D)(wr:L):Prop:=
 fp wr f u A t o/\wr.heap[tb]?=K (w8 (tl t o z)).toArray 5/\T j j wr/\j.heap.size<=f/\f<tb
def RG {f:E D}(t:fp g w x f q a)
 (z:s.ownsRow g 5 1 (P (M ⟨(g.alloc (K (bR x f q a).toArray 387):D),0,J⟩) (Sh.dB q+9) (Sh.dB q+9)) (Sh.dB q+9) (madeCells #[Z Ix 0] ((Sh.dB q+9)*1)).toList)
 (u:(g.alloc (K (bR x f q a).toArray 387)).grownBy s J):
 s ⟨g+1,0,J⟩=Z Ix 0/\s.frozen? ⟨g+1,0,J⟩=X/\RF g g ((g:D)+1) x f q a 0 (s.setCell ⟨g+1,0,J⟩ (Z Ix 128)):=by
 have o:(g.alloc (K (bR x f q a).toArray 387):D)=g+1:=R;rw[o] at z;have j:=RE z;have U:=((Ge _ g).a d _).grown u (oA o) nF;have A:s.heap[(g:D)]?=K (bR x f q a).toArray 387:=by
  rw[u.block _ (oA o) (by intro O;cases O)];exact heap_alloc_last _ _
 have V:(madeCells #[Z Ix 0] ((Sh.dB q+9)*1)).toList=Z Ix 0::Jr (Sh.dB q+8) (Z Ix 0):=by
  rw[Ny,toList_madeCells_one,(H:Sh.dB q+9=(Sh.dB q+8)+1),Lq]
 refine⟨?_,aI j 0,⟨t.1,t.2.1,?_⟩,?_,?_,d,Nat.lt_succ_self _⟩
 .rw[cd j,V];rfl
 .rw[QJ (H:(g:D)≠(g:D)+1)];exact A
 .rw[bJ j,Vs,Gi]
 exact U.s (p:=⟨g+1,0,J⟩) (H:(g:D)<=(g:D)+1) _
def RF.fb {wr:L}{o:E D}{f:D}(d:RF g w q x o a i f wr)(M:f<8):
 RF g w q x o a i (f+1) (wr.setCell (q,1+Sh.dB a+f) (Z Ix ((i:C)*8%18446744073709551616/2^ (56-8*f)%256))):=by
 obtain⟨j,u,z,A,K⟩:=d;refine⟨⟨j.1,j.2.1,?_⟩,?_,z.s (p:=⟨q,_,J⟩) (by show g<=q;omega) _,A,K⟩
 .rw[QJ (by show w≠q;omega)];exact j.2.2
 have t:(i:C)*8%18446744073709551616/2^ (56-8*f)%256=((i*8%18446744073709551616/2^ (56-8*f)%256:D):C):=by
  rw[Int.natCast_emod,Int.natCast_ediv,Int.natCast_emod,Qc,Int.natCast_pow];rfl
 rw[bJ u,t,<-Zx a i f M,Gi,show 1+Sh.dB a+f=Sh.dB a+1+f by omega];congr 3;unfold w8;rw[NQ]
def CA {wr:L}{A f:Sh.St}(J:w=(g:D))(K:fm wr w A q)(j:T g g wr)(u:fm l w f a)(z:cQ wr w wr l):
 l.rangeAt w 0 (kc f.H)/\(f.H:D)=8/\T g g l/\(g:D)<=(l:D):=by
 let⟨m,v,d,s,b⟩:=u;have t:=j.t (z.aE om j.z);refine⟨λc h e=>?_,m.1,t,t.z⟩;have o:c<(f.H:D):=by have:=(Gg.1 e).1;rwa [cr] at this
 rw[lJ o] at e;rwa[GU,cd b,mG _ _ o]
def HC (f:s.rangeAt w 0 (kc x)/\(x:D)=8/\T g g s/\(g:D)<=(s:D))(j:s.grownBy l J):
 l.rangeAt w 0 (kc x)/\(N.info? 384).map (·.size)=M (kc x:D)/\T g g l:=
 ⟨λa k i=>j.cell (f.1 a k i) (by intro o;cases o),by rw[cr,f.2.1];exact Zw,f.2.2.1.grown j f.2.2.2 nF⟩
def vX {M:Q Le}{O:E Le}{j:Le}{f:Act}{A:Exit->Act->L->Prop}(c:j.guard=J)(U V W X:Kg)
 (v:j.op=Op.buildSlice 288 4 #[(0,U),(1,V),(2,W),(3,X)]) (o t u z:C) (p:f.eval U=Z Ix o) (q:f.eval V=Z Ix t) (r:f.eval W=Z Ix u) (s:f.eval X=Z Ix z)
 (a:Ji N M A O (f.put j.dst (P g 4 4)) (g.alloc (K #[Z Ix o,Z Ix t,Z Ix u,Z Ix z] 5))):Ji N M A (j::O) f g:=by
 refine Xt c λx b=>?_;have w:(Instr.buildSlice 288 4 #[(0,Z Ix o),(1,Z Ix t),(2,Z Ix u),(3,Z Ix z)]).run N g=Je (P g 4 4) (g.alloc (K #[Z Ix o,Z Ix t,Z Ix u,Z Ix z] 5)):=e;simp only[Ld,Xb,v,PT,Ij,PI,p,q,r,s,w,Ω,IE,Kb];exact b _ _ a
def Vu (V:D)(t:ν)(z:Sh.St)(j:D)(l:fm t V z j)(a5:jq t)(c0:j<=1152921504606846976):
 τ γ 159 #[ξ V] t λe f8=>
  e=ι (β (tx (Sh.sum z j)))/\ρ t t f8:=by
 let⟨y,T,q⟩:=l.open;have n:=l.1;let⟨e4,g0,e6,g1⟩:=q.mH;let⟨v,r,d3,p,d4⟩:=Xv wA;have f0:=aw q.2.2;let⟨b,d⟩:∃b,b=(z.gr:D):=⟨_,A⟩;rw[<-d] at e4 q T;have g5:b<64:=d▸n.2;have a4:(γ.info? 387).map (·.size)=δ (bR z.H y b j).toArray.size:=by
  rw[GZ,kD q.1 q.2.1];exact Zv
 have a7:(bR (Jr 8 0) (Jr 64 0) 0 0).toArray.size=(bR z.H y b j).toArray.size:=by
  rw[GZ,GZ,kD q.1 q.2.1];rfl
 have g:(bR z.H y b j).toArray.all (·.oneCell')=ψ:=XN (λI c=>by
  simp only[bR,GO,GF,Hv,Xf] at c
  rcases c with c|c|rfl|rfl
  .exact pA _ I c
  .exact RC _ I c
  .rfl
  rfl)
 have o:=F (W q (W n (W T (W a5 (W d (W a4 (W a7 g)))))));have e1:=F c0;have g6:=RD;have g8:(119-(b:C))%64=((Sh.dB b:D):C):=by unfold Sh.dB;omega
 have g7:Sh.dB b<64:=Nat.mod_lt _ dc;have O:Φ ((1+((Sh.dB b:D):C)+8=((Sh.dB b+9:D):C))/\1*(Sh.dB b+9)<=281474976710656/\Sh.dB b+9<=Ie):=⟨om,om,by unfold Ie;omega⟩;clear q n T a5 d a4 a7 g l c0;go_enter func159,ntmps159;go_wp2_with (first|(apply XK A 387 (.tmp 11) A V A 387 (bR z.H y b j).toArray (0,0) _ o.1.2.2 underlying387 A o.2.2.2.2.2.1)|(apply Xw A 387 (.tmp 3) (.tmp 12) A _ _ A A 387 (bR (Jr 8 0) (Jr 64 0) 0 0).toArray (heap_alloc_last _ _) o.2.2.2.2.2.1 o.2.2.2.2.2.2.1 o.2.2.2.2.2.2.2;rw[World.setRow_alloc_new])|(apply wpList_make_full _ A (.tmp 21) (.tmp 21) 288 A (t:D) 5 v (Z Ix 0) 1 Jm r d3 p u u _ _ (Sh.dB b+9) A A O.1 O.1 (d4▸O.2.1) O.2.2 sm;intro f7 c6 b4;let⟨x0,d6,L⟩:=RG o.1 c6 b4;have X:=F L;clear L c6 b4));clear O;generalize (t:D)+1=tb at X x0 d6 ⊢;have f6:∃s,s=(t:D):=⟨_,A⟩;let⟨s,N⟩:=f6;have x:=F N;rw[<-N] at X ⊢;clear N;generalize f7.setCell tb (Z Ix 128)=h4 at X ⊢;clear x0 d6;go_loopw [25] (λh wr=>∃(a:D),a<=8/\h=ϑ a/\Φ (RF t s tb z.H y b j a wr)) (λh _=>8-(QI h).toNat)
 .exact⟨0,om,A,X⟩
 obtain⟨a,f2,rfl,S⟩:=hrel;by_cases f3:a<8
 .have K:=S.o;have f9:=(K.2.2.1.cell (p:=⟨V,73,ζ⟩) f0).t e6;have a0:∃d8,wr ⟨tb,1+Sh.dB b+a,ζ⟩=δ d8:=⟨(w8 (tl b j a))[1+Sh.dB b+a]'(by rw[ee,qR _ _ _ om];omega),by rw[cd K.2.1];simp⟩;let⟨d8,a0⟩:=a0;have g2:=aI K.2.1 (1+Sh.dB b+a);clear K;have g4:If.wrap ((j:C)*8)=((j*8%18446744073709551616:D):C):=by
   have:=Cz (j*8);rw[Qc] at this;exact this
  have g9:(0:C)<=(a:C):=om;have h0:(a:C)<8:=om;have h1:1+((Sh.dB b:D):C)+(a:C)<((Sh.dB b+9:D):C):=om;have h2:(0:C)<=56-8*(a:C):=om;have h3:56-8*(a:C)<=64:=om;go_wp2;go_roundw
  .exact⟨a+1,om,gN,S.o.fb f3⟩
  simp[QI];omega
 have m:a=8:=om;subst m;have K:=S.o;have e8:=zC (w:=wr) (g:=tb) (n:=Sh.dB b+9) (cap:=Sh.dB b+9) (l:=tl b j 8) (qR _ _ _ QD) (λh r=>cd K.2.1 h);rw[Et] at e8;have a6:=o.2.2.2.1.aE K.2.2.1 o.2.2.2.1.1;have e9:1<s:=x.o▸o.2.2.2.1.1;have b9:=fm.mk0 o.2.1 K.1.2.1 (o.2.2.2.2.1▸o.2.2.1) (o.2.2.2.2.1▸K.1.2.2);have b2:j+(tx (Sh.ya b j)).size<=4611686018427387904:=by
  have g:=qR b j 8 QD;have L:=e1.o;rw[Et] at g;rw[dP];omega
 have M:=F (W b9 (W a6 (W b2 K.2.2.1)));clear K a6 b9 b2;go_wp2_with (first|((apply(wJ s _ z j (tx (Sh.ya b j)) M.1 M.2.1 e9 M.2.2.1).m);rintro e d9 ⟨rfl,b7,c7⟩;have w:=F (CA x.o M.1 M.2.2.2 b7 c7);clear b7 c7)|(apply wpList_make_own _ A _ _ 288 A (t:D) 5 v (Z Ix 0) 1 Jm r d3 p u u _ 32 A A A (by rw[d4];decide) (by unfold Ie;decide) w.2.2.2;intro h5 P b5;have G:=F (HC w.o b5);clear b5)|(apply Xj A 384 (.tmp 49) A s 0 A (kc (Sh.ew z (bl (tx (Sh.ya b j)))).H) (.array 8 383) G.1 underlying384 A G.2.1));have c8:=P.lt d9 A;generalize d9=U at P c8 ⊢;have f5:=F P;clear P;generalize k:(Sh.ew z (bl (tx (Sh.ya b j)))).H=J at G ⊢;have a8:(J:D)=8:=k▸(Sh.tG o.2.1 _).1;have e5:=F k;clear k;go_loopw [51,7] (λh I wr=>∃(a:D),a<=8/\h=ϑ a/\I=ο U (4*a) 32/\Φ (wr.ownsRow t 5 1 (ο U (4*a) 32) (4*a) (w8 (Sh.mF (J.take a))))/\Φ (ρ t t wr)) (λh _ _=>8-(QI h).toNat)
 .exact⟨0,om,A,A,f5,G.2.2⟩
 obtain⟨a,f2,rfl,rfl,d1,i⟩:=hrel;by_cases f4:a<8
 .have f1:=sw J a8 a f4;generalize d2:J.getD a 0=f at f1;have e2:=F d2;clear d2;have a1:(f:C)/16777216%256=((f/16777216%256:D):C):=om;have a2:(f:C)/65536%256=((f/65536%256:D):C):=om;have ab:(f:C)/256%256=((f/256%256:D):C):=om;have a3:(f:C)%256=((f%256:D):C):=om;have b3:w8 (Sh.mF (J.take a))++[Z Ix ((f:C)/16777216%256),Z Ix ((f:C)/65536%256),Z Ix ((f:C)/256%256),Z Ix ((f:C)%256)]=w8 (Sh.mF (J.take (a+1))):=by
   have e:=JO (l:=J) (i:=a) om;have e7:J[a]'om=f:=by rw[<-e2.o];simp[IL,(om:a<(J:D))]
   rw[e,e7,a1,a2,ab,a3];unfold w8 Sh.mF;rw[Hj,Io];rfl
  have e0:=F b3;clear b3 a1 a2 ab a3;go_wp2_with (first|(apply vX A (.tmp 57) (.tmp 60) (.tmp 63) (.tmp 65) A _ _ _ _ A A A A)|(at_builtin;refine wpList_append_fits _ A (.tmp 54) (.tmp 66) 288 A t 5 v 1 Jm r p U (4*a) 32 (w8 (Sh.mF (J.take a))) A ?c1 ⟨wr,0,ζ⟩ 4 4 [Z Ix ((f:C)/16777216%256),Z Ix ((f:C)/65536%256),Z Ix ((f:C)/256%256),Z Ix ((f:C)%256)] A A ?c2 ?c3 ?c4 ?c5));case c1=>exact d1.o.alloc _
  case c2=>exact World.news_of_block (cs:=#[Z Ix ((f:C)/16777216%256),Z Ix ((f:C)/65536%256),Z Ix ((f:C)/256%256),Z Ix ((f:C)%256)]) (t:=5) (fr:=(0,0)) (Xm wr _)
  case c3=>simp[φ]
  case c4=>omega
  case c5=>
   intro h6 R b6;rw[e0.o] at R;have a9:=i.o.a i.o.z (θ #[Z Ix ((f:C)/16777216%256),Z Ix ((f:C)/65536%256),Z Ix ((f:C)/256%256),Z Ix ((f:C)%256)] 5);have b0:=a9.grown b6 (oS i.o.z) (λh r=>by have:=c8.1;cases r;exact this);have Y:=F (W R b0);clear R b6 a9 b0;go_wp2;go_roundw
   .exact⟨a+1,om,gN,A,Y.1,Y.2⟩
   simp[QI];omega
 have m:a=8:=om;subst m;have g3:=zC (w:=wr) (g:=U) (n:=32) (cap:=32) (l:=Sh.mF J) (by rw[Sh.pz,a8]) (λh r=>by
  have:=d1.o.cellAt h om
  rw[Hr om] at this
  exact this)
 go_wp2_with fail;go_ret;refine⟨?_,i.o⟩;rw[Sh.sum,<-e5.o,acp (Vt _ _),o.2.2.2.2.1];rfl
def Vv (f:L):(Xs 387).run N f=Je (t #[Z Ik 0,Z Ik 0,Z Ik 0,Z Ik 0,Z Ik 0,Z Ik 0,Z Ik 0,Z Ik 0,Z Ix 0,Z Ix 0,Z Ix 0,Z Ix 0,Z Ix 0,Z Ix 0,Z Ix 0,Z Ix 0,Z Ix 0,Z Ix 0,Z Ix 0,Z Ix 0,Z Ix 0,Z Ix 0,Z Ix 0,Z Ix 0,Z Ix 0,Z Ix 0,Z Ix 0,Z Ix 0,Z Ix 0,Z Ix 0,Z Ix 0,Z Ix 0,Z Ix 0,Z Ix 0,Z Ix 0,Z Ix 0,Z Ix 0,Z Ix 0,Z Ix 0,Z Ix 0,Z Ix 0,Z Ix 0,Z Ix 0,Z Ix 0,Z Ix 0,Z Ix 0,Z Ix 0,Z Ix 0,Z Ix 0,Z Ix 0,Z Ix 0,Z Ix 0,Z Ix 0,Z Ix 0,Z Ix 0,Z Ix 0,Z Ix 0,Z Ix 0,Z Ix 0,Z Ix 0,Z Ix 0,Z Ix 0,Z Ix 0,Z Ix 0,Z Ix 0,Z Ix 0,Z Ix 0,Z Ix 0,Z Ix 0,Z Ix 0,Z Ix 0,Z Ix 0,G 0,Z If 0]) f:=RD f
def jr (f:L):Y N 157 #[] f λb c=>
 b=V f/\c=f.alloc (K (bR Sh.H0 (Jr 64 0) 0 0).toArray 387):=by
 have j:=Vv;go_enter func157,ntmps157;go_wp2;go_ret;exact⟨A,A⟩
def Vw (f:L):fm (f.alloc (K (bR Sh.H0 (Jr 64 0) 0 0).toArray 387)) f Sh.st0 0:=
 ⟨Sh.Rs,Jr 64 0,R,A,heap_alloc_last _ _⟩
def de (f:E B):E D:=f.flatMap bl
def mI (f:w<(v:D)):de (v.take (w+1))=de (v.take w)++bl v[w]:=by
 unfold de;rw[JO f,Hj];simp
def yc (f:E B)(j:D):(de (f.take j):D)<=(de f:D):=by
 conv=>rhs;rw[<-IZ j f]
 unfold de;rw[Hj,Gk];omega
def yd (o off Y:D)(a:E B)(f:ν)(h:jq f)(G:∀q (a1:q<(a:D)),f (o,off+q)=O a[q])(a4:o<(f:D))(a3:(a:D)<=1000000)
 (v:(de a:D)<=1152921504606846976):
 τ γ 83 #[ο (o,off) (a:D) Y] f λc a0=>c=O (tx (Sh.of (de a)))/\T f f a0:=by
 have J:=F h;have p:=F G;have g:=F v;clear h G v;go_enter func83,ntmps83;go_wp2_with ((apply(jr _).m);rintro c n ⟨rfl,x⟩;have M:fm n (f:D) Sh.st0 0/\T f f n:=(x▸⟨Vw f,QG.a d _⟩);have H1:=F M;clear M x);generalize I:(f:D)=z at H1 ⊢;have t:=F I;clear I;go_loopw [9] (λe wr=>∃(b:D),b<=(a:D)/\e=ϑ b/\Φ (fm wr z (Sh.ew Sh.st0 (de (a.take b))) (de (a.take b):D))/\Φ (T z f wr)) (λe _=>(a:D)-(QI e).toNat)
 .exact⟨0,QK,A,H1.1,H1.2⟩
 obtain⟨b,a2,rfl,m,j⟩:=hrel;by_cases U:b<(a:D)
 .have S:wr (o,off+b)=O a[b]:=(j.o.cell (p:=(o,off+b)) (by show o<z;have:=t.o;omega)).t (p.o b U);have a5:(0:C)<=(b:C):=H;have a6:(b:C)<((a:D):C):=H;have i:jq wr:=J.o.aE j.o (oB J.1 t.o);have l:1<z:=oB J.1 t.o;have V:(de (a.take b):D)+(a[b]).size<=4611686018427387904:=by
   have M:=yc a (b+1);rw[mI U,Gk,fF] at M;have:=g.o;omega
  generalize y:a[b]=k at S V;have K:=F (W i (W l (W V y)));clear i l V y;go_wp2_with ((apply(wJ z _ _ _ k m.o K.1 K.2.1 K.2.2.1).m);rintro c R ⟨rfl,u,P⟩;have Z:=F (W u P);clear u P);go_roundw
  .have c:=mI U;rw[K.2.2.2] at c;refine⟨b+1,H,gN,?_,j.o.t (Z.2.aE d (oB j.o.z t.o))⟩;have X:=Z.1;rw[<-Sh.lI,<-c] at X;have N:(de (a.take b):D)+k.size=(de (a.take (b+1)):D):=by rw[c,Gk,fF]
   rwa[N] at X
  simp[QI];omega
 have s:b=(a:D):=H;subst s;have w:a.take (a:D)=a:=Hr d;have u:=m.o;rw[w] at u;have L:=F u;clear u w;have r:=F (J.o.aE j.o (oB J.1 t.o));go_wp2_with ((apply(Vu z _ _ _ L.o r.o g.o).m);rintro c R ⟨rfl,P⟩);go_ret;exact⟨A,by have:=t.o;subst this;exact j.o.t (P.m j.o.z)⟩
end Hs
end Go.Proofs.YtajnhfklchlahaaGreatDoor
