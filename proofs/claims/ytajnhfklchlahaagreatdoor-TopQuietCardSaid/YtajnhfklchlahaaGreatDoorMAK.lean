import Derived.Test.YtajnhfklchlahaaGreatDoorMAI
import Derived.Sort.OwnSortedInts
set_option linter.all false
set_option maxHeartbeats 3200000
set_option maxRecDepth 100000
namespace Go.Proofs.YtajnhfklchlahaaGreatDoor
open Go.Proofs.Tryz Go.RowKit Go.Shelf
open Bool renaming false->σ,true->ψ,false->X,true->U
open Go renaming Calls->τ,TypeId->Λ,Value->π,World->ν,Calls->Y,Value->S,World->L,binOp->Xc,run_underlying->Xo,Addr->JM,Ending->He,callFunc->Xa,bodyPost_ret->QM,results_tmp->Xy,Lit->IA,zeroValue->Xs,Oper->Le,Operand->Kg,maxLen->Ie,execOp->Xb,yielded->Xg,Program->Xp,info_parts->Xv,setRow_other->XL,LoopState->Xh,run_takeDeferred->Xq,callsIn_wide->XC,callsIn_of_wp_marks->XD,cell_setRow_other->XM,wpListIn->Xn,run_loadVar_row->XH
open Go.Ending renaming returned->ι
open Go.IntKind renaming i64->η,i64->u
open Go.Obj renaming cells->θ,cells->K,map->Lz,deferred->Kc,loop->IK
open Go.Proofs.Tryz renaming prog->γ,prog->N
open Go.Result renaming ok->Je,andThen->Ω
open Go.RowKit renaming Below->ρ,Hid->Φ,Below->T,intOf->QI,wrap64->Xd
open Go.Value renaming agg->Γ,bool->υ,iface->Δ,nilIface->ω,pointer->ξ,slice->ο,string->β,tuple->χ,agg->t,bool->z,pointer->V,slice->P,string->O,tuple->f,int->Z,func->Hl,oneCell'->φ,ownBlock->Ψ,map->KD
open Option renaming none->ζ,some->δ,none->J,some->M
open Or renaming inl->Ξ,inr->Θ,inl->o,inr->j
open _root_ renaming rfl->A,ByteArray->B,Int->C,Nat->D,List->E,Array->Q,Option->QV,if_neg->QT,if_pos->QU,Array->QF,beq_eq_false_iff_ne->Xk,decide_eq_true_eq->XE,ByteArray->QE,False->QZ
open YtajnhfklchlahaaGreatDoor renaming Ga->F,ϑ->G,om->H,QD->d,Qz->e,dc->r,QC->y,eS->I,sm->R
open And renaming intro->κ,intro->W
open Go.Fn renaming func->Ic
open Go.World renaming setCell->PZ,cell?->Iz
open Go.Act renaming put->JB
open Go.Oper renaming wp->Ld
open Go.Region renaming wanted->Jb
open Decidable renaming decide->LH
open Go.LoopState renaming ready->NG
variable {w q a i:Nat}{g s l:ν}{k:ByteArray}{h:Array π}{m:π}{c:Int}{p:Λ}
namespace Fm
structure Rd where
 xs:E B
 nx:D
 bad:QV D
def Mh:QV D->S
 |none=>ω
 |some a=>Δ 419 (t #[G (a:C),Δ 27 (G 2)])
structure dE (w:L)(r:D)(d:Rd):Prop where
 bO:∃a c,w.heap[r]?=K #[P a d.xs.length c,G (d.nx:C),Mh d.bad] 351/\km w (P a d.xs.length c) d.xs
 cB:d.xs.length<=1048576/\d.nx<=d.xs.length
 aH:∀x∈d.xs,x.size<=1048576
def Rd.eQ (d:Rd):Rd:={d with bad:=d.bad.getD d.nx}
variable {w w':ν}{r:Nat}{d:Rd}
def lR {u:S}{z:E B}(f:km w u z)(t:∀a,eN w a 9->w'.heap[a]?=w.heap[a]?)(V:(w:D)<=(w':D)):km w' u z:=by
 refine⟨?_,λv s q k=>?_⟩
 .rcases f.1 with K|⟨a,U,J,rfl,M,W,O⟩
  .exact o K
  have P:=t a (f.2 _ _ _ A);exact j ⟨a,U,J,A,λn y x=>(GQ (w:=w) P).t (M n y x),H,O⟩
 let⟨e,g,c⟩:=f.2 v s q k;exact⟨e,g,(t _ ⟨e,g,c⟩).t c⟩
def Dd {f j:D}{z:Q S}{o:Λ}{J:D×D}(t:eN w f 9)(u:w.heap[j]?=K z o J)(A:o≠9):f≠j:=by
 rintro rfl;let⟨k,l,a⟩:=t;rw[u] at a;simp only[Gd,Hq] at a;exact A a.2.1
def VW (f:QV D)(j:B):Mh f≠O j:=by cases f<;>simp[Mh]
theorem dE.lQ (o:dE w r d){f:Rd}(j:f.xs=d.xs)(A:f.nx<=(d.xs:D))(t:aL (· =r) w w')(z:∀a c,w.heap[r]?=K #[P a (d.xs:D) c,G (d.nx:C),Mh d.bad] 351->w'.heap[r]?=K #[P a (d.xs:D) c,G (f.nx:C),Mh f.bad] 351):dE w' r f:=by
 let⟨a,c,g,b⟩:=o.bO;have u:=lR b (λk i=>t.aG k i.lt (Dd i g dc)) t.aH;exact⟨⟨a,c,j▸z a c g,j▸u⟩,j▸⟨o.cB.1,A⟩,j▸o.aH⟩
theorem dE.aE (j:dE w r d)(f:T w w w'):dE w' r d:=let⟨e,c,a,h⟩:=j.bO;⟨⟨e,c,Below.ke f a,lR h (λg i=>f.b g i.lt) f.z⟩,j.cB,j.aH⟩
def uF (w:L)(r f:D)(j:S):aL (· =r) w (w.setCell (r,f) j):=(aL.bQ (· =r) w).bV (p:=⟨r,f,J⟩) (λ_=>rfl) j
def Mi (f:C)(w:L):(Xc .eql 110 (Δ 419 (t #[G f,Δ 27 (G 2)])) ω).run N w=Je (z X) w:=by
 have j:∀d:D,(Op.equalIn (d+1) 110 (Δ 419 (t #[G f,Δ 27 (G 2)])) ω).run N w=Je X w:=λd=>by simp[Op.equalIn,Xo IW]
 simp only[Xc];simp[Op.equal,Op.maxDepth,j 9999]
def Mj (f:C)(w:L):(Xc .neq 110 (Δ 419 (t #[G f,Δ 27 (G 2)])) ω).run N w=Je (z U) w:=by
 have j:∀d:D,(Op.equalIn (d+1) 110 (Δ 419 (t #[G f,Δ 27 (G 2)])) ω).run N w=Je X w:=λd=>by simp[Op.equalIn,Xo IW]
 simp only[Xc];simp[Op.equal,Op.maxDepth,j 9999]
def eR (r:D)(d:Rd)(w:L)(u:dE w r d):Y N 189 #[V r] w λg w'=>g=f #[]/\dE w' r d.eQ/\aL (· =r) w w':=by
 let⟨i,a,e,l⟩:=u.bO;have c1:=cJ 1 e;have o:=cJ 2 e;have K:=aI e 2;have J:=F u;cases j:d.bad with
 |none=>
  have z:=y (dE (w.setCell (r,2) (Mh (M d.nx))) r d.eQ) (u.lQ A u.cB.2 (uF _ _ _ _) λi a g=>by
   rw[bJ g];simp[Rd.eQ,j])
  rw[j] at o;replace o:w (r,2)=ω:=o;go_enter func189,ntmps189;go_wp2;go_end0;exact⟨A,z.o,uF _ _ _ _⟩
 |some k=>
  have z:=y (d.eQ=d) (by rw[Rd.eQ,j];let⟨b,p,q⟩:=d;simp at j;simp[j]);rw[j] at o;replace o:w (r,2)=Δ 419 (t #[G (k:C),Δ 27 (G 2)]):=o;have O:=Mi;go_enter func189,ntmps189;go_wp2;go_end0;exact⟨A,z.o▸J.o,aL.bQ _ _⟩
end Fm
namespace Fm
variable {w w':ν}{r:Nat}{d:Rd}
def dq (d:Rd):B:=match d.bad with
 |some _=>⟨#[]⟩
 |none=>(d.xs[d.nx]?).getD ⟨#[]⟩
def eo (d:Rd):Rd:=match d.bad with
 |some _=>d.eQ
 |none=>if d.nx<d.xs.length then{d with nx:=d.nx+1} else d.eQ
def uG (w:L):(Xc .neq 110 ω ω).run N w=Je (z X) w:=e
def dE.cI (f:dE w r d)(n:D):dE (w.drewN n) r d:=⟨f.bO,f.cB,f.aH⟩
def VX {o:QV JM}{U t f:D}{A:E B}{j:B}(K:bS w (P o U t) A)(O:A[f]?=j):∃u z,o=M ⟨u,z,J⟩/\f<t/\w ⟨u,z+f,J⟩=j:=by
 let⟨n,a,e,k⟩:=K.bZ;simp only[Gy] at e;obtain⟨rfl,-,rfl⟩:=e;exact k f j O
def uH (r:D)(d:Rd)(w:ν)(J:dE w r d):τ γ 190 #[ξ r] w λg w'=>g=O (dq d)/\dE w' r (eo d)/\aL (· =r) w w':=by
 let⟨k,v,i,l⟩:=J.bO;have a0:=cJ 0 i;have c1:=cJ 1 i;have t:=cJ 2 i;have x:=aI i 1;have N:=J.cB;have V:=F (λb=>eR r d (w.drewN b) (J.cI b));cases f:d.bad with
 |some a=>
  have o:=y (dq d=⟨#[]⟩/\eo d=d.eQ) ⟨by rw[dq,f],by rw[eo,f]⟩;rw[f] at t;replace t:w (r,2)=Δ 419 (Γ #[ϑ (a:C),Δ 27 (ϑ 2)]):=t;have Z:=Mj;go_enter func190,ntmps190;go_wp2_with fail;go_quiet (fail);go_wp2_with fail;go_call V.o _ as g G ⟨rfl,s,u⟩;have j:=F (W s u.eM);go_wp2;go_ret;exact⟨o.1▸rfl,o.2▸j.1,j.2⟩
 |none=>
  rw[f] at t;replace t:w (r,2)=ω:=t;have Z:=uG;by_cases z:d.nx<d.xs
  .let⟨m,c⟩:∃m,d.xs[d.nx]?=δ m:=⟨_,Gf z⟩;have o:=y (dq d=m/\eo d={d with nx:=d.nx+1}) ⟨by rw[dq,f];simp[c],by rw[eo,f];exact QU z⟩;obtain⟨M,P,rfl,L,U⟩:=VX l.1 c;have p:M≠r:=λg=>by
    subst g;rw[QH i] at U;match P+d.nx,U with
    |0,a=>simp at a
    |1,a=>simp at a
    |2,a=>simp at a;exact VW _ _ a
    |a1+3,a=>simp at a
   have X:¬(d.xs:C)<=(d.nx:C):=H;have R:η.wrap ((d.nx:C)+1)=(d.nx:C)+1:=QQ H;have S:η.wrap (d.nx:C)=(d.nx:C):=QQ H;have T:(0:C)<=(d.nx:C):=H;have Y:(d.nx:C)<(d.xs:C):=H;have n:=y (∀b,∃h,(w.drewN b).setCell (r,1) (ϑ ((d.nx:C)+1))=h/\h r=ο (M,P) d.xs v/\h (r,1)=ϑ ((d.nx:C)+1)/\h (M,P+d.nx)=O m/\dE h r {d with nx:=d.nx+1}/\aL (· =r) w h) λb=>by
    have a:=bJ (w:=w.drewN b) i 1 (ϑ ((d.nx:C)+1));have K:=uF (w.drewN b) r 1 (ϑ ((d.nx:C)+1));exact⟨_,A,cR a A,cR a A,K.dN (w:=w.drewN b) U p,(J.cI b).lQ A z K (λk v g=>by rw[bJ g];simp),K.eM⟩
   go_enter func190,ntmps190;go_wp2_with fail;go_quiet (fail);let⟨h,e,d0,q,I,hF⟩:=n.o nq;have j:=F hF;have zn:¬d.xs<=d.nx:=H;go_upto_region 5 with fail;clear e;go_quiet (fail);go_wp2;go_ret;exact⟨o.1▸rfl,o.2▸j.1.cI _,j.2.cI _⟩
  have o:=y (dq d=⟨#[]⟩/\eo d=d.eQ) ⟨by rw[dq,f];simp[KU (Nat.le_of_not_lt z)],by rw[eo,f];exact QT z⟩;have X:(d.xs:C)<=(d.nx:C):=H;go_enter func190,ntmps190;go_wp2_with fail;go_quiet (fail);go_wp2_with fail;go_call V.o _ as g G ⟨rfl,s,u⟩;have j:=F (W s u.eM);go_wp2;go_ret;exact⟨o.1▸rfl,o.2▸j.1,j.2⟩
def dE.dq (f:dE w r d):(dq d).size<=1048576:=by
 unfold Fm.dq;split
 .show 0<=_;omega
 cases j:d.xs[d.nx]? with
 |none=>show 0<=_;omega
 |some c=>exact f.aH c (Gl j)
def gB (d:Rd):D:=match Rl.FW (dq d) with
 |some a=>if a<=1048577 then a else 0
 |none=>0
def eD (d:Rd):Rd:=match Rl.FW (dq d) with
 |some a=>if a<=1048577 then eo d else(eo d).eQ
 |none=>(eo d).eQ
def VY (d:Rd):gB d<=1048577:=by
 unfold gB;split
 .split<;>omega
 omega
def lD (r:D)(d:Rd)(w:L)(O:dE w r d):Y N 123 #[V r] w λb w'=>b=G (gB d:C)/\dE w' r (eD d)/\aL (· =r) w w':=by
 have M:=F (uH r d w O);have J:=F (λc=>tv (dq d) c (oA O.dq));cases f:Rl.FW (dq d) with
 |none=>
  have z:=y (gB d=0/\eD d=(eo d).eQ) ⟨by rw[gB,f],by rw[eD,f]⟩;rw[f] at J;go_enter PN,ntmps123;go_wp2_with fail;go_call M.o as b o ⟨rfl,g,h⟩;have H1:=F (W g h);go_wp2_with fail;go_call J.o o as b q ⟨rfl,a⟩;have j:=F (W (H1.1.aE a) (H1.2.then a));go_wp2_with fail;go_call eR r (eo d) q j.1 as b t ⟨rfl,l,m⟩;have A:=F (W l (j.2.aJ m));go_wp2;go_ret;exact⟨by rw[z.1];rfl,z.2▸A.1,A.2⟩
 |some i=>
  rw[f] at J;by_cases K:i<=1048577
  .have z:=y (gB d=i/\eD d=eo d) ⟨by rw[gB,f];exact QU K,by rw[eD,f];exact QU K⟩;have P:¬(1048577:C)<(i:C):=H;have U:u.wrap (i:C)=(i:C):=QQ H;go_enter PN,ntmps123;go_wp2_with fail;go_call M.o as b o ⟨rfl,g,h⟩;have H1:=F (W g h);go_wp2_with fail;go_call J.o o as b q ⟨rfl,a⟩;have j:=F (W (H1.1.aE a) (H1.2.then a));go_wp2;go_ret;exact⟨z.1▸rfl,z.2▸j.1,j.2⟩
  have z:=y (gB d=0/\eD d=(eo d).eQ) ⟨by rw[gB,f];exact QT K,by rw[eD,f];exact QT K⟩;have P:(1048577:C)<(i:C):=H;go_enter PN,ntmps123;go_wp2_with fail;go_call M.o as b o ⟨rfl,g,h⟩;have H1:=F (W g h);go_wp2_with fail;go_call J.o o as b q ⟨rfl,a⟩;have j:=F (W (H1.1.aE a) (H1.2.then a));go_wp2_with fail;go_call eR r (eo d) q j.1 as b t ⟨rfl,l,m⟩;have A:=F (W l (j.2.aJ m));go_wp2;go_ret;exact⟨by rw[z.1];rfl,z.2▸A.1,A.2⟩
def ed (d:Rd):B:=match Rl.fX (bs (dq d)) with
 |some (X,a,b)=>if(dq d).size<=a+b then(dq d).extract a (a+b) else⟨#[]⟩
 |_=>⟨#[]⟩
def eE (d:Rd):Rd:=match Rl.fX (bs (dq d)) with
 |some (X,a,b)=>if(dq d).size<=a+b then eo d else(eo d).eQ
 |_=>(eo d).eQ
def uI (r:D)(d:Rd)(w:L)(P:He->Prop)(Z:∀a,P a->(a=f #[z X,I,I,G 2])\/(∃K o,a=f #[z U,O K,O o,G 0])\/∃K o:B,o.size≠0/\a=f #[z X,O K,O o,G 0])
 (v:Φ (Y N 190 #[V r] w λa w'=>a=O (dq d)/\dE w' r (eo d)/\aL (· =r) w w')) (e:Φ (∀M,Y N 181 #[O (dq d)] M λa w'=>P a/\T M M w')):
 Y N 127 #[V r] w λa w'=>a=I/\dE w' r (eo d).eQ/\aL (· =r) w w':=by
 have x:=F Z;go_enter func127,ntmps127;go_wp2_with fail;go_call v.o as a t ⟨rfl,j,l⟩;have H1:=F (W j l);go_wp2_with fail;go_call e.o t as a i ⟨s,h⟩;have u:=F (W (H1.1.aE h) (H1.2.then h));rcases x.o a s with rfl|⟨K,o,rfl⟩|⟨K,o,y,rfl⟩
 .go_wp2_with fail;go_call eR r (eo d) i u.1 as a m ⟨rfl,b,c⟩;have J:=F (W b (u.2.aJ c));go_wp2;go_ret;exact⟨A,J.o⟩
 .go_wp2_with fail;go_call eR r (eo d) i u.1 as a m ⟨rfl,b,c⟩;have J:=F (W b (u.2.aJ c));go_wp2;go_ret;exact⟨A,J.o⟩
 have g:=cp (p:=o) H;go_wp2_with fail;go_call eR r (eo d) i u.1 as a m ⟨rfl,b,c⟩;have J:=F (W b (u.2.aJ c));go_wp2;go_ret;exact⟨A,J.o⟩
def xk (r:D)(d:Rd)(w:L)(Z:dE w r d):Y N 127 #[V r] w λe w'=>e=O (ed d)/\dE w' r (eE d)/\aL (· =r) w w':=by
 have P:=F (uH r d w Z);have A:=F (λg=>kK (dq d) g (oA Z.dq));rcases u:Rl.fX (bs (dq d)) with _|⟨s,J,K⟩
 .rw[show ed d=⟨#[]⟩ by rw[ed,u],show eE d=(eo d).eQ by rw[eE,u]];rw[u] at A;exact uI r d w _ (λe h=>Ξ h) P A
 rw[u] at A;cases s with
 |true=>
  rw[show ed d=⟨#[]⟩ by rw[ed,u],show eE d=(eo d).eQ by rw[eE,u]];exact uI r d w _ (λe h=>j (Ξ ⟨_,_,h⟩)) P A
 |false=>
  by_cases M:(dq d)<=J+K
  .have U:=y (ed d=(dq d).extract J (J+K)/\eE d=eo d) ⟨by rw[ed,u];exact QU M,by rw[eE,u];exact QU M⟩;have a:=cj (p:=(dq d).extract (J+K) (dq d)) eZ;have A:Φ (∀g,Y N 181 #[O (dq d)] g λe w'=>e=f #[z X,O ((dq d).extract J (J+K)),O ((dq d).extract (J+K) (dq d)),G 0]/\T g g w'):=A;generalize (dq d).extract (J+K) (dq d)=x at a A;generalize (dq d).extract J (J+K)=b at A U;go_enter func127,ntmps127;go_wp2_with fail;go_call P.o as e t ⟨rfl,o,q⟩;have H1:=F (W o q);go_wp2_with fail;go_call A.o t as e v ⟨rfl,k⟩;have n:=F (W (H1.1.aE k) (H1.2.then k));go_wp2;go_ret;exact⟨U.1▸rfl,U.2▸n.1,n.2⟩
  rw[show ed d=⟨#[]⟩ by rw[ed,u];exact QT M,show eE d=(eo d).eQ by rw[eE,u];exact QT M];exact uI r d w _ (λe h=>j (j ⟨_,_,eZ,h⟩)) P A
def AD (r:D)(d:Rd)(w:L)(O:dE w r d)(Z:As.cC w):Y N 132 #[V r] w λg w'=>g=G (if d.bad.isSome then 2 else 0)/\T w w w':=by
 let⟨h,a,n,e⟩:=O.bO;let⟨b,q,c⟩:=aU w (K #[G 0] 27);have z:=c.at_;have f:=cJ 2 (c.aE.ke n);have u:=F c.aE;have P:As.cC b:=Z.aE c.aE;have X:=cJ 0 z;have M:=F q;cases J:d.bad with
 |none=>
  rw[J] at f;replace f:b (r,2)=ω:=f;have o:=F (As.RY (Δ 119 (V w)) b);go_enter func132,ntmps132;go_wp2_with (rw[M.o]);go_call o.o as g A ⟨rfl,rfl⟩;go_wp2;go_ret;exact⟨rfl,u.o⟩
 |some k=>
  rw[J] at f;replace f:b (r,2)=Δ 419 (Γ #[G (k:Int),Δ 27 (G 2)]):=f;have o:=F (As.ua (G (k:Int)) 2 w (G 0) b P X (aI z 0));have W:=F z;go_enter func132,ntmps132;go_wp2_with (rw[M.o]);go_call o.o as g A ⟨rfl,C,j,rfl⟩;have y:(C.setCell w (G 2)) w=G 2:=cR (bJ (j.ke W.o) 0 _) rfl;have U:=F ((u.o.t (j.m u.o.z)).s (p:=w) QD (G 2));go_wp2;go_ret;exact⟨rfl,U.o⟩
end Fm
namespace Fm
def yy (f:Rd->Rd):D->Rd->Rd
 |0,a=>a
 |c+1,a=>f (yy f c a)
structure Fl (w:L)(N:Rd->Rd)(r kb ab:D)(tk ta:Λ)(K A:D->Q S)(d:Rd)(i:D)(wr:L):Prop where
 rd:dE wr r (yy N i d)
 bk:wr.heap[kb]?=θ (K i) tk
 ba:wr.heap[ab]?=θ (A i) ta
 only:aL (λk=>k=r\/k=kb\/k=ab) w wr
def ZP (z:Rd->S)(u:Rd->Rd)(O K:D)(o j:D->Q S)(A:Rd)(P:E JM):Prop:=∀(a:D) t,P[a]?=M t->
 (∃f,t=⟨O,f,J⟩/\f<(o a).size/\o (a+1)=(o a).setIfInBounds f (z (yy u a A))/\j (a+1)=j a)\/
 (∃f,t=⟨K,f,J⟩/\f<(j a).size/\j (a+1)=(j a).setIfInBounds f (z (yy u a A))/\o (a+1)=o a)
def dE.set {j:D}{o:Rd}(f:dE g w o)(O:g.heap[q]?=K h p)(z:q≠w)(t:p≠9)(P:S):dE (g.setCell (q,j) P) w o:=by
 obtain⟨u,A,J,M⟩:=f.bO;exact⟨⟨u,A,(QJ (λk=>z k.s)).t J,lR M (λs a=>QJ (Dd a O t)) (by simp[PZ])⟩,f.cB,f.aH⟩
def rh {f:D×D}(j:g.heap[w]?=K h p f)(o:q<h.size):∃t,g (w,q)=M t:=by
 rw[QH j];exact⟨_,IB o⟩
def Fl.fb {wr:L}{x:Rd->S}{N:Rd->Rd}{K:Λ}{P U:D->Q S}{d:Rd}{y:E JM}{u:JM}(O:Fl g N w q a p K P U d i wr)(F:ZP x N q a P U d y)(h:y[i]?=u)(f:w≠q/\w≠a/\q≠a)(e:p≠9/\K≠9)
 (b:dE l w (N (yy N i d))) (V:aL (· =w) wr l):(∃k,l u=M k)/\l.frozen? u=X/\Fl g N w q a p K P U d (i+1) (l.setCell u (x (yy N i d))):=by
 have J:=V.aM O.bk (λc=>f.1 c.s);have t:=V.aM O.ba (λc=>f.2.1 c.s);have oo:=O.only.aJ (V.cz (T:=λn=>n=w\/n=q\/n=a) λ_ _ c=>o c);rcases F i u h with⟨z,rfl,W,Z,v⟩|⟨z,rfl,W,Z,v⟩
 .exact⟨rh J W,aI J z,b.set J (λc=>f.1 c.s) e.1 _,by rw[Z];exact bJ J z _,by rw[v];exact(QJ (λc=>f.2.2 c.s)).t t,oo.bV (λ_=>j (o A)) _⟩
 exact⟨rh t W,aI t z,b.set t (λc=>f.2.1 c.s) e.2 _,by rw[v];exact(QJ f.2.2).t J,by rw[Z];exact bJ t z _,oo.bV (λ_=>j (j A)) _⟩
def cR' {f:D×D}(j:g.heap[w]?=K h p f)(o:h[q]?=m):g (w,q)=m:=by rwa[QH j]
def uJ (t z u J:D)(K W c:Λ)(U O:D->QF π)(h:Rd)(f:E JM)(o:ν)(g:Fl o eD t z u K W U O h 0 o)(l:ZP (λh=>ϑ (gB h:C)) eD z u U O h f)(I:t≠z/\t≠u/\z≠u)(n:K≠9/\W≠9)(i:o.heap[J]?=θ (f.map λa=>V (M a)).toArray c)(k:J≠t/\J≠z/\J≠u)(a0:(f:D)<=100):
 τ N 122 #[Hl (Ic 123) #[V t] #[],ο J (f:D) (f:D)] o λd m=>d=χ #[]/\Fl o eD t z u K W U O h (f:D) m:=by
 have T:∀Z o,(Xa 123 Z).run N o=Je (.enter 123 Z) o:=enters_of PN Qz A;have p:=F i;have v:=F l;have H0:=F g;have w:=F I;have r:=F n;have X:=F k;go_enter func122,ntmps122;go_wp2;go_loopw [5,8] (λY iv wr=>∃j:D,j<=(f:D)/\iv=ϑ j/\Φ (Fl o eD t z u K W U O h j wr)) (λ_ iv _=>(f:D)-(QI iv).toNat)
 .exact⟨0,H,A,H0⟩
 obtain⟨j,S,rfl,P⟩:=hrel;by_cases y:j<(f:D)
 .let⟨a,s⟩:∃a,f[j]?=M a:=⟨_,Gf y⟩;have B:wr (J,j)=V (M a):=by
   apply P.o.only.dN (cR' p.o (by simp[s]));rintro(d|d|d)
   .exact X.1 d
   .exact X.2.1 d
   exact X.2.2 d
  have e:=F (lD t _ wr P.o.rd);have x:=F s;go_wp2_with fail;go_call e.o as d Q ⟨rfl,q,G⟩;let⟨⟨a1,L⟩,R,e3⟩:=P.o.fb v.o x.o w.o r.o q G;have b:=F e3;generalize a3:((gB (yy eD j h):D):C)=a2 at b ⊢;go_wp2;go_roundw
  .exact⟨j+1,H,gN,b⟩
  simp[QI];omega
 obtain rfl:j=(f:D):=H;go_wp2;go_end0;exact⟨A,P.o⟩
def Mk (t z u J:D)(K W c:Λ)(U O:D->QF π)(h:Rd)(f:E JM)(o:ν)(e:Fl o eE t z u K W U O h 0 o)(k:ZP (λh=>β (ed h)) eE z u U O h f)(I:t≠z/\t≠u/\z≠u)(m:K≠9/\W≠9)(g:o.heap[J]?=θ (f.map λa=>V (M a)).toArray c)(i:J≠t/\J≠z/\J≠u)(Y:(f:D)<=100):
 τ N 126 #[Hl (Ic 127) #[V t] #[],ο J (f:D) (f:D)] o λd l=>d=χ #[]/\Fl o eE t z u K W U O h (f:D) l:=by
 have S:∀Z o,(Xa 127 Z).run N o=Je (.enter 127 Z) o:=enters_of func127 Qz A;have n:=F g;have v:=F k;have H0:=F e;have w:=F I;have p:=F m;have X:=F i;go_enter func126,ntmps126;go_wp2;go_loopw [5,8] (λT iv wr=>∃j:D,j<=(f:D)/\iv=ϑ j/\Φ (Fl o eE t z u K W U O h j wr)) (λ_ iv _=>(f:D)-(QI iv).toNat)
 .exact⟨0,H,A,H0⟩
 obtain⟨j,R,rfl,P⟩:=hrel;by_cases y:j<(f:D)
 .let⟨a,s⟩:∃a,f[j]?=M a:=⟨_,Gf y⟩;have r:wr (J,j)=V (M a):=by
   apply P.o.only.dN (cR' n.o (by simp[s]));rintro(d|d|d)
   .exact X.1 d
   .exact X.2.1 d
   exact X.2.2 d
  have C:=F (xk t _ wr P.o.rd);have x:=F s;go_wp2_with fail;go_call C.o as d Q ⟨rfl,q,G⟩;let⟨⟨a0,L⟩,B,e3⟩:=P.o.fb v.o x.o w.o p.o q G;have b:=F e3;generalize a2:ed (yy eE j h)=a1 at b ⊢;go_wp2;go_roundw
  .exact⟨j+1,H,gN,b⟩
  simp[QI];omega
 obtain rfl:j=(f:D):=H;go_wp2;go_end0;exact⟨A,P.o⟩
end Fm
def kf:pX 32 7:=⟨⟨_,A,KI⟩,by kernel_rfl⟩
def nf (o:L)(f:E B):bS (o.alloc (K (f.map O).toArray 9)) (P o (f:D) (f:D)) f:=by
 refine j ⟨o,0,(f:D),A,λd e c=>?_,R,R⟩;rw[GU];exact cR (Gc _ _) (by simp[c])
def dM (f:D)(j:f<16777216):(tx (Rl.dg f)).size<=9:=by
 rw[dP];have hd:(Rl.vS f:D)<=3:=by
  have:=Rl.iI 3 f j;unfold Rl.vS;rwa[KA]
 unfold Rl.dg Rl.bK;split
 .omega
 have:=dJ 128 (Rl.vS f:D) H;rw[Gk];omega
namespace Fm
def iS (f:gR):B:=tx (Rl.eK ([tx (Rl.dg 0),tx (Rl.dg f.bq.toNat),tx (Rl.dg f.bI.toNat),tx (Rl.dg f.oT.toNat),tx (Rl.dg (f.at_+1).toNat),t1 f.fe,t1 f.pJ,tx (Rl.dg f.ho.toNat)].flatMap bs))
def Wv (o:Bool->Prop)(j:gR)(t:He):Prop:=(o X/\t=f #[I,G 1])\/(o U/\gh j/\(iS j).size<=100/\t=f #[O (iS j),G 0])
def jd {w:L}{f:D}{o t u z J M:S}{O:D×D}(j:w.heap[f]?=K #[m,o,t,u,z,J,M] p O):w f=m/\w (f,1)=o/\w (f,2)=t/\w (f,3)=u/\w (f,4)=z/\w (f,5)=J/\w (f,6)=M:=
 ⟨cR j A,cR j A,cR j A,cR j A,cR j A,cR j A,cR j A⟩
def jU (j:C)(o:0<=j)(u:j<=16777215)(f:L):Y N 135 #[j] f λc a=>c=O (tx (Rl.dg j.toNat))/\T f f a:=by
 obtain⟨t,rfl⟩:=Ly o;exact ug t f H
def qp (f:k.size<=w)(j:w<1099511627776):(t1 k).size<=w+6:=GB (ez k H) H
theorem xA (e:Bool->Prop)(f:gR)(P:ν)(ai:e ψ->gh f)(al:∀P,Y N 134 #[Γ f.cs] P λg a=>(∃q,g=ι (υ q)/\e q)/\T P P a):
 Y N 64 #[Γ f.cs] P λg a=>Wv e f g/\T P P a:=by
 let⟨s,am,p⟩:=aU P (K f.cs 32);have n:s.heap[(P:D)]?=M (K #[Z η f.bq,Z η f.bI,Z η f.oT,Z η f.at_,O f.fe,O f.pJ,Z η f.ho] 32):=p.at_;have a0:=F am;have af:=F p.aE;have ah:Φ (Y N 134 #[Γ #[Z η f.bq,Z η f.bI,Z η f.oT,Z η f.at_,O f.fe,O f.pJ,Z η f.ho]] s λg a=>(∃q,g=ι (υ q)/\e q)/\T s s a):=F (al s);have b3:=F ai;clear am p al ai;go_enter func64,ntmps64;go_wp2_with (first|(rw[a0.o])|(apply oc kf n));apply ah.o.m;rintro g L ⟨⟨q,rfl,aj⟩,m⟩;have i:=Below.ke m n;have w:=F (af.o.t (m.m af.o.z));have R:=F aj;clear m ah n aj;cases q with
 |false=>
  go_wp2;go_ret2;exact⟨Ξ ⟨R.o,rfl⟩,w.o⟩
 |true=>
  have z:=b3.o R.o;have a8:=F z;have r:=jU 0 H H;have S:=jU f.bq z.k.1 (oA z.k);have ab:=jU f.bI z.s.1 (oA z.s);have ae:=jU f.oT (oA z.q) (oA z.q);have l:=jU (f.at_+1) (oA z.t) (oA z.t);have G:=jU f.ho z.l.1 (oA z.l);have T1:=λk=>cP f.fe k (oA z.y);have h:=λk=>cP f.pJ k (oA z.u);have d1:η.wrap (f.at_+1)=f.at_+1:=GD _ (oA z.t);have ak:([tx (Rl.dg 0),tx (Rl.dg f.bq.toNat),tx (Rl.dg f.bI.toNat),tx (Rl.dg f.oT.toNat),tx (Rl.dg (f.at_+1).toNat),t1 f.fe,t1 f.pJ,tx (Rl.dg f.ho.toNat)].flatMap bs:D)<=90:=by
   have b5:=dM 0 H;have b6:=dM f.bq.toNat (oA z.k);have b7:=dM f.bI.toNat (oA z.s);have e3:=dM f.oT.toNat (oA z.q);have b9:=dM (f.at_+1).toNat (oA z.t);have c0:=dM f.ho.toNat (oA z.l);have c7:=qp z.y H;have c8:=qp z.u H;simp[GV,JL,IS,Gk,aX];omega
  have U:=λk=>fx _ _ _ (nf k [tx (Rl.dg 0),tx (Rl.dg f.bq.toNat),tx (Rl.dg f.bI.toNat),tx (Rl.dg f.oT.toNat),tx (Rl.dg (f.at_+1).toNat),t1 f.fe,t1 f.pJ,tx (Rl.dg f.ho.toNat)]) sm H;have ag:Φ (iS f=tx (Rl.eK ([tx (Rl.dg 0),tx (Rl.dg f.bq.toNat),tx (Rl.dg f.bI.toNat),tx (Rl.dg f.oT.toNat),tx (Rl.dg (f.at_+1).toNat),t1 f.fe,t1 f.pJ,tx (Rl.dg f.ho.toNat)].flatMap bs))):=F rfl;have a9:Φ ((iS f).size<=100):=F (by have:=jC _ (Np ak dc:_<1099511627776);unfold iS;omega);change ∀k,Y N 43 #[O f.fe] k λg a=>g=ι (O (t1 f.fe))/\_ at T1;change ∀k,Y N 43 #[O f.pJ] k λg a=>g=ι (O (t1 f.pJ))/\_ at h;generalize b4:tx (Rl.eK (List.flatMap bs [tx (Rl.dg 0),tx (Rl.dg f.bq.toNat),tx (Rl.dg f.bI.toNat),tx (Rl.dg f.oT.toNat),tx (Rl.dg (f.at_+1).toNat),t1 f.fe,t1 f.pJ,tx (Rl.dg f.ho.toNat)]))=a2 at U ag;clear b4;have r:∀k,Y N 135 #[Z η 0] k λg a=>g=ι (O (tx (Rl.dg 0)))/\T k k a:=r;generalize tx (Rl.dg 0)=x0 at r U;generalize tx (Rl.dg f.bq.toNat)=b at S U;generalize tx (Rl.dg f.bI.toNat)=c at ab U;generalize tx (Rl.dg f.oT.toNat)=v at ae U;generalize tx (Rl.dg (f.at_+1).toNat)=x at l U;generalize t1 f.fe=y at T1 U;generalize t1 f.pJ=d at h U;generalize tx (Rl.dg f.ho.toNat)=X at G U;clear ak z;have U:Φ (∀k:ν,Y N 103 #[ο (M ⟨(k:D),0,J⟩) 8 8] (k.alloc (K #[O x0,O b,O c,O v,O x,O y,O d,O X] 9)) λg a=>g=ι (O a2)/\T (k.alloc (K #[O x0,O b,O c,O v,O x,O y,O d,O X] 9):D) (k.alloc (K #[O x0,O b,O c,O v,O x,O y,O d,O X] 9)) a):=F U;have a1:=F r;have a4:=F S;have a3:=F ab;have a5:=F ae;have a6:=F l;have a7:=F G;have b0:=F T1;have b2:=F h;clear r S ab ae l G T1 h;have o:=F (Ge (L:D) L).d;have t:=i;have V:=jd i;have A:=jd (w:=L.drew) i;go_upto_region 3 with fail;go_region_held3 (λa=>a.cell? ⟨(P:D),0,J⟩=M (Z η f.bq)/\a.cell? ⟨(P:D),1,J⟩=M (Z η f.bI)/\a.cell? ⟨(P:D),2,J⟩=M (Z η f.oT)/\a.cell? ⟨(P:D),3,J⟩=M (Z η f.at_)/\a.cell? ⟨(P:D),4,J⟩=M (O f.fe)/\a.cell? ⟨(P:D),5,J⟩=M (O f.pJ)/\a.cell? ⟨(P:D),6,J⟩=M (Z η f.ho)) (first|with_reducible exact A|with_reducible exact V) (first|(go_at_call 135;(with_reducible apply(a1.o _).m);rintro g W ⟨rfl,j⟩;have t:=Below.ke j t;have A:=jd t;have V:=A;have o:=F (o.o.t (j.m o.o.z));clear j)|(go_at_call 135;(with_reducible apply(a4.o _).m);rintro g W ⟨rfl,j⟩;have t:=Below.ke j t;have A:=jd t;have V:=A;have o:=F (o.o.t (j.m o.o.z));clear j)|(go_at_call 135;(with_reducible apply(a3.o _).m);rintro g W ⟨rfl,j⟩;have t:=Below.ke j t;have A:=jd t;have V:=A;have o:=F (o.o.t (j.m o.o.z));clear j)|(go_at_call 135;(with_reducible apply(a5.o _).m);rintro g W ⟨rfl,j⟩;have t:=Below.ke j t;have A:=jd t;have V:=A;have o:=F (o.o.t (j.m o.o.z));clear j)|(go_at_call 135;(with_reducible apply(a6.o _).m);rintro g W ⟨rfl,j⟩;have t:=Below.ke j t;have A:=jd t;have V:=A;have o:=F (o.o.t (j.m o.o.z));clear j)|(go_at_call 43;(with_reducible apply(b0.o _).m);rintro g W ⟨rfl,j⟩;have t:=Below.ke j t;have A:=jd t;have V:=A;have o:=F (o.o.t (j.m o.o.z));clear j)|(go_at_call 43;(with_reducible apply(b2.o _).m);rintro g W ⟨rfl,j⟩;have t:=Below.ke j t;have A:=jd t;have V:=A;have o:=F (o.o.t (j.m o.o.z));clear j)|(go_at_call 135;(with_reducible apply(a7.o _).m);rintro g W ⟨rfl,j⟩;have t:=Below.ke j t;have A:=jd t;have V:=A;have o:=F (o.o.t (j.m o.o.z));clear j;have V:=jd (Below.ke ((Ge _ W).a (Gb _) (K #[O x0,O b,O c,O v,O x,O y,O d,O X] 9)) t))|(go_at_call 103;(apply(U.o _).m);rintro g d2 ⟨rfl,I⟩;have o:=F (nX o I);have A:=jd (Below.ke I (Below.ke ((Ge _ W).a (Gb _) (K #[O x0,O b,O c,O v,O x,O y,O d,O X] 9)) t));have V:=A;clear I));have ao:=F (w.o.t (o.o.m w.o.z));clear V A t i;go_wp2;go_ret2;exact⟨Θ ⟨R.o,a8.o,a9.o,ag.o▸rfl⟩,ao.o⟩
end Fm
namespace Fm
def Tk:Rd:=⟨[],0,J⟩
def dI (j:B)(f:C):Rd:=match gv j with
 |some d=>match Rl.dL d with
  |some b=>if 0<=f/\(b.length:C)≠f then Tk.eQ else⟨b,0,J⟩
  |none=>Tk.eQ
 |none=>Tk.eQ
def Rl.Dw:∀(b:D) (d:B) {c:E B},Rl.gY b d=c->(c:D)<=b:=by
 intro b;induction b with
 |zero=>
  intro d c f;unfold Rl.gY at f;simp at f;simp[f]
 |succ b a=>
  intro d c f;unfold Rl.gY at f;split at f
  .cases f;simp
  split at f
  .cases f
  obtain⟨o,j,rfl⟩:=Jd.1 f;have:=a _ j;simp;omega
def MX (f:L)(t:Rd)(o:He)(j:L):Prop:=o=V f/\dE j f.heap.size t/\T f f j
theorem pc (x:B)(M:C)(j:ν)(b9:x.size<=1000000)(S:As.cC j):Y γ 121 #[β x,Z u M] j λa b=>MX j (dI x M) a b:=by
 let⟨L,aj,p⟩:=aU j (θ #[P J 0 0,Z u 0,ω] 351);have a0:=F aj;have H:=F p.aE;have a2:Φ (dE L (j:D) Tk):=F ⟨⟨J,0,p.at_,Ξ ⟨_,_,A,A⟩,.none _ _ _ _⟩,by simp[Tk],by simp[Tk]⟩;have ae:=F (pS x L om);have ag:=S.aE p.aE;have a1:=F p.at_;clear aj p;have w:Φ (∀c,T L L c->Y γ 189 #[ξ j] c λa b=>a=ι (χ #[])/\dE b (j:D) Tk.eQ/\T j j b):=F λc k=>(eR _ Tk c (a2.o.aE k)).m (by
  rintro a b ⟨a9,a6,a7⟩
  have z:=H.o.t (k.m H.o.z)
  exact⟨a9,a6,z.t (a7.cE z.z λd2 a=>Iu a.s)⟩)
 go_enter func121,ntmps121;go_wp2_with (rw[a0.o]);apply ae.o.m;rintro a c ⟨⟨al,v,b6,ak,rfl,a8⟩,k⟩;have y:=F k;have ah:=ag.aE k;clear k ae ag;rcases a8 with⟨U,rfl,ai,rfl,af⟩|⟨U,R⟩
 .have c8:=cj ai;have X:=xb v c om ah;have ab:=F af;clear ai af ah;cases K:Rl.dL v with
  |none=>
   rw[K] at X;have W:Φ (Y γ 180 #[β v] c λa b=>a=ι (χ #[P J 0 0,Z u 2])/\T c c b):=F X;have O:Φ (dI x M=Tk.eQ):=F (by rw[dI,U];simp only;rw[K]);clear U K X;go_wp2_with fail;apply W.o.m;rintro a e ⟨rfl,h⟩;have f:=F (w.o e (y.o.t (h.m y.o.z)));clear h W;go_wp2_with fail;apply f.o.m;rintro a N ⟨rfl,t⟩;have o:=F t;clear t f;go_wp2;go_ret;exact⟨A,O.o▸o.1,o.2⟩
  |some i=>
   rw[K] at X;have W:Φ (Y γ 180 #[β v] c λa b=>(∃G z,a=ι (χ #[G,Z u 0])/\(c:D)<=z/\b.ownsRow z 9 1 G (i:D) (i.map β))/\T c c b):=F X;have a4:=F (Rl.gx K);have a3:=F (Rl.Dw _ _ K);by_cases g:0<=M/\((i:D):C)≠M
   .have O:Φ (dI x M=Tk.eQ):=F (by rw[dI,U];simp only;rw[K];simp only;rw[QU g]);have c2:=g.1;have b3:=g.2;have b4:(((i:D):C) !=M)=ψ:=sU b3;clear U K X g;go_wp2_with fail;apply W.o.m;rintro a e ⟨⟨G,z,rfl,m,V⟩,h⟩;obtain⟨r,d,rfl⟩:=eA V;have f:=F (w.o e (y.o.t (h.m y.o.z)));clear h W V m;go_wp2_with fail;apply f.o.m;rintro a N ⟨rfl,t⟩;have o:=F t;clear t f;go_wp2;go_ret;exact⟨A,O.o▸o.1,o.2⟩
   have O:Φ (dI x M=⟨i,0,J⟩):=F (by rw[dI,U];simp only;rw[K];simp only;rw[QT g]);have f:Φ (∀r d e,T c c e->km e (P r (i:D) d) i->(e.frozen? j=σ/\e.cell? j=δ (P J 0 0))/\dE (e.setCell j (P r (i:D) d)) (j:D) ⟨i,0,J⟩/\T j j (e.setCell j (P r (i:D) d))):=F λr d e h b0=>by
    have z:=y.o.t (h.m y.o.z);have s:=Below.ke z a1.o;refine⟨⟨aI s 0,cR s A⟩,⟨⟨r,d,by rw[bJ s];rfl,lR b0 (λd1 S=>Gq _ _ _ _ (Dd S s dc)) (by simp[PZ])⟩,⟨by have:=a3.o;have:=ab.o;show (i:D)<=_;omega,Gp _⟩,λb7 b2=>oB (a4.o b7 b2) ab.o⟩,(H.o.t (z.m H.o.z)).s (Gb _) _⟩
   by_cases c0:0<=M
   .have b4:(((i:D):C) !=M)=σ:=QB;clear U K X g;go_wp2_with fail;apply W.o.m;rintro a e ⟨⟨G,z,rfl,m,V⟩,h⟩;obtain⟨r,d,rfl⟩:=eA V;let⟨⟨a5,b5⟩,hF⟩:=f.o r d e h (.cT V);have l:=F hF;clear h W V m hF f;go_wp2;go_ret;exact⟨A,O.o▸l.1,l.2⟩
   clear U K X g;go_wp2_with fail;apply W.o.m;rintro a e ⟨⟨G,z,rfl,m,V⟩,h⟩;obtain⟨r,d,rfl⟩:=eA V;let⟨⟨a5,b5⟩,hF⟩:=f.o r d e h (.cT V);have l:=F hF;clear h W V m hF f;go_wp2;go_ret;exact⟨A,O.o▸l.1,l.2⟩
 have O:Φ (dI x M=Tk.eQ):=F (by rw[dI,U]);have f:=F (w.o c y.o);clear U;by_cases n:ak=0
 .by_cases q:al=σ
  .subst q n;go_wp2_with fail;apply f.o.m;rintro a N ⟨rfl,t⟩;have o:=F t;clear t f;go_wp2;go_ret;exact⟨A,O.o▸o.1,o.2⟩
  have c7:=cp (p:=b6) (by rcases R with I|I|I;exact absurd n I;exact absurd I q;omega);obtain rfl:al=ψ:=sU q;subst n;clear q R;go_wp2_with fail;apply f.o.m;rintro a N ⟨rfl,t⟩;have o:=F t;clear t f;go_wp2;go_ret;exact⟨A,O.o▸o.1,o.2⟩
 have d3:(ak !=0)=ψ:=by simp[n]
 clear n R;go_wp2_with fail;apply f.o.m;rintro a N ⟨rfl,t⟩;have o:=F t;clear t f;go_wp2;go_ret;exact⟨A,O.o▸o.1,o.2⟩
def kC (f:Q S)(o:D)(j:D->S):D->Q S
 |0=>f
 |a+1=>(kC f o j a).setIfInBounds (o+a) (j a)
def iT (f:Q S)(o:D)(j:D->S):∀b,(kC f o j b).size=f.size
 |0=>rfl
 |b+1=>by rw[kC,Array.size_setIfInBounds,iT f o j b]
def ivN (j:Rd->Rd)(f:Rd)(o:D):S:=G (gB (yy j o f):C)
def d5 (f:B):Rd:=yy eD 5 (dI f 8)
def d7 (f:B):Rd:=yy eE 2 (d5 f)
def nM (j:B)(f:D):C:=(gB (yy eD f (dI j 8)):C)
def iU (f:B):gR:=⟨nM f 1,nM f 2,nM f 3,nM f 4-1,ed (d5 f),ed (eE (d5 f)),(gB (d7 f):C)⟩
def dz:gR:=⟨0,0,0,0,⟨#[]⟩,⟨#[]⟩,0⟩
def Wz (o:Bool->Prop)(j:B)(u:He):Prop:=
 (u=f #[dz.cs,G 2]/\((eD (d7 j)).bad.isSome=U\/o X\/nM j 0≠0\/iS (iU j)≠j))\/
 (u=f #[t (iU j).cs,G 0]/\o U/\gh (iU j))
def adq (M:B)(O z t:D)(u:L)(Z:dE u O (dI M 8))(X:u.heap[z]?=K #[G 0] 3)(W:u.heap[t]?=K #[G 0,G 0,G 0,G 0,I,I,G 0] 32)(s:O≠z/\O≠t/\z≠t):
 Y N 122 #[Hl (Ic 123) #[V O] #[],P u 5 5] (u.alloc (K #[V z,V t,V (t,1),V (t,2),V (t,3)] 245)) λl i=>l=f #[]/\dE i O (d5 M)/\i.heap[z]?=K #[G (nM M 0)] 3/\i.heap[t]?=K #[G (nM M 1),G (nM M 2),G (nM M 3),G (nM M 4),I,I,G 0] 32/\aL (λk=>k=O\/k=z\/k=t) u i:=by
 have U:=(bo u (K #[V z,V t,V (t,1),V (t,2),V (t,3)] 245)).aE;have w:=aw X;have d:=aw W;have x:O<u:=by let⟨_,_,c,_⟩:=Z.bO;exact aw c
 refine(uJ O z t u 3 32 245 (λh=>kC #[G 0] 0 (ivN eD (dI M 8)) (min h 1)) (λh=>kC #[G 0,G 0,G 0,G 0,I,I,G 0] 0 (λq=>ivN eD (dI M 8) (q+1)) (h-1)) (dI M 8) [z,t,⟨t,1,J⟩,⟨t,2,J⟩,⟨t,3,J⟩] (u.alloc (K #[V z,V t,V (t,1),V (t,2),V (t,3)] 245)) ⟨Z.aE U,U.ke X,U.ke W,aL.bQ _ _⟩ ?_ s r (bo u _).at_ H R).m ?_
 .intro h v b;match h,b with
  |0,b=>simp only[IP,Hm,Gd] at b;subst b;exact o ⟨_,A,by simp[kC],A,A⟩
  |1,b=>simp only[IP,Hm,Gd] at b;subst b;exact j ⟨_,A,by simp[iT],A,A⟩
  |2,b=>simp only[IP,Hm,Gd] at b;subst b;exact j ⟨_,A,by simp[iT],A,A⟩
  |3,b=>simp only[IP,Hm,Gd] at b;subst b;exact j ⟨_,A,by simp[iT],A,A⟩
  |4,b=>simp only[IP,Hm,Gd] at b;subst b;exact j ⟨_,A,by simp[iT],A,A⟩
  |q+5,b=>simp at b
 rintro l i ⟨a,g⟩;exact⟨a,g.rd,g.bk,g.ba,(aL.aE U _).gU g.only λ_ _ g=>g⟩
def adr (o:B)(z M t:D)(u:L)(Z:dE u z (d5 o))(X:u.heap[M]?=K #[G (nM o 0)] 3)(W:u.heap[t]?=K #[G (nM o 1),G (nM o 2),G (nM o 3),G (nM o 4),I,I,G 0] 32)(s:z≠M/\z≠t/\M≠t):
 Y N 126 #[Hl (Ic 127) #[V z] #[],P u 2 2] (u.alloc (K #[V (t,4),V (t,5)] 250)) λk h=>k=f #[]/\dE h z (d7 o)/\h.heap[M]?=K #[G (nM o 0)] 3/\h.heap[t]?=K #[G (nM o 1),G (nM o 2),G (nM o 3),G (nM o 4),O (ed (d5 o)),O (ed (eE (d5 o))),G 0] 32/\aL (λb=>b=z\/b=M\/b=t) u h:=by
 have U:=(bo u (K #[V (t,4),V (t,5)] 250)).aE;have w:=aw X;have g:=aw W;have x:z<u:=by let⟨_,_,e,_⟩:=Z.bO;exact aw e
 refine(Mk z M t u 3 32 250 (λ_=>#[G (nM o 0)]) (kC #[G (nM o 1),G (nM o 2),G (nM o 3),G (nM o 4),I,I,G 0] 4 (λp=>O (ed (yy eE p (d5 o))))) (d5 o) [⟨t,4,J⟩,⟨t,5,J⟩] (u.alloc (K #[V (t,4),V (t,5)] 250)) ⟨Z.aE U,U.ke X,U.ke W,aL.bQ _ _⟩ ?_ s r (bo u _).at_ H R).m ?_
 .intro q v d;match q,d with
  |0,d=>simp only[IP,Hm,Gd] at d;subst d;exact j ⟨_,A,by simp[iT],A,A⟩
  |1,d=>simp only[IP,Hm,Gd] at d;subst d;exact j ⟨_,A,by simp[iT],A,A⟩
  |p+2,d=>simp at d
 rintro k h ⟨c,a⟩;exact⟨c,a.rd,a.bk,a.ba,(aL.aE U _).gU a.only λ_ _ a=>a⟩
def ads (o:B)(z M u:D)(t:L)(Z:dE t z (d7 o))(X:t.heap[M]?=K #[G (nM o 0)] 3)(W:t.heap[u]?=K #[G (nM o 1),G (nM o 2),G (nM o 3),G (nM o 4),O (ed (d5 o)),O (ed (eE (d5 o))),G 0] 32)(c:z≠M/\z≠u/\M≠u):
 Y N 122 #[Hl (Ic 123) #[V z] #[],P t 1 1] (t.alloc (K #[V (u,6)] 245)) λk h=>k=f #[]/\dE h z (eD (d7 o))/\h.heap[M]?=K #[G (nM o 0)] 3/\h.heap[u]?=K #[G (nM o 1),G (nM o 2),G (nM o 3),G (nM o 4),O (ed (d5 o)),O (ed (eE (d5 o))),G (gB (d7 o):C)] 32/\aL (λb=>b=z\/b=M\/b=u) t h:=by
 have U:=(bo t (K #[V (u,6)] 245)).aE;have w:=aw X;have g:=aw W;have x:z<t:=by let⟨_,_,s,_⟩:=Z.bO;exact aw s
 refine(uJ z M u t 3 32 245 (λ_=>#[G (nM o 0)]) (kC #[G (nM o 1),G (nM o 2),G (nM o 3),G (nM o 4),O (ed (d5 o)),O (ed (eE (d5 o))),G 0] 6 (ivN eD (d7 o))) (d7 o) [⟨u,6,J⟩] (t.alloc (K #[V (u,6)] 245)) ⟨Z.aE U,U.ke X,U.ke W,aL.bQ _ _⟩ ?_ c r (bo t _).at_ H R).m ?_
 .intro p v a;match p,a with
  |0,a=>simp only[IP,Hm,Gd] at a;subst a;exact j ⟨_,A,by simp[iT],A,A⟩
  |d+1,a=>simp at a
 rintro k h ⟨q,e⟩;exact⟨q,e.rd,e.bk,e.ba,(aL.aE U _).gU e.only λ_ _ e=>e⟩
structure YI (w:L)(s:B)(r:Nat)(D:Rd)(k:C)(A:Q S)(W:L):Prop where
 rd:dE W r D
 bk:W.heap[w.heap.size+1+1]?=K #[k] 3
 ba:W.heap[w.heap.size+1]?=K A 32
 br:W.heap[w.heap.size]?=K #[G 0,G 0,G 0,G 0,I,I,G 0] 32
 gi:T w w W
def YI.WA {z j:Rd}{o:C}{u:Q S}(f:YI g k w z c h s)(O:w=g.heap.size+3)(A:dE l w j)(J:l.heap[g.heap.size+1+1]?=K #[o] 3)(M:l.heap[g.heap.size+1]?=K u 32)(t:aL (λc=>c=w\/c=g.heap.size+1+1\/c=g.heap.size+1) s l):YI g k w j o u l:=
 ⟨A,J,M,t.aM f.br H,f.gi.t (t.cE f.gi.z H)⟩
def YI.aE {o:L}{s:B}{t:Rd}{u:C}{c:Q S}(f:YI g s w t u c o)(j:T o o l):YI g s w t u c l:=
 ⟨f.rd.aE j,j.ke f.bk,j.ke f.ba,j.ke f.br,f.gi.t (j.m f.gi.z)⟩
def adt (j:B)(f:D):0<=nM j f/\nM j f<=1048577:=by
 have:=VY (yy eD f (dI j 8));unfold nM;omega
def MZ (x:Bool->Prop)(f:B)(t:ν)(b9:f.size<=1000000)(ab:As.cC t)(a5:x U->gh (iU f))(a8:∀t,τ γ 134 #[Γ (iU f).cs] t λb Y=>(∃k,b=υ k/\x k)/\T t t Y):
 τ γ 147 #[β f] t λb Y=>Wz x f b/\T t t Y:=by
 let⟨g,b2⟩:∃g,((t.alloc (θ #[G 0,G 0,G 0,G 0,I,I,G 0] 32)).alloc (θ #[G 0,G 0,G 0,G 0,I,I,G 0] 32)).alloc (θ #[G 0] 3)=g:=⟨_,A⟩;have z:=y ((g.heap[(t:Nat)]?=θ #[G 0,G 0,G 0,G 0,I,I,G 0] 32/\g.heap[(t:Nat)+1]?=θ #[G 0,G 0,G 0,G 0,I,I,G 0] 32/\g.heap[(t:Nat)+1+1]?=θ #[G 0] 3)/\(g:Nat)=(t:Nat)+3/\T t t g) (by
  subst b2
  have r:=bo t (θ #[G 0,G 0,G 0,G 0,I,I,G 0] 32)
  have w:=bo (t.alloc (θ #[G 0,G 0,G 0,G 0,I,I,G 0] 32)) (θ #[G 0,G 0,G 0,G 0,I,I,G 0] 32)
  have O:=bo ((t.alloc (θ #[G 0,G 0,G 0,G 0,I,I,G 0] 32)).alloc (θ #[G 0,G 0,G 0,G 0,I,I,G 0] 32)) (θ #[G 0] 3)
  have aj:=r.aH
  have c6:=w.aH
  have e3:=O.aH
  have ah:=w.at_
  have ai:=O.at_
  rw[aj] at ah
  rw[c6,aj] at ai
  exact⟨⟨O.aE.ke (w.aE.ke r.at_),O.aE.ke ah,ai⟩,om,r.aE.t ((w.aE.m om).t (O.aE.m om))⟩)
 have a3:=F (pc f 8 g b9 (ab.aE z.2.2));have a0:=F ab;have ag:=F (κ a5 a8);let⟨e,ae⟩:∃e,(g:Nat)=e:=⟨_,A⟩;have W:=y (e=(t:Nat)+3) (ae▸z.2.1);go_enter func147,ntmps147;go_wp2_with fail;go_call a3.o as b w4 ⟨rfl,a,D⟩;rw[ae] at a ⊢;have X:=y (YI t f e (dI f 8) 0 #[G 0,G 0,G 0,G 0,I,I,G 0] w4) ⟨a,D.ke z.1.2.2,D.ke z.1.2.1,D.ke z.1.1,z.2.2.t (D.m z.2.2.z)⟩;have a6:e≠(t:Nat)+1+1/\e≠(t:Nat)+1/\(t:Nat)+1+1≠(t:Nat)+1:=oA W.o;have V:=F a6;go_wp2_with fail;go_call adq f e _ _ w4 X.o.rd X.o.bk X.o.ba V.o as b w5 ⟨rfl,h,i,j,a⟩;have Z:=F (X.o.WA W.o h i j a);go_wp2_with fail;go_call adr f e _ _ w5 Z.o.rd Z.o.bk Z.o.ba V.o as b d4 ⟨rfl,h,i,j,a⟩;have c:=F (Z.o.WA W.o h i j a);go_wp2_with fail;go_call ads f e _ _ d4 c.o.rd c.o.bk c.o.ba V.o as b K ⟨rfl,h,i,j,a⟩;have J:=F (c.o.WA W.o h i j a);have d2:=adt f 4;have d6:η.wrap (nM f 4-1)=nM f 4-1:=QQ om;have c3:=cJ 3 J.o.ba;have c8:=aI J.o.ba 3;have s:=y (YI t f e (eD (d7 f)) (nM f 0) #[G (nM f 1),G (nM f 2),G (nM f 3),G (nM f 4-1),β (ed (d5 f)),β (ed (eE (d5 f))),G (gB (d7 f):C)] (K.setCell ⟨(t:Nat)+1,3,ζ⟩ (G (nM f 4-1)))) (J.o.WA W.o (J.o.rd.set J.o.ba V.2.1.symm dc _) ((QJ V.2.2).t J.o.bk) ((bJ J.o.ba 3 _).t A) ((aL.bQ _ K).bV (λ_=>Θ (Θ A)) _));generalize c7:K.setCell ⟨(t:Nat)+1,3,ζ⟩ (G (nM f 4-1))=w8 at s;have p:=F (AD e _ w8 s.o.rd (a0.o.aE s.o.gi));go_wp2_with fail;go_call p.o as b b5 ⟨rfl,a2⟩;have d:=F (s.o.aE a2);have b3:=d.o.br;have P:=y (∀m,bd b5 m (t:Nat) (θ #[G 0,G 0,G 0,G 0,I,I,G 0] 32)->T t t m) λm S=>S.aE _ _ QD d.o.gi;cases am:(eD (d7 f)).bad with
 |some d9=>
  rw[Option.isSome_some];have b4:=y ((eD (d7 f)).bad.isSome=U) (am▸rfl);go_wp2_with (apply ia kf b3;intro H ak);apply qG kf ak.at_;exact⟨Ξ ⟨A,Ξ b4.o⟩,P.o _ ak⟩
 |none=>
  rw[Option.isSome_none];have a4:=d.o.ba;go_wp2_with (apply oc kf a4);go_call xA x (iU f) b5 ag.1 ag.2 as b H ⟨d1,a1⟩;have M:=F (d.o.aE a1);have P:=y (∀R m,T H H R->bd R m (t:Nat) (θ #[G 0,G 0,G 0,G 0,I,I,G 0] 32)->T t t m) λR m k S=>S.aE _ _ QD (M.o.gi.t (k.m M.o.gi.z));have v:=M.o.br;have al:=cJ 0 M.o.bk;have c2:=M.o.ba;rcases d1 with⟨a9,rfl⟩|⟨b0,a7,d3,rfl⟩
  .have q:=F a9;go_wp2_with (apply ia kf v;intro N u);apply qG kf u.at_;exact⟨Ξ ⟨A,Θ (Ξ q.o)⟩,P.o _ _ QG u⟩
  have q:=F (κ b0 a7);by_cases n:nM f 0=0
  .rw[n] at al;by_cases l:iS (iU f)=f
   .have L:((iS (iU f)).toList==f.toList)=U:=by rw[l];simp
    generalize iS (iU f)=af at L l;go_wp2_with (first|(apply oc kf c2)|(apply ia kf v;intro N u));apply qG kf u.at_;exact⟨Θ ⟨A,q.o⟩,u.aE _ _ QD M.o.gi⟩
   have L:((iS (iU f)).toList==f.toList)=σ:=by
    rw[Xk,Lib.toList_data,Lib.toList_data];exact λb7=>l (Ju b7)
   have p:=F l;generalize iS (iU f)=af at L ⊢;go_wp2_with (apply ia kf v;intro N u);apply qG kf u.at_;exact⟨Ξ ⟨A,Θ (Θ (Θ p.o))⟩,P.o _ _ QG u⟩
  have b6:=F n;have c0:(nM f 0 !=0)=U:=by simp[n]
  generalize iS (iU f)=af;generalize nM f 0=d8 at al c0 ⊢;go_wp2_with (apply ia kf v;intro N u);apply qG kf u.at_;exact⟨Ξ ⟨A,Θ (Θ (Ξ b6.o))⟩,P.o _ _ QG u⟩
structure Rp where
 s:C
 q:C
 e:C
 v:C
 r:B
 es:S
 pf:B
 m:Bool
def Rp.cs (f:Rp):Q S:=#[f.s,f.q,f.e,f.v,f.r,f.es,f.pf,f.m]
structure WB (a:Rp)(es:E dh):Prop where
 s:0<=a.s/\a.s<=1048576
 q:0<=a.q/\a.q<=1048576
 e:0<=a.e/\a.e<=12
 v:0<=a.v/\a.v<=1048576
 r:a.r.size<=32
 n:es.length<=8
 pf:a.pf.size<=65536
 es:∀x∈es,ByteArray.size x.1<=6/\ByteArray.size x.2<=80
def aad (j:Rp)(t:E dh)(o:He):Prop:=∃f,o=z f/\(f=U->WB j t)
def gZ {o t j u z J M:S}{O:D×D}(f:g.heap[w]?=K #[m,o,t,j,u,z,J,M] p O):g w=m/\g (w,1)=o/\g (w,2)=t/\g (w,3)=j/\g (w,4)=u/\g (w,5)=z/\g (w,6)=J/\g (w,7)=M:=
 ⟨cR f A,cR f A,cR f A,cR f A,cR f A,cR f A,cR f A,cR f A⟩
def DB (z:Rp)(f:E dh)(t:ν)(ae:cq t z.es f)(c8:(f:D)<=1000000):τ γ 191 #[z.cs] t λc b3=>aad z f c/\ρ t t b3:=by
 let⟨r,q,c,l,g,b5,s,m⟩:=z;let⟨h,v,Y,ab⟩:=ae.bZ;simp only at Y;subst Y;let⟨i,af,p⟩:=aU t (K #[r,q,G c,l,g,P h (f:D) v,s,m] 136);let⟨c7,c1,b6,b7,c4,c5,b9,_⟩:=gZ p.at_;have ak:=QC (∀d a,f[d]?=M a->∃b k,h=M ⟨b,k,J⟩/\d<v/\i ⟨b,k+d*2,J⟩=β a.1/\i ⟨b,k+d*2+1,J⟩=β a.2) λd a x=>by
  let⟨b,k,aq,ar,au,a0⟩:=ab d a x;exact⟨b,k,aq,ar,p.aE.ce au,p.aE.ce a0⟩
 have aj:=F af;have u:=F p.aE;have ao:=F (λb2 b0 b=>gg b2 b0 b i);have am:=F (kY g i);show τ γ 191 #[Γ #[r,q,G c,l,g,P h (f:D) v,s,m]] t _;go_enter func191,ntmps191;go_wp2_with (first|(rw[aj.o])|(with_reducible go_call ao.o _ _ _ as c a9 ⟨rfl,rfl⟩)|(with_reducible go_call am.o as c a9 ⟨rfl,rfl⟩));any_goals(apply QM (Xy A _ _ _) A;exact⟨⟨X,A,R⟩,u.o⟩)
 have al:=QC ((∀a∈f,ByteArray.size a.1<=6/\ByteArray.size a.2<=80)->WB ⟨r,q,c,l,g,P h (f:D) v,s,m⟩ f) λa3=>by
  simp only[Pa,Bool.not_true,Qh,XE,uf] at *;have a6:g.size<=32:=by
   rcases(by assumption:(0<=c/\c<=12)/\(g=ByteArray.empty\/g.size=32)) with⟨_,T|T⟩
   .rw[T];show 0<=32;omega
   omega
  exact⟨(H:0<=r/\_),(H:0<=q/\_),(H:0<=c/\c<=12),(H:0<=l/\_),a6,(H:(f:D)<=8),(H:s.size<=65536),a3⟩
 go_loopw [4,48] (λ_ iv wr=>∃j:D,j<=(f:D)/\iv=G j/\Φ (ρ i i wr)/\Φ (∀(e:D) a,e<j->f[e]?=M a->ByteArray.size a.1<=6/\ByteArray.size a.2<=80)) (λ_ iv _=>(f:D)-(QI iv).toNat)
 .exact⟨0,H,A,F QG,F λe a n=>H⟩
 obtain⟨j,c3,rfl,o,W⟩:=hrel;have ah:=F (u.o.t (o.o.m u.o.z));by_cases a4:j<(f:D)
 .let⟨a,N⟩:∃a,f[j]?=M a:=⟨_,Gf a4⟩;obtain⟨b,k,rfl,c6,Z,S⟩:=ak.o j a N;have Z:=o.o.ce Z;have S:=o.o.ce S;have ap:=F N;have ag:=Gc wr (K #[I,I] 73);let⟨L,w⟩:=a;go_upto_region 10 with(apply ia Sv ag;intro d1 O;have U:=F (O.aE _ _ o.o.z (o.o.a o.o.z (K #[I,I] 73)));have c0:=cJ 0 O.at_;have c2:=cJ 1 O.at_);have V:=F (u.o.t (U.o.m u.o.z));by_cases a1:L.size<=6
  .have a7:¬(6:C)<(L.size:C):=H;by_cases a2:w.size<=80
   .have a8:¬(80:C)<(w.size:C):=H;go_wp2;go_roundw
    .exact⟨j+1,H,gN,U,F λe b4 n y=>by
     by_cases a5:e<j
     .exact W.o e b4 a5 y
     cases(H:e=j)
     rw[ap.o] at y
     cases Gm y
     exact⟨a1,a2⟩⟩
    simp[QI];omega
   have a8:(80:C)<(w.size:C):=H;go_wp2;go_ret;exact⟨⟨X,A,R⟩,V.o⟩
  have a7:(6:C)<(L.size:C):=H;go_wp2;go_ret;exact⟨⟨X,A,R⟩,V.o⟩
 obtain rfl:j=(f:D):=H;have ai:=F (al.o λa x=>by
  let⟨e,n⟩:=GI.1 x
  exact W.o e a (Gg.1 n).1 n)
 go_wp2;go_ret;exact⟨⟨ψ,A,λ_=>ai.o⟩,ah.o⟩
def nh (f:dh):B:=tx (Rl.eK ([t1 f.1,t1 f.2].flatMap bs))
def yW (f:Rp)(j:E dh):B:=tx (Rl.eK ([tx (Rl.dg 1),tx (Rl.dg f.s.toNat),tx (Rl.dg f.q.toNat),tx (Rl.dg f.e.toNat),tx (Rl.dg f.v.toNat),t1 f.r,tx (Rl.eK ((j.map nh).flatMap bs)),t1 f.pf,tx (Rl.dg (if f.m=U then 1 else 0))].flatMap bs))
def aae (j:Bool->Prop)(t:Rp)(u:E dh)(o:He):Prop:=(j X/\o=f #[I,G 1])\/(j U/\o=f #[O (yW t u),G 0])
def wo:pX 136 8:=⟨⟨_,A,underlying136⟩,by kernel_rfl⟩
def lK {f:S}{o:D×D}(j:g.heap[w]?=K #[m,f] p o):g w=m/\g (w,1)=f:=⟨cR j A,cR j A⟩
def xC {f:dh}(j:ByteArray.size f.1<=6/\ByteArray.size f.2<=80):([t1 f.1,t1 f.2].flatMap bs:D)<=98/\(nh f).size<=104:=by
 have o:=qp j.1 H;have t:=qp j.2 H;have e3:([t1 f.1,t1 f.2].flatMap bs:D)<=98:=by
  simp[GV,JL,IS,Gk,aX];omega
 have:=jC _ (Np e3 r:_<1099511627776);exact⟨e3,by unfold nh;omega⟩
def sf (a4:Bool->Prop)(ae:Rp)(o:E dh)(U:ν)(d8:cq U ae.es o)(k1:(o:D)<=1000000)(f8:a4 ψ->WB ae o)(g4:∀U,cq U ae.es o->Y N 191 #[Γ ae.cs] U λc h=>(∃I,c=ι (υ I)/\a4 I)/\T U U h):
 Y N 133 #[Γ ae.cs] U λc h=>aae a4 ae o c/\T U U h:=by
 let⟨y,x,c,e,r,j2,q,v⟩:=ae;let⟨L,R,e7,g0⟩:=d8.bZ;simp only at e7;subst e7;let⟨ag,g5,ai⟩:=aU U (K #[Z u y,Z u x,Z u c,Z u e,O r,P L (o:D) R,O q,υ v] 136);have d9:=ai.at_;have g8:=F g5;have e2:=F ai.aE;have f3:Φ (Y N 191 #[Γ #[Z u y,Z u x,Z u c,Z u e,O r,P L (o:D) R,O q,υ v]] ag λc h=>(∃I,c=ι (υ I)/\a4 I)/\T ag ag h):=F (g4 ag (d8.aE ai.aE));have h9:=F f8;have f4:Φ (∀d a,o[d]?=M a->∃g k,L=M ⟨g,k,J⟩/\d<R/\ag.cell? ⟨g,k+d*2,J⟩=M (O a.1)/\ag.cell? ⟨g,k+d*2+1,J⟩=M (O a.2)):=F λd a n=>by
  let⟨g,k,c2,c3,c6,b6⟩:=g0 d a n;exact⟨g,k,c2,c3,Below.ce ai.aE c6,Below.ce ai.aE b6⟩
 show Y N 133 #[Γ #[Z u y,Z u x,Z u c,Z u e,O r,P L (o:D) R,O q,υ v]] U _;go_enter func133,ntmps133;go_wp2_with (first|(rw[g8.o])|(refine oc wo d9 ?_));apply f3.o.m;rintro c l ⟨⟨I,rfl,f9⟩,a3⟩;have ah:=Below.ke a3 d9;have f5:Φ (∀d a,o[d]?=M a->∃g k,L=M ⟨g,k,J⟩/\d<R/\l.cell? ⟨g,k+d*2,J⟩=M (O a.1)/\l.cell? ⟨g,k+d*2+1,J⟩=M (O a.2)):=F λd a n=>by
  let⟨g,k,c2,c3,c6,b6⟩:=f4.o d a n;exact⟨g,k,c2,c3,Below.ce a3 c6,Below.ce a3 b6⟩
 have b3:=F (e2.o.t (a3.m e2.o.z));have b5:=F f9;cases I with
 |false=>
  go_wp2;go_ret2;exact⟨Ξ ⟨b5.o,A⟩,b3.o⟩
 |true=>
  have W:=h9.o b5.o;have b4:=F W;have i4:(o:D)<=8:=W.n;have c5:=cJ 5 ah;have f6:=F ah;go_wp2_with (at_make;apply YA hO A _ _ A (o:D) A A H;intro i8 g1 d3;have c5:=Below.ce d3 c5);have f1:Φ (i8.ownsRow (l:D) 9 1 (P l 0 (o:D)) 0 []):=F g1;have f0:=F d3;go_loopw [4,6,17] (λi7 _ iv wr=>∃(i:D),i<=(o:D)/\iv=Z u i/\Φ (wr.ownsRow (l:D) 9 1 i7 i (((o.take i).map nh).map O)/\T l l wr)) (λ_ _ iv _=>(o:D)-(QI iv).toNat);case atStart=>exact⟨0,H,A,F ⟨f1.o,f0.o⟩⟩
  case round=>
   obtain⟨i,j9,rfl,p⟩:=hrel;by_cases i3:i<(o:D)
   .let⟨a,n⟩:∃a,o[i]?=M a:=⟨_,Gf i3⟩;obtain⟨g,k,rfl,k0,e5,e6⟩:=f5.o i a n;have e5:=Below.ce p.2 e5;have e6:=Below.ce p.2 e6;have b2:=b4.o.es a (Gl n);have h8:=F (eT n);let⟨m,G⟩:=a;have i5:¬Ψ u4=M (wr:D):=λi2=>oA (bG p.1 i2).2;have g6:=Gc wr (K #[eS,eS] 73);have a5:∀b,Y N 43 #[O m] b λc h=>c=ι (O (t1 m))/\T b b h:=λb=>cP m b (oU b2.1);have a6:∀b,Y N 43 #[O G] b λc h=>c=ι (O (t1 G))/\T b b h:=λb=>cP G b (oU b2.2);have g3:=(xC b2).1;have ab:=λb=>fx _ _ _ (nf b [t1 m,t1 G]) sm (by simp only at g3;omega);generalize b0:nh (m,G)=a9;have h5:=F b0;have ab:∀b:ν,Y N 103 #[P (M ⟨(b:D),0,J⟩) 2 2] (b.alloc (K (([t1 m,t1 G]:E B).map O).toArray 9)) λc h=>c=ι (O a9)/\T (b.alloc (K (([t1 m,t1 G]:E B).map O).toArray 9)).heap.size (b.alloc (K (([t1 m,t1 G]:E B).map O).toArray 9)) h:=b0▸ab;generalize t1 m=a1 at a5 ab;generalize t1 G=a2 at a6 ab;have ab:Φ (∀b:ν,Y N 103 #[P (M ⟨(b:D),0,J⟩) 2 2] (b.alloc (K #[O a1,O a2] 9)) λc h=>c=ι (O a9)/\T (b.alloc (K #[O a1,O a2] 9):D) (b.alloc (K #[O a1,O a2] 9)) h):=F ab;have a5:=F a5;have a6:=F a6;go_upto_region 7 with(refine ia Sv g6 ?_;intro s e0);have f:s.drew.heap[(wr:D)]?=M (K #[O m,O G] 73):=e0.at_;have d4:T wr wr s:=e0.aE _ _ (Gb _) ((Ge _ wr).a (Gb _) (K #[eS,eS] 73));have j:=F (p.2.t (d4.m p.2.z)).d;have S:Φ (s.drew.ownsRow (l:D) 9 1 u4 i (((o.take i).map nh).map O)):=F (aQ p.1 d4.d);have t:=lK f;have V:=t;go_region_held3 (λh=>h.cell? ⟨(wr:D),0,J⟩=M (O m)/\h.cell? ⟨(wr:D),1,J⟩=M (O G)) (first|with_reducible exact t|with_reducible exact V) (first|(go_at_call 43;(with_reducible apply(a5.o _).m);rintro c a8 ⟨rfl,X⟩;have f:=Below.ke X f;have t:=lK f;have V:=t;have S:=F (aQ S.o X);have j:=F (j.o.t (X.m j.o.z)))|(go_at_call 43;(with_reducible apply(a6.o _).m);rintro c a8 ⟨rfl,X⟩;have f:=Below.ke X f;have t:=lK f;have V:=t;have S:=F (aQ S.o X);have j:=F (j.o.t (X.m j.o.z));have V:=lK (Below.ke ((Ge _ a8).a (Gb _) (K #[O a1,O a2] 9)) f))|(go_at_call 103;(apply(ab.o _).m);rintro c i9 ⟨rfl,f7⟩;have X:=((Ge _ a8).a (Gb _) (K #[O a1,O a2] 9)).t (f7.m sm);have f:=Below.ke X f;have t:=lK f;have V:=lK (Below.ke ((Ge _ i9).a (Gb _) (K #[O a9] 9)) f);have S:=F (aQ S.o X);have j:=F (j.o.t (X.m j.o.z));have e8:=j.o.z)|(apply gX hO A _ _ rf rf (by exact S.o) rf #[O a9] rf QA H (by exact e8);intro k2 w8 g2 d6;have af:=F (κ g2 (d6.cT S.o j.o e8));have t:=lK (d6.aM f i5);have V:=t));go_wp2;go_roundw;case rel=>exact⟨i+1,H,gN,F ⟨by rw[h8.o,Io,Io,Lw,Lw,h5.o];exact af.1,af.2⟩⟩
    case measure=>simp[QI];omega
   obtain rfl:i=(o:D):=H;have af:Φ (wr.ownsRow (l:D) 9 1 u4 (o:D) ((o.map nh).map O)/\T l l wr):=F ⟨by have:=p.1;rwa [Iy] at this,p.2⟩;have f2:Φ (bS wr u4 (o.map nh)):=F (da (base:=(l:D)) (by rw[Hp];exact af.1));have e1:=F (b3.o.t (af.2.m b3.o.z));have ah:=Below.ke af.2 f6.o;have j0:((o.map nh).flatMap bs:D)<=8*104:=by
    have:=sV 104 (o.map nh) λk3 i6=>by
     obtain⟨a,n,rfl⟩:=GL.1 i6;exact(xC (b4.o.es a n)).2
    rw[Hp] at this;have:=JY 104 i4;omega
   have W:=b4.o;have b9:∀b,Y N 135 #[Z u 1] b λc h=>c=ι (O (tx (Rl.dg 1)))/\T b b h:=jU 1 H H;have c0:=jU y W.s.1 (oU W.s.2);have c7:=jU x W.q.1 (oU W.q.2);have c8:=jU c W.e.1 (oU W.e.2);have d1:=jU e W.v.1 (oU W.v.2);have T1:∀b,Y N 43 #[O r] b λc h=>c=ι (O (t1 r))/\T b b h:=λb=>cP r b (oU W.r);have d2:∀b,Y N 43 #[O q] b λc h=>c=ι (O (t1 q))/\T b b h:=λb=>cP q b (oU W.pf);have b7:=py v;have a7:=fun(b:ν) (I:T wr wr b)=>fx b u4 (o.map nh) (f2.o.hQ I) (by rw[Hp];omega) H;have j1:([tx (Rl.dg 1),tx (Rl.dg y.toNat),tx (Rl.dg x.toNat),tx (Rl.dg c.toNat),tx (Rl.dg e.toNat),t1 r,tx (Rl.eK ((o.map nh).flatMap bs)),t1 q,tx (Rl.dg (if v=ψ then 1 else 0))].flatMap bs).length<=70000:=by
    have j3:=dM 1 H;have j4:=dM y.toNat (oU W.s);have j5:=dM x.toNat (oU W.q);have e3:=dM c.toNat (oU W.e);have j6:=dM e.toNat (oU W.v);have i0:=qp W.r H;have i1:=qp W.pf H;have j7:=dM (if v=ψ then 1 else 0) pO;simp only at i0 i1;have j8:=jC ((o.map nh).flatMap bs) H;simp[GV,JL,IS,Gk,aX];omega
   have w:=λb=>fx _ _ _ (nf b [tx (Rl.dg 1),tx (Rl.dg y.toNat),tx (Rl.dg x.toNat),tx (Rl.dg c.toNat),tx (Rl.dg e.toNat),t1 r,tx (Rl.eK ((o.map nh).flatMap bs)),t1 q,tx (Rl.dg (if v=ψ then 1 else 0))]) sm H;have e4:Φ (yW ⟨y,x,c,e,r,P L (o:D) R,q,v⟩ o=tx (Rl.eK ([tx (Rl.dg 1),tx (Rl.dg y.toNat),tx (Rl.dg x.toNat),tx (Rl.dg c.toNat),tx (Rl.dg e.toNat),t1 r,tx (Rl.eK ((o.map nh).flatMap bs)),t1 q,tx (Rl.dg (if v=ψ then 1 else 0))].flatMap bs))):=F A;generalize b0:tx (Rl.eK (List.flatMap bs [tx (Rl.dg 1),tx (Rl.dg y.toNat),tx (Rl.dg x.toNat),tx (Rl.dg c.toNat),tx (Rl.dg e.toNat),t1 r,tx (Rl.eK ((o.map nh).flatMap bs)),t1 q,tx (Rl.dg (if v=ψ then 1 else 0))]))=e9 at w e4;generalize tx (Rl.dg 1)=x0 at b9 w;generalize tx (Rl.dg y.toNat)=aj at c0 w;generalize tx (Rl.dg x.toNat)=ak at c7 w;generalize tx (Rl.dg c.toNat)=al at c8 w;generalize tx (Rl.dg e.toNat)=am at d1 w;generalize t1 r=ao at T1 w;generalize tx (Rl.eK ((o.map nh).flatMap bs))=ap at a7 w;generalize t1 q=a0 at d2 w;generalize tx (Rl.dg (if v=ψ then 1 else 0))=aq at b7 w;have w:Φ (∀b:ν,Y N 103 #[P (M ⟨(b:D),0,J⟩) 9 9] (b.alloc (K #[O x0,O aj,O ak,O al,O am,O ao,O ap,O a0,O aq] 9)) λc h=>c=ι (O e9)/\T (b.alloc (K #[O x0,O aj,O ak,O al,O am,O ao,O ap,O a0,O aq] 9):D) (b.alloc (K #[O x0,O aj,O ak,O al,O am,O ao,O ap,O a0,O aq] 9)) h):=F w;have h0:=F b9;have h1:=F c0;have h2:=F c7;have h3:=F c8;have h4:=F d1;have h6:=F T1;have h7:=F d2;have g9:=F b7;have a7:=F a7;have j:=F (Ge (wr:D) wr).d;have f:wr.drew.heap[(U:D)]?=M (K #[Z u y,Z u x,Z u c,Z u e,O r,P L (o:D) R,O q,υ v] 136):=ah;have V:=gZ ah;have t:=gZ f;go_upto_region 9 with fail;go_region_held3 (λh=>h.cell? ⟨(U:D),0,J⟩=M (Z u y)/\h.cell? ⟨(U:D),1,J⟩=M (Z u x)/\h.cell? ⟨(U:D),2,J⟩=M (Z u c)/\h.cell? ⟨(U:D),3,J⟩=M (Z u e)/\h.cell? ⟨(U:D),4,J⟩=M (O r)/\h.cell? ⟨(U:D),5,J⟩=M (P L (o:D) R)/\h.cell? ⟨(U:D),6,J⟩=M (O q)/\h.cell? ⟨(U:D),7,J⟩=M (υ v)) (first|with_reducible exact t|with_reducible exact V) (first|(go_at_call 135;(with_reducible apply(h0.o _).m);rintro c s ⟨rfl,z⟩;have f:=Below.ke z f;have t:=gZ f;have V:=t;have j:=F (j.o.t (z.m j.o.z)))|(go_at_call 135;(with_reducible apply(h1.o _).m);rintro c s ⟨rfl,z⟩;have f:=Below.ke z f;have t:=gZ f;have V:=t;have j:=F (j.o.t (z.m j.o.z)))|(go_at_call 135;(with_reducible apply(h2.o _).m);rintro c s ⟨rfl,z⟩;have f:=Below.ke z f;have t:=gZ f;have V:=t;have j:=F (j.o.t (z.m j.o.z)))|(go_at_call 135;(with_reducible apply(h3.o _).m);rintro c s ⟨rfl,z⟩;have f:=Below.ke z f;have t:=gZ f;have V:=t;have j:=F (j.o.t (z.m j.o.z)))|(go_at_call 135;(with_reducible apply(h4.o _).m);rintro c s ⟨rfl,z⟩;have f:=Below.ke z f;have t:=gZ f;have V:=t;have j:=F (j.o.t (z.m j.o.z)))|(go_at_call 43;(with_reducible apply(h6.o _).m);rintro c s ⟨rfl,z⟩;have f:=Below.ke z f;have t:=gZ f;have V:=t;have j:=F (j.o.t (z.m j.o.z)))|(go_at_call 103;(with_reducible apply(a7.o _ j.o).m);rintro c s ⟨rfl,z⟩;have f:=Below.ke z f;have t:=gZ f;have V:=t;have j:=F (j.o.t (z.m j.o.z)))|(go_at_call 43;(with_reducible apply(h7.o _).m);rintro c s ⟨rfl,z⟩;have f:=Below.ke z f;have t:=gZ f;have V:=t;have j:=F (j.o.t (z.m j.o.z)))|(go_at_call 143;(with_reducible apply(g9.o _).m);rintro c s ⟨rfl,z⟩;have f:=Below.ke z f;have t:=gZ f;have V:=t;have j:=F (j.o.t (z.m j.o.z));have V:=gZ (Below.ke ((Ge _ s).a (Gb _) (K #[O x0,O aj,O ak,O al,O am,O ao,O ap,O a0,O aq] 9)) f))|(go_at_call 103;(apply(w.o _).m);rintro c a8 ⟨rfl,X⟩;have j:=F (nX j X);have t:=gZ (Below.ke X (Below.ke ((Ge _ s).a (Gb _) (K #[O x0,O aj,O ak,O al,O am,O ao,O ap,O a0,O aq] 9)) f));have V:=t));have g7:=F (e1.o.t (j.o.m e1.o.z));go_wp2;go_ret2;exact⟨Θ ⟨b5.o,e4.o▸rfl⟩,g7.o⟩
end Fm
namespace Fd
structure Nt where
 s:C
 e:C
 b:C
 r:QE
 v:S
def Nt.enc (j:Nt):E S:=[G j.s,G j.e,G j.b,O j.r,j.v]
def lu (w:ν)(o:Nt):Prop:=∃j,jv w o.v j/\j.length<=80
structure Qd where
 fo:Bool
 v:S
 ns:E Nt
structure OR (w:ν)(B q:Nat)(d:Qd):Prop where
 bO:w.heap[q]?=K #[d.fo,d.v] 178 (0,0)
 dK:B<=q
 cT:w.ownsRow B 158 5 d.v d.ns.length (d.ns.flatMap Nt.enc)
 cB:d.ns.length<=5
 sD:∀n∈d.ns,lu w n
abbrev bh (q:Nat):S:=V q
def Qs (w:ν)(B:Nat)(L:E (IA×S))(D:Nat->Qd):Prop:=
 (∀z∈L,∃id q,z=(il id,bh q)/\OR w B q (D q))/\∀t u q j,(il t,bh q)∈L->(il u,bh j)∈L->q≠j->∀o,(D q).v.ownBlock=M o->(D j).v.ownBlock≠M o
structure bz (w:ν)(B f m:Nat)(room:C)(L:E (IA×S)):Prop where
 bO:w.heap[f]?=K #[G room,KD (M m)] 152 (0,0)
 cS:bj N w 3 m L
 cg:1<=room/\room<=4
 dK:B<=f/\B<=m
 qs:∃D,Qs w B L D
variable {w w':ν}{B f m q:Nat}{room:Int}{L L':List (IA×π)}{D:Nat->Qd}{d:Qd}
def lu.fz {t:Nt}{j o}(a:lu w t)(A:Fz B j o w w')(u:cM w o)(z:56∉j):lu w' t:=let⟨h,a,b⟩:=a;⟨h,a.fz A u z,b⟩
def nZ {j o:Nat}(t:bh j=bh o):j=o:=by cases t;rfl
def bz.inn (t:bz w B f m room L){id:C}{o:S}(j:aT L (il id)=o):∃q,o=bh q/\(il id,bh q)∈L:=by
 let⟨D,g,_⟩:=t.qs;let⟨h,q,a,_⟩:=g _ (cx j);simp only[Hf] at a;exact⟨q,a.2,a.2▸cx j⟩
def Qs.at {t:C}(j:Qs w B L D)(o:(il t,bh q)∈L):OR w B q (D q):=by
 let⟨h,i,a,c⟩:=j.1 _ o;simp only[Hf] at a;cases nZ a.2;exact c
def Qs.Ce (o:Qs w B L D)(j:∀a∈L',a∈L):Qs w B L' D:=⟨λa h=>o.1 a (j a h),λi b q k e g=>o.2 i b q k (j _ e) (j _ g)⟩
def aaf {t u}{j J A:Nat}{K:S}{M:E S}(z:w.ownsRow B j A K J M)(U:Fz B t u w w')(O:cM w u)(P:j∉t):w'.ownsRow B j A K J M:=
 aK z λc b=>by
  rcases z.2 with⟨rfl,_⟩|⟨X,V,W,rfl,_,o,_⟩
  .cases b
  simp only[Ψ,Gd] at b;subst b;exact(U.aM o P (λa=>O _ a _ _ _ o)).t o.s
def OR.fz {o z}(j:OR w B q d)(u:Fz B o z w w')(t:cM w z)(A:56∉o)(J:158∉o)(K:178∉o):OR w' B q d:=
 ⟨u.aM j.bO K (λk=>t _ k _ _ _ j.bO),j.dK,aaf j.cT u t J,j.cB,λn l=>(j.sD n l).fz u t A⟩
def bz.fz {o t}(j:bz w B f m room L)(u:Fz B o t w w')(z:cM w t)(e:m∉t)(A:152∉o)(J:56∉o)(K:158∉o)(M:178∉o):bz w' B f m room L:=by
 let⟨D,q1,q2⟩:=j.qs;exact⟨u.aM j.bO A (λe=>z _ e _ _ _ j.bO),u.hW j.cS e,j.cg,j.dK,D,λs p=>by
  let⟨k,q,a,r⟩:=q1 s p
  exact⟨k,q,a,r.fz u z J K M⟩,q2⟩
def bz.aE (j:bz w B f m room L)(o:T w w w'):bz w' B f m room L:=
 j.fz (Fz.aE o B [] []) (λ_ c=>by cases c) R R R R R
def bz.c0 (j:bz w B f m room L):w f=room:=cR j.bO A
def bz.c1 (j:bz w B f m room L):w (f,1)=KD (M m):=cR j.bO A
def OR.c0 (j:OR w B q d):w q=z d.fo:=cR j.bO A
def OR.c1 (j:OR w B q d):w (q,1)=d.v:=cR j.bO A
def eL (w:ν):(Xs 175).run N w=Je (V J) w:=e
def jr (j:C)(w:ν):Y N 22 #[j] w λh w'=>(∃f m,h=bh f/\bz w' w f m (min (max j 1) 4) [])/\T w w w':=by
 have J:=@run_makeMap N;have o:=bo w (Lz #[] 0);have t:=bo (w.alloc (Lz #[] 0)) (K #[G (min (max j 1) 4),KD (M w)] 152);have z:Φ (bz ((w.alloc (Lz #[] 0)).alloc (K #[G (min (max j 1) 4),KD (M w)] 152)) w (w+1) w (min (max j 1) 4) []):=F
  ⟨by have:=t.at_;rwa [GG] at this,(bj.pk w N 3).aM (QP (by rw[GG];omega)),H,H,λ_=>⟨X,undef,[]⟩,nF,nF⟩
 have u:=F (o.aE.t (t.aE.m o.aE.z));go_enter func22,ntmps22;go_wp2;go_ret;exact⟨⟨_,_,A,z.o⟩,u.o⟩
def adu (w:ν)(B:Nat)(L:E (IA×S))(id:C)(j:S):Prop:=(aT L (il id)=J/\j=V J)\/∃q d,aT L (il id)=bh q/\j=bh q/\OR w B q d
def bz.jl (u:bz w B f m room L)(id:C):adu w B L id ((aT L (il id)).getD (V J)):=by
 obtain⟨D,K⟩:=u.qs;cases t:aT L (il id) with
 |none=>exact o ⟨t,A⟩
 |some g=>
  obtain⟨q,rfl,z⟩:=u.inn t;exact j ⟨q,D q,t,A,K.at z⟩
def ni (id:C)(w:ν)(o:bz w B f m room L)(O: -9223372036854775808<=id/\id<=9223372036854775807):Y N 37 #[bh f,id] w λc w'=>(∃t,c=z t/\(aT L (il id)=J->t=X))/\w=w':=by
 have K:=o.cS;have c1:=o.c1;have M:=kG O;rcases o.jl id with⟨j,u⟩|⟨q,d,j,u,P⟩
 .rw[j] at u;have j:(aT L (il id)).getD (V J)=V J:=j▸rfl;go_enter func37,ntmps37;go_wp2_with (at_lookup;refine wL eX Lj (eL _) K M ?_;rw[j]);go_ret;exact⟨⟨_,A,λ_=>rfl⟩,A⟩
 have U:=F j;have j:(aT L (il id)).getD (V J)=bh q:=j▸rfl;have W:=P.c0;go_enter func37,ntmps37;go_wp2_with (at_lookup;refine wL eX Lj (eL _) K M ?_;rw[j]);go_ret;exact⟨⟨_,A,λc=>by have:=U.o;rw[c] at this;cases this⟩,A⟩
def sg (id:C)(w:ν)(o:bz w B f m room L)(O: -9223372036854775808<=id/\id<=9223372036854775807):Y N 36 #[bh f,id] w λe w'=>(∃u:C,e=G u/\0<=u/\(aT L (il id)=J->u=0))/\w=w':=by
 have K:=o.cS;have c1:=o.c1;have M:=kG O;rcases o.jl id with⟨j,z⟩|⟨q,d,j,z,t⟩
 .rw[j] at z;have j:(aT L (il id)).getD (V J)=V J:=j▸rfl;go_enter func36,ntmps36;go_wp2_with (at_lookup;refine wL eX Lj (eL _) K M ?_;rw[j]);go_ret;exact⟨⟨_,A,r,λ_=>rfl⟩,A⟩
 have P:=F j;have j:(aT L (il id)).getD (V J)=bh q:=j▸rfl;let⟨p,a,l⟩:=aR t.cT;have U:=t.c1;have W:=t.cB;rw[l] at U;go_enter func36,ntmps36;go_wp2_with (at_lookup;refine wL eX Lj (eL _) K M ?_;rw[j]);go_ret;exact⟨⟨_,A,H,λe=>by have:=P.o;rw[e] at this;cases this⟩,A⟩
end Fd
namespace Fm
structure Fk (a:Fd.Nt)(es:E fj):Prop where
 s:0<=a.s/\a.s<=1048576
 e:0<=a.e/\a.e<=12
 b:0<=a.b/\a.b<=1048576
 r:a.r.size<=32
 n:es.length<=80
 es:∀x∈es,x.fe.size<=6/\x.cm.size<=80
def aag (j:Fd.Nt)(t:E fj)(o:He):Prop:=∃f,o=z f/\(f=U->Fk j t)
def jV {o t j u:S}{z:D×D}(f:g.heap[w]?=K #[m,o,t,j,u] p z):g w=m/\g (w,1)=o/\g (w,2)=t/\g (w,3)=j/\g (w,4)=u:=
 ⟨cR f A,cR f A,cR f A,cR f A,cR f A⟩
def t56:pX 56 3:=⟨⟨_,A,underlying56⟩,by kernel_rfl⟩
def nb (O:Fd.Nt)(f:E fj)(t:ν)(ae:eh t O.v f)(c8:(f:D)<=1000000):Y γ 142 #[O.enc.toArray] t λc w=>aag O f c/\ρ t t w:=by
 let⟨s,c,p,k,b6⟩:=O;let⟨r,h,T,ab⟩:=ae.bZ;simp only at T;subst T;let⟨e,ag,m⟩:=aU t (K #[s,G c,p,k,P r (f:D) h] 158);let⟨c7,c1,b7,b9,c4⟩:=jV m.at_;have aq:=QC (∀i a,f[i]?=M a->∃b d,r=M ⟨b,d,J⟩/\i<h/\e ⟨b,d+i*3,J⟩=β a.fe/\e ⟨b,d+i*3+1,J⟩=β a.cm/\e ⟨b,d+i*3+2,J⟩=υ a.eB) λi a l=>by
  let⟨b,d,ar,au,av,a0,a1⟩:=ab i a l;exact⟨b,d,ar,au,m.aE.ce av,m.aE.ce a0,m.aE.ce a1⟩
 have aj:=F ag;have u:=F m.aE;have ap:=F (λb4 b3 b=>gg b4 b3 b e);let⟨v,af,a7⟩:∃v,Y γ 202 #[k] e (λc w=>c=υ v/\e=w)/\(v=ψ->k.size<=32):=⟨_,kY k e,by simp only[XE];omega⟩;have ao:=F af;show Y γ 142 #[Γ #[s,G c,p,k,P r (f:D) h]] t _;go_enter func142,ntmps142;go_wp2_with (first|(rw[aj.o])|(with_reducible go_call ap.o _ _ _ as c b0 ⟨rfl,rfl⟩)|(with_reducible go_call ao.o as c b0 ⟨rfl,rfl⟩));any_goals(exact QM (Xy A _ _ _) A ⟨⟨X,A,sm⟩,u.o⟩)
 all_goals
  have ak:=QC ((∀a∈f,a.fe.size<=6/\a.cm.size<=80)->Fk ⟨s,c,p,k,P r (f:D) h⟩ f) λa4=>by
   have a8:=a7 aS;simp only[Pa,Bool.not_true,Qh,uf] at *;exact⟨(H:0<=s/\_),(H:0<=c/\c<=12),(H:0<=p/\_),a8,(H:(f:D)<=80),a4⟩
  go_loopw [4,38] (λ_ iv wr=>∃j:D,j<=(f:D)/\iv=G j/\Φ (ρ e e wr)/\Φ (∀(g:D) a,g<j->f[g]?=M a->a.fe.size<=6/\a.cm.size<=80)) (λ_ iv _=>(f:D)-(QI iv).toNat)
  .exact⟨0,H,A,F QG,F λg a q=>H⟩
  obtain⟨j,c3,rfl,o,Z⟩:=hrel;have ai:=F (u.o.t (o.o.m u.o.z));by_cases a5:j<(f:D)
  .let⟨a,L⟩:∃a,f[j]?=M a:=⟨_,Gf a5⟩;obtain⟨b,d,rfl,c6,N,R,S⟩:=aq.o j a L;have N:=o.o.ce N;have R:=o.o.ce R;have S:=o.o.ce S;have am:=F L;have ah:=Gc wr (K #[I,I,υ X] 56);let⟨x,y,d1⟩:=a;go_upto_region 8 with(apply ia t56 ah;intro d2 U;have V:=F (U.aE _ _ o.o.z (o.o.a o.o.z (K #[I,I,υ X] 56)));have c0:=cJ 0 U.at_;have c2:=cJ 1 U.at_);have W:=F (u.o.t (V.o.m u.o.z));by_cases a2:x.size<=6
   .have a9:¬(6:C)<(x.size:C):=H;by_cases a3:y.size<=80
    .have b2:¬(80:C)<(y.size:C):=H;go_wp2;go_roundw
     .exact⟨j+1,H,gN,V,F λg b5 q n=>by
      by_cases a6:g<j
      .exact Z.o g b5 a6 n
      cases(H:g=j)
      rw[am.o] at n
      cases Gm n
      exact⟨a2,a3⟩⟩
     simp[QI];omega
    have b2:(80:C)<(y.size:C):=H;go_wp2;go_ret;exact⟨⟨X,A,sm⟩,W.o⟩
   have a9:(6:C)<(x.size:C):=H;go_wp2;go_ret;exact⟨⟨X,A,sm⟩,W.o⟩
  obtain rfl:j=(f:D):=H;have al:=F (ak.o λa l=>by
   let⟨g,q⟩:=GI.1 l
   exact Z.o g a (Gg.1 q).1 q)
  go_wp2;go_ret;exact⟨⟨ψ,A,λ_=>al.o⟩,ai.o⟩
end Fm
namespace Fd
variable {w w':ν}{B f m q:Nat}{room:Int}{L z:List (IA×π)}{D:Nat->Qd}{d:Qd}
def gC (u:w.mapTurned w' m):Fz B [] [m] w w':=by
 have:=aL.dD (aL.bQ (· =m) w) u (λ_=>rfl);exact⟨this.os,this.cb,this.aW,this.aH,λb c=>by
  by_cases t:b=m
  .exact j (j (by simp[t]))
  exact o (this.aG b c t)⟩
def bz.YJ (j:bz w B f m room L)(t:Fz B [] [m] w w')(c:bj N w' 3 m z)(u:∀e∈z,e∈L):bz w' B f m room z:=by
 have o:cM w [m]:=eH j.cS.bx;let⟨D,b⟩:=j.qs;have b:=b.Ce u;exact⟨t.aM j.bO R (λc=>o _ c _ _ _ j.bO),c,j.cg,j.dK,D,λe a=>by
  let⟨k,q,i,hd⟩:=b.1 e a
  exact⟨k,q,i,hd.fz t o R R R⟩,b.2⟩
def bz.aaj (o:bz w B f m room L)(A:Fz B [] [m] w w')(j:Qs w B L D)(u:∀b∈z,b∈L):Qs w' B z D:=by
 have t:cM w [m]:=eH o.cS.bx;have j:=j.Ce u;exact⟨λb h=>by
  let⟨a,q,g,hd⟩:=j.1 b h
  exact⟨a,q,g,hd.fz A t R R R⟩,j.2⟩
def bz.turn (X:bz w B f m room L)(t:Qs w B L D){y:C}(Z:(il y,bh q)∈L)(A:aL (λg=>g=q\/(D q).v.ownBlock=M g) w w')(hd:OR w' B q d)
 (K:∀g,d.v.ownBlock=M g->(D q).v.ownBlock=M g\/(w:Nat)<=g):bz w' B f m room L/\Fz B [158,178] [] w w'/\Qs w' B L (λe=>if e=q then d else D e):=by
 have U:=t.at Z;have V:Fz B [158,178] [] w w':=⟨A.os,A.cb,A.aW,A.aH,λG v=>by
  by_cases c:G=q\/(D q).v.ownBlock=M G
  .rcases c with rfl|c
   .exact j (o ⟨_,_,_,U.bO,R,U.dK⟩)
   refine j (o ?_)
   rcases U.cT.2 with⟨b,_⟩|⟨I,s,H,b,K,J,_⟩
   .rw[b] at c;cases c
   rw[b] at c
   simp only[Ψ,Gd] at c
   subst c
   exact⟨_,_,_,J,R,K⟩
  exact o (A.aG G v c)⟩
 have l:Qs w' B L (λe=>if e=q then d else D e):=?Q;case Q=>
  refine⟨λY r=>?_,λN p e i k F n g b a=>?_⟩
  .obtain⟨p,e,rfl,u⟩:=t.1 Y r;refine⟨p,e,rfl,?_⟩;show OR w' B e (if e=q then d else D e);by_cases c:e=q
   .rwa[QU c,c]
   rw[QT c];refine⟨A.aM u.bO ?_,u.dK,aK u.cT λg h=>A.aG g (bG u.cT h).2 ?_,u.cB,λT x=>(u.sD T x).fz V (λ_ S=>by cases S) R⟩
   .rintro(a|a)
    .exact c a
    rcases U.cT.2 with⟨b,_⟩|⟨I,s,H,b,K,J,_⟩
    .rw[b] at a;cases a
    rw[b] at a;simp only[Ψ,Gd] at a;rw[a,u.bO] at J;cases J
   rintro(a|a)
   .subst a;rcases u.cT.2 with⟨b,_⟩|⟨I,s,H,b,K,J,_⟩
    .rw[b] at h;cases h
    rw[b] at h;simp only[Ψ,Gd] at h;rw[h,U.bO] at J;cases J
   exact t.2 p y e q r Z c g h a
  dsimp only at b a;by_cases W:e=q
  .rw[QU W] at b;have P:i≠q:=λc=>n (by rw[W,c]);rw[QT P] at a;rcases K g b with O|O
   .exact t.2 y p q i Z F (λc=>P c.s) g O a
   exact absurd (bG (t.at F).cT a).2 om
  rw[QT W] at b;by_cases P:i=q
  .rw[QU P] at a;rcases K g a with O|O
   .exact t.2 N y e q k Z W g b O
   exact absurd (bG (t.at k).cT b).2 om
  rw[QT P] at a;exact t.2 N p e i k F n g b a
 exact⟨⟨V.aM X.bO R R,V.hW X.cS R,X.cg,X.dK,_,l⟩,V,l⟩
def hf {t:Obj}(o:bd w w' q t):aL (· =q) w w':=have j:=o.aE q w QD (Ge _ w);⟨j.os,j.tape,j.output,j.z,λe _ c=>o.old e c⟩
def bz.DC (h:bz w B f m room L)(W:Qs w B L D){n:C}(V:(il n,bh q)∈L){A:Bool}(M:bd w w' q (K #[υ A,(D q).v] 178 (0,0))):bz w' B f m room L/\Fz B [158,178] [] w w'/\Qs w' B L (λs=>if s=q then{D q with fo:=A} else D s):=by
 have t:=W.at V;have u:=hf M;have Z:w'.ownsRow B 158 5 (D q).v (D q).ns.length ((D q).ns.flatMap Nt.enc):=aK t.cT λl b=>M.old l (by
  rintro rfl
  rcases t.cT.2 with⟨J,_⟩|⟨F,H,e,J,G,U,_⟩
  .rw[J] at b;cases b
  rw[J] at b
  simp only[Ψ,Gd] at b
  rw[b,t.bO] at U;cases U)
 suffices X:∀O∈(D q).ns,lu w' O by
  have:=h.turn (d:={D q with fo:=A}) W V (u.cz λn _ h=>o h) ⟨M.at_,t.dK,Z,t.cB,X⟩ λl b=>o b;exact this
 intro O j;have y:Fz B [178] [] w w':=⟨u.os,u.cb,u.aW,u.aH,λa c=>by
  by_cases P:a=q
  .exact Θ (o (P▸⟨_,_,_,t.bO,by simp,t.dK⟩))
  exact o (u.aG a c P)⟩
 exact(t.sD O j).fz y (λ_ j=>by cases j) R
def bz.off {P:Nat}{X Z:Q S}(u:bz w B f m room L)(V:Qs w B L D)(W:bd w w' P (K Z 158 (0,0)))(c:w.heap[P]?=K X 158 (0,0))(x:∀J q,(il J,bh q)∈L->∀a,(D q).v.ownBlock=M a->a≠P):bz w' B f m room L:=by
 have t:=hf W;have O:Fz 0 [158] [] w w':=⟨t.os,t.cb,t.aW,t.aH,λn b=>by
  by_cases U:n=P
  .exact j (o (U▸⟨_,_,_,c,by simp,QK⟩))
  exact o (t.aG n b U)⟩
 have p:cM w []:=λ_ i=>by cases i
 exact⟨O.aM u.bO R R,O.hW u.cS R,u.cg,u.dK,D,λr k=>by
  obtain⟨J,q,rfl,hd⟩:=V.1 r k
  exact⟨J,q,A,O.aM hd.bO R R,hd.dK,aK hd.cT λa s=>W.old a (x J q k a s),hd.cB,λy i=>(hd.sD y i).fz O p R⟩,V.2⟩
def vv (id:C)(w:ν)(j:bz w B f m room L)(u: -9223372036854775808<=id/\id<=9223372036854775807):Y N 81 #[bh f,id] w λc w'=>(∃g:C,c=G g)/\bz w' B f m room (be (il id) L)/\Fz B [] [m] w w':=by
 have c1:=j.c1;go_enter func81,ntmps81;go_wp2_with (first|((with_reducible go_call (F (sg id w j u)).o as c r ⟨⟨g,rfl,_⟩,o⟩);subst o)|(at_delete;refine kJ A _ _ 150 3 A 175 eX Lj m L A j.cS _ _ A (kG u) ?_;intro M J K));have t:=F (gC (B:=B) K);go_wp2;go_ret;exact⟨⟨_,A⟩,(F ((F j).o.YJ t.o J (λk a=>(GX.1 a).1))).o,t.o⟩
def adv (w:ν)(B f m:Nat)(room:C)(L:E (IA×S))(w':ν):Prop:=∃z,(∀j∈z,j∈L)/\z.length<=L.length/\bz w' B f m room z/\Fz B [] [m] w w'/\∀D,Qs w B L D->Qs w' B z D
def Br (id:C)(w:ν)(b:bz w B f m room L)(hid: -9223372036854775808<=id/\id<=9223372036854775807):Y N 141 #[bh f,id] w λe w'=>e=χ #[]/\adv w B f m room L w':=by
 have o:=b.cS;have c1:=b.c1;have t:=kG hid;have H0:=y (adv w B f m room L w) ⟨L,λ_ b=>b,QD,b,Fz.bQ _ _ _ _,λ_ b=>b⟩;have M:=F b;rcases b.jl id with⟨j,O⟩|⟨q,d,j,O,u⟩
 .rw[j] at O;have j:(aT L (il id)).getD (V J)=V J:=j▸rfl;go_enter func141,ntmps141;go_wp2_with (at_lookup;apply wL eX Lj (eL _) o t;rw[j]);go_end0;exact⟨A,H0.o⟩
 have j:(aT L (il id)).getD (V J)=bh q:=j▸rfl;let⟨i,k,c⟩:=aR u.cT;have s:=u.c0;have W:=u.c1;rw[c] at W;generalize (d.ns:Nat)=P at W;generalize d.fo=Z at s;go_enter func141,ntmps141;cases Z with
 |true=>
  go_wp2_with (at_lookup;apply wL eX Lj (eL _) o t;rw[j]);go_end0;exact⟨A,H0.o⟩
 |false=>
  by_cases U:P=0
  .subst U;go_wp2_with (first|(at_lookup;apply wL eX Lj (eL _) o t;rw[j])|(at_delete;refine kJ A _ _ 150 3 A 175 eX Lj m L A o _ _ A t ?_;intro h v x));have K:=F (gC (B:=B) x);go_wp2;go_end0;exact⟨A,_,(λp g=>(GX.1 g).1),bB _ _,(F (M.o.YJ K.o v (λp g=>(GX.1 g).1))).o,K.o,λD a=>M.o.aaj K.o a (λp g=>(GX.1 g).1)⟩
  have U:((P:C)==0)=X:=QB;go_wp2_with (at_lookup;apply wL eX Lj (eL _) o t;rw[j]);go_end0;exact⟨A,H0.o⟩
def Oa (id:C)(w:ν)(a:bz w B f m room L)(o: -9223372036854775808<=id/\id<=9223372036854775807):Y γ 248 #[bh f,id] w λk w'=>(∃h,k=υ h)/\∃z,(∀v∈z,v∈L)/\z.length<=(L:Nat)/\bz w' B f m room z/\Fz B [158,178] [m] w w':=by
 have j:=F a;go_enter func248,ntmps248;go_wp2_with fail;go_call (F (ni id w a o)).o as k G ⟨⟨h,rfl,x⟩,A⟩;subst A;cases h with
 |false=>
  go_wp2;go_ret;exact⟨⟨_,rfl⟩,L,λ_ a=>a,QD,j.o,Fz.bQ _ _ _ _⟩
 |true=>
  let⟨D,e⟩:=j.o.qs;let⟨q,g,c⟩:∃q,aT L (il id)=bh q/\(il id,bh q)∈L:=by
   cases g:aT L (il id) with
   |none=>have:=x g;cases this
   |some b=>
    obtain⟨q,rfl,c⟩:=j.o.inn g;exact⟨q,rfl,c⟩
  have O:(aT L (il id)).getD (V J)=bh q:=g▸rfl;have M:=(e.at c).c0;have U:=j.o.cS;have c1:=j.o.c1;have K:=F (j.o.DC e c (aF (j:=0) (υ X) (e.at c).bO));have P:=aI (e.at c).bO 0;generalize (D q).fo=Z at M;go_wp2_with (at_lookup;apply wL eX Lj (eL _) j.o.cS (kG o);rw[O]);go_call (F ((F (λw=>Br (w:=w) (B:=B) (f:=f) (m:=m) (room:=room) (L:=L) id (hid:=o))).o _ K.1)).o as k I ⟨rfl,z,r,s,t,u,-⟩;go_wp2;go_ret;exact⟨⟨_,rfl⟩,z,(F (W r (W s (W t ((K.2.1.cz (N:=[m]) (λ_ a=>a) R).aJ (u.cz R (λ_ a=>a))))))).o⟩
end Fd
namespace Fd
def js (j:L)(f:D)(o:Q S):j.grownBy (j.setRow f o) (M f):=
 ⟨A,A,A,by simp[World.setRow],λa _ e=>XL j f a o (λd=>e (by rw[d]))⟩
def sE {J:Xp}{v:Q Le}{j:Le}{o:Act}{r:Act->L->Prop}{l:Exit->Act->L->Prop}{d:Prop}(c:j.guard=ζ)(w x:Kg)(W:Λ)
 (F:j.op=Op.call {callee:=Callee.builtin Builtin.append,args:=#[w,x],argTypes:=#[W,W]})
 (t:Λ) (Z:TypeInfo) (m:J.underlying W=M (.slice t)) (n:J.info? t=Z) (V:D) (y:Z.size=V)
 (f z K:D) (O:Q S) (a:g.heap[f]?=θ O t) (I:o.eval w=ο f z K)
 (ad:JM) (A q:D) (u:E S) (k:o.eval x=ο (M ad) A q) (e:(u:D)=A*V) (T:∀s X,u[s]?=M X->g (ad.add s)=M X) (N:∀X∈u,X.oneCell'=U)
 (b:D) (h:z+A=b) (G:z+A<=K) (Y:z*V+(u:D)<=O.size)
 (R:∀p,Φ (p.heap[f]?=θ (splice O.toList (z*V) u).toArray t)->g.grownBy p (M f)->r (o.put j.dst (ο f b K)) p):
 if Jb j (Xg v o.tmps)=U then Ld J j o g r l else d:=by
 have i:Jb j (Xg v o.tmps)=U:=by simp[Jb,c]
 rw[QU i];subst y;subst h;have H:=run_append_room (P:=J) g W j.type t Z m n f z K O a ad A q u e T N G Y;simp[Ld,Xb,F,resolve,invoke,builtin,I,k,H,Ω];exact R _ (show _=_ by simpa[splice] using setRow_heap g f _ _ t _ a) (js _ _ _)
def zn:E S:=[G 0,G 0,G 0,I,P J 0 0]
def WD (f:L):(Xs 158).run N f=Je (t zn.toArray) f:=e
def Fo:(N.info? 158).map (λa=>(a.zero,a.size,a.bytes))=M (M (t zn.toArray),5,64):=e
def Ob (j:L)(o z U:D)(u:Q S)(O:j.heap[o]?=K u 158)(V:z+5<=u.size):
 ∃A,(∀g,(Builtin.clear_ #[176] g #[P (o,z) 1 U]).run N j=Je (f #[]) A)/\Φ (A.heap[o]?=K (splice u.toList z zn).toArray 158)/\j.grownBy A (M o):=by
 refine⟨_,λg=>?_,setRow_heap j o _ (splice u.toList z zn).toArray 158 _ O,js _ _ _⟩;have W:=run_storeCells_at N o z 158 zn 0 u j O (by simpa[zn] using V) (by simp[φ,zn]);have Z:(Builtin.zeroCells (Value.cells (t #[G 0,G 0,G 0,I,P J 0 0])) 1).toList=zn:=e;have X:(Xs 158).run N j=Je (t #[G 0,G 0,G 0,I,P J 0 0]) j:=WD j;simp[Builtin.clear_,Xo underlying176,X,Z,W,splice]
def DD (t j f:D)(u:Q S)(o:E S)(U:ν)(X:U.heap[t]?=K u 158)(ag:f<=j)(a8:j<=Ie)(v:u.size=j*5)(ae:0<f/\f<=5)(W:o=(u.toList.take (f*5)).drop 5)(F:∀h∈o,h.oneCell'=ψ):
 τ γ 140 #[P t f j,G 0,G 1] U λg c=>g=P t (f-1) j/\
  U.grownBy c (M t)/\∃V,c.heap[t]?=K V 158/\V.size=j*5/\V.toList.take ((f-1)*5)=o:=by
 let⟨L,n,af,q,ai⟩:=Xv Fo;have a9:=aw X;have aj:(1:C)<=(f:C):=H;have a0:(f:C)<=(j:C):=H;have a1:(1:C)<=(j:C):=H;have ah:(0:C)<=(j:C):=H;have O:(o:D)=(f-1)*5:=by rw[W,JD,GR];simp;omega
 have d:Φ (∃l:JM,(if j=1 then(M ⟨t,0,J⟩:QV JM) else M ⟨t,5,J⟩)=l/\∀m h,o[m]?=M h->U.drew (l.add m)=M h):=by
  by_cases b:j=1
  .refine⟨t,QU b,λm h a=>?_⟩;have:o=[]:=GH (oA O);rw[this] at a;cases a
  refine⟨⟨t,5,J⟩,QT b,λm h a=>?_⟩;rw[W,JV] at a;rw[Jg];show U _=_;simp only[Iz,X];have p:=(Gg.1 a).1;rw[GR] at p;rw[JI H] at a;simpa using a
 have I:∀a6:E S,(splice u.toList 0 o:D)=j*5:=λ_=>by rw[length_splice _ _ _ (by rw[O];simp;omega)];simpa using v
 have R:=QC ((splice (splice u.toList 0 o) ((f-1)*5) zn).take ((f-1)*5)=o) (by
  unfold splice
  rw[Ja (by rw[GR];simp[O]),Nq,Nat.min_self]
  simp only[Hw,Ho]
  rw[Ja H,Hr H])
 have T:Φ (0*5+(o:D)<=u.size):=by rw[Φ,O,v];omega
 clear W;go_enter func140,ntmps140;go_upto_region 5 with fail;let⟨l,k,y⟩:=d.o;have e:=Ga y;clear y;go_region_law (refine sE A (.tmp 22) (.tmp 25) 176 A 158 L underlying176 n 5 q t 0 j u X A l (f-1) (j-1) o (by simp[Act.eval,JB]) O e.o F (f-1) H H T.o ?_;intro N s z)
 all_goals
  have a2:¬j=f-1:=H;have a3:((f-1:D):C)<=(f:C):=H;have a4:f-(f-1)=1:=H;have ab:=aw s.o;have Z:((splice u.toList 0 o).toArray).size=j*5:=GZ▸I [];let⟨a5,a7,Y,i⟩:=Ob N t ((f-1)*5) (j-(f-1)) _ s.o (by rw[Lf,Z];omega);clear k;go_wp2;go_ret;refine⟨A,⟨i.os.t z.os,i.tape.t z.tape,i.output.t z.output,GB z.size i.size,λr w x=>(i.block r (GP w z.size) x).t (z.block r w x)⟩,_,Y.o,?_,?_⟩
  .rw[GZ,length_splice _ _ _ (by simp[zn] at Z ⊢;omega)];simpa using Z
  exact R.o
end Fd
namespace Fd
variable {w w' z:ν}{B f m q g cap:Nat}{room i:Int}{L L':List (IA×π)}{D:Nat->Qd}{d:Qd}{n0:Nt}{ns:List Nt}{cur:Array π}
def nj:pX 158 5:=⟨⟨_,A,Kx⟩,qo⟩
def lu.adw {j:Nt}(o:lu w j):j.enc.toArray.all (·.oneCell')=U:=by
 let⟨k,e,_⟩:=o;let⟨h,a,b,_⟩:=ln e.1;show(#[G j.s,G j.e,G j.b,O j.r,j.v]).all _=U;rw[b];simp[φ]
def lu.one {j:Nt}(o:lu w j):∀a∈j.enc,a.oneCell'=U:=λa e=>by
 have:=o.adw;rw[JA] at this;exact this a (by simpa using e)
def Qs.aE (j:Qs w B L D)(o:T w w w'):Qs w' B L D:=⟨λa e=>by
 obtain⟨i,q,c,hd⟩:=j.1 a e
 exact⟨i,q,c,hd.fz (Fz.aE o B [] []) (λ_ h=>by cases h) R R R⟩,j.2⟩
def DE (D:Nat->Qd)(q:Nat)(d:Qd):Nat->Qd:=λa=>if a=q then d else D a
def bz.aal (N:bz w B f m room L)(X:Qs w B L D)(U:(il i,bh q)∈L)(u:(D q).v=P g ((ns:Nat)+1) cap)(V:(D q).ns=n0::ns)(e:w.grownBy z (M g))(x:z.heap[g]?=K cur 158 (0,0))
 (F:cur.size=cap*5) (Z:cur.toList.take ((ns:Nat)*5)=ns.flatMap Nt.enc) (v:(ns:Nat)+1<=cap/\cap<=Ie):
 z (q,1)=P g ((ns:Nat)+1) cap/\z.frozen? (q,1)=σ/\bz (z.setCell (q,1) (P g (ns:Nat) cap)) B f m room L/\Fz B [158,178] [] w (z.setCell (q,1) (P g (ns:Nat) cap))/\
 (∀b<(w:Nat),b≠q->b≠g->(z.setCell (q,1) (P g (ns:Nat) cap)).heap[b]?=w.heap[b]?)/\Qs (z.setCell (q,1) (P g (ns:Nat) cap)) B L (DE D q ⟨(D q).fo,P g (ns:Nat) cap,ns⟩):=by
 have t:=X.at U;let⟨k,I,a2,l,c,n⟩:∃k I h,(D q).v=P (M ⟨k,0,ζ⟩) (D q).ns.length I/\B<=k/\w.heap[k]?=K h 158 (0,0):=by
  rcases t.cT.2 with⟨a,_⟩|⟨k,a0,Y,a,c,n,_⟩
  .rw[u] at a;cases a
  exact⟨k,a0,Y,a,c,n⟩
 rw[u] at l;simp only[Gy,Gd,GS] at l;obtain⟨⟨rfl,-⟩,-,rfl⟩:=l;have W:q≠g:=λa=>by rw[<-a,t.bO] at n;cases n
 have G:aL (λb=>b=q\/(D q).v.ownBlock=M b) w z:=(aL.bQ _ w).mz e (λb a _=>Θ (by rw[u,<-a];rfl));have J:z.heap[q]?=K #[υ (D q).fo,(D q).v] 178 (0,0):=(e.block q (aw t.bO) (λa=>W (Gm a))).t t.bO;have O:=aF (j:=1) (P g (ns:Nat) cap) J;have A:aL (λb=>b=q\/(D q).v.ownBlock=M b) w (z.setCell (q,1) (P g (ns:Nat) cap)):=G.aJ ((hf O).cz λ_ _ a=>o a);have y:=t.cB;rw[V] at y;have H:Fz B [158,178] [] w (z.setCell (q,1) (P g (ns:Nat) cap)):=⟨A.os,A.cb,A.aW,A.aH,λb p=>by
  by_cases a:b=q\/(D q).v.ownBlock=M b
  .rcases a with rfl|a
   .exact Θ (o ⟨_,_,_,t.bO,R,t.dK⟩)
   rw[u] at a
   simp only[Ψ,Gd] at a
   exact Θ (o (a▸⟨_,_,_,n,R,c⟩))
  exact o (A.aG b p a)⟩
 let⟨S,_,T⟩:=N.turn (d:=⟨(D q).fo,P g (ns:Nat) cap,ns⟩) X U A
  ⟨O.at_,t.dK,⟨by rw[<-Z,GR];simp;omega,Θ ⟨g,cap,cur,rfl,c,(O.old g (λa=>W a.s)).t x,(om:(ns:Nat)<=cap),v.2,F,Z⟩⟩,by simp at y ⊢;omega,λa1 r=>(t.sD a1 (V▸GK _ r)).fz H (λ_ r=>by cases r) R⟩
  (λb a=>o (by rwa[u]))
 exact⟨by rw[QH J];simp[u],aI J 1,S,H,λb p l s=>A.aG b p (by rw[u];rintro(a|a);exact l a;exact s (Gm a).s),T⟩
end Fd
namespace Fm
def nk (f:fj):B:=tx (Rl.eK ([t1 f.fe,t1 f.cm,tx (Rl.dg (if f.eB=U then 1 else 0))].flatMap bs))
def Tn (f:Fd.Nt)(j:E fj):B:=tx (Rl.eK ([tx (Rl.dg 2),tx (Rl.dg f.s.toNat),tx (Rl.dg f.e.toNat),tx (Rl.dg f.b.toNat),t1 f.r,tx (Rl.eK ((j.map nk).flatMap bs))].flatMap bs))
def aam (j:Bool->Prop)(t:Fd.Nt)(u:E fj)(o:He):Prop:=(j X/\o=f #[I,G 1])\/(j U/\o=f #[O (Tn t u),G 0])
def er {j o:S}{t:D×D}(f:g.heap[w]?=K #[m,j,o] p t):g w=m/\g (w,1)=j/\g (w,2)=o:=⟨cR f A,cR f A,cR f A⟩
def xD {f:fj}(j:f.fe.size<=6/\f.cm.size<=80):([t1 f.fe,t1 f.cm,tx (Rl.dg (if f.eB=U then 1 else 0))].flatMap bs).length<=107/\(nk f).size<=113:=by
 have o:=qp j.1 H;have t:=qp j.2 H;have u:=dM (if f.eB=U then 1 else 0) pO;have e3:([t1 f.fe,t1 f.cm,tx (Rl.dg (if f.eB=U then 1 else 0))].flatMap bs).length<=107:=by
  simp[GV,JL,IS,Gk,aX];omega
 have:=jC _ (Np e3 r:_<1099511627776);exact⟨e3,by unfold nk;omega⟩
def yX (a1:Bool->Prop)(S:Fd.Nt)(o:E fj)(W:ν)(c2:eh W S.v o)(j0:(o:D)<=1000000)(f3:a1 ψ->Fk S o)(f9:∀W,eh W S.v o->Y N 142 #[S.enc.toArray] W λb h=>(∃a,b=ι (υ a)/\a1 a)/\T W W h):
 Y N 71 #[S.enc.toArray] W λb h=>aam a1 S o b/\T W W h:=by
 let⟨x,b,a,v,i3⟩:=S;let⟨L,I,e1,f5⟩:=c2.bZ;simp only at e1;subst e1;let⟨R,g0,ae⟩:=aU W (K #[x,Z u b,Z u a,v,P L (o:D) I] 158);have c3:=ae.at_;have g3:=F g0;have d3:=F ae.aE;have f0:Φ (Y N 142 #[Γ #[x,Z u b,Z u a,v,P L (o:D) I]] R λb h=>(∃a,b=ι (υ a)/\a1 a)/\T R R h):=F (f9 R (c2.aE ae.aE));have h1:=F f3;have e8:Φ (∀q k,o[q]?=M k->∃r s,L=M ⟨r,s,J⟩/\q<I/\R.cell? ⟨r,s+q*3,J⟩=M (O k.fe)/\R.cell? ⟨r,s+q*3+1,J⟩=M (O k.cm)/\R.cell? ⟨r,s+q*3+2,J⟩=M (υ k.eB)):=F λq k n=>by
  let⟨r,s,b2,b3,b4,b5,b6⟩:=f5 q k n;exact⟨r,s,b2,b3,Below.ce ae.aE b4,Below.ce ae.aE b5,Below.ce ae.aE b6⟩
 show Y N 71 #[Γ #[x,Z u b,Z u a,v,P L (o:D) I]] W _;go_enter func71,ntmps71;go_wp2_with (first|(rw[g3.o])|(refine oc Fd.nj c3 ?_));apply f0.o.m;rintro b w ⟨⟨a,rfl,f4⟩,ag⟩;have af:=Below.ke ag c3;have e9:Φ (∀q k,o[q]?=M k->∃r s,L=M ⟨r,s,J⟩/\q<I/\w.cell? ⟨r,s+q*3,J⟩=M (O k.fe)/\w.cell? ⟨r,s+q*3+1,J⟩=M (O k.cm)/\w.cell? ⟨r,s+q*3+2,J⟩=M (υ k.eB)):=F λq k n=>by
  let⟨r,s,b2,b3,b4,b5,b6⟩:=e8.o q k n;exact⟨r,s,b2,b3,Below.ce ag b4,Below.ce ag b5,Below.ce ag b6⟩
 have a8:=F (d3.o.t (ag.m d3.o.z));have b0:=F f4;cases a with
 |false=>
  go_wp2;go_ret2;exact⟨Ξ ⟨b0.o,A⟩,a8.o⟩
 |true=>
  have X:=h1.o b0.o;have a9:=F X;have h5:(o:D)<=80:=X.n;have c5:=cJ 4 af;have f1:=F af;go_wp2_with (at_make;apply YA hO A _ _ A (o:D) A A H;intro h9 f6 c8;have c5:=Below.ce c8 c5);have e6:Φ (h9.ownsRow (w:D) 9 1 (P w 0 (o:D)) 0 []):=F f6;have e5:=F c8;go_loopw [4,6,17] (λh8 _ iv wr=>∃(y:D),y<=(o:D)/\iv=Z u y/\Φ (wr.ownsRow (w:D) 9 1 h8 y (((o.take y).map nk).map O)/\T w w wr)) (λ_ _ iv _=>(o:D)-(QI iv).toNat);case atStart=>exact⟨0,H,A,F ⟨e6.o,e5.o⟩⟩
  case round=>
   obtain⟨y,i8,rfl,G⟩:=hrel;by_cases h4:y<(o:D)
   .let⟨k,n⟩:∃k,o[y]?=M k:=⟨_,Gf h4⟩;obtain⟨r,s,rfl,i9,d8,d9,e0⟩:=e9.o y k n;have d8:=Below.ce G.2 d8;have d9:=Below.ce G.2 d9;have e0:=Below.ce G.2 e0;have a7:=a9.o.es k (Gl n);have h0:=F (eT n);let⟨g,d,m⟩:=k;have h6:¬Ψ u4=M (wr:D):=λh3=>oA (bG G.1 h3).2;have g1:=Gc wr (K #[eS,eS,υ σ] 56);have a2:∀c,Y N 43 #[g] c λb h=>b=ι (O (t1 g))/\T c c h:=λc=>cP g c (oU a7.1);have a0:∀c,Y N 43 #[d] c λb h=>b=ι (O (t1 d))/\T c c h:=λc=>cP d c (oU a7.2);have a3:=py m;have f8:=(xD a7).1;have p:=λc=>fx _ _ _ (nf c [t1 g,t1 d,tx (Rl.dg (if m=ψ then 1 else 0))]) sm (by simp only at f8;omega);generalize a6:nk ⟨g,d,m⟩=a5;have g8:=F a6;have p:∀c:ν,Y N 103 #[P (M ⟨(c:D),0,J⟩) 3 3] (c.alloc (K (([t1 g,t1 d,tx (Rl.dg (if m=ψ then 1 else 0))]:E B).map O).toArray 9)) λb h=>b=ι a5/\T (c.alloc (K (([t1 g,t1 d,tx (Rl.dg (if m=ψ then 1 else 0))]:E B).map O).toArray 9)).heap.size (c.alloc (K (([t1 g,t1 d,tx (Rl.dg (if m=ψ then 1 else 0))]:E B).map O).toArray 9)) h:=a6▸p;generalize t1 g=ao at a2 p;generalize t1 d=ap at a0 p;generalize tx (Rl.dg (if m=ψ then 1 else 0))=aq at a3 p;have p:Φ (∀c:ν,Y N 103 #[P (M ⟨(c:D),0,J⟩) 3 3] (c.alloc (K #[ao,ap,aq] 9)) λb h=>b=ι a5/\T (c.alloc (K #[ao,ap,aq] 9):D) (c.alloc (K #[ao,ap,aq] 9)) h):=F p;have a2:=F a2;have a0:=F a0;have a3:=F a3;go_upto_region 7 with(refine ia t56 g1 ?_;intro e c6);have f:e.drew.heap[(wr:D)]?=M (K #[g,d,m] 56):=c6.at_;have d1:T wr wr e:=c6.aE _ _ (Gb _) ((Ge _ wr).a (Gb _) (K #[eS,eS,υ σ] 56));have j:=F (G.2.t (d1.m G.2.z)).d;have l:Φ (e.drew.ownsRow (w:D) 9 1 u4 y (((o.take y).map nk).map O)):=F (aQ G.1 d1.d);have t:=er f;have V:=t;go_region_held3 (λh=>h.cell? ⟨(wr:D),0,J⟩=M (O g)/\h.cell? ⟨(wr:D),1,J⟩=M (O d)/\h.cell? ⟨(wr:D),2,J⟩=M (υ m)) (first|with_reducible exact t|with_reducible exact V) (first|(go_at_call 43;(with_reducible apply(a2.o _).m);rintro b ah ⟨rfl,z⟩;have f:=Below.ke z f;have t:=er f;have V:=t;have l:=F (aQ l.o z);have j:=F (j.o.t (z.m j.o.z)))|(go_at_call 43;(with_reducible apply(a0.o _).m);rintro b ah ⟨rfl,z⟩;have f:=Below.ke z f;have t:=er f;have V:=t;have l:=F (aQ l.o z);have j:=F (j.o.t (z.m j.o.z)))|(go_at_call 143;(with_reducible apply(a3.o _).m);rintro b ah ⟨rfl,z⟩;have f:=Below.ke z f;have t:=er f;have V:=t;have l:=F (aQ l.o z);have j:=F (j.o.t (z.m j.o.z));have V:=er (Below.ke ((Ge _ ah).a (Gb _) (K #[ao,ap,aq] 9)) f))|(go_at_call 103;(apply(p.o _).m);rintro b i0 ⟨rfl,f2⟩;have z:=((Ge _ ah).a (Gb _) (K #[ao,ap,aq] 9)).t (f2.m sm);have f:=Below.ke z f;have t:=er f;have V:=er (Below.ke ((Ge _ i0).a (Gb _) (K #[a5] 9)) f);have l:=F (aQ l.o z);have j:=F (j.o.t (z.m j.o.z));have e2:=j.o.z)|(apply gX hO A _ _ rf rf (by exact l.o) rf #[a5] rf QA H (by exact e2);intro j1 w8 f7 d2;have ab:=F (κ f7 (d2.cT l.o j.o e2));have t:=er (d2.aM f h6);have V:=t));go_wp2;go_roundw;case rel=>exact⟨y+1,H,gN,F ⟨by rw[h0.o,Io,Io,Lw,Lw,g8.o];exact ab.1,ab.2⟩⟩
    case measure=>simp[QI];omega
   obtain rfl:y=(o:D):=H;have ab:Φ (wr.ownsRow (w:D) 9 1 u4 (o:D) ((o.map nk).map O)/\T w w wr):=F ⟨by have:=G.1;rwa [Iy] at this,G.2⟩;have e7:Φ (bS wr u4 (o.map nk)):=F (da (base:=(w:D)) (by rw[Hp];exact ab.1));have d4:=F (a8.o.t (ab.2.m a8.o.z));have af:=Below.ke ab.2 f1.o;have i1:((o.map nk).flatMap bs:D)<=80*113:=by
    have:=sV 113 (o.map nk) λj2 h7=>by
     obtain⟨k,n,rfl⟩:=GL.1 h7;exact(xD (a9.o.es k n)).2
    rw[Hp] at this;have:=JY 113 h5;omega
   have X:=a9.o;have b7:∀c,Y N 135 #[Z u 2] c λb h=>b=ι (O (tx (Rl.dg 2)))/\T c c h:=jU 2 H H;have b9:=jU x X.s.1 (oU X.s.2);have c0:=jU b X.e.1 (oU X.e.2);have c7:=jU a X.b.1 (oU X.b.2);have T1:∀c,Y N 43 #[v] c λb h=>b=ι (O (t1 v))/\T c c h:=λc=>cP v c (oU X.r);have a4:=fun(c:ν) (a:T wr wr c)=>fx c u4 (o.map nk) (e7.o.hQ a) (by rw[Hp];omega) H;have i2:([tx (Rl.dg 2),tx (Rl.dg x.toNat),tx (Rl.dg b.toNat),tx (Rl.dg a.toNat),t1 v,tx (Rl.eK ((o.map nk).flatMap bs))].flatMap bs:D)<=20000:=by
    have i4:=dM 2 H;have i5:=dM x.toNat (oU X.s);have i6:=dM b.toNat (oU X.e);have e3:=dM a.toNat (oU X.b);have h2:=qp X.r H;simp only at h2;have i7:=jC ((o.map nk).flatMap bs) H;simp[GV,JL,IS,Gk,aX];omega
   have i:=λc=>fx _ _ _ (nf c [tx (Rl.dg 2),tx (Rl.dg x.toNat),tx (Rl.dg b.toNat),tx (Rl.dg a.toNat),t1 v,tx (Rl.eK ((o.map nk).flatMap bs))]) sm H;have d6:Φ (Tn ⟨x,b,a,v,P L (o:D) I⟩ o=tx (Rl.eK ([tx (Rl.dg 2),tx (Rl.dg x.toNat),tx (Rl.dg b.toNat),tx (Rl.dg a.toNat),t1 v,tx (Rl.eK ((o.map nk).flatMap bs))].flatMap bs))):=F A;generalize a6:tx (Rl.eK (List.flatMap bs [tx (Rl.dg 2),tx (Rl.dg x.toNat),tx (Rl.dg b.toNat),tx (Rl.dg a.toNat),t1 v,tx (Rl.eK ((o.map nk).flatMap bs))]))=e4 at i d6;generalize tx (Rl.dg 2)=x0 at b7 i;generalize tx (Rl.dg x.toNat)=ai at b9 i;generalize tx (Rl.dg b.toNat)=aj at c0 i;generalize tx (Rl.dg a.toNat)=ak at c7 i;generalize t1 v=al at T1 i;generalize tx (Rl.eK ((o.map nk).flatMap bs))=am at a4 i;have i:Φ (∀c:ν,Y N 103 #[P (M ⟨(c:D),0,J⟩) 6 6] (c.alloc (K #[x0,ai,aj,ak,al,am] 9)) λb h=>b=ι e4/\T (c.alloc (K #[x0,ai,aj,ak,al,am] 9):D) (c.alloc (K #[x0,ai,aj,ak,al,am] 9)) h):=F i;have g4:=F b7;have g5:=F b9;have g6:=F c0;have g7:=F c7;have g9:=F T1;have a4:=F a4;have j:=F (Ge (wr:D) wr).d;have f:wr.drew.heap[(W:D)]?=M (K #[x,Z u b,Z u a,v,P L (o:D) I] 158):=af;have V:=jV af;have t:=jV f;go_upto_region 9 with fail;go_region_held3 (λh=>h.cell? ⟨(W:D),0,J⟩=M (Z u x)/\h.cell? ⟨(W:D),1,J⟩=M (Z u b)/\h.cell? ⟨(W:D),2,J⟩=M (Z u a)/\h.cell? ⟨(W:D),3,J⟩=M (O v)/\h.cell? ⟨(W:D),4,J⟩=M (P L (o:D) I)) (first|with_reducible exact t|with_reducible exact V) (first|(go_at_call 135;(with_reducible apply(g4.o _).m);rintro b e ⟨rfl,U⟩;have f:=Below.ke U f;have t:=jV f;have V:=t;have j:=F (j.o.t (U.m j.o.z)))|(go_at_call 135;(with_reducible apply(g5.o _).m);rintro b e ⟨rfl,U⟩;have f:=Below.ke U f;have t:=jV f;have V:=t;have j:=F (j.o.t (U.m j.o.z)))|(go_at_call 135;(with_reducible apply(g6.o _).m);rintro b e ⟨rfl,U⟩;have f:=Below.ke U f;have t:=jV f;have V:=t;have j:=F (j.o.t (U.m j.o.z)))|(go_at_call 135;(with_reducible apply(g7.o _).m);rintro b e ⟨rfl,U⟩;have f:=Below.ke U f;have t:=jV f;have V:=t;have j:=F (j.o.t (U.m j.o.z)))|(go_at_call 43;(with_reducible apply(g9.o _).m);rintro b e ⟨rfl,U⟩;have f:=Below.ke U f;have t:=jV f;have V:=t;have j:=F (j.o.t (U.m j.o.z)))|(go_at_call 103;(with_reducible apply(a4.o _ j.o).m);rintro b e ⟨rfl,U⟩;have f:=Below.ke U f;have t:=jV f;have V:=t;have j:=F (j.o.t (U.m j.o.z));have V:=jV (Below.ke ((Ge _ e).a (Gb _) (K #[x0,ai,aj,ak,al,am] 9)) f))|(go_at_call 103;(apply(i.o _).m);rintro b ah ⟨rfl,z⟩;have j:=F (nX j z);have t:=jV (Below.ke z (Below.ke ((Ge _ e).a (Gb _) (K #[x0,ai,aj,ak,al,am] 9)) f));have V:=t));have g2:=F (d4.o.t (j.o.m d4.o.z));go_wp2;go_ret2;exact⟨Θ ⟨b0.o,d6.o▸rfl⟩,g2.o⟩
end Fm
section
variable {t e size base n:Nat}{v:π}{xs:List π}{W w:ν}
def DF {J:Q Le}{o:Le}{u:Act}{A:Act->ν->Prop}{X:Exit->Act->ν->Prop}{F:Prop}(z:hD t e size)(a0:o.guard=ζ)(M O:Kg)(P:o.op=.call {callee:=.builtin .append,args:=#[M,O],argTypes:=#[t,t]})
 (a:u.eval M=v) (V:W.ownsRow base e size v n xs) (Z:u.eval O=ο W 1 1) (j:Q π) (y:j.size=size) (T:∀p∈j.toList,p.oneCell'=U) (a2:n+1<=1000000) (a1:base<=(W:Nat))
 (S:∀d w',w'.ownsRow base e size d (n+1) (xs++j.toList)->aL (λl=>v.ownBlock=δ l) W w'->(d.ownBlock=v.ownBlock\/d.ownBlock=δ ((W:Nat)+1))->A (u.put o.dst d) w'):if Jb o (Xg J u.tmps)=U then Ld γ o u (W.alloc (K j e)).drew A X else F:=by
 have h:Jb o (Xg J u.tmps)=U:=by simp[Jb,a0]
 rw[QU h];let⟨i,s,b,N,H,Y,k⟩:=z.inf;let⟨d,w',G,r,g,_,x⟩:=run_append_own_at (P:=γ) (W.alloc (K j e)).drew base t o.type e i s size i.bytes z.ut b N H rfl k z.Rk v n xs (V.alloc _) W 1 1 j.toList (sU y) (λa3 p I=>by
  show(W.alloc (K j e)) _=_
  rw[Jg,GU,QH (Gc W _)];simpa using I) T (by unfold Ie;omega) (oA (No (om:n+1<=1000000) Y)) QB
 simp[Ld,Xb,P,resolve,invoke,builtin,a,Z,G,Ω];refine S d w' r ⟨g.os,g.tape,g.output,?_,λR c a=>?_⟩ (sU x)
 .have:=g.size;simp at this;omega
 exact(g.block R QB (λe=>a e.s)).t (QP c)
end
namespace Fd
variable {w w' w4 w5:ν}{B f m q:Nat}{room i:Int}{L L':List (IA×π)}{D:Nat->Qd}{n:Nt}{v:π}
structure yY (w:ν)(B f m:Nat)(room:C)(L:E (IA×S))(D:Nat->Qd)(q:Nat)(w':ν):Prop where
 dy:bz w' B f m room L
 qs:∃D',Qs w' B L D'/\∀r g,(D' r).v.ownBlock=M g->(D r).v.ownBlock=M g\/w.heap.size<=g
 only:aL (λg=>g=q\/(D q).v.ownBlock=M g) w w'
def bz.aan (g:bz w B f m room L)(c:Qs w B L D)(x:(il i,bh q)∈L)(z:ρ w w w4)(P:aL (λa=>(D q).v.ownBlock=M a) w4 w5)(p:w5.ownsRow B 158 5 v ((D q).ns.length+1) ((D q).ns.flatMap Nt.enc++n.enc))(l:lu w4 n)(a2:(D q).ns.length<=4)
 (y:v.ownBlock=(D q).v.ownBlock\/v.ownBlock=M ((w4:Nat)+1)):w5 (q,1)=M (D q).v/\w5.frozen? (q,1)=σ/\yY w B f m room L D q (w5.setCell (q,1) v):=by
 have u:=c.at x;have V:(D q).v.ownBlock≠M q:=λe=>by
  rcases u.cT.2 with⟨A,_⟩|⟨d,T,I,A,h,K,_⟩
  .rw[A] at e;cases e
  rw[A] at e;simp only[Ψ,Gd] at e;rw[e,u.bO] at K;cases K
 have U:=P.aM (z.ke u.bO) V;have O:=aF (j:=1) v U;have Z:aL (λa=>a=q\/(D q).v.ownBlock=M a) w (w5.setCell (q,1) v):=((aL.aE z _).aJ (P.cz λ_ _ e=>Θ e)).aJ ((hf O).cz λ_ _ e=>o e);have F:Fz 0 [158,178] [] w4 (w5.setCell (q,1) v):=by
  have J:=(P.cz (T:=λa=>a=q\/(D q).v.ownBlock=M a) λ_ _ e=>Θ e).aJ ((hf O).cz λ_ _ e=>o e);refine⟨J.os,J.cb,J.aW,J.aH,λr N=>?_⟩;by_cases e:r=q\/(D q).v.ownBlock=M r
  .rcases e with rfl|e
   .exact Θ (o ⟨_,_,_,z.ke u.bO,R,QK⟩)
   rcases u.cT.2 with⟨A,_⟩|⟨d,T,I,A,h,K,_⟩
   .rw[A] at e;cases e
   rw[A] at e;simp only[Ψ,Gd] at e;exact Θ (o (e▸⟨_,_,_,z.ke K,R,QK⟩))
  exact o (J.aG r N e)
 have G:∀w,cM w []:=λ_ _ k=>by cases k
 have X:∀a,v.ownBlock=M a->(D q).v.ownBlock=M a\/w<=a:=λa b=>by
  rcases y with e|e
  .exact o (e▸b)
  rw[e] at b;have:=z.z;exact Θ (oA (Gm b))
 let⟨s,_,S⟩:=g.turn (d:=⟨(D q).fo,v,(D q).ns++[n]⟩) c x Z
  ⟨O.at_,u.dK,aK (sU p) λa b=>O.old a (λe=>by
   subst e
   rcases y with e|e
   .exact V (e▸b)
   .rw[e] at b
    have:=aw u.bO
    have:=z.z
    have:=Gm b
    omega),QB,λa1 k=>by
   rcases GO.1 k with k|k
   .let⟨Y,c1,H⟩:=u.sD a1 k
    exact lu.fz (B:=0) ⟨Y,c1.aE z,H⟩ F (G _) R
   cases GA.1 k
   exact l.fz F (G _) R⟩ X
 exact⟨cR U rfl,aI U 1,s,⟨_,S,λa0 a b=>by
  by_cases e:a0=q
  .rw[QU e] at b
   rw[e]
   exact X a b
  rw[QT e] at b
  exact o b⟩,Z⟩
def aao:hD 176 158 5:=.of (z:=Γ zn.toArray) (bytes:=64) underlying176 Fo r A r
end Fd
namespace Fd
variable {w w' z y:ν}{B f m q:Nat}{room i:Int}{L L':List (IA×π)}{D:Nat->Qd}{n:Nt}{v:π}
abbrev zA:Q S:=#[G 0,G 0,G 0,I,P J 0 0]
def hK (T:Nat)(id:C)(n:Nt)(w:ν)(l:bz w B f m room L)(a6:Qs w B L D)(p:(il i,bh q)∈L)(d4:lu w n)(ai:(D q).ns.length<=4)(M:w.heap[T]?=K n.enc.toArray 158 (0,0)):
 τ γ 138 #[bh q,G id,P T 1 1] w λc w'=>c=χ #[]/\yY w B f m room L D q w':=by
 let⟨Y,c,d,h,f2⟩:=n;let⟨a,a3,d2⟩:=d4;obtain⟨t,c9,rfl,a0,a1⟩:=ln a3.1;have M:w.heap[T]?=K #[G Y,G c,G d,O h,P t (a:Nat) c9] 158 (0,0):=M;have J:=a6.at p;have b2:=QC (∀g,bd (w.alloc (K zA 158)) g (w:Nat) (K #[G Y,G c,G d,O h,P t (a:Nat) c9] 158 (0,0))->
  g w=Y/\g.frozen? w=σ/\∃k,g.setCell w (G id)=k/\
  k ((w:Nat),4)=P t (a:Nat) c9/\τ γ 117 #[P t (a:Nat) c9] k λH r=>∃j c3,H=P j (a:Nat) c3/\
   r ((w:Nat),4)=P t (a:Nat) c9/\r.frozen? ((w:Nat),4)=σ/\∃z,r.setCell ((w:Nat),4) (P j (a:Nat) c3)=z/\
    z.heap[(w:Nat)]?=K #[G id,G c,G d,O h,P j (a:Nat) c3] 158 (0,0)/\ρ w w z/\lu z ⟨id,c,d,h,P j (a:Nat) c3⟩/\z (q,1)=δ (D q).v/\z.ownsRow B 158 5 (D q).v (D q).ns.length ((D q).ns.flatMap Nt.enc)) λg e=>by
  have b1:ρ w w g:=e.aE _ _ QD (QG.a QD _);have U:=aF (j:=0) (G id) e.at_;have X:=U.aE _ _ QD b1;refine⟨cR e.at_ A,aI e.at_ 0,_,A,cR U.at_ A,(vi t (a:Nat) c9 (a.flatMap cv) _ (Fg a) om a0 (λe5 d8 e2 a9 d3=>X.ce (a1 e5 d8 e2 a9 d3)) (λa9 d9=>by
   let⟨c,_,l⟩:=Jw.1 d9
   simp[cv] at l;rcases l with rfl|rfl|rfl<;>rfl)).m ?_⟩
  rintro H r ⟨⟨f7,rfl,x⟩,ah⟩;obtain⟨j,c3,rfl⟩:=aR x;have R:=ah.ke U.at_;have S:=aF (j:=4) (P j (a:Nat) c3) R;have b6:ρ w w r:=X.t (ah.m X.z);have o:=S.aE _ _ QD b6;refine⟨j,c3,A,cR R A,aI R 4,_,A,S.at_,o,⟨a,.cT (aK x λs I=>S.old s λc=>?_),d2⟩,o.ce J.c1,aK J.cT λs I=>o.b s (bG J.cT I).2⟩;have:=(bG x I).1;have:=aw e.at_;have:=U.aH;omega
 have b4:=F (fun(z y:ν) (n:Nt) (v:π)=>l.aan (w4:=z) (w5:=y) (n:=n) (v:=v) a6 p);have b3:=F ai;have aj:B<=(w:Nat):=oB l.dK.1 (aw l.bO);have b0:=F aj;have a8:=Gc w (K zA 158);generalize Z:(D q).ns.length=e4 at ai;clear l p a3 a0 a1 J aj;go_enter func138,ntmps138;go_wp2;go_loopw [10] (λiv wr=>(iv=G 0/\wr=w)\/(iv=G 1/\Φ (yY w B f m room L D q wr))) (λiv _=>1-(QI iv).toNat)
 .exact Ξ ⟨A,A⟩
 rcases hrel with⟨rfl,rfl⟩|⟨rfl,V⟩
 .go_wp2_with (first|(apply oc nj M)|(apply ia nj a8;intro g e;let⟨b7,b9,k,c0,c7,af⟩:=b2.o g e;have ae:=F af;clear e af));go_call ae.o as H r ⟨j,c3,rfl,d5,d6,z,d7,u,o,a2,W,E⟩;have e6:=F E;have ab:=F (κ o a2);rw[Z] at E;generalize a7:(D q).v=v at W E;clear ae b7 b9 c0 c7 a8 M;have d1:B<=(z:Nat):=oB b0.o o.z;clear o a2;go_upto_region 5 with fail;clear d7 d5 d6;have x0:z ((wr:Nat),0)=id:=cR u A;have f3:z ((wr:Nat),1)=G c:=cR u A;have f4:z ((wr:Nat),2)=d:=cR u A;have f5:z ((wr:Nat),3)=h:=cR u A;have f6:z ((wr:Nat),4)=P j (a:Nat) c3:=cR u A;have f0:=aw u;have f1:q<(z:Nat):=bH W;have b5:=QC (∀b y,y.ownsRow B 158 5 b (e4+1) ((D q).ns.flatMap Nt.enc++(#[G id,G c,G d,O h,P j (a:Nat) c3]).toList)->aL (λs=>v.ownBlock=δ s) z y->(b.ownBlock=v.ownBlock\/b.ownBlock=δ ((z:Nat)+1))->
   y (q,1)=v/\y.frozen? (q,1)=σ/\yY wr B f m room L D q (y.setCell (q,1) b)) λb y c8 e0 e1=>by
   subst a7 Z;exact b4.o z y ⟨id,c,d,h,P j (a:Nat) c3⟩ b ab.1 e0 c8 ab.2 b3.o e1
  clear a7 Z;go_region_law (apply DF aao A (.tmp 24) (.tmp 26) A A E A #[G id,G c,G d,O h,P j (a:Nat) c3] A QA om d1;intro b y N a4 a5;obtain⟨e7,c5,rfl⟩:=aR N;let⟨e8,e9,ag⟩:=b5.o _ y N a4 a5;have V:=F ag;clear ag N a4 a5)
  all_goals
   go_wp2;go_roundw
   .exact Θ ⟨A,V⟩
   simp[QI]
 go_wp2;go_end0;exact⟨A,V.o⟩
end Fd
section
attribute [local go_sem] Jo
namespace Fd
variable {w w':ν}{B f m q:Nat}{room:Int}{L:List (IA×π)}
structure Ag (W0:ν)(f m:D)(L:E (IA×S))(c n l:D)(J:D->D->ν->Prop):Prop where
 dy:∀b i W,J b i W->W (f,1)=KD (M m)/\bj N W 3 m L
 rz:∀b i W,J b i W->W c=bh f
 Bs:∀W,T W0 W0 W->J W.heap.size 0 W
 tell:∀b i W id q,J b i W->i<1000->W0.heap.size<=b->-9223372036854775808<=id/\id<=9223372036854775807->(il id,bh q)∈L->YieldAt Fence.wide (n-1) N l #[G id,bh q] W λe W'=>e=z U/\J b (i+1) W'/\∀k,W0.heap.size<=k->k<b->W'.heap[k]?=W.heap[k]?
def vw:hD 40 3 1:=.of (z:=G 0) (bytes:=8) underlying40 e r A r
abbrev iv:C->S:=Z u
open Go.Sort in
theorem To {w:ν}{u o t:D}(j:E C)(G:(j:D)<=1000)(V:w.ownsRow u 3 1 (P o (j:D) t) (j:D) (j.map iv)):Y N 196 #[P o (j:D) t] w λb w'=>b=χ #[]/\
 (∃z:E C,(∀g∈z,g∈j)/\(z:D)=(j:D)/\w'.ownsRow u 3 1 (P o (j:D) t) (j:D) (z.map iv))/\aL (· =o) w w':=by
 let⟨e,v,a,p,r,d,h⟩:∃e,u<=o/\w.heap[o]?=K e 3/\(j:D)<=t/\t<=Ie/\e.size=t*1/\e.toList.take (j:D)=j.map iv:=by
  rcases V.2 with⟨b,_⟩|⟨Z,i,e,b,W,X,J,M,O,U⟩
  .cases b
  simp only[Gy,Gd,GS] at b;obtain⟨⟨rfl,-⟩,-,rfl⟩:=b;exact⟨e,W,X,J,M,O,sU U⟩
 go_call Tryz.slices_Sort_int o 0 t j w (holds_of_blockI a h) (aw a) H as b w' ⟨rfl,n,F,rfl⟩;exact⟨A,⟨j.mergeSort λc g=>LH (c<=g),λg x=>List.mem_mergeSort.1 x,NX _,ownsRow_sortedI (NX _) v a p r d⟩,(aL.bQ (· =o) w).mz (grownBy_sortedI _) (λI b _=>(Gm b).s)⟩
def Bt {L:E (IA×S)}{j:IA}{t:S}(J:(j,t)∈L)(z:WideAt.IsKeyLit j):(be j L:D)<(L:D):=by
 rcases KG (be j L:D) (L:D) with o|o
 .exact o
 have u:be j L=L:=Pq.2 (λd g=>(PK.1 (Nat.le_antisymm (bB j L) o)) d g);exact absurd A ((oD (L:=L) (kl:=j) (p:=(j,t)) z).1 (by rwa[u])).2
structure Gth (W0:ν)(L T:E (IA×S))(sv:S)(X:E C)(wr:ν):Prop where
 cT:∃g c,sv=P (M ⟨g,0,J⟩) X.length c/\wr.ownsRow W0.heap.size 3 1 sv X.length (X.map iv)
 gi:ρ W0 W0 wr
 sD:∀x∈X,∃v,(il x,v)∈L/\-9223372036854775808<=x/\x<=9223372036854775807
 cB:X.length+T.length<=L.length
def Bu (j:ν)(f m:D)(L:E (IA×π))(c7 S f1:D)(W:D->D->ν->Prop)(K:Ag j f m L c7 S f1 W)(h5:1<=S)(i8:(L:D)<=1000)(h6:∀i3∈L,∃id q,i3=(il id,bh q)):
 CallsIn Fence.wide S γ 195 #[Hl (.yield f1) #[] #[],ξ c7] j λa g5=>(∃T,a=ι T)/\∃u e,W u e g5:=by
 have af:=K.Bs j QG;let⟨c1,l⟩:=K.dy _ _ _ af;have U:=K.rz _ _ _ af;have h3:m<(j:D):=l.lt;refine callsIn_of_wp func195 A tV ?_ A;simp only[ntmps195,GZ,Gx,Hy,Nat.reduceAdd,Nat.reduceSub,Im,Il,IF,Iq,Ho,Hz];apply wpIn_wide.2;go_wp2_with (first|(at_len;apply Cg A _ 150 A 3 175 Lj _ _ A l)|(at_make;apply YA vw A _ _ A (L:D) A A H;intro O M t;have c1:=t.ce c1;have U:=t.ce U;have l:=l.aM (t.b _ h3))|(at_range;apply zx A _ 150 A 3 175 eX Lj m L A l;intro f0 g7 a7 a1 j5));have b9:=QC (ρ j j f0) (t.t ((aL.mz (aL.bQ (λ_=>QZ) O) a1 nF).jn.m t.z));have b5:=F (aK M λg y=>a1.block g (bG M y).2 sm);have f5:(j:D)<=(O:D):=t.z;generalize f4:(O:D)=P at a7 f5 ⊢;have b3:=QC (Gth j L L (ο j 0 (L:D)) [] f0) ⟨⟨_,_,A,b5.o⟩,b9.o,sm,sm⟩;clear f4 a1 M t c1 U l af b5 b9;go_frame;go_loopw [3,4] (λi2 _ wr=>∃(k:E C) (x:E (IA×π)) (fS:D),cF γ wr 3 m P L x fS/\Φ (Gth j L x i2 k wr)) (λ_ _ wr=>wr.rangeLeft m P)
 .exact⟨[],L,g7,a7,b3⟩
 let⟨k,x,fS,d,b⟩:=hrel;clear a7 b3;go_wp2_with (at_next;refine Em A _ A 3 eX m P L x fS A d ?_ ?_)
 .intro g9;obtain⟨g,ab,rfl,J⟩:=b.o.cT;have b6:=F (To k (oA b.o.cB) J);have b2:=F (bG J A).1;clear J;go_wp2_with fail;go_call b6.o as a z ⟨rfl,⟨s,c8,ag,a3⟩,e9⟩;have ah:=b.o.gi.t (e9.cE b.o.gi.z λe a=>by subst a;exact b2.o);have b4:=QC (W (z:D) 0 z/\∀c∈s,∃q,(il c,bh q)∈L/\-9223372036854775808<=c/\c<=9223372036854775807) ⟨K.Bs z ah,λc v=>by
   let⟨T,c6,g8⟩:=b.o.sD c (c8 c v)
   let⟨id,q,a⟩:=h6 _ c6
   simp only[Hf] at a
   exact⟨q,a.2▸c6,g8⟩⟩
  have i1:(j:D)<=(z:D):=ah.z;have f7:=QC (∀(i:D) c,s[i]?=δ c->z ⟨g,i,ζ⟩=ϑ c/\i<ab) λi c r=>by
   rcases a3.2 with⟨a,_⟩|⟨n,R,N,a,_,y,i9,_,_,i0⟩
   .cases a
   simp only[Gy,Gd,GS] at a;obtain⟨⟨rfl,-⟩,-,rfl⟩:=a;have j3:=(Gg.1 r).1;refine⟨?_,H⟩;rw[QH y,<-IQ];have:(N.toList.take ((k:D)*1))[i]?=(s.map iv)[i]?:=by rw[i0]
   rw[JI H] at this;rw[this];simp[r]
  have h0:g<(z:D):=(bG a3 A).2;have h1:=b2.o;have d3:(k:D)=(s:D):=ag.s;have c2:=F b.o.cB;rw[d3] at c2 ⊢;clear b6 b c8 ag a3 e9 ah d g9 d3;go_upto_region 6 with fail;go_wp2;apply(wpIn_wide (n:=S)).1;gi_loopw [6,30] (λ_ a8 wr=>∃e:D,e<=(s:D)/\a8=ϑ e/\Φ (W (z:D) e wr/\wr.heap[g]?=z.heap[g]?)) (λ_ a8 _=>(s:D)-(QI a8).toNat)
  .exact⟨0,H,A,F ⟨b4.1,A⟩⟩
  obtain⟨e,j1,rfl,b⟩:=hrel;have ag:(s:D)<=1000:=oA c2.o;by_cases h2:e<(s:D)
  .let⟨c,v⟩:∃c,s[e]?=δ c:=⟨_,Gf h2⟩;let⟨p,j2⟩:=f7.o e c v;have p:wr ⟨g,e,ζ⟩=ϑ c:=(GQ (w:=z) b.2).t p;let⟨q,a4,a5,a6⟩:=b4.2 c (Gl v);let⟨c1,l⟩:=K.dy _ _ _ b.1;have U:=K.rz _ _ _ b.1;have r:=kG ⟨a5,a6⟩;have e1:(aT L (il c)).getD (ξ ζ)=bh q:=mx (iz c) (l.fc eX) a4▸rfl;have h8:(Instr.lookup 150 (KD (δ m)) (ϑ c) σ).run γ wr=Je (bh q) wr:=by
    have:=l.jE eX Lj (eL wr) r;rwa[e1] at this
   have b7:=F (K.tell _ _ _ _ _ b.1 H i1 ⟨a5,a6⟩ a4);clear v a4 a5 a6 e1 r;gi_wp2;let⟨i7,j7,i5,i6,v,d1⟩:=b7.o;rw[v];refine⟨λ_=>h5,d1.mono ?_⟩;clear v d1 b7 l c1 U p h8;rintro a Y ⟨rfl,c0,d8⟩;have f6:=F (κ c0 ((d8 g h1 h0).t b.2));clear c0 d8;gi_wp2;go_roundw
   .exact⟨e+1,H,gN,f6⟩
   simp[QI];omega
  obtain rfl:e=(s:D):=H;have Z:=b.1;gi_wp2;go_end0;exact⟨⟨_,A⟩,_,_,Z⟩
 intro j6 kl T O g6 e0 a2 V e2 a0 h9 j0;obtain⟨u,rfl,rfl,e6⟩:=Maps.keyOf_int_inv Hu e0;obtain⟨g,ab,rfl,J⟩:=b.o.cT;have d6:g≠P:=λa=>by
  rcases J.2 with⟨o,_⟩|⟨n,R,N,o,_,y,_⟩
  .cases o
  simp only[Gy,Gd,GS] at o;obtain⟨⟨rfl,-⟩,-,rfl⟩:=o;exact d.bx _ _ _ (a▸y)
 have M:=aK J λi r=>a0.block i (bG J r).2 (λa=>d6 (by simp[Ψ] at r;have:=Gm a;omega));have t:ρ j j O:=b.o.gi.t (((aL.bQ (· =P) wr).mz a0 (λi a _=>(Gm a).s)).cE b.o.gi.z λe a=>by rwa[a]);have d2:=b.o.cB;have X:=F (κ M t);have ae:=F V;have d4:=t.z;have e7: -9223372036854775808<=u/\u<=9223372036854775807:=by
  have c3:=e6;simp only[Lit.wf,Jc,XE] at c3;exact c3
 have g0:=F (Bt a2 (iz u));have g1:=F (d.Ce.subset a2);have g2:=F e7;have j4:(k:D)<=1000:=H;have f9:=F e2;have g4:=F d2;have g3:=b.o.sD;have h7:=V.lt;have h4:=V.cS.lt;have f8:=F (κ d.lA V.lA);clear e0 a2 e2 a0 h9 e6 e7 J M t d V d6 d2 b;go_wp2_with (at_builtin;apply ym vw A _ _ A A X.1 A #[ϑ u] A QA H d4;intro f2 Y f3 G);have Z:=QC (∃h,cF γ Y 3 m P L h g6/\Gth j L h f2 (k++[u]) Y) (by
  have d9:∃b0,O.heap[g]?=θ b0 3:=by
   rcases X.1.2 with⟨o,_⟩|⟨n,R,N,o,_,y,_⟩
   .cases o
   simp only[Gy,Gd,GS] at o
   obtain⟨⟨rfl,-⟩,-,rfl⟩:=o
   exact⟨_,y⟩
  have e4:∀i,(ο (δ ⟨g,0,ζ⟩) (k:D) ab).ownBlock=δ i->i=g:=λi a=>by simp[Ψ] at a;exact a.s
  refine⟨_,ae.o.aM (G.aG _ h4 λa=>?_) (G.aG _ h7 λa=>?_),⟨?_,G.cT X.1 X.2 d4,λi4 I=>?_,?_⟩⟩
  .let⟨b0,p⟩:=d9
   rw[<-e4 _ a] at p
   exact ae.o.cS.bx _ _ _ p
  .let⟨b0,p⟩:=d9
   rw[<-e4 _ a] at p
   exact ae.o.bx _ _ _ p
  .have e5:Y.ownsRow (j:D) 3 1 f2 (k++[u]:D) ((k++[u]).map iv):=by rwa[Gk,Io]
   rcases e5.2 with⟨_,o⟩|⟨n,R,N,o,_⟩
   .simp at o
   exact⟨n,R,o,e5⟩
  .rcases GO.1 I with I|I
   .exact g3 i4 I
   cases GA.1 I
   exact⟨T,g1.o,g2.o⟩
  have:=g0.o;have:=g4.o;rw[Gk];simp;omega)
 clear f3 G;go_roundw
 .let⟨h,a9,e8⟩:=Z.o;exact⟨_,h,_,a9,F e8⟩
 let⟨h,a9,e8⟩:=Z.o;rw[a9.lA,f8.1];exact f9.o
end Fd
end
section
attribute [local go_sem] Jo
namespace Fd
variable {w w':ν}{B f m q:Nat}{room:Int}{L:List (IA×π)}
def Tt {B t:D}(J:t<(w:D))(z:Obj):Fz B [] [t] w (w.putObj t z):=⟨A,A,A,IH▸d,λc _=>by
 by_cases u:c=t
 .exact j (j (by simp[u]))
 exact o (Gu u)⟩
def bz.lQ (t:bz w B f m room L){o:D}(j:∀i V U,w.heap[o]?≠M (K i V U))(P:∀u z,w.heap[o]?≠M (Lz u z))(O:o<w.heap.size)(A:Obj):bz (w.putObj o A) B f m room L:=
 t.fz (Tt (B:=B) O A) (eH j) (by
  simp only[GA]
  rintro rfl
  obtain⟨u,z,J⟩:=t.cS.gb
  exact P _ _ J) R R R R
def bz.xR (t:bz w B f m room L):∀j∈L,∃id q,j=(il id,bh q):=by
 obtain⟨J,u,_⟩:=t.qs;intro j z;obtain⟨A,q,o,_⟩:=u j z;exact⟨A,q,o⟩
def si (f:D)(w:ν):Y N 137 #[bh f] w λa w'=>a=Hl (Ic 195) #[] #[V w]/\w.alloc (K #[bh f] 77)=w':=by
 have rS:=rS;go_enter func137,ntmps137;go_wp2;go_ret;exact⟨A,A⟩
structure SJ (w:ν)(B f m:D)(room:C)(L:E (IA×S))(l:D)(Lp:Xh->QV Code->Loop)(W:ν):Prop where
 dy:bz W B f m room L
 fS:∃k:C,W.heap[w.heap.size]?=K #[k] 3 (0,0)
 jA:W.heap[w.heap.size+1]?=K #[bh f] 77 (0,0)
 rA:W.heap[l]?=IK (Lp NG J)
 Oe:W.heap[l-1]?=Kc (M [])
 gi:T w w W
def SJ.aE {u:D}{Lp:Xh->QV Code->Loop}{t c:ν}(j:SJ w B f m room L u Lp t)(o:T t t c):SJ w B f m room L u Lp c:=by
 obtain⟨A,z⟩:=j.fS;exact⟨j.dy.aE o,⟨A,o.ke z⟩,o.ke j.jA,o.ke j.rA,o.ke j.Oe,j.gi.t (o.m j.gi.z)⟩
def SJ.turn {o:D}{Lp:Xh->QV Code->Loop}{W j:ν}{b:C}{O:Xh}(d:bz j B f m room L)(z:j.heap[(w:D)]?=K #[G b] 3 (0,0))(u:j.heap[(w:D)+1]?=K #[bh f] 77 (0,0))(t:j.heap[o]?=IK (Lp O J))(hd:j.heap[o-1]?=Kc (M []))(A:T w w j)(P:(w:D)+3<=o):
 SJ w B f m room L o Lp (j.putObj o (IK (Lp NG J))):=by
 have q:∀b,b≠o->(j.putObj o (IK (Lp NG J))).heap[b]?=j.heap[b]?:=λb a=>Gu a;exact⟨d.lQ (λ_ _ _ e=>by rw[t] at e;cases e) (λ_ _ e=>by rw[t] at e;cases e) (aw t) _,⟨b,(q _ H).t z⟩,(q _ H).t u,Ht (aw t),(q _ H).t hd,bP A H _⟩
def bz.adx {t:ν}{id:C}(o:bz w B f m room L)(y:(w.alloc (K #[z X,P J 0 0] 178)).mapTurned t m)(n:bj N t 3 m ((il id,bh w)::be (il id) L)):bz t B f m room ((il id,bh w)::be (il id) L)/\Fz B [] [m] w t:=by
 have U:=bo w (K #[z X,P J 0 0] 178);have Z:Fz B [] [m] (w.alloc (K #[z X,P J 0 0] 178)) t:=gC y;have O:Fz B [] [m] w t:=(Fz.aE U.aE B [] [m]).aJ Z;have V:cM w [m]:=eH o.cS.bx;have F:B<=w:=by have:=o.dK.1;have:=aw o.bO;omega
 obtain⟨x,W,v⟩:=o.qs;have G:∀c q,(il c,bh q)∈L->q<w:=λc q h=>by
  obtain⟨a,i,j,hd⟩:=W _ h;simp only[Hf] at j;obtain rfl:=nZ j.2;exact aw hd.bO
 refine⟨⟨O.aM o.bO R (λn=>V _ n _ _ _ o.bO),n,o.cg,o.dK,DE x w ⟨X,P J 0 0,[]⟩,λd h=>?_,λc a q i k l p b e g=>?_⟩,O⟩
 .rcases GF.1 h with rfl|h
  .refine⟨id,_,A,?_⟩;unfold DE;rw[QU A];exact⟨Z.aM U.at_ R (by simp;intro j;have:=o.cS.lt;omega),F,QN,by simp,by simp⟩
  obtain⟨c,q,rfl,hd⟩:=W d (GX.1 h).1;refine⟨c,q,A,?_⟩;unfold DE;rw[QT (by have:=aw hd.bO;omega)];exact hd.fz O V R R R
 unfold DE at e g;by_cases u:q=w
 .rw[QU u] at e;cases e
 by_cases M:i=w
 .rw[QU M] at g;cases g
 rw[QT u] at e;rw[QT M] at g;have s1:(il c,bh q)∈L:=by
  rcases GF.1 k with j|j
  .simp only[Hf] at j;exact absurd (nZ j.2) u
  exact(GX.1 j).1
 have r:(il a,bh i)∈L:=by
  rcases GF.1 l with j|j
  .simp only[Hf] at j;exact absurd (nZ j.2) M
  exact(GX.1 j).1
 exact v c a q i s1 r p b e g
def Tu (w:ν)(B f m:D)(room:C)(L:E (IA×S))(id:C)(t:He)(w':ν):Prop:=(∃u,t=z u)/\∃j,(∀o∈j,o∈L\/o.1=il id)/\j.length<=L.length+1/\bz w' B f m room j/\Fz B [158,178] [m] w w'
def wq (id:C)(w:ν)(h:bz w B f m room L)(f1: -9223372036854775808<=id/\id<=9223372036854775807)(g1:(L:D)<=1000):τ γ 247 #[bh f,G id] w (Tu w B f m room L id):=by
 let⟨e8,f6,d⟩:=aU w (θ #[G 0] 3);let⟨I,f7,n⟩:∃I,e8.setCell w (G 0)=I/\gJ w I (θ #[G 0] 3):=⟨_,A,by
  have ai:=aF (j:=0) (G 0) d.at_
  exact⟨ai.aH.t d.aH,ai.at_,λb e=>(ai.old b H).t (d.old b e),ai.aE _ _ QD d.aE⟩⟩
 have a1:e8 w=G 0:=cR d.at_ A;have f8:=aI d.at_ 0;let⟨k,S,ag⟩:=aU I (θ #[bh f] 77);have a5:ρ w w k:=n.aE.t (ag.aE.m (oA n.aH));have x0:k.heap[(w:D)]?=θ #[G 0] 3 (0,0):=ag.aE.ke n.at_;have e9:k.heap[(w:D)+1]?=θ #[bh f] 77 (0,0):=by have:=ag.at_;rwa [n.aH] at this
 have s1:=n.aH;have e7:(k:D)=(w:D)+2:=by rw[ag.aH,n.aH]
 have f4:=QC (τ γ 137 #[bh f] I λa w'=>a=Hl (Ic 195) #[] #[ξ (δ ⟨(w:D)+1,0,J⟩)]/\k=w') (by
  have:=si f I
  rwa[S,s1] at this)
 have M:=F (κ (h.aE a5) (κ x0 (κ e9 (κ a5 e7))));have f5:=F h.xR;have f3:=F (κ (aw h.bO) h.dK);clear d n ag a5 x0 e9 S s1 e7;have g3:∀c7 (w:ν),(Xa 195 c7).run γ w=Je (.enter 195 c7) w:=enters_of func195 Qz A;refine(XC (n:=9)).1 (XD func247 A tV ?_ A);simp only[ntmps247,GZ,Gx,Hy,Nat.reduceAdd,Nat.reduceSub,Im,Il,IF,Iq,Ho,Hz];refine wpIn_wide.2 ?_;go_wp2_with (with_reducible go_call f4.o as a b7 ⟨rfl,rfl⟩);clear f6 f7 a1 f8;refine wpIn_wide.1 (gl (n:=9) A dc (gf:=195) (lb:=#[ξ (δ ⟨(w:D)+1,0,J⟩)]) A trivial g3 ?_);intro t Lp ah O g7 V a9 f2 b3;have ab:(w:D)+3<=t:=oA M.2.2.2.2;have h7:t<(ah:D):=aw a9;have a4:SJ w B f m room L t Lp ah:=⟨M.1.aE V,⟨0,V.ke M.2.1⟩,V.ke M.2.2.1,a9,by rwa[(H:t-1=(k:D))],M.2.2.2.1.t (V.m M.2.2.2.1.z)⟩;have e1:(k:D)=t-1:=H;clear a9 f2 V g7 O;have h1:=F ab;refine(Bu ah f m L ((w:D)+1) 8 t (λ_ _ g=>SJ w B f m room L t Lp g) ⟨λ_ _ g h=>⟨h.dy.c1,h.dy.cS⟩,λ_ _ g h=>cR h.jA A,λg c=>a4.aE c,?tell⟩ dc g1 f5.o).m ?_;case tell=>
  intro c g8 g h8 q j h5 h4 h6 u;refine b3.oj _ _ _ _ A j.rA λv Y=>?_;have q1:∀b,b≠t->v.heap[b]?=g.heap[b]?:=λb e=>Y▸Gu e;have P:v.heap[t]?=IK (Lp .busy J):=Y▸Ht (aw j.rA);have b4:=(q1 (t-1) H).t j.Oe;let⟨b,e⟩:=j.fS;have U:=(q1 _ H).t e;have b5:=(q1 _ H).t j.jA;have a2:bz v B f m room L:=by rw[Y];exact j.dy.lQ (λ_ _ _ a=>by rw[j.rA] at a;cases a) (λ_ _ a=>by rw[j.rA] at a;cases a) (aw j.rA) _
  have b6:ρ w w v:=Y▸bP j.gi H _;let⟨a3,s⟩:=a2.qs;have a1:=(s.at u).c0;have c3:v w=G b:=cR U A;have h2:=aI U 0;have z:=aF (j:=0) (G (Xd (b+1))) U;have d1:=F (κ P (κ (SJ.turn (W:=g) a2 U b5 P b4 b6 ab) (λb (a6:(ah:D)<=b) (a7:b<c)=>(Gu (w:=v) (r:=t) (o:=IK (Lp NG J)) (H:b≠t)).t (q1 b H))));have d2:=F (κ ((z.old t H).t P) (κ (SJ.turn (W:=g) (a2.fz (Fz.cV (B:=B) (T:=[3]) z U R (oA f3.o) []) (λ_ g5=>by cases g5) R R R R R) z.at_ ((z.old _ H).t b5) ((z.old t H).t P) ((z.old _ H).t b4) (z.aE _ _ QD b6) ab) (λb (a6:(ah:D)<=b) (a7:b<c)=>(Gu (r:=t) (o:=IK (Lp NG J)) (H:b≠t)).t ((z.old b (oA (aw P))).t (q1 b H)))));generalize (a3 q).fo=d6 at a1;clear P b4 U b5 a2 b6 s e z q1 Y j a4 b3;cases d6<;>gi_wp2<;>refine⟨tV,?_⟩<;>gi_wp2
  .exact⟨d1.1,A,d1.2⟩
  exact⟨d2.1,A,d2.2⟩
 rintro a b7 ⟨K,c,g8,j⟩;refine⟨K,J,j.rA,?_⟩;clear K;let⟨i,af⟩:∃i,b7.putObj t (IK (Lp .exhausted J))=i:=⟨_,A⟩;rw[af];have q4:∀b,b≠t->i.heap[b]?=b7.heap[b]?:=λb e=>af▸Gu e;have a8:bz i B f m room L:=by rw[<-af];exact j.dy.lQ (λ_ _ _ a=>by rw[j.rA] at a;cases a) (λ_ _ a=>by rw[j.rA] at a;cases a) (aw j.rA) _
 let⟨b,e⟩:=j.fS;have a1:i w=G b:=cR ((q4 _ H).t e) A;have e0:i.heap[(k:D)]?=Kc (δ []):=e1▸(q4 (t-1) H).t j.Oe;have d3:ρ w w i:=af▸bP j.gi H _;have l:=F e0;have p:=F (κ a8 d3);have c8:=F (ni id i a8 f1);have d9:∀(y:E (IA×π)) (g:ν) (c:Bool),g.heap[(k:D)]?=Kc (δ [])->(∀b9∈y,b9∈L\/b9.1=il id)->(y:D)<=(L:D)+1->bz g B f m room y->Fz B [158,178] [m] w g->Tu w B f m room L id (ι (υ c)) (g.putObj (k:D) (Kc J)):=λy g c hd a6 a7 g0 d8=>
  ⟨⟨c,A⟩,y,a6,a7,g0.lQ (λ_ _ _ a=>by rw[hd] at a;cases a) (λ_ _ a=>by rw[hd] at a;cases a) (aw hd) _,d8.iY (bP (Ge _ g|>.m (oA d8.aH)) H _)⟩
 have Z:=F d9;clear d9 af j q4 a8 e0 d3 e a4 b3 e1;simp only[mq];go_wp2_with fail;go_call c8.o as a w5 ⟨⟨f0,rfl,d4⟩,f9⟩;subst f9;clear c8;have X:=QC (Fz B [158,178] [m] w i) (Fz.aE p.2 _ _ _);cases f0 with
 |true=>
  go_wp2;refine⟨R,Ξ ⟨_,_,A,Xq l.o,?_⟩⟩;refine⟨_,Xy A _ _ _,?_⟩;exact Z.o L i _ l.o (λ_ h=>Ξ h) H p.1 X.o
 |false=>
  by_cases h3:4<=b
  .go_wp2;refine⟨R,Ξ ⟨_,_,A,Xq l.o,?_⟩⟩;refine⟨_,Xy A _ _ _,?_⟩;exact Z.o L i _ l.o (λ_ h=>Ξ h) H p.1 X.o
  have T:=p.1.cS;have c1:=p.1.c1;have e:=kG f1;cases K:aT L (il id) with
  |none=>
   have O:(aT L (il id)).getD (ξ J)=ξ J:=K▸rfl;have g4:(L:D)<Ie:=by unfold Ie;omega
   clear K d4;go_wp2_with (first|(at_lookup;refine wL eX Lj (eL _) T e ?_;rw[O])|(at_mapUpdate;refine wS eX Lj (T.aM (QP T.lt)) g4 e ?_;intro h9 e2 e5;have r:=F (p.1.adx e5 e2);have c1:=r.1.c1;have g2:=r.1.cS;have ab:(aT ((il id,bh (i:D))::be (il id) L) (il id)).getD (ξ J)=bh (i:D):=by{rw[bY (iz id)];rfl};let⟨h0,b2⟩:=r.1.qs;have ae:=b2.at (Hk ..);have e6:=ae.c0;have g6:=aI ae.bO 0;have x:=F (r.1.DC b2 (Hk ..) (aF (j:=0) (υ ψ) ae.bO));have e4:=(aF (j:=0) (υ ψ) ae.bO).old (k:D) (oA (aw l.o));have N:=F (e4.t ((r.2.dC (aw l.o) (by simp;intro a;have:=p.1.cS.gb;let⟨g9,ai,S⟩:=this;rw[<-a,l.o] at S;cases S) (λ_ _ _ a=>by rw[l.o] at a;cases a)).t l.o));clear e2 e5 T O b2 ae e4)|(at_lookup;refine wL eX Lj (eL _) g2 e ?_;rw[ab]));refine⟨R,Ξ ⟨_,_,A,Xq N.o,?_⟩⟩;refine⟨_,Xy A _ _ _,?_⟩;refine Z.o _ _ _ N.o (λb9 b0=>?_) ?_ x.1 (X.o.aJ ((r.2.cz R R).aJ (x.2.1.cz R R)))
   .rcases GF.1 b0 with rfl|b0
    .exact Θ A
    exact Ξ (GX.1 b0).1
   have:=bB (il id) L;simp;omega
  |some i0=>
   obtain⟨q,rfl,u⟩:=p.1.inn K;have O:(aT L (il id)).getD (ξ J)=bh q:=K▸rfl;let⟨a3,s⟩:=p.1.qs;have e6:=(s.at u).c0;have g6:=aI (s.at u).bO 0;have x:=F (p.1.DC s u (aF (j:=0) (υ ψ) (s.at u).bO));have N:=F (((aF (j:=0) (υ ψ) (s.at u).bO).old (k:D) (λa=>by have:=(s.at u).bO;rw[<-a,l.o] at this;cases this)).t l.o);generalize (a3 q).fo=d6 at e6;clear K d4 s u;go_wp2_with (at_lookup;refine wL eX Lj (eL _) T e ?_;rw[O]);refine⟨R,Ξ ⟨_,_,A,Xq N.o,?_⟩⟩;refine⟨_,Xy A _ _ _,?_⟩;exact Z.o L _ _ N.o (λ_ h=>Ξ h) H x.1 (X.o.aJ (x.2.1.cz R R))
end Fd
end
namespace Fd
variable {w W W':ν}{B f m q b k i:Nat}{room:Int}{L:List (IA×π)}{D:Nat->Qd}{n:Nt}
def Qs.jJ {J:C}{u:Nat}(z:Qs W B L D)(O:(il J,bh q)∈L)(j:(D q).v.ownBlock=u):B<=u/\∃o,W.heap[u]?=K o 158:=by
 rcases(z.at O).cT.2 with⟨t,_⟩|⟨U,P,o,t,A,M,_⟩
 .rw[t] at j;cases j
 rw[t] at j;simp only[Ψ,Gd] at j;subst j;exact⟨A,o,M⟩
structure PC (w:ν)(B f m:Nat)(room:C)(L:E (IA×S))(n:Nt)(b k:Nat)(W:ν):Prop where
 dy:bz W B f m room L
 qs:∃D,Qs W B L D/\∀j q,(il j,bh q)∈L->∀g,(D q).v.ownBlock=M g->g<w.heap.size\/b<=g
 jA:W.heap[w.heap.size]?=K #[bh f] 77/\W.heap[w.heap.size+1+1+1]?=K #[bh f] 77
 nt:W.heap[w.heap.size+1]?=K n.enc.toArray 158
 lag:∃v j xs,W.heap[w.heap.size+1+1]?=K #[v] 40/\W.ownsRow b 3 1 v j xs/\j<=k
 fz:Fz B [158,178] [] w W
 nok:lu W n
 bs:w.heap.size+5<=b/\b<=W.heap.size/\B<=w.heap.size
def fQ {o k:Nat}{O P:Q S}{t u:Λ}{M z:Nat×Nat}(A:W.heap[o]?=K O t M)(j:W.heap[k]?=K P u z)(J:t≠u):o≠k:=by
 rintro rfl;rw[A] at j;simp only[Gd,Hq] at j;exact J j.2.1
def cH {z:S}{A j P M:Nat}{U:E S}{u:Nat}(J:W.ownsRow A j P z M U)(o:z.ownBlock=u):∃t,W.heap[u]?=K t j:=by
 rcases J.2 with⟨j,_⟩|⟨X,V,t,j,Z,O,_⟩
 .rw[j] at o;cases o
 rw[j] at o;simp only[Ψ,Gd] at o;subst o;exact⟨t,O⟩
def PC.aE (j:PC w B f m room L n b k W)(bl:T W W W'):PC w B f m room L n b k W':=by
 obtain⟨D,o,t⟩:=j.qs;obtain⟨J,z,s,u,c,A⟩:=j.lag;exact⟨j.dy.aE bl,⟨D,o.aE bl,t⟩,⟨bl.ke j.jA.1,bl.ke j.jA.2⟩,bl.ke j.nt,⟨J,z,s,bl.ke u,aK c λg a=>bl.b g (bG c a).2,A⟩,j.fz.then bl,j.nok.fz (Fz.aE bl 0 [] []) (λ_ p=>by cases p) R,j.bs.1,GB j.bs.2.1 bl.z,j.bs.2.2⟩
def PC.turn {P:Nat->Qd}{T:C}(u:PC w B f m room L n b k W)(y:bz W' B f m room L)(O:Qs W B L D)(A:(il T,bh q)∈L)(X:∀p q,(il p,bh q)∈L->∀a,(D q).v.ownBlock=M a->a<(w:Nat)\/b<=a)(S:Qs W' B L P)(N:∀G a,(P G).v.ownBlock=M a->(D G).v.ownBlock=M a\/(W:Nat)<=a)
 (z:aL (λa=>a=q\/(D q).v.ownBlock=M a) W W'):PC w B f m room L n b k W':=by
 let⟨Y,p,a0,I,l,v⟩:=u.lag;have Z:=(O.at A).bO;have aM:∀{e:Nat} {U:Q π} {J:Λ},W.heap[e]?=θ U J->J≠178->(J≠158\/(w<=e/\e<b))->W'.heap[e]?=θ U J:=fun{e U J} d x K=>z.aM d (by
  rintro(t|t)
  .exact fQ d Z x t
  let⟨_,h,c⟩:=O.jJ A t
  rcases K with K|K
  .exact fQ d c K rfl
  have:=X _ _ A _ t;omega)
 have V:=u.bs;have s:Fz B [158,178] [] W W':=⟨z.os,z.cb,z.aW,z.aH,λe d=>by
  by_cases t:e=q\/(D q).v.ownBlock=M e
  .rcases t with rfl|t
   .exact j (o ⟨_,_,_,Z,R,(O.at A).dK⟩)
   let⟨x,h,c⟩:=O.jJ A t
   exact j (o ⟨_,_,_,c,R,x⟩)
  exact o (z.aG e d t)⟩
 refine⟨y,⟨P,S,λp q F a g=>?_⟩,⟨aM u.jA.1 r (o r),aM u.jA.2 r (o r)⟩,aM u.nt r (j ⟨H,H⟩),⟨Y,p,a0,aM I r (o r),aK l λa g=>?_,v⟩,u.fz.aJ s,u.nok.fz s (λ_ d=>by cases d) R,V.1,GB V.2.1 z.aH,V.2.2⟩
 .rcases N q a g with t|t
  .exact X _ _ F _ t
  exact j H
 let⟨h,c⟩:=cH l g;rw[aM c r (o r),c]
def PC.fk (j:PC w B f m room L n b k W)(K:k<=i):PC w B f m room L n b i W:=by
 obtain⟨z,u,A,o,t,J⟩:=j.lag;exact⟨j.dy,j.qs,j.jA,j.nt,⟨z,u,A,o,t,by omega⟩,j.fz,j.nok,j.bs⟩
def Qs.obj {U:C}{J:Nat}{t:Obj}(A:Qs W B L D)(z:(il U,bh q)∈L)(V:aL (λg=>g=q\/(D q).v.ownBlock=M g) W W')(j:W.heap[J]?=t)(u:∀O Z P,t≠K O Z P):W'.heap[J]?=t:=V.aM j (by
 rintro(o|o)
 .subst o;rw[(A.at z).bO] at j;exact u _ _ _ (Gm j).s
 obtain⟨-,y,X⟩:=A.jJ z o
 rw[X] at j;exact u _ _ _ (Gm j).s)
def PC.Tv {u:ν}{P M:S}{U:Nat}{a2 r:E S}(j:PC w B f m room L n b k W)(p:W.heap[(w:Nat)+1+1]?=K #[P] 40)(X:W.ownsRow b 3 1 P U a2)(a3:U<=k)(z:aL (λF=>P.ownBlock=δ F) W u)(I:u.ownsRow b 3 1 M (U+1) r):
 u ⟨(w:Nat)+1+1,0,J⟩=P/\u.frozen? ⟨(w:Nat)+1+1,0,J⟩=σ/\PC w B f m room L n b (k+1) (u.setCell ⟨(w:Nat)+1+1,0,J⟩ M):=by
 have aM:∀{a:Nat} {g:Q S} {V:Λ},W.heap[a]?=K g V->V≠3->u.heap[a]?=K g V:=fun{a g V} h c=>z.aM h (λe=>by
  let⟨s,d⟩:=cH X e
  exact fQ h d c A)
 have Z:=aM p dc;have O:=aF (j:=0) M Z;have l:=j.bs;have t:Fz B [3,40] [] W (u.setCell ⟨w+1+1,0,J⟩ M):=by
  refine⟨z.os,z.cb,z.aW,O.aH▸z.aH,λa h=>?_⟩;by_cases e:a=w+1+1
  .subst e;exact Θ (o ⟨_,_,_,p,R,H⟩)
  by_cases G:P.ownBlock=δ a
  .let⟨s,d⟩:=cH X G;exact Θ (o ⟨_,_,_,d,R,oA (bG X G).1⟩)
  exact o ((O.old a e).t (z.aG a h G))
 have y:cM W []:=λ_ h=>by cases h
 let⟨D,c,N⟩:=j.qs;refine⟨cR Z A,aI Z 0,j.dy.fz t y R R R R R,⟨D,⟨λa1 T=>?_,c.2⟩,N⟩,⟨t.aM j.jA.1 R R,t.aM j.jA.2 R R⟩,t.aM j.nt R R,⟨M,U+1,r,O.at_,aK I λF x=>O.old F λe=>?_,H⟩,?_,j.nok.fz t y R,l.1,GB l.2.1 t.aH,l.2.2⟩
 .let⟨Y,a0,e,hd⟩:=c.1 a1 T;exact⟨Y,a0,e,hd.fz t y R R R⟩
 .have:=(bG I x).1;omega
 refine⟨t.os.t j.fz.os,t.cb.t j.fz.cb,t.aW.t j.fz.aW,GB j.fz.aH t.aH,λa h=>?_⟩;have a4:=j.fz.aH;have v:(u.setCell ⟨w+1+1,0,J⟩ M).heap[a]?=W.heap[a]?:=(O.old a H).t (z.aG a H (λe=>oA (bG X e).1));rw[v];exact j.fz.aG a h
def PC.lQ {t:Nat}(o:PC w B f m room L n b k W)(O:∀u J p,W.heap[t]?≠M (K u J p))(H:∀N n,W.heap[t]?≠M (Lz N n))(y:t<W.heap.size)(e:w.heap.size<=t)(A:Obj):PC w B f m room L n b k (W.putObj t A):=by
 have P:=Tt (B:=B) y A;have U:=eH O;obtain⟨D,Z,F⟩:=o.qs;obtain⟨v,j,s,c,a,d⟩:=o.lag;have z:∀{x:Nat} {u:Q S} {J:Λ},W.heap[x]?=K u J->(W.putObj t A).heap[x]?=K u J:=fun{x u J} X=>(Gu (λl=>by subst l;exact O _ _ _ X)).t X;refine⟨o.dy.lQ O H y A,⟨D,⟨λr I=>?_,Z.2⟩,F⟩,⟨z o.jA.1,z o.jA.2⟩,z o.nt,⟨v,j,s,z c,aK a λY G=>?_,d⟩,o.fz.iY (bP ((Ge _ W).m o.fz.aH) e A),o.nok.fz P U R,o.bs.1,by rw[IH];exact o.bs.2.1,o.bs.2.2⟩
 .obtain⟨g,h,l,hd⟩:=Z.1 r I;exact⟨g,h,l,hd.fz P U R R R⟩
 obtain⟨T,V⟩:=cH a G;rw[z V,V]
end Fd
section
attribute [local go_sem] Jo
namespace Fd
variable {w W W':ν}{B f m q b k i:Nat}{room:Int}{L:List (IA×π)}{D:Nat->Qd}{n:Nt}
def PJ (w:ν)(B f m:Nat)(room:C)(L:E (IA×S))(n:Nt)(j:Nat)(Lp:Xh->QV Code->Loop)(o:Xh)(b k:Nat)(W:ν):Prop:=PC w B f m room L n b k W/\W.heap[j]?=IK (Lp o J)/\W.heap[j-1]?=Kc (M [])
def PJ.lQ {o:Nat}{Lp:Xh->QV Code->Loop}{t st':Xh}(j:PJ w B f m room L n o Lp t b k W)(u:w.heap.size+1<=o):PJ w B f m room L n o Lp st' b k (W.putObj o (IK (Lp st' J))):=
 ⟨j.1.lQ (λ_ _ _ c=>by rw[j.2.1] at c;cases c) (λ_ _ c=>by rw[j.2.1] at c;cases c) (aw j.2.1) H _,Ht (aw j.2.1),(Gu H).t j.2.2⟩
def PJ.turn {A:Nat}{Lp:Xh->QV Code->Loop}{z:Xh}{u:Nat->Qd}{X:C}(j:PJ w B f m room L n A Lp z b k W)(P:bz W' B f m room L)(d:Qs W B L D)(o:(il X,bh q)∈L)(K:∀O q,(il O,bh q)∈L->∀a,(D q).v.ownBlock=M a->a<(w:Nat)\/b<=a)(V:Qs W' B L u)(U:∀J a,(u J).v.ownBlock=M a->(D J).v.ownBlock=M a\/(W:Nat)<=a)
 (t:aL (λa=>a=q\/(D q).v.ownBlock=M a) W W'):PJ w B f m room L n A Lp z b k W':=
 ⟨j.1.turn P d o K V U t,d.obj o t j.2.1 R,d.obj o t j.2.2 R⟩
def PJ.aE {o:Nat}{Lp:Xh->QV Code->Loop}{c:Xh}(j:PJ w B f m room L n o Lp c b k W)(bl:T W W W'):PJ w B f m room L n o Lp c b k W':=⟨j.1.aE bl,bl.ke j.2.1,bl.ke j.2.2⟩
def Fq (w:ν)(B f m:Nat)(room:C)(L:E (IA×S))(o:He)(j:ν):Prop:=(∃t,o=ι t)/\bz j B f m room L/\Fz B [158,178] [] w j
def Tw (n:Nt)(w:ν)(r:bz w B f m room L)(h0:lu w n)(l1:L.length<=1000):τ γ 67 #[bh f,n.enc.toArray] w λa h9=>Fq w B f m room L a h9:=by
 let⟨p,a,g,h,o0⟩:=n;let⟨d,l3,n2⟩:=id h0;obtain⟨o,nc,rfl,-⟩:=ln l3.1;let⟨s,g2⟩:∃s,(((w.alloc (K #[bh f] 77)).alloc (K #[p,G a,g,β h,P o d.length nc] 158)).alloc (K #[P J 0 0] 40)).alloc (K #[bh f] 77)=s:=⟨_,A⟩;have X:=y ((s.heap[w.heap.size]?=K #[bh f] 77/\s.heap[w.heap.size+1]?=K #[p,G a,g,β h,P o d.length nc] 158/\s.heap[w.heap.size+1+1]?=K #[P J 0 0] 40/\s.heap[w.heap.size+1+1+1]?=K #[bh f] 77)/\s.heap.size=w.heap.size+4/\ρ w w s) (by
  have f9:=bo w (K #[bh f] 77)
  have e5:=bo (w.alloc (K #[bh f] 77)) (K #[p,G a,g,β h,P o d.length nc] 158)
  have b7:=bo ((w.alloc (K #[bh f] 77)).alloc (K #[p,G a,g,β h,P o d.length nc] 158)) (K #[P J 0 0] 40)
  have al:=bo (((w.alloc (K #[bh f] 77)).alloc (K #[p,G a,g,β h,P o d.length nc] 158)).alloc (K #[P J 0 0] 40)) (K #[bh f] 77)
  have h8:=f9.aH
  have j7:=e5.aH
  have m0:=b7.aH
  have m1:=al.aH
  have v:=e5.at_
  have j5:=b7.at_
  have h6:=al.at_
  rw[h8] at v
  rw[j7,h8] at j5
  rw[m0,j7,h8] at h6
  rw[g2] at al h6 m1
  exact⟨⟨Below.ke al.aE (Below.ke b7.aE (Below.ke e5.aE f9.at_)),Below.ke al.aE (Below.ke b7.aE v),Below.ke al.aE j5,h6⟩,by omega,f9.aE.t ((e5.aE.m H).t ((b7.aE.m H).t (al.aE.m H)))⟩)
 have k4:=y (∀a9,a9.alloc (K #[bh f] 77)=s->a9.heap.size=w.heap.size+1+1+1->τ γ 137 #[bh f] a9 λa h9=>a=Hl (Ic 195) #[] #[ξ (δ ⟨w.heap.size+1+1+1,0,J⟩)]/\s=h9) λa9 l e9=>by
  have:=si f a9;rw[l,e9] at this;exact this
 have k5:=F r.xR;have e2:=F (κ r h0);have j9:=F (κ (aw r.bO) r.dK);have k2:=F g2;clear r h0 g2;have l2:∀i1 (w:ν),(Xa 195 i1).run γ w=Je (.enter 195 i1) w:=enters_of func195 e A;show τ γ 67 #[bh f,Γ #[p,G a,g,β h,P o d.length nc]] w _;apply(XC (n:=9)).1;refine XD func67 A trivial ?_ A;simp only[ntmps67,GZ,Gx,Hy,Nat.reduceAdd,Nat.reduceSub,Im,Il,IF,Iq,Ho,Hz];apply wpIn_wide.2;go_wp2_with fail;apply(k4.o _ k2.o sm).m;rintro a a9 ⟨rfl,rfl⟩;go_wp2;refine wpIn_wide.1 (gl (n:=9) A dc (gf:=195) (lb:=#[ξ (δ ⟨w.heap.size+1+1+1,0,J⟩)]) A trivial l2 ?_);intro O Lp u l5 l8 i7 i9 i8 h5;have n5:w.heap.size+5<=O:=by have:=X.2.1;omega
 have n6:O<=w.heap.size+5:=by have:=X.2.1;omega
 have o1:w.heap.size+6<=u.heap.size:=by have:=X.2.1;omega
 have m9:B<=w.heap.size:=by have:=j9.o;omega
 have l7:∀i q,(il i,bh q)∈L->q<w.heap.size:=λi q d3=>by
  let⟨i4,l,_⟩:=e2.1.qs;let⟨x,h,a,hd⟩:=l _ d3;simp only[Hf] at a;cases nZ a.2;exact aw hd.bO
 have g9:s.heap.size=O-1:=by have:=X.2.1;omega
 have f8:∀W,ρ u u W->PJ w B f m room L ⟨p,a,g,h,P o d.length nc⟩ O Lp NG W.heap.size 0 W:=λW e7=>by
  have b1:ρ s s W:=i7.t (e7.m H);have e6:ρ w w W:=X.2.2.t (b1.m (by have:=X.2.1;omega));let⟨i4,l,e9⟩:=e2.1.qs;refine⟨⟨e2.1.aE e6,⟨i4,Qs.aE ⟨l,e9⟩ e6,λx q d3 ai S=>Ξ (bG (Qs.at ⟨l,e9⟩ d3).cT S).2⟩,⟨Below.ke b1 X.1.1,Below.ke b1 X.1.2.2.2⟩,Below.ke b1 X.1.2.1,⟨_,0,[],Below.ke b1 X.1.2.2.1,QN,QD⟩,Fz.aE e6 _ _ _,e2.2.fz (Fz.aE e6 0 [] []) (λ_ a3=>by cases a3) sm,by have:=e7.z;omega⟩,Below.ke e7 i9,?_⟩;rw[<-g9];exact Below.ke e7 i8
 clear i9 i8 i7 l8 l5;have i6:=F g9;clear g9;apply(Bu u f m L (w.heap.size+1+1+1) 8 O (λb i W=>PJ w B f m room L ⟨p,a,g,h,P o d.length nc⟩ O Lp NG b i W) ⟨λ_ _ W r=>⟨r.1.dy.c1,r.1.dy.cS⟩,λ_ _ W r=>cR r.1.jA.2 A,f8,?tell⟩ dc l1 k5.o).m;case tell=>
  intro b i W f2 q V n3 n0 n4 j;refine h5.oj _ _ _ _ A V.2.1 λc g4=>?_;have l:PJ w B f m room L ⟨p,a,g,h,P o d.length nc⟩ O Lp .busy b i c:=g4▸V.lQ H;have j6:∀k,k≠O->c.heap[k]?=W.heap[k]?:=λk l4=>g4▸Gu l4;let⟨D,h3,j0⟩:=l.1.qs;have c3:=h3.at j;let⟨m5,m6,g7⟩:=aR c3.cT;have n8:=l7 _ _ j;have e1:=c3.c0;have c1:=c3.c1;have g1:=cJ 0 l.1.jA.1;have h7:=l.1.dy.c0;have n9:=l.1.dy.cg;have d6:c.heap[w.heap.size+1]?=K #[p,G a,g,β h,P o d.length nc] 158:=l.1.nt;have l6:=c3.cB;have n1:=l.1.bs;rw[g7] at c1;have e4:=y (∀Y:ν,(∀k,u.heap.size<=k->k<b->Y.heap[k]?=c.heap[k]?)->∀k,u.heap.size<=k->k<b->(Y.putObj O (IK (Lp NG J))).heap[k]?=W.heap[k]?) λY r k I v=>(Gu H).t ((r k I v).t (j6 k H));have a6:=F l;have T:=F (κ h3 (κ j0 g7));generalize j2:(D q).fo=l0 at e1;generalize j3:(D q).ns.length=f3 at c1 l6;have i5:=F (κ j2 j3);clear j2 j3 l V j6 g4 h3 j0 c3 g7 f8 h5;cases l0 with
  |false=>
   gi_wp2;refine⟨trivial,?_⟩;gi_wp2;exact⟨a6.2.1,A,⟨(a6.o.lQ H).1.fk H,(a6.o.lQ (st':=NG) H).2⟩,e4.o _ λ_ _ _=>rfl⟩
  |true=>
   by_cases n7:(f3:C)<room
   .gi_wp2;refine⟨trivial,?_⟩;gi_wp2_with fail;apply pq e e e;repeat(gi_big_quiet_step (fail))
    apply wpQuietIn_nil;rintro _ ⟨nq,rfl⟩;gi_wp2_with (refine EM nj A _ A A A d6 ?_);let⟨ab,a1⟩:∃ab,(c.drewN nq).alloc (K #[p,G a,g,β h,P o d.length nc] 158)=ab:=⟨_,A⟩;rw[a1];have ag:gJ c ab (K #[p,G a,g,β h,P o d.length nc] 158):=by
     rw[<-a1];have:=bo (c.drewN nq) (K #[p,G a,g,β h,P o d.length nc] 158);exact⟨this.aH,this.at_,this.old,⟨this.aE.os,this.aE.tape,this.aE.output,this.aE.z,this.aE.b⟩⟩
    have d8:=a6.o.aE ag.aE;have b6:=F (T.1.aE ag.aE);have M:=F (κ d8 ag);clear a1 d8 ag e1 c1 g1 h7 d6;refine⟨trivial,?_⟩;apply(JK _ (callsIn_wide.2 (hK c.heap.size f2 ⟨p,a,g,h,P o d.length nc⟩ ab M.1.1.dy b6.o j M.1.1.nok (oA i5.2) M.2.at_))).m;rintro k9 Y ⟨rfl,f0,⟨i0,d4,d2⟩,a8⟩;have Z:=F (M.1.turn f0 b6.o j T.2.1 d4 d2 a8);have b2:=y (∀k,u.heap.size<=k->k<b->Y.heap[k]?=c.heap[k]?) λk I v=>(a8.aG k (by have:=M.2.aH;omega) (by
     rintro(a|a)
     .omega
     have:=T.2.1 _ _ j _ a;omega)).t (M.2.old k H)
    gi_wp2;exact⟨Z.2.1,A,⟨(Z.o.lQ H).1.fk H,(Z.o.lQ (st':=NG) H).2⟩,e4.o _ b2.o⟩
   gi_wp2;try(refine⟨trivial,?_⟩;gi_wp2_with fail)
   apply pq e e e;repeat(gi_big_quiet_step (fail))
   apply wpQuietIn_nil;rintro _ ⟨nq,rfl⟩;by_cases j1:(f3:C)=room
   .have m4:((f3:C)==room)=ψ:=by simpa using j1
    gi_wp2_with fail;apply pq e e e;repeat(gi_big_quiet_step (fail))
    apply wpQuietIn_nil;rintro _ ⟨d9,rfl⟩;have k6:=cJ 2 d6;gi_wp2_with fail;let⟨ab,a1⟩:∃ab,(c.drewN (nq+d9)).alloc (K #[G 0,G 11,g,eS,P J 0 0] 158)=ab:=⟨_,A⟩;rw[a1];have ag:gJ c ab (K #[G 0,G 11,g,eS,P J 0 0] 158):=by
     rw[<-a1];have:=bo (c.drewN (nq+d9)) (K #[G 0,G 11,g,eS,P J 0 0] 158);exact⟨this.aH,this.at_,this.old,⟨this.aE.os,this.aE.tape,this.aE.output,this.aE.z,this.aE.b⟩⟩
    have d8:=a6.o.aE ag.aE;have b6:=F (T.1.aE ag.aE);have M:=F (κ d8 ag);clear a1 d8 ag e1 c1 g1 h7 d6 k6;refine⟨trivial,?_⟩;apply(JK _ (callsIn_wide.2 (hK c.heap.size f2 ⟨0,11,g,⟨#[]⟩,P J 0 0⟩ ab M.1.1.dy b6.o j ⟨[],⟨Ξ ⟨J,0,A,A⟩,.none _ _ _ _⟩,by simp⟩ (oA i5.2) M.2.at_))).m;rintro k9 Y ⟨rfl,f0,⟨i0,d4,d2⟩,a8⟩;have Z:=F (M.1.turn f0 b6.o j T.2.1 d4 d2 a8);have b2:=y (∀k,u.heap.size<=k->k<b->Y.heap[k]?=c.heap[k]?) λk I v=>(a8.aG k (by have:=M.2.aH;omega) (by
     rintro(a|a)
     .omega
     have:=T.2.1 _ _ j _ a;omega)).t (M.2.old k H)
    have k0:=y (∀x q,(il x,bh q)∈L->∀ai,(i0 q).v.ownBlock=δ ai->ai<w.heap.size\/b<=ai) λx q d3 ai S=>by
     rcases d2 q ai S with l|l
     .exact T.2.1 x q d3 ai l
     exact Θ (by have:=M.2.aH;omega)
    have U:=F d4;clear f0 d4 d2 a8;have ah:=aF (j:=0) (υ σ) (U.o.at j).bO;let⟨b9,g3,c2⟩:=Z.1.dy.DC U.o j ah;have z:=F (Z.o.turn b9 U.o j k0.o c2 (λh ai S=>Ξ (by
     split at S
     .rename_i h4;rw[h4];exact S
     exact S)) ((hf ah).cz λ_ _ r=>Ξ r))
    have b3:=y (∀k,u.heap.size<=k->k<b->(Y.setCell ⟨q,0,J⟩ (υ σ)).heap[k]?=c.heap[k]?) λk I v=>(ah.old k H).t (b2.o k I v);let⟨ak,g6⟩:∃ak,Y.setCell ⟨q,0,J⟩ (υ σ)=ak:=⟨_,A⟩;rw[g6] at z b3;have d0:=(U.o.at j).c0;have k8:=aI (U.o.at j).bO 0;let⟨f5,x,j8,N,R,f4⟩:=z.1.lag;let⟨i2,i3,d1⟩:=aR R;rw[d1] at N R;have l9:=cJ 0 N;have t:=F (κ N (κ R f4));have g8:=z.1.bs.2.1;clear ah b9 g3 c2 d1 N R;gi_wp2_with (gi_at_builtin;apply CR vw A _ _ A A t.2.1 A #[f2] A (by simp[φ]) H g8;intro m2 a4 ae a2;obtain⟨a0,c9,rfl⟩:=aR ae;let⟨t1,t2,e0⟩:=z.1.Tv t.1 t.2.1 t.2.2 a2 ae;have f7:=F e0;have b5:=F (κ a2 ae);clear e0 a2 ae);have b4:=y (∀aj af,ak.heap[aj]?=δ af->(∀d g0,af≠K d 3 g0)->aj≠w.heap.size+1+1->(a4.setCell ⟨w.heap.size+1+1,0,J⟩ (P a0 (x+1) c9)).heap[aj]?=δ af) λaj af a3 h2 h1=>(QJ h1).t (b5.1.aM a3 λa=>by
     let⟨k7,c8⟩:=cH t.2.1 a
     rw[a3] at c8;exact h2 _ _ (Gm c8))
    have f6:=y (∀k,u.heap.size<=k->k<b->(a4.setCell ⟨w.heap.size+1+1,0,J⟩ (P a0 (x+1) c9)).heap[k]?=c.heap[k]?) λk I v=>(QJ uo).t ((b5.1.aG k H (λa=>by have:=(bG t.2.1 a).1;omega)).t (b3.o k I v));have b0:=y (PJ w B f m room L ⟨p,a,g,h,P o d.length nc⟩ O Lp .busy b (i+1) (a4.setCell ⟨w.heap.size+1+1,0,J⟩ (P a0 (x+1) c9))) ⟨f7.o,b4.o _ _ z.2.1 sm H,b4.o _ _ z.2.2 sm H⟩;exact⟨b0.2.1,A,b0.o.lQ H,e4.o _ f6.o⟩
   have m4:((f3:C)==room)=σ:=by simpa using j1
   gi_wp2_with fail;apply pq e e e;repeat(gi_big_quiet_step (fail))
   apply wpQuietIn_nil;rintro _ ⟨d9,rfl⟩;let⟨a7,g5⟩:∃a7,(c.drewN nq).drewN d9=a7:=⟨_,A⟩;rw[g5];have e8:ρ c c a7:=g5▸Below.sI (Below.sI QG nq) d9;have Z:=F (a6.o.aE e8);have U:=F (T.1.aE e8);have b2:=y (∀k,u.heap.size<=k->k<b->a7.heap[k]?=c.heap[k]?) λk I v=>e8.b k H;clear g5 e8 e1 c1 g1 h7 d6;have ah:=aF (j:=0) (υ σ) (U.o.at j).bO;let⟨b9,g3,c2⟩:=Z.1.dy.DC U.o j ah;have z:=F (Z.o.turn b9 U.o j T.2.1 c2 (λh ai S=>Ξ (by
    split at S
    .rename_i h4;rw[h4];exact S
    exact S)) ((hf ah).cz λ_ _ r=>Ξ r))
   have b3:=y (∀k,u.heap.size<=k->k<b->(a7.setCell ⟨q,0,J⟩ (υ σ)).heap[k]?=c.heap[k]?) λk I v=>(ah.old k H).t (b2.o k I v);let⟨ak,g6⟩:∃ak,a7.setCell ⟨q,0,J⟩ (υ σ)=ak:=⟨_,A⟩;rw[g6] at z b3;have d0:=(U.o.at j).c0;have k8:=aI (U.o.at j).bO 0;let⟨f5,x,j8,N,R,f4⟩:=z.1.lag;let⟨i2,i3,d1⟩:=aR R;rw[d1] at N R;have l9:=cJ 0 N;have t:=F (κ N (κ R f4));have g8:=z.1.bs.2.1;clear ah b9 g3 c2 d1 N R;gi_wp2_with (gi_at_builtin;apply CR vw A _ _ A A t.2.1 A #[f2] A (by simp[φ]) H g8;intro m2 a4 ae a2;obtain⟨a0,c9,rfl⟩:=aR ae;let⟨t1,t2,e0⟩:=z.1.Tv t.1 t.2.1 t.2.2 a2 ae;have f7:=F e0;have b5:=F (κ a2 ae);clear e0 a2 ae);have b4:=y (∀aj af,ak.heap[aj]?=δ af->(∀d g0,af≠K d 3 g0)->aj≠w.heap.size+1+1->(a4.setCell ⟨w.heap.size+1+1,0,J⟩ (P a0 (x+1) c9)).heap[aj]?=δ af) λaj af a3 h2 h1=>(QJ h1).t (b5.1.aM a3 λa=>by
    let⟨k7,c8⟩:=cH t.2.1 a
    rw[a3] at c8;exact h2 _ _ (Gm c8))
   have f6:=y (∀k,u.heap.size<=k->k<b->(a4.setCell ⟨w.heap.size+1+1,0,J⟩ (P a0 (x+1) c9)).heap[k]?=c.heap[k]?) λk I v=>(QJ uo).t ((b5.1.aG k H (λa=>by have:=(bG t.2.1 a).1;omega)).t (b3.o k I v));have b0:=y (PJ w B f m room L ⟨p,a,g,h,P o d.length nc⟩ O Lp .busy b (i+1) (a4.setCell ⟨w.heap.size+1+1,0,J⟩ (P a0 (x+1) c9))) ⟨f7.o,b4.o _ _ z.2.1 sm H,b4.o _ _ z.2.2 sm H⟩;exact⟨b0.2.1,A,b0.o.lQ H,e4.o _ f6.o⟩
 rintro m8 m3 ⟨j4,b,i,V⟩;refine⟨j4,J,V.2.1,?_⟩;clear j4;let⟨a5,f1⟩:∃a5,m3.putObj O (IK (Lp .exhausted J))=a5:=⟨_,A⟩;rw[f1];have c6:PC w B f m room L ⟨p,a,g,h,P o d.length nc⟩ b i a5:=by rw[<-f1];exact V.1.lQ (λ_ _ _ a=>by rw[V.2.1] at a;cases a) (λ_ _ a=>by rw[V.2.1] at a;cases a) (aw V.2.1) H _
 have c7:a5.heap[s.heap.size]?=Kc (δ []):=by rw[i6.o,<-f1];exact(Gu H).t V.2.2
 let⟨f5,x,j8,N,R,f4⟩:=c6.lag;have m7:=cJ 0 N;have k3:=y (Fq w B f m room L (ι f5) (a5.putObj s.heap.size (Kc J))) ⟨⟨f5,A⟩,c6.dy.lQ (λ_ _ _ a=>by rw[c7] at a;cases a) (λ_ _ a=>by rw[c7] at a;cases a) (aw c7) _,c6.fz.iY (bP ((Ge _ a5).m c6.fz.aH) (by have:=i6.o;omega) _)⟩;obtain⟨i2,i3,rfl⟩:=aR R;have k1:=F c7;clear f1 V c6 c7 N R f8 h5;simp only[mq];go_wp2;refine⟨by simp,Ξ ⟨_,_,A,Xq k1.o,?_⟩⟩;refine⟨_,Xy A _ _ _,?_⟩;exact k3.o
end Fd
end
namespace Fm
variable {w w':ν}{r q:Nat}{d:Rd}
def OI (r:D)(d:Rd)(w:L)(f:dE w r d):Y N 125 #[V r] w λa w'=>a=G (gB d:C)/\dE w' r (eD d)/\aL (· =r) w w':=by
 have j:=F (lD r d w f);go_enter func125,ntmps125;go_wp2_with ((with_reducible go_call j.o as a g ⟨rfl,c⟩);have o:=F c);go_ret;exact⟨A,o.o⟩
def Yd (r:D)(d:Rd)(w:L)(j:dE w r d)(o:gB d=0):Y N 131 #[V r] w λb w'=>b=z X/\dE w' r (eD d)/\aL (· =r) w w':=by
 have f:=F (lD r d w j);rw[o] at f;go_enter func131,ntmps131;go_wp2_with ((with_reducible go_call f.o as b h ⟨rfl,e⟩);have t:=F e);go_ret;exact⟨A,t.o⟩
structure Fi (w:L)(r q:D)(t:Λ)(d:Rd)(A:Q S)(W:L):Prop where
 rd:dE W r d
 bk:W.heap[q]?=K A t
 only:aL (λk=>k=r\/k=q) w W
def Fi.fb {J:Λ}{z:Q S}{O:Rd}{K t:L}(P:Fi w r q J d z K)(U:q≠r)(p:J≠9){f:D}(Z:f<z.size)(W:dE t r O)(V:aL (· =r) K t)(u:S):(∃s,t (q,f)=M s)/\t.frozen? (q,f)=X/\Fi w r q J O (z.setIfInBounds f u) (t.setCell (q,f) u):=by
 have b:=V.aM P.bk U;exact⟨rh b Z,aI b f,W.set b U p u,bJ b f u,(P.only.aJ (V.cz (T:=λb=>b=r\/b=q) λ_ _ m=>o m)).bV (λ_=>j A) _⟩
def Ye (r q M O:D)(u b:Λ)(t:Q S)(d:Rd)(w:L)(Z:dE w r d)(s:w.heap[q]?=K t u)(n:O<t.size)(p:q≠r)(a:u≠9)(m:w.heap[M]?=K #[V (q,O)] b)(i:M≠r/\M≠q):
 Y N 122 #[Hl (Ic 123) #[V r] #[],P M 1 1] w λk w'=>k=f #[]/\Fi w r q u (eD d) (t.setIfInBounds O (G (gB d:C))) w':=by
 have g:∀X w,(Xa 123 X).run N w=Je (.enter 123 X) w:=enters_of PN e A;have J:=F (W (show Fi w r q u d t w from⟨Z,s,aL.bQ _ _⟩) (W n (W p a)));have y:=cJ 0 m;have l:=F (lD r d w Z);go_enter func122,ntmps122;go_wp2;go_loopw [5,8] (λ_ iv wr=>(iv=G 0/\wr=w)\/(iv=G 1/\Φ (Fi w r q u (eD d) (t.setIfInBounds O (G (gB d:C))) wr))) (λ_ iv _=>1-(QI iv).toNat)
 .exact Ξ ⟨A,A⟩
 rcases hrel with⟨rfl,rfl⟩|⟨rfl,U⟩
 .go_wp2_with fail;go_call l.o as k z ⟨rfl,h,o⟩;let⟨⟨c,v⟩,x,e3⟩:=J.1.fb J.2.2.1 J.2.2.2 J.2.1 h o (G (gB d:C));have U:=F e3;go_wp2;go_roundw
  .exact j ⟨A,U⟩
  simp[QI]
 go_wp2;go_end0;exact⟨A,U.o⟩
def OJ (r q M O:D)(u b:Λ)(t:Q S)(d:Rd)(w:L)(Z:dE w r d)(s:w.heap[q]?=K t u)(n:O<t.size)(p:q≠r)(a:u≠9)(m:w.heap[M]?=K #[V (q,O)] b)(i:M≠r/\M≠q):
 Y N 124 #[Hl (Ic 125) #[V r] #[],P M 1 1] w λk w'=>k=f #[]/\Fi w r q u (eD d) (t.setIfInBounds O (G (gB d:C))) w':=by
 have g:∀X w,(Xa 125 X).run N w=Je (.enter 125 X) w:=enters_of func125 e A;have J:=F (W (show Fi w r q u d t w from⟨Z,s,aL.bQ _ _⟩) (W n (W p a)));have y:=cJ 0 m;have l:=F (OI r d w Z);go_enter func124,ntmps124;go_wp2;go_loopw [5,8] (λ_ iv wr=>(iv=G 0/\wr=w)\/(iv=G 1/\Φ (Fi w r q u (eD d) (t.setIfInBounds O (G (gB d:C))) wr))) (λ_ iv _=>1-(QI iv).toNat)
 .exact Ξ ⟨A,A⟩
 rcases hrel with⟨rfl,rfl⟩|⟨rfl,U⟩
 .go_wp2_with fail;go_call l.o as k z ⟨rfl,h,o⟩;let⟨⟨c,v⟩,x,e3⟩:=J.1.fb J.2.2.1 J.2.2.2 J.2.1 h o (G (gB d:C));have U:=F e3;go_wp2;go_roundw
  .exact j ⟨A,U⟩
  simp[QI]
 go_wp2;go_end0;exact⟨A,U.o⟩
def UF (r q M U:D)(u c:Λ)(t:Q S)(d:Rd)(w:L)(a:dE w r d)(s:w.heap[q]?=K t u)(n:U<t.size)(p:q≠r)(b:u≠9)(m:w.heap[M]?=K #[V (q,U)] c)(i:M≠r/\M≠q):
 Y N 126 #[Hl (Ic 127) #[V r] #[],P M 1 1] w λk w'=>k=f #[]/\Fi w r q u (eE d) (t.setIfInBounds U (O (ed d))) w':=by
 have C:∀Z w,(Xa 127 Z).run N w=Je (.enter 127 Z) w:=enters_of func127 e A;have J:=F (W (show Fi w r q u d t w from⟨a,s,aL.bQ _ _⟩) (W n (W p b)));have y:=cJ 0 m;have l:=F (xk r d w a);go_enter func126,ntmps126;go_wp2;go_loopw [5,8] (λ_ iv wr=>(iv=G 0/\wr=w)\/(iv=G 1/\Φ (Fi w r q u (eE d) (t.setIfInBounds U (O (ed d))) wr))) (λ_ iv _=>1-(QI iv).toNat)
 .exact Ξ ⟨A,A⟩
 rcases hrel with⟨rfl,rfl⟩|⟨rfl,X⟩
 .go_wp2_with fail;go_call l.o as k z ⟨rfl,h,o⟩;let⟨⟨g,v⟩,x,e3⟩:=J.1.fb J.2.2.1 J.2.2.2 J.2.1 h o (O (ed d));have X:=F e3;go_wp2;go_roundw
  .exact j ⟨A,X⟩
  simp[QI]
 go_wp2;go_end0;exact⟨A,X.o⟩
def UG (r q M O:D)(u v:Λ)(t:Q S)(d:Rd)(w:L)(a:dE w r d)(s:w.heap[q]?=K t u)(n:O<t.size)(p:q≠r)(b:u≠9)(m:w.heap[M]?=K #[V (q,O)] v)(E:M≠r/\M≠q)(c:gB d=0):
 Y N 130 #[Hl (Ic 131) #[V r] #[],P M 1 1] w λk w'=>k=f #[]/\Fi w r q u (eD d) (t.setIfInBounds O (z X)) w':=by
 have g:∀Z w,(Xa 131 Z).run N w=Je (.enter 131 Z) w:=enters_of func131 e rfl;have J:=F (W (show Fi w r q u d t w from⟨a,s,aL.bQ _ _⟩) (W n (W p b)));have C:=cJ 0 m;have l:=F (Yd r d w a c);go_enter func130,ntmps130;go_wp2;go_loopw [5,8] (λ_ iv wr=>(iv=G 0/\wr=w)\/(iv=G 1/\Φ (Fi w r q u (eD d) (t.setIfInBounds O (z X)) wr))) (λ_ iv _=>1-(QI iv).toNat)
 .exact Ξ ⟨rfl,rfl⟩
 rcases hrel with⟨rfl,rfl⟩|⟨rfl,U⟩
 .go_wp2_with fail;go_call l.o as k A ⟨rfl,h,o⟩;let⟨⟨i,x⟩,y,e3⟩:=J.1.fb J.2.2.1 J.2.2.2 J.2.1 h o (z X);have U:=F e3;go_wp2;go_roundw
  .exact j ⟨rfl,U⟩
  simp[QI]
 go_wp2;go_end0;exact⟨rfl,U.o⟩
end Fm
namespace Fm
def H0:B:=⟨#[160,118,190,139,82,141,0,117,247,170,233,141,111,165,122,109,60,131,174,72,10,132,105,230,104,215,176,175,150,137,149,172,113]⟩
def XS:E B:=[⟨#[1]⟩,⟨#[1]⟩,⟨#[1]⟩,⟨#[128]⟩,⟨#[128]⟩,H0,⟨#[192]⟩,⟨#[128]⟩,⟨#[128]⟩]
def RB:B:=⟨#[233,1,1,1,128,128,160,118,190,139,82,141,0,117,247,170,233,141,111,165,122,109,60,131,174,72,10,132,105,230,104,215,176,175,150,137,149,172,113,192,128,128]⟩
def dd (n:D):Rd:=⟨XS,n,J⟩
def d0:dI RB 9=dd 0:=e
def nv0:gB (dd 0)=1/\eD (dd 0)=dd 1:=⟨e,e⟩
def nv1:gB (dd 1)=1/\eD (dd 1)=dd 2:=⟨e,e⟩
def nv2:gB (dd 2)=1/\eD (dd 2)=dd 3:=⟨e,e⟩
def nv3:gB (dd 3)=0/\eD (dd 3)=dd 4:=⟨e,e⟩
def nv4:gB (dd 4)=0/\eD (dd 4)=dd 5:=⟨e,e⟩
def tv5:ed (dd 5)=R0/\eE (dd 5)=dd 6:=⟨e,e⟩
def it6:dq (dd 6)=⟨#[192]⟩/\eo (dd 6)=dd 7:=⟨e,e⟩
def tv7:ed (dd 7)=⟨#[]⟩/\eE (dd 7)=dd 8:=⟨e,e⟩
def nv8:gB (dd 8)=0/\eD (dd 8)=dd 9:=⟨e,e⟩
def af8:dI ⟨#[192]⟩ (-1)=⟨[],0,J⟩:=e
def rtx:yW ⟨1,1,0,0,R0,P J 0 0,⟨#[]⟩,X⟩ []=RB:=e
def aei (a:D)(j:Rd)(w:L)(X:dE w a j)(g:dq j=⟨#[192]⟩)(Z:∀W,aL (· =a) w W->As.cC W):
 Y N 128 #[V a,G 2,Hl (Ic 129) #[] #[]] w λe l=>(∃O,e=P (M ⟨O,0,J⟩) 0 0)/\dE l a (eo j)/\aL (· =a) w l:=by
 have f:=uH a j w X;rw[g] at f;have f:=F f;have t:=F (λW (c:aL (· =a) w W)=>pc ⟨#[192]⟩ (-1) W r (Z W c));rw[af8] at t;have S:=uG;go_enter func128,ntmps128;go_wp2_with fail;go_call f.o as e q ⟨rfl,y,p⟩;have u:=F (κ y p);have U:=F (t.o q p);go_wp2_with fail;go_call U.o as e s ⟨rfl,z,i⟩;let⟨R,b,h,_⟩:=z.bO;have I:s q=P R 0 b:=cR h rfl;have T:s (q,2)=ω:=cR h rfl;have K:=F (κ (u.1.aE i) (u.2.then i));go_wp2_with (at_make;apply YA ue rfl _ _ rfl 0 rfl rfl H;intro x _ o;have d0:=o.ce I;have v:=F (κ (K.1.aE o) (K.2.then o)));go_loopw [8,41] (λd k wr=>d=P s 0 0/\k=G 0/\wr=x) (λ_ _ _=>0)
 .exact⟨rfl,rfl,rfl⟩
 obtain⟨rfl,rfl,rfl⟩:=hrel;go_wp2;go_ret;exact⟨⟨_,rfl⟩,v.o⟩
structure Gr (w:L)(n:D)(k:C)(A:Q S)(W:L):Prop where
 rd:dE W (w.heap.size+3) (dd n)
 bk:W.heap[w.heap.size+1+1]?=K #[k] 3
 ba:W.heap[w.heap.size+1]?=K A 136
 br:W.heap[w.heap.size]?=K #[G 0,G 0,G 0,G 0,I,P J 0 0,I,z X] 136
 gi:T w w W
variable {w W:ν}{k:Int}{A A':Array π}{n m:Nat}
def Gr.aE {c:L}(f:Gr w n k A W)(j:T W W c):Gr w n k A c:=
 ⟨f.rd.aE j,j.ke f.bk,j.ke f.ba,j.ke f.br,f.gi.t (j.m f.gi.z)⟩
def Gr.lt (f:Gr w n k A W):(w:D)+3<(W:D):=let⟨_,_,b,_⟩:=f.rd.bO;aw b
def Gr.fi {o:L}{t:Λ}(j:Gr w n k A W)(u:t=136)(f:Fi W ((w:D)+3) ((w:D)+1) t (dd m) A' o):Gr w m k A' o:=by
 subst u;exact⟨f.rd,f.only.aM j.bk H,f.bk,f.only.aM j.br H,j.gi.t (f.only.cE j.gi.z H)⟩
def Gr.int {j:D}(u:Gr w n k A W)(X:j<A.size)(m:D)(O:C)(t:Λ)(z:(gB (dd n):C)=O/\eD (dd n)=dd m):
 Y N 122 #[Hl (Ic 123) #[V (M ⟨w+3,0,J⟩)] #[],P W 1 1] (W.alloc (K #[V (M ⟨w+1,j,J⟩)] t)) λc h=>c=f #[]/\Gr w m k (A.setIfInBounds j (G O)) h:=by
 have U:=(bo W (K #[V (M ⟨w+1,j,J⟩)] t)).aE;have o:=u.aE U;have Z:=u.lt;refine(Ye _ _ W j 136 t A (dd n) _ o.rd o.ba X H r (bo W _).at_ H).m λc h ⟨l,e⟩=>⟨l,?_⟩;rw[z.1,z.2] at e;exact o.fi rfl e
def Gr.aej {j:D}(u:Gr w n k A W)(X:j<A.size)(m:D)(O:C)(t:Λ)(z:(gB (dd n):C)=O/\eD (dd n)=dd m):
 Y N 124 #[Hl (Ic 125) #[V (M ⟨w+3,0,J⟩)] #[],P W 1 1] (W.alloc (K #[V (M ⟨w+1,j,J⟩)] t)) λc h=>c=f #[]/\Gr w m k (A.setIfInBounds j (G O)) h:=by
 have U:=(bo W (K #[V (M ⟨w+1,j,J⟩)] t)).aE;have o:=u.aE U;have Z:=u.lt;refine(OJ _ _ W j 136 t A (dd n) _ o.rd o.ba X H r (bo W _).at_ H).m λc h ⟨l,e⟩=>⟨l,?_⟩;rw[z.1,z.2] at e;exact o.fi rfl e
def Gr.bK {j:D}(u:Gr w n k A W)(Z:j<A.size)(m:D)(U:B)(t:Λ)(z:ed (dd n)=U/\eE (dd n)=dd m):
 Y N 126 #[Hl (Ic 127) #[V (M ⟨w+3,0,J⟩)] #[],P W 1 1] (W.alloc (K #[V (M ⟨w+1,j,J⟩)] t)) λc h=>c=f #[]/\Gr w m k (A.setIfInBounds j (O U)) h:=by
 have X:=(bo W (K #[V (M ⟨w+1,j,J⟩)] t)).aE;have o:=u.aE X;have p:=u.lt;refine(UF _ _ W j 136 t A (dd n) _ o.rd o.ba Z H r (bo W _).at_ H).m λc h ⟨l,e⟩=>⟨l,?_⟩;rw[z.1,z.2] at e;exact o.fi rfl e
def Gr.DC {j:D}(u:Gr w n k A W)(Z:j<A.size)(m:D)(t:Λ)(O:gB (dd n)=0/\eD (dd n)=dd m):
 Y N 130 #[Hl (Ic 131) #[V (M ⟨w+3,0,J⟩)] #[],P W 1 1] (W.alloc (K #[V (M ⟨w+1,j,J⟩)] t)) λc g=>c=f #[]/\Gr w m k (A.setIfInBounds j (z X)) g:=by
 have U:=(bo W (K #[V (M ⟨w+1,j,J⟩)] t)).aE;have o:=u.aE U;have a:=u.lt;refine(UG _ _ W j 136 t A (dd n) _ o.rd o.ba Z H r (bo W _).at_ H O.1).m λc g ⟨i,e⟩=>⟨i,?_⟩;rw[O.2] at e;exact o.fi rfl e
def aek (U:Gr w 0 0 #[G 0,G 0,G 0,G 0,I,P J 0 0,I,υ X] W)(O:Λ):
 Y N 122 #[Hl (Ic 123) #[V (M ⟨w+3,0,J⟩)] #[],P W 3 3] (W.alloc (K #[V (M ⟨(w:D)+1+1,0,J⟩),V (M ⟨w+1,0,J⟩),V (M ⟨w+1,1,J⟩)] O)) λb i=>b=f #[]/\Gr w 3 1 #[G 1,G 1,G 0,G 0,I,P J 0 0,I,υ X] i:=by
 have c:=(bo W (K #[V (M ⟨w+1+1,0,J⟩),V (M ⟨w+1,0,J⟩),V (M ⟨w+1,1,J⟩)] O)).aE;have t:=U.aE c;have e:=U.lt;refine(uJ (w+3) (w+1+1) (w+1) W 3 136 O (λd=>match d with|0=>#[G 0]|_=>#[G 1]) (λd=>match d with|0=>#[G 0,G 0,G 0,G 0,I,P J 0 0,I,υ X]|1=>#[G 0,G 0,G 0,G 0,I,P J 0 0,I,υ X]|2=>#[G 1,G 0,G 0,G 0,I,P J 0 0,I,υ X]|_=>#[G 1,G 1,G 0,G 0,I,P J 0 0,I,υ X]) (dd 0) [⟨w+1+1,0,J⟩,⟨w+1,0,J⟩,⟨w+1,1,J⟩] _ ⟨t.rd,t.bk,t.ba,aL.bQ _ _⟩ ?_ H r (bo W _).at_ H R).m ?_
 .intro d p a;match d,a with
  |0,a=>simp only[IP,Hm,Gd] at a;subst a;exact o ⟨_,rfl,R,by simp[yy,nv0],rfl⟩
  |1,a=>simp only[IP,Hm,Gd] at a;subst a;exact j ⟨_,rfl,R,by simp[yy,nv0,nv1],rfl⟩
  |2,a=>simp only[IP,Hm,Gd] at a;subst a;exact j ⟨_,rfl,R,by simp[yy,nv0,nv1,nv2],rfl⟩
  |n+3,a=>simp at a
 rintro b i ⟨l,u⟩;have Z:=u.rd;simp only[yy,Gx,Hy,Nat.reduceAdd,nv0,nv1,nv2] at Z;exact⟨l,Z,u.bk,u.ba,u.only.aM t.br H,t.gi.t (u.only.cE t.gi.z H)⟩
def Yh (u:QV JM)(J:D)(w:L):Y N 191 #[t #[G 1,G 1,G 0,G 0,R0,P u 0 J,I,z X]] w λa c=>a=z U/\T w w c:=by
 let⟨h,l,b⟩:=aU w (K #[G 1,G 1,G 0,G 0,R0,P u 0 J,I,z X] 136);let⟨e,c1,q,d,c4,c5,s,_⟩:=gZ b.at_;have M:=F b.aE;have o:=F (λw=>gg 1 0 1048576 w);have j:=F (λw=>gg 0 0 1048576 w);have f:=F (kY R0 h);rw[(r:wi 1 0 1048576=U)] at o;rw[(r:wi 0 0 1048576=U)] at j;rw[(r:LH (R0.size=0\/R0.size=32)=U)] at f;generalize R0=O at *;go_enter func191,ntmps191;go_wp2_with (first|(rw[l])|(with_reducible go_call o.o _ as a i ⟨rfl,rfl⟩)|(with_reducible go_call j.o _ as a i ⟨rfl,rfl⟩)|(with_reducible go_call f.o as a i ⟨rfl,rfl⟩));go_loopw [48] (λk wr=>k=G 0/\wr=h) (λ_ _=>0)
 .exact⟨rfl,rfl⟩
 obtain⟨rfl,rfl⟩:=hrel;go_wp2;go_ret;exact⟨rfl,M.o⟩
def Yg (j:QV JM)(u:D)(w:L):Y N 133 #[t #[G 1,G 1,G 0,G 0,R0,P j 0 u,I,z X]] w λe c=>e=f #[RB,G 0]/\T w w c:=
 (sf (λb=>b=U) ⟨1,1,0,0,R0,P j 0 u,⟨#[]⟩,X⟩ [] w (o ⟨_,_,rfl,rfl⟩) R (λ_=>⟨by show(0:C)<=1/\(1:C)<=1048576;decide,by show(0:C)<=1/\(1:C)<=1048576;decide,by show(0:C)<=0/\(0:C)<=12;decide,by show(0:C)<=0/\(0:C)<=1048576;decide,(r:R0.size<=32),R,(r:ByteArray.size ⟨#[]⟩<=65536),R⟩)
  (λw _=>(Yh j u w).m λe c ⟨a,b⟩=>⟨⟨U,a,rfl⟩,b⟩)).m λe c ⟨a,b⟩=>⟨by
   rcases a with⟨a,_⟩|⟨_,a⟩
   .cases a
   rw[a,show yW ⟨1,1,0,0,R0,P j 0 u,⟨#[]⟩,X⟩ []=RB from rtx],b⟩
end Fm
namespace Fm
def OK (w:ν)(G:As.cC w):
 τ γ 63 #[RB] w λa w'=>(∃g,a=χ #[Γ #[ϑ 1,ϑ 1,ϑ 0,ϑ 0,β R0,ο (δ ⟨g,0,ζ⟩) 0 0,eS,υ σ],ϑ 0])/\ρ w w w':=by
 let⟨c6,b6,j4⟩:=aU w (θ #[ϑ 0,ϑ 0,ϑ 0,ϑ 0,eS,ο ζ 0 0,eS,υ σ] 136);let⟨c7,b7,q⟩:=aU c6 (θ #[ϑ 0,ϑ 0,ϑ 0,ϑ 0,eS,ο ζ 0 0,eS,υ σ] 136);let⟨Y,b9,d⟩:=aU c7 (θ #[ϑ 0] 3);have J:=j4.aH;have b3:=q.aH;have e3:=d.aH;have C:=j4.aE.t ((q.aE.m om).t (d.aE.m om));have s:=pc RB 9 Y dc (G.aE C);rw[d0] at s;have s:=Ga s;have K1:=Below.ke d.aE (Below.ke q.aE j4.at_);have y:=Below.ke d.aE q.at_;have z:=d.at_;have b5:(Y:Nat)=(w:Nat)+3:=om;rw[J] at y;rw[b3,J] at z;have f:=Ga (κ K1 (κ y (κ z C)));have H:=Ga G;have rS:∀(j0:Fn) (first cap:Array π) (w:ν),(Instr.makeFunc j0 first cap).run γ w=Je (Hl j0 first cap) w:=λ_ _ _ _=>rfl;go_enter func63,ntmps63;have a8:=Ga Yg;have ts:(RB.toList !=RB.toList)=σ:=sm;have a9:=QC (∀j2,dE j2 ((w:Nat)+3) (dd 9)->As.cC j2->τ γ 132 #[ξ (δ ⟨w+3,0,ζ⟩)] j2 λa w'=>a=ϑ 0/\ρ j2 j2 w') λj2 b4 k=>AD _ _ j2 b4 k;have a7:=Ga (fun(j2 b0:ν) (b:ρ w w j2) (j3:aL (· =(w:Nat)+3) j2 b0)=>H.o.aE (b.t (j3.cE b.z (λi a=>by have a:i=_:=a;omega))));generalize RB=S at *;go_wp2_with (first
  |(rw[b6])|(rw[b7])|(rw[b9])
  |((with_reducible apply s.o.m);rintro a w4 ⟨rfl,E,l⟩;rw[b5] at E;have a0:=Ga (Gr.mk E (Below.ke l f.o.2.2.1) (Below.ke l f.o.2.1) (Below.ke l f.o.1) (f.o.2.2.2.t (l.m f.o.2.2.2.z))))
  |((with_reducible apply(aek a0.o _).m);rintro a w5 ⟨rfl,N⟩;have a2:=Ga N)
  |((with_reducible apply(a2.o.aej (j:=2) sm 4 0 _ ⟨by simp[nv3.1],nv3.2⟩).m);rintro a d4 ⟨rfl,O⟩;have a3:=Ga O)
  |((with_reducible apply(a3.o.int (j:=3) sm 5 0 _ ⟨by simp[nv4.1],nv4.2⟩).m);rintro a d8 ⟨rfl,P⟩;have a4:=Ga P)
  |((with_reducible apply(a4.o.bK (j:=4) sm 6 R0 _ tv5).m);rintro a w8 ⟨rfl,Q⟩;have c:=Ga Q)
  |((with_reducible apply(aei _ (dd 6) w8 c.o.rd it6.1 (λj2 j3=>a7.o w8 j2 c.o.gi j3)).m);rintro a Z ⟨⟨g,rfl⟩,F,r⟩;rw[it6.2] at F;have p:=r.aM c.o.ba (om:(w:Nat)+1≠(w:Nat)+3);have c5:=cJ 5 p;have d1:=aI p;have e:=aF (j:=5) (ο (δ ⟨g,0,ζ⟩) 0 0) p;let⟨j1,R⟩:∃j1,Z.setCell ⟨w+1,5,ζ⟩ (ο (δ ⟨g,0,ζ⟩) 0 0)=j1:=⟨_,rfl⟩;have D:=F.set (j:=5) p om dc (ο (δ ⟨g,0,ζ⟩) 0 0);rw[R] at e D;have a5:=Ga (Gr.mk D ((e.old _ om).t (r.aM c.o.bk (om:(w:Nat)+1+1≠(w:Nat)+3))) e.at_ ((e.old _ om).t (r.aM c.o.br (om:(w:Nat)≠(w:Nat)+3))) (e.aE _ _ om (c.o.gi.t (r.cE c.o.gi.z (λi a=>by have a:i=_:=a;omega))))))
  |(rw[R])
  |((with_reducible apply(a5.o.bK (j:=6) sm 8 ⟨#[]⟩ _ tv7).m);rintro a d2 ⟨rfl,L⟩;have a6:=Ga L)
  |((with_reducible apply(a6.o.DC (j:=7) sm 9 _ nv8).m);rintro a c0 ⟨rfl,M⟩;have x:=Ga M)
  |((with_reducible apply(a9.o c0 x.o.rd (H.o.aE x.o.gi)).m);rintro a X ⟨rfl,I⟩;have t:=x.o.aE I;have T:X.heap[(w:Nat)+1]?=θ #[ϑ 1,ϑ 1,ϑ 0,ϑ 0,β R0,ο (δ ⟨g,0,ζ⟩) 0 0,eS,υ σ] 136:=t.ba;have b2:=cJ 0 t.bk;have v:=Ga t)
  |(refine oc wo T ?_)
  |((with_reducible apply(a8.o _ _ _).m);rintro a d3 ⟨rfl,h⟩;have c2:=Below.ke h T;have c8:=Below.ce h b2;have c3:=Below.ke h v.o.br;have a1:=Ga (v.o.gi.t (h.m v.o.gi.z)))
  |(refine oc wo c2 ?_)
  |(refine ia wo c3 ?_;intro d6 U))
 exact qG wo U.at_ ⟨⟨_,rfl⟩,U.aE _ _ QD a1.o⟩
end Fm
namespace Pf
def UQ {w w':L}{a:D}{o:Obj}(j:bd w w' a o):aL (· =a) w w':=
 have f:=j.aE 0 w QK ⟨A,A,A,d,λ_ c=>H⟩
 ⟨f.os,f.tape,f.output,Iu j.aH.s,λa _ b=>j.old a b⟩
def zt:pX 126 2:=⟨⟨_,A,underlying126⟩,by kernel_rfl⟩
variable {w w':ν}{cs:Array π}
def UR (f:ct cs D1)(w:L):Y N 185 #[cs,P1] w λi w'=>i=Γ #[υ U,V1]/\T w w w':=by
 let⟨k,m,a⟩:=aU w (K cs 281);let⟨e,n,c⟩:=aU k (K #[υ X,I] 126);have j:=c.aE.ke a.at_;have Z:e w=G 1:=cR j f.bq;have c1:e (w,1)=P1:=cR j f.bA;have O:e (w,2)=V1:=cR j f.bL;have M:=c.at_;have P:(P1.toList==P1.toList)=U:=R;have u:=F (a.aE.t (c.aE.m a.aE.z));have J:=F a.aE.z;generalize P1=V at *;go_enter func185,ntmps185;go_wp2_with (apply ia zt M;intro W o);apply QM (EN zt A A A o.at_) A;exact⟨A,o.aE _ _ J.o u.o⟩
def aen (j:ct cs D1)(w:L):Y N 235 #[cs,P1] w λd w'=>d=f #[I,P1]/\T w w w':=by
 let⟨e,b,a⟩:=aU w (K cs 281);have t:e w=G 1:=cR a.at_ j.bq;have o:=F a.aE;generalize P1=u at *;go_enter func235,ntmps235;go_wp2;go_ret2;exact⟨A,o.o⟩
def fw (w:L)(f:Obj):gJ w (w.alloc f) f:=by
 obtain⟨_,rfl,j⟩:=aU w f;exact j
def Yl (w:L):w.alloc (K #[G 0,I,I,I,I,I,I,I,I,I,I,I,I,I,I,I,I,I,I] 281)=w.alloc (K zc 281):=rfl
def tg {cs j:Q S}{A:Nd}{t:Λ}{f:D}(o:ct cs A)(u:w.heap[f]?=K j t)(z:j.size=19:=by rfl):(storeCells f cs.toList).run N w=Je () (w.setRow f cs):=by
 have:=run_storeCells_from (P:=N) f t cs.toList 0 j w u (by simp[z,o.aH]) (λi h=>(JA.1 (fu o)) i (sU h));simpa using this
def OT (w:L)(j:D)(f:B)(t:S)(o:C):Prop:=w.heap[j]?=K #[f,t,o,ω] 343
def aeo (b j o t:D)(i:B)(w:ν)(a0:eI w)(v:OT w b i (P (j,o) 1 t) 0)(b0:w (j,o)=T1)(e2:j≠b):
 τ γ 234 #[ξ (δ ⟨b,0,J⟩),β (bn T1)] w λr w'=>(∃cs,r=χ #[Γ cs,υ ψ]/\ct cs D1)/\OT w' b i (P (j,o) 1 t) 1/\aL (· =b) w w':=by
 let⟨l,c6,H⟩:=aU w (θ zc 281);have S:OT l b i (P (j,o) 1 t) 0:=H.aE.ke v;have c1:=cJ 1 S;have g:=cJ 2 S;have R:=H.aE.ce b0;have a7:=F (fun(k:ν) (b:T w w k)=>cV T1 k dc (a0.aE b).kO);have a6:=F (fun(k:ν) (b:T w w k)=>UI k (a0.aE b).dm);have Z:=F (W H.at_ (W H.aE S));have ah:=F (fun(k:ν) (h:T w w k)=>(h.ke v:OT k b i (P (j,o) 1 t) 0));have a5:=F (aw v);have e0:((bn T1).toList==(bn T1).toList)=ψ:=sm;have t1:((bn T1).toList !=(bn T1).toList)=σ:=sm;generalize bn T1=a3 at *;go_enter func234,ntmps234;go_upto_region 1 with fail;rw[Yl,c6];have s1:l ⟨b,1,J⟩=P (j,o) 1 t/\l ⟨b,2,J⟩=G 0/\l (j,o)=T1:=⟨c1,g,R⟩;have b9:l.drew ⟨b,1,J⟩=P (j,o) 1 t/\l.drew ⟨b,2,J⟩=G 0/\l.drew (j,o)=T1:=s1;have c8:T w w l.drew:=Z.2.1.d;have n:=F (fw l (θ #[T1] 9)).aE.d;have c0:(l.alloc (θ #[T1] 9)).drew ⟨b,1,J⟩=P (j,o) 1 t/\(l.alloc (θ #[T1] 9)).drew ⟨b,2,J⟩=G 0/\(l.alloc (θ #[T1] 9)).drew (j,o)=T1:=⟨n.o.ce c1,n.o.ce g,n.o.ce R⟩;have a8:=y (τ γ 83 #[P l 1 1] (l.alloc (θ #[β T1] 9)).drew λr w'=>r=β a3/\T l l w') ((a7.o l.drew c8).m λr w' ⟨v,b⟩=>⟨v,(Ge _ l).d.t b⟩);go_region_held3 (λw'=>w' ⟨b,1,J⟩=P (j,o) 1 t/\w' ⟨b,2,J⟩=G 0/\w' (j,o)=T1) (first|with_reducible exact s1|with_reducible exact b9|with_reducible exact c0|with_reducible exact u|(trace_state;fail)) (first|(go_at_call 83;(with_reducible go_call a8.o as r a ⟨rfl,x0⟩);have u:a ⟨b,1,J⟩=P (j,o) 1 t/\a ⟨b,2,J⟩=G 0/\a (j,o)=T1:=⟨x0.ce c1,x0.ce g,x0.ce R⟩;have af:=F x0));have c7:=F (af.o.ke Z.1);have L:=F (Z.2.1.t (af.o.m Z.2.1.z));have a2:=fw a (θ #[G 0,I,I,I,I,I,I,I,I,I,I,I,I,I,I,I,I,I,I] 281);have m:=F a2.aE.d;have a4:=y (T a a a.drew) QG.d;have b5:=u;have b6:a.drew ⟨b,1,J⟩=P (j,o) 1 t/\a.drew ⟨b,2,J⟩=G 0/\a.drew (j,o)=T1:=u;have b7:(a.alloc (θ #[G 0,I,I,I,I,I,I,I,I,I,I,I,I,I,I,I,I,I,I] 281)).drew ⟨b,1,J⟩=P (j,o) 1 t/\(a.alloc (θ #[G 0,I,I,I,I,I,I,I,I,I,I,I,I,I,I,I,I,I,I] 281)).drew ⟨b,2,J⟩=G 0/\(a.alloc (θ #[G 0,I,I,I,I,I,I,I,I,I,I,I,I,I,I,I,I,I,I] 281)).drew (j,o)=T1:=⟨m.o.ce u.1,m.o.ce u.2.1,m.o.ce u.2.2⟩;have ag:=y (∀k,T a a k->τ γ 155 #[β T1] k λr w'=>(∃cs,ct cs D1/\r=χ #[Γ cs,G 0])/\T a a w'/\T k k w') λk b=>(a6.o k (L.o.t (b.m L.o.z))).m (by
  rintro r w' ⟨v,h⟩
  exact⟨v,b.t (h.m b.z),h⟩)
 have p:=y (b≠(a:D)/\j≠(a:D)) ⟨IM (bH u.1),IM (bH u.2.2)⟩;have a9:=y ((a.alloc (θ #[G 0,I,I,I,I,I,I,I,I,I,I,I,I,I,I,I,I,I,I] 281)).drew.heap[(a:D)]?=θ zc 281) a2.at_;have e5:(0:C)<1:=dc;go_upto_region 4 with fail;go_region_held3 (λw'=>w' ⟨b,1,J⟩=P (j,o) 1 t/\w' ⟨b,2,J⟩=G 0/\w' (j,o)=T1) (first|with_reducible exact b5|with_reducible exact b6|with_reducible exact b7|with_reducible exact z|with_reducible exact V|go_keep) (first|(go_at_call 155;(with_reducible go_call ag.o _ m.o as r d ⟨⟨cs,hd,rfl⟩,f,K⟩);have b3:=hd.aH;have z:d ⟨b,1,J⟩=P (j,o) 1 t/\d ⟨b,2,J⟩=G 0/\d (j,o)=T1:=⟨f.ce u.1,f.ce u.2.1,f.ce u.2.2⟩;have ae:=F f;have a1:=K.ke a9.o;have b2:=tg hd a1;have V:(d.setRow (a:D) cs) ⟨b,1,J⟩=P (j,o) 1 t/\(d.setRow (a:D) cs) ⟨b,2,J⟩=G 0/\(d.setRow (a:D) cs) (j,o)=T1:=⟨(XM _ _ _ _ p.o.1).t z.1,(XM _ _ _ _ p.o.1).t z.2.1,(XM _ _ _ _ p.o.2).t z.2.2⟩;have X:=dk (cs:=cs) a1;have N:=F (W hd (W (X.aE _ _ QD f) X.at_)))|(go_at_call 155;(with_reducible go_call ag.o _ a4.o as r d ⟨⟨cs,hd,rfl⟩,f,K⟩);have b3:=hd.aH;have z:d ⟨b,1,J⟩=P (j,o) 1 t/\d ⟨b,2,J⟩=G 0/\d (j,o)=T1:=⟨f.ce u.1,f.ce u.2.1,f.ce u.2.2⟩;have d6:=IX d _ z.1;have d8:=IX d _ z.2.1;have d9:=IX d _ z.2.2;simp only at d6 d8 d9;have ae:=F f;have b2:=tg hd (fw d (θ #[G 0,I,I,I,I,I,I,I,I,I,I,I,I,I,I,I,I,I,I] 281)).at_;have Y:=y (b≠(d:D)/\j≠(d:D)) ⟨IM (bH z.1),IM (bH z.2.2)⟩;have U:=fw d (θ #[G 0,I,I,I,I,I,I,I,I,I,I,I,I,I,I,I,I,I,I] 281);have V:((d.alloc (θ #[G 0,I,I,I,I,I,I,I,I,I,I,I,I,I,I,I,I,I,I] 281)).setRow (d:D) cs) ⟨b,1,J⟩=P (j,o) 1 t/\((d.alloc (θ #[G 0,I,I,I,I,I,I,I,I,I,I,I,I,I,I,I,I,I,I] 281)).setRow (d:D) cs) ⟨b,2,J⟩=G 0/\((d.alloc (θ #[G 0,I,I,I,I,I,I,I,I,I,I,I,I,I,I,I,I,I,I] 281)).setRow (d:D) cs) (j,o)=T1:=⟨(XM _ _ _ _ Y.o.1).t (U.aE.ce z.1),(XM _ _ _ _ Y.o.1).t (U.aE.ce z.2.1),(XM _ _ _ _ Y.o.2).t (U.aE.ce z.2.2)⟩;have X:=dk (cs:=cs) U.at_;have N:=F (W hd (W (X.aE _ _ f.z (f.t (U.aE.m f.z))) X.at_))));all_goals
  have e:=N.2.1;have O:=N.2.2;have hd:=N.1;first
   |(generalize World.setRow (World.alloc _ _) _ _=k at e O V ⊢;let⟨c,x⟩:∃c,(d:D)=c:=⟨_,rfl⟩;have c2:(a:D)<=c:=x▸ae.o.z;rw[x] at O ⊢)
   |(generalize World.setRow _ _ _=k at e O V ⊢;let⟨c,x⟩:∃c,(a:D)=c:=⟨_,rfl⟩;have c2:(a:D)<=c:=Iu x;rw[x] at O ⊢)
  have d1:=a5.o;have c3:=L.o.z;have e6:=Z.2.1.z;have q:=L.o.t (e.m c3);have s:=aF (j:=2) (G 1) (ah.o k q);have b4:=e.ke c7.o;have d3:=(s.old c om).t O;have d2:=(s.old (w:D) om).t b4;have M:=F (W ((aL.aE q (· =b)).bV (p:=⟨b,2,J⟩) (λ_=>rfl) (G 1)) (W s.at_ (W hd d1)));have g:=V.2.1;have e1:=aI (ah.o k q) 2;go_wp2_with (first|(refine oc fC d3 ?_ (i:=M.2.2.1.aH))|(refine ia fC d2 ?_ (c:=M.2.2.1.aH) (h:=fu M.2.2.1);intro e7 ab));refine qG fC ab.at_ ?_ (j:=M.2.2.1.aH);exact⟨⟨_,rfl,M.2.2.1⟩,(ab.old b (oA M.2.2.2)).t M.2.1,M.1.gU (UQ ab) λd4 e4 r=>by have r:d4=(w:D):=r;omega⟩
end Pf
def abo {o:Q Le}{O:E Le}{j:Le}{f:Act}{A:Exit->Act->L->Prop}{M:D×D}{u:Fence}(J:pX w q)(y:Jb j (Xg o f.tmps)=U)(P:Kg)(z:j.op=.load w P)(c:f.eval P=V a)(W:h.size=q)(v:g.heap[a]?=K h p M)
 (X:Xn u i N o A O (f.put j.dst (t h)) g):Xn u i N o A (j::O) f g:=by
 let⟨l,hd,x⟩:=J.d;refine BigFrame.wpListIn_want y λe b=>?_;unfold Oper.wpIn;refine⟨by simp[Oper.about,z],?_⟩;rw[Oper.semAt_plain u _ _ (by rw[z];intro d Z;cases Z)];simp only[Xb,z,c,Instr.loadAt,Instr.sureAddr,IE,Kb,Kv,XH g a p w h M l v x (by cases l<;>first|rfl|cases hd) (W▸J.aH)];exact b _ _ X
namespace Pf
def Ym (am i p c j n X Z:D)(b:L)(o:L->Prop)(e4:1<=Z)(b2:eI b)(O:OT b c (bn T1) (ο (j,n) 1 X) 0)(a8:b (j,n)=T1)(a9:j≠c)
 (J:b.heap[i]?=K #[V c] 414) (ae:b.heap[p]?=K #[P1] 9) (ag:i≠c/\p≠c)
 (a7:∀e h,ct e D1->OT h c (bn T1) (ο (j,n) 1 X) 1->aL (· =c) b h->YieldAt Fence.wide (Z-1) γ am #[Γ e,P1] h λg d=>g=υ ψ/\o d/\d.heap[p]?=h.heap[p]?/\∀u,(b:D)<=u->u<(h:D)->d.heap[u]?=h.heap[u]?)
 (a5:∀h l,o h->ρ h h l->o l):
 CallsIn Fence.wide Z γ 233 #[Hl (.yield am) #[] #[],V i,V p] b λg d=>(∃d3,g=ι d3)/\o d:=by
 have ab:=F (fun(d:L) (N:ρ b b d)=>(aeo c j n X (bn T1) d (b2.aE N) (N.ke O) (N.ce a8) a9).m λg Y R=>W R ((aL.aE N (· =c)).aJ R.2.2));have b9:=F (λe (R:ct e D1) d8=>aen R d8);have s1:b i=V c/\b c=(bn T1):=⟨cR J A,cR O A⟩;have c6:=F (fun(d:L) (n:aL (· =c) b d)=>(n.aM ae ag.2:d.heap[p]?=_));have y:=F (fun(d:L) (n:aL (· =c) b d)=>(cR (n.aM J ag.1) A:d i=V c));have ah:=F (W (aw J) (W (aw ae) (aw O)));have aj:=F (W a7 a5);have S:=F (fw b (K #[G 0,I,I,I,I,I,I,I,I,I,I,I,I,I,I,I,I,I,I] 281)).aE.d;have a1:=QC ((b.alloc (K #[G 0,I,I,I,I,I,I,I,I,I,I,I,I,I,I,I,I,I,I] 281)).drew.heap[(b:D)]?=K zc 281) (fw b _).at_;have a0:=QC (ρ b b b.drew) QG.d;have b6:b.drew i=V c/\b.drew c=(bn T1):=s1;have b7:(b.alloc (K #[G 0,I,I,I,I,I,I,I,I,I,I,I,I,I,I,I,I,I,I] 281)).drew i=V c/\(b.alloc (K #[G 0,I,I,I,I,I,I,I,I,I,I,I,I,I,I,I,I,I,I] 281)).drew c=(bn T1):=⟨S.o.ce s1.1,S.o.ce s1.2⟩;generalize bn T1=w at *;generalize D1=d9 at *;generalize P1=ao at *;refine callsIn_of_wp func233 A tV ?_ A;simp only[ntmps233,GZ,Gx,Hy,Nat.reduceAdd,Nat.reduceSub,Im,Il,IF,Iq,Ho,Hz];refine wpIn_seq (wpIn_wide.2 ?_);go_region_held3 (λY=>Y i=V c/\Y c=w) (first|with_reducible exact s1|with_reducible exact b6|with_reducible exact b7|with_reducible exact s4|with_reducible exact ai|go_keep) (first|(go_at_call 234;(with_reducible go_call ab.o _ S.o as g a ⟨⟨⟨e,rfl,hd⟩,t,M⟩,r⟩);have b4:=hd.aH;have s4:a i=V c/\a c=w:=⟨y.o _ r,cR t A⟩;have af:=M.aM a1.o (Nat.ne_of_gt ah.o.2.2);have b3:=tg hd af;have q:=dk (cs:=e) af;have k:=F (W hd (W ((q.old _ (IM ah.o.2.2)).t t:OT _ _ _ _ _) (W (r.gU (UQ q) λd1 T g=>absurd g (IM T)) q.at_)));have ai:(a.setRow (b:D) e) i=V c/\(a.setRow (b:D) e) c=w:=⟨y.o _ k.o.2.2.1,cR k.o.2.1 A⟩)|(go_at_call 234;(with_reducible go_call ab.o _ a0.o as g a ⟨⟨⟨e,rfl,hd⟩,t,M⟩,r⟩);have b4:=hd.aH;have s4:a i=V c/\a c=w:=⟨y.o _ r,cR t A⟩;have d4:=IX a _ s4.1;have d6:=IX a _ s4.2;simp only at d4 d6;have H:=fw a (K #[G 0,I,I,I,I,I,I,I,I,I,I,I,I,I,I,I,I,I,I] 281);have b3:=tg hd H.at_;have q:=dk (cs:=e) H.at_;have b5:=(r.then H.aE);have k:=F (W hd (W ((q.old _ (IM (aw t))).t (H.aE.ke t):OT _ _ _ _ _) (W (b5.gU (UQ q) λd1 T g=>absurd g (IM (GP T r.aH))) q.at_)));have ai:((a.alloc (K #[G 0,I,I,I,I,I,I,I,I,I,I,I,I,I,I,I,I,I,I] 281)).setRow (a:D) e) i=V c/\((a.alloc (K #[G 0,I,I,I,I,I,I,I,I,I,I,I,I,I,I,I,I,I,I] 281)).setRow (a:D) e) c=w:=⟨y.o _ k.o.2.2.1,cR k.o.2.1 A⟩;have c3:=F r.aH));all_goals
  have hd:=k.1;have P:=k.2.1;have z:=k.2.2.1;have f:=k.2.2.2;first
   |(generalize World.setRow (World.alloc _ _) _ _=l at P z f ⊢;let⟨m,v⟩:∃m,(a:D)=m:=⟨_,A⟩;have ak:(b:D)<=m:=v▸c3.o;rw[v] at f ⊢)
   |(generalize World.setRow _ _ _=l at P z f ⊢;let⟨m,v⟩:∃m,(b:D)=m:=⟨_,A⟩;have ak:(b:D)<=m:=Iu v;rw[v] at f ⊢)
  have U:=F (W f hd);have al:=c6.o l z;have e5:l p=ao:=cR al A;let⟨e2,e7,e0,e1,e6,a6⟩:=aj.1 e l hd P z;have c7:=aw f;gi_wp2;gi_loopw [5] (λd2 wr=>d2=υ ψ/\wr=l) (λ_ _=>0)
  case atStart=>exact⟨A,A⟩
  case round=>
   obtain⟨rfl,rfl⟩:=hrel;gi_wp2_with (refine abo fC A _ A A U.2.aH f ?_);refine a6.mono ?_;rintro g s ⟨rfl,b0,a3,a4⟩;have c8:s.heap[m]?=_:=(a4 m ak c7).t f;have c5:s p=ao:=cR (a3.t al) A;have c2:=F (λx (c:ρ s s x)=>aj.2 s x b0 c);gi_wp2_with (first|(refine EM fC A _ A A U.2.aH c8 ?_)|(refine⟨tV,?_⟩;refine(callsIn_wide.2 (b9.o _ U.2 s)).m ?_;rintro g x ⟨rfl,a2⟩;have c0:=F (c2.o x a2)));refine QS ?_;exact⟨⟨_,A⟩,c0.o⟩
end Pf
namespace Pf
def Yn (f:D)(j:B)(a:L):Y N 184 #[V f,j] a λe d=>e=Hl (Ic 233) #[] #[V a,V (M ⟨a+1,0,J⟩)]/\d.heap[(a:D)]?=K #[V f] 414/\d.heap[(a:D)+1]?=K #[j] 9/\(d:D)=(a:D)+2/\T a a d:=by
 let⟨k,l,b⟩:=aU a (K #[V f] 414);let⟨n,m,c⟩:=aU k (K #[j] 9);have rS:∀(i:Fn) (first g:Q S) (a:L),(Instr.makeFunc i first g).run N a=Je (Hl i first g) a:=λ_ _ _ _=>rfl;have s1:=b.aH;have o:=F (W (c.aE.ke b.at_) (W c.at_ (W c.aH (b.aE.t (c.aE.m b.aE.z)))));rw[s1] at o;go_enter func184,ntmps184;go_wp2;go_ret;exact⟨A,o.o⟩
def agk:pX 343 4:=⟨⟨_,A,underlying343⟩,by kernel_rfl⟩
def abp (O U m:D)(a:ν)(d6:eI a)(a5:a (O,U)=T1):
 τ γ 116 #[β (bn T1),β K1,P (O,U) 1 m] a λq T=>q=χ #[Γ #[υ ψ,V1],ω]/\ρ a a T:=by
 let⟨d,d9,b0⟩:=aU a (K #[υ X,I] 126);let⟨j3,e1,ai⟩:=aU d (K #[I,P J 0 0,ϑ 0,ω] 343);have c2:=F (λa=>(Nib.ga K1 a dc));rw[abm] at c2;have f2:=F (λh i2 a=>Yn h i2 a);have f1:=F (λb6 (g0:ct b6 D1) a=>UR g0 a);have f3:=F (fun(e l ak h e9:D) (c:ν) (f0:ν->Prop) (g7:1<=e9) (f5:ρ a a c)=>Ym e l ak h O U m e9 c f0 g7 (d6.aE f5));have g3:∀c0 (a:ν),(Xa 233 c0).run γ a=Je (.enter 233 c0) a:=enters_of func233 Qz A;have c7:=F (W a5 (bH a5));have ae:=F (W b0 ai);have e5:=ai.at_;have e4:=ai.aE.ke b0.at_;generalize bn T1=Y at *;generalize D1=i3 at *;generalize K1=j2 at *;generalize P1=j5 at *;generalize V1=a1 at *;clear b0 ai a5 d6;apply(XC (n:=8)).1;refine XD func116 A tV ?_ A;simp only[ntmps116,GZ,Gx,Hy,Nat.reduceAdd,Nat.reduceSub,Im,Il,IF,Iq,Ho,Hz];gi_wp2_with (first|(rw[d9])|(rw[e1])|(rw[e2])|(apply xj agk A _ _ A A A A QA A e5;intro j o;let⟨j4,e2,i⟩:=aU j (K #[υ X,I] 126))|(refine⟨tV,?_⟩;apply(callsIn_wide.2 (c2.o _)).m;rintro q a2 ⟨rfl,f⟩)|(refine⟨tV,?_⟩;apply(callsIn_wide.2 (f2.o _ _ _)).m;rintro q S ⟨rfl,M,h3,a9,r⟩));have s1:=ae.1.aH;have b3:=ae.2.aH;have b4:=o.aH;have s4:=i.aH;have a8:=f.z;have h1:S.heap[(a:D)]?=K #[υ X,I] 126:=r.ke (f.ke (i.aE.ke ((o.old _ H).t e4)));have h7:OT S (d:D) Y (P (O,U) 1 m) 0:=r.ke (f.ke (i.aE.ke o.at_));have f7:=r.ke (f.ke i.at_);have Z:=(((o.aE _ _ H (ae.1.aE.t (ae.2.aE.m H))).t (i.aE.m H)).t (f.m H)).t (r.m H);clear d9 e1 e2 o i f r e4 e5;apply gl A dc (gf:=233) (lb:=#[ξ a2,ξ (δ ⟨a2+1,0,J⟩)]) A trivial g3;intro e t e8 a6 b5 u g2 g1 d4;have h8:OT e8 (d:D) Y (P (O,U) 1 m) 0:=u.ke h7;apply(f3.o e (a2:D) ((a2:D)+1) (d:D) 7 e8
  (λc=>c.heap[e]?=IK (t NG J)/\c.heap[(S:D)]?=Kc (δ [])/\c.heap[(j:D)]?=K #[υ ψ,a1] 126/\OT c (d:D) Y (P (O,U) 1 m) 1/\c.heap[(a:D)]?=K #[υ X,I] 126/\ρ a a c)
  dc (Z.t (u.m Z.z)) h8 ((Z.t (u.m Z.z)).ce c7.1) (oA c7.2) (u.ke M) (u.ke h3) ⟨H,H⟩ ?hY ?hJ).m
 case hJ=>exact λg i4 ⟨v,ab,ag,ah,af,L⟩ h=>⟨h.ke v,h.ke ab,h.ke ag,h.ke ah,h.ke af,L.t (h.m L.z)⟩
 case hY=>
  intro b6 g hd g9 y;have a7:=y.aM g2 (H:e≠(d:D));have g5:=y.aM g1 (H:(S:D)≠(d:D));have d1:=y.aM (u.ke f7) (H:(j:D)≠(d:D));have g8:=y.aM (u.ke h1) (H:(a:D)≠(d:D));have a4:=(Z.t (u.m Z.z)).t (y.cE (B:=(a:D)) H (λi1 q=>by have q:i1=_:=q;omega));have e0:=y.aH;have V:=F (W s1 (W b3 (W b4 (W s4 (W a8 (W a9 (W a6 (W b5 e0))))))));have g6:=aw a7;apply d4 _ _ _ _ A a7;clear s1 b3 b4 s4 a8 a9 a6 b5 e0;have j1:=Jo;gi_wp2_with (apply xj fC A _ _ A A A hd.aH (fu hd) A (Gc _ _);intro n o);have b2:∀b,b<(g:D)->n.heap[b]?=g.heap[b]?:=λb d3=>(o.old b (IM d3)).t (QP d3);have h9:ρ a a n:=o.aE _ _ a4.z (a4.a a4.z _);have e3:(n:D)=(g:D)+1:=o.aH.t sm;refine⟨(b2 _ g6).t a7,?_⟩;let⟨l,a0,i0,c6⟩:=cL (H:e<(n:D)) (IK (t .busy J)) A;have e7:=(a0 _ H).t o.at_;have d2:(n.putObj e (IK (t .busy J))).heap[(j:D)]?=_:=(a0 _ (oA V.o)).t ((b2 _ (aw d1)).t d1);have b9:=c6 (a:D) a (oA V.o) h9;generalize n.putObj e (IK (t .busy J))=f4 at l a0 i0 c6 e7 d2 b9 ⊢;gi_wp2_with (first|(apply EM fC A _ A A hd.aH e7)|(refine⟨tV,?_⟩;apply(JK _ (callsIn_wide.2 (f1.o b6 hd f4))).m;rintro q i5 ⟨rfl,f⟩;have g4:=f.ke d2)|(apply xj zt A _ _ A A A A QA A g4;intro c3 aj));have h2:∀b,b<(g:D)->b≠e->b≠(j:D)->c3.heap[b]?=g.heap[b]?:=λb w k x=>(aj.old b x).t ((f.b b H).t ((a0 b k).t (b2 b w)));have j0:=V.o;have R:=(aj.old e H).t (f.ke l);have h6:=aj.aE (a:D) a H (b9.t (f.m b9.z));let⟨h4,e6,_,h5⟩:=cL (aw R) (IK (t NG J)) A;have G:∀b,b<(g:D)->b≠e->b≠(j:D)->(c3.putObj e (IK (t NG J))).heap[b]?=g.heap[b]?:=λb w k x=>(e6 b k).t (h2 b w k x);exact⟨R,A,⟨h4,(G _ H H H).t g5,(e6 _ H).t aj.at_,(G _ H H H).t g9,(G _ H H H).t g8,h5 _ _ H h6⟩,G _ H H H,λb w k=>G b k H H⟩
 rintro q w8 ⟨d8,v,ab,ag,ah,af,L⟩;refine⟨d8,J,v,?_⟩;let⟨l,s,h0,c8⟩:=cL (aw v) (IK (t .exhausted J)) A;have ak:=(s _ H).t ab;have al:=(s _ H).t ag;have am:OT _ (d:D) Y (P (O,U) 1 m) 1:=(s _ H).t ah;have N:=(s _ H).t af;have R:=c8 (a:D) a H L;have V:=F (show¬(j:D)=(a:D)/\¬(d:D)=(a:D)/\(a:D)<(S:D) by omega);generalize w8.putObj e (IK (t .exhausted J))=c at l ak al am N R ⊢;have i8:c (d,2)=ϑ 1:=cR am A;have f6:c (d,3)=ω:=cR am A;clear s h0 c8 v ab ag ah af L s1 b3 b4 s4 a8 a9 a6 b5 d8 d4;simp only[mq];gi_wp2;have d0:c j=υ ψ:=cR al A;have f8:c (j,1)=a1:=cR al A;have i6:c ((a:D),0)=υ X:=cR N A;have i7:c ((a:D),1)=I:=cR N A;have i9:∀b7,c.frozen? ⟨(a:D),b7,J⟩=X:=λb7=>aI N b7;have w:=V.1;have k:=V.2.1;have x:=V.2.2;have p:=aF (j:=0) (υ ψ) N;have M:=aF (j:=1) (β a1) p.at_;have e3:=(M.old _ w).t ((p.old _ w).t al);have f9:=(M.old _ k).t ((p.old _ k).t am);have a3:=F (W M.at_ (W (M.aE _ _ QD (p.aE _ _ QD R)) ((M.old _ H).t ((p.old _ H).t ak))));clear p M;apply wpIn_wide.2;go_region_held3 (λT=>T j=υ ψ/\T (j,1)=a1/\T (d,3)=ω) (first|exact⟨d0,f8,f6⟩|exact⟨cR e3 A,cR e3 A,cR f9 A⟩) (fail);gi_wp2;refine⟨sm,Ξ ⟨_,_,A,Xq a3.2.2,?_⟩⟩;exact⟨_,YD zt A A A ((Gu (IM x)).t a3.1),A,bP a3.2.1.d (Nat.le_of_lt x) _⟩
def Yo (J V Z:D)(a:L)(n:eI a)(m:a (J,V)=T1):
 Y N 58 #[O (bn T1),O K1,P (J,V) 1 Z] a λe x=>e=f #[Γ #[υ U,V1],G 0]/\T a a x:=by
 let⟨w,q,b⟩:=aU a (K #[υ X,I] 126);have p:=F (abp J V Z w (n.aE b.aE) (b.aE.ce m));have c:=F (λa=>ku 10 a);have j:=F (W b.aE (aw b.at_));have s:=b.at_;generalize bn T1=H at *;generalize K1=i at *;generalize V1=R at *;go_enter func58,ntmps58;go_wp2_with (first|(rw[q])|((with_reducible go_call p.o as e u ⟨rfl,d⟩);let⟨k,r,h⟩:=aU u (K #[υ X,I] 126))|(rw[r])|(refine ia zt h.at_ ?_;intro g M;have v:=(M.old _ (IM (GP j.o.2 d.z))).t (h.aE.ke (d.ke s)))|(go_at_call 50;with_reducible go_call c.o _ as e w5 ⟨rfl,rfl⟩)|(refine oc zt M.at_ ?_)|(refine ia zt v ?_;intro y l));refine qG zt l.at_ ?_;have o:=j.1.t (d.m j.1.z);exact⟨A,l.aE _ _ QD (M.aE _ _ o.z (o.t (h.aE.m o.z)))⟩
end Pf
def abu:xr (λg=>g=[]) QZ T1:=λl i=>
 (UI l i.dm).m λe m ⟨⟨c,hd,a⟩,b⟩=>⟨o ⟨c,D1,hd,a,λk h=>(pV 32 c D1 d hd ⟨o A,r,λ_=>(H:0<32)⟩ k h.dm).m λe m ⟨a,b⟩=>⟨⟨_,[],a,⟨o ⟨J,0,A,A⟩,.none _ _ _ _⟩,R,R,A⟩,b⟩⟩,b⟩
def agl (f:L)(o j B:D)(U:(Pt.leaf o P1 V1).At f)(X:B<=(f:D))(Z:iQ f B j []):Y N 174 #[V j,(Pt.leaf o P1 V1).cm] f λb a=>b=O T1/\iQ a B j []/\ρ B f a:=by
 let⟨e,s,v,p,n,c,x,w⟩:=Pt.wY (T:=.leaf o P1 V1) R;rw[p];have P:=y (Y N s #[v,V j] f λb a=>(∃z,b=Γ z/\ct z D1)/\ρ f f a) (by
  rw[<-n,<-c]
  exact xw o P1 V1 j f U)
 have M:=F (W Z X);go_enter func174,ntmps174;go_wp2_with fail;go_call P.o as b r ⟨⟨z,rfl,hd⟩,b1⟩;have d:=F (Yg z hd r);have J:=F b1;go_wp2_with ((with_reducible go_call d.o as b u ⟨rfl,h⟩);have K:=F (J.o.t (h.m J.o.z)));go_ret;exact⟨A,M.1.aE K.o,K.o.m M.2⟩
def agm:Fst (bn ⟨#[128]⟩) [C1] T1 C1:=⟨A,A,r,A,r,λg b e B _ a c d=>by
 rw[show Nib.bK (Nib.cU C1.fe.data.toList)=P1 from abm] at *
 exact agl g b e B a c d⟩
end Go.Proofs.YtajnhfklchlahaaGreatDoor
