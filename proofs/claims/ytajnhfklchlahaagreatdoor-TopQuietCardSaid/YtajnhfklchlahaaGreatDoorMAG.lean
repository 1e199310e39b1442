import Derived.Test.YtajnhfklchlahaaGreatDoorMAC
import Derived.Test.YtajnhfklchlahaaGreatDoorMAF
set_option linter.all false
set_option maxHeartbeats 3200000
set_option maxRecDepth 100000
namespace Go.Proofs.YtajnhfklchlahaaGreatDoor
open Go.Proofs.Tryz Go.RowKit Go.Stop Go.Extern Go.Shelf
open Bool renaming false->σ,true->ψ,false->X,true->U
open Go.Instr renaming typeAssert->Kf
open Go.IntKind renaming i64->η,i64->u
open Go.Obj renaming cells->θ,cells->K
open Go.Proofs.Tryz renaming prog->γ,prog->N
open Go.Result renaming ok->Je
open Go.RowKit renaming Below->ρ,Below->T,Hid->Φ,intOf->QI
open Go renaming TypeId->Λ,Value->π,World->ν,Value->S,World->L,Calls->τ,Ending->He,Calls->Y,binOp->Xc,run_underlying->Xo,Oper->Le,Operand->Kg,wpList->Ji,bodyPost_ret->QM,wpList_store_row->Xw,run_loadVar_row->XH,execOp->Xb,wpListIn->Xn,wpList_load_row->XK,Addr->JM
open Go.Value renaming iface->Δ,nilIface->ω,tuple->χ,bool->z,string->O,tuple->f,agg->Γ,pointer->ξ,agg->t,int->Z,pointer->V,oneCell'->φ,ownBlock->Ψ,slice->P
open List renaming replicate->Jr
open Option renaming none->ζ,some->δ,none->J,some->M
open _root_ renaming rfl->A,ByteArray->B,Int->C,Nat->D,List->E,Array->Q,Array->QF,False->QZ,or_false->Xf,and_true->QW
open YtajnhfklchlahaaGreatDoor renaming ϑ->G,om->H,QD->d,Qz->e,Ga->F,sm->R,dc->r,QC->y,eS->I
open Go.Ending renaming returned->ι
open Go.Extern.ReflectliteType renaming typeOf->Ko
open Or renaming inl->Ξ,inr->Θ,inl->o,inr->j
open And renaming intro->W
variable {w q a i:Nat}{g s l:ν}{h:Array π}{m:π}{c:Int}{p:Λ}
namespace Ls
structure Se where
 id:C
 aG:C
 dl:C
 cf:C
 s0:C
 r0:B
 s1:C
 r1:B
 st:C
def Se.cs (f:Se):E S:=[G f.id,G f.aG,G f.dl,G f.cf,G f.s0,O f.r0,G f.s1,O f.r1,G f.st]
def jQ:Se:=⟨0,0,0,0,0,⟨#[]⟩,0,⟨#[]⟩,0⟩
def Se.cB (f:Se):f.cs.length=9:=rfl
structure Tb where
 most:C
 gM:C
 ls:E Se
 cK:C
 dx:E C
 eu:C
def Tb.eC (T:Tb):E Se:=T.ls++Jr (4-T.ls.length) jQ
def Tb.cs (T:Tb):E S:=G T.most::G T.gM::(T.eC.flatMap Se.cs++(G (T.ls.length:C)::G T.cK::(T.dx.map (λa=>G a)++[G T.eu])))
structure cc (w:L)(t:D)(T:Tb):Prop where
 bO:w.heap[t]?=K T.cs.toArray 149
 cB:T.ls.length<=4
 dx:T.dx.length=8
variable {w w':ν}{t:Nat}{T:Tb}
def cc.aE (f:cc w t T)(j:ρ w w w'):cc w' t T:=⟨j.ke f.bO,f.cB,f.dx⟩
def cc.nS (f:cc w t T):(T.eC:D)=4:=by
 have:=f.cB;simp[Tb.eC,Gk,LJ];omega
def rV (a:E Se):(a.flatMap Se.cs:D)=(a:D)*9:=by
 induction a with
 |nil=>rfl
 |cons c a b=>rw[GV,Gk,b,Se.cB,Gx];omega
def sR {f:D}{j:Se}(o:T.ls[f]?=j):T.eC[f]?=j:=by
 rwa[Tb.eC,Ir (Gg.1 o).1]
def VU {o:E Se}{j f:D}{u:Se}(A:o[j]?=u)(z:f<9):(o.flatMap Se.cs)[j*9+f]?=u.cs[f]?:=hP (enc:=Se.cs) (s:=9) (λ_=>rfl) o j u f A z
def cc.eP (u:cc w t T){f j:D}{x:Se}(o:T.ls[f]?=x)(z:j<9):w (t,2+f*9+j)=x.cs[j]?:=by
 rw[QH u.bO,KT,show 2+f*9+j=f*9+j+1+1 by omega];simp only[Tb.cs,Hm];have A:=(Gg.1 (sR o)).1;rw[Ir (by rw[rV];omega),VU (sR o) z]
def cc.uA (j:cc w t T):w t=T.most/\w (t,1)=T.gM/\w (t,38)=((T.ls:D):C)/\w (t,39)=T.cK/\w (t,48)=T.eu:=by
 have z:=j.nS;have u:=j.dx;have f:∀d,w ⟨t,d,J⟩=T.cs[d]?:=λd=>by rw[QH j.bO,KT]
 have o:(T.eC.flatMap Se.cs:D)=36:=by rw[rV,z]
 refine⟨by rw[f];rfl,by rw[f];rfl,?_,?_,?_⟩
 .rw[f];simp only[Tb.cs,Hm];rw[Jj H,o];rfl
 .rw[f];simp only[Tb.cs,Hm];rw[Jj H,o];rfl
 rw[f];simp only[Tb.cs,Hm];rw[Jj H,o];simp only[Nat.reduceSub,Hm];rw[Jj (by simp[u]),Hp,u];rfl
def cc.adb (j:cc w t T){f:D}(K:f<8):∃J,w (t,40+f)=G J:=by
 have z:=j.nS;have o:=j.dx;have u:(T.eC.flatMap Se.cs).length=36:=by rw[rV,z]
 rw[QH j.bO,KT,show 40+f=f+38+1+1 by omega];simp only[Tb.cs,Hm];rw[Jj H,u,show f+38-36=f+1+1 by omega];simp only[Hm];rw[Ir (by simp[o];omega),Ip,Gf H];exact⟨_,A⟩
def uB {i j:D}{x x':Se}{v:S}(O:(T.ls:D)<=4)(o:T.ls[i]?=x)(M:j<9)(K:x'.cs=x.cs.set j v):T.cs.set (2+i*9+j) v=({T with ls:=T.ls.set i x'}:Tb).cs:=by
 have z:=(Gg.1 o).1;have J:({T with ls:=T.ls.set i x'}:Tb).eC=T.eC.set i x':=by
  simp only[Tb.eC,KM];rw[LQ _ _ z]
 have u:∀(a:E Se) (i:D),a[i]?=x->(a.flatMap Se.cs).set (i*9+j) v=(a.set i x').flatMap Se.cs:=λa=>by
  induction a with
  |nil=>intro i f;simp at f
  |cons n a k=>
   intro i f;cases i with
   |zero=>
    cases Gm f;rw[GV,Gw,GV,K,LQ _ _ (by rw[Se.cB];omega),Lf,GU]
   |succ i=>
    rw[GV,Gn,GV,<-k i (sU f),IC _ _ (by rw[Se.cB];omega),Se.cB];congr 2;omega
 rw[(H:2+i*9+j=i*9+j+1+1)];simp only[Tb.cs,Gn,KM,J];have A:i*9+j<(T.eC.flatMap Se.cs:D):=by
  have:=(Gg.1 (sR o)).1;rw[rV];omega
 rw[LQ _ _ A,u _ _ (sR o)]
def cc.lQ (f:cc w t T){i j:D}{x x':Se}{v:S}(z:T.ls[i]?=x)(o:j<9)(u:x'.cs=x.cs.set j v):
 cc (w.setCell (t,2+i*9+j) v) t {T with ls:=T.ls.set i x'}:=by
 refine⟨?_,by simpa using f.cB,f.dx⟩;rw[(aF (j:=2+i*9+j) v f.bO).at_,Gi,uB f.cB z o u]
def cc.ek (o:cc w t T)(f:D)(j:S):aL (· =t) w (w.setCell (t,f) j):=(aL.bQ (· =t) w).bV (p:=⟨t,f,J⟩) (λ_=>rfl) j
def cc.oR (j:cc w t T)(f:D):w.frozen? (t,f)=X:=aI j.bO f
end Ls
def VV (o:S)(j:Λ)(w:L):(Kf (Δ 433 o) j 313 U).run N w=Je (f #[ω,z X]) w:=run_typeAssert_lacksB underlying313 e e o j w
def Db (j:S)(o:Λ)(w:L):(Kf (Δ 433 j) o 316 U).run N w=Je (f #[Δ 433 j,z U]) w:=run_typeAssert_hasB LY e j o w
def Dc (f:S)(w:L):(Go.method 674 433 f "Unwrap").run N w=Je (403,f) w:=e
def eB (id f:C):S:=Δ 433 (t #[G id,Δ 27 (G f)])
def Mf (id f j:C)(a:L):
 Y N 100 #[Δ 433 (t #[G id,Δ 27 (G f)]),Δ 27 (G j),z U] a λb g=>b=z (f==j)/\T a a g:=by
 have u:=qL f j;have W:=OX;have X:=qK;have Z:=oF;have O:=VV;have P:=Db;have V:=Dc;have M:=λa=>run_eql_iface_types (P:=N) 433 27 (t #[G id,Δ 27 (G f)]) (G j) IW r a;have J:=kt;have K:=λa=>iC f a;cases o:(f==j);all_goals
  rw[o] at u;go_enter func100,ntmps100;go_wp2_with fail;refine wp_loop_rounds 2 ?_;rw[rounds_succ];go_wp2;rw[rounds_succ];go_wp2;go_ret;exact⟨A,by go_grown⟩
def EJ (id f o:C)(j:L):Y N 50 #[eB id f,Δ 27 (G o)] j λa d=>a=z (f==o)/\T j j d:=by
 have J:=@run_callFunc_extern N 99 _ Ko NI e e e e;have u:=@run_callFunc_extern N 386 _ UZ func386 e e e e;have M:=th;have t:=lC;have K:=gT;unfold eB;go_enter func50,ntmps50;go_wp2_with (first|(with_reducible go_call Mf _ _ _ _ as f d ⟨rfl,b1⟩));go_ret;exact⟨A,b1⟩
def jz (id f:C)(u:f=5\/f=6)(a:L):Y N 204 #[eB id f] a λd c=>d=G f/\T a a c:=by
 have J:∀a,(Xc .eql 110 (Δ 433 (t #[G id,Δ 27 (G f)])) ω).run N a=Je (z X) a:=λa=>by
  have o:∀b:D,(Op.equalIn (b+1) 110 (Δ 433 (t #[G id,Δ 27 (G f)])) ω).run N a=Je X a:=λb=>by simp[Op.equalIn,Xo IW]
  simp only[Xc];simp[Op.equal,Op.maxDepth,o 9999]
 rcases u with rfl|rfl
 .have j:=y (∀a,Y N 50 #[Δ 433 (t #[G id,Δ 27 (G 5)]),Δ 27 (G 6)] a λd c=>d=z X/\T a a c) (λa=>EJ id 5 6 a);unfold eB;go_enter func204,ntmps204;go_wp2_with (with_reducible go_call j.o _ as f c ⟨rfl,b1⟩);go_ret;exact⟨A,b1⟩
 have j:=y (∀a,Y N 50 #[Δ 433 (t #[G id,Δ 27 (G 6)]),Δ 27 (G 6)] a λd c=>d=z U/\T a a c) (λa=>EJ id 6 6 a);unfold eB;go_enter func204,ntmps204;go_wp2_with (with_reducible go_call j.o _ as f c ⟨rfl,b1⟩);go_ret;exact⟨A,b1⟩
namespace Ls
def ko (K:D)(t:Tb)(id:C)(A:Se->Prop)(u:He):Prop:=(∃z j,t.ls[z]?=M j/\j.id=id/\A j/\u=f #[V (M ⟨K,2+z*9,J⟩),ω])\/
 (∃o:C,(o=5\/o=6)/\u=f #[V J,eB id o]/\∀j∈t.ls,j.id=id->¬A j)
def ra (K:D)(u:Tb)(id:C)(O:L)(z:cc O K u):
 Y N 252 #[V K,id] O λq a=>ko K u id (λ_=>True) q/\T O O a:=by
 obtain⟨-,-,c,-,-⟩:=z.uA;have w:=z.cB;have p:=F z;go_enter func252,ntmps252;go_wp2;go_loopw [11] (λiv wr=>∃t:D,t<=u.ls.length/\iv=G t/\wr=O/\Φ (∀b∈u.ls.take t,b.id≠id)) (λiv _=>u.ls.length-(QI iv).toNat)
 .exact⟨0,by omega,A,A,F R⟩
 obtain⟨t,v,rfl,rfl,U⟩:=hrel;by_cases s:t<u.ls.length
 .obtain⟨b,g⟩:∃b,u.ls[t]?=M b:=⟨_,Gf s⟩;have d:wr (K,2+t*9)=G b.id:=p.o.eP (j:=0) g H;have x:t<4:=H;have W:=F g;cases X:(b.id==id) with
  |true=>
   have P:=y (ko K u id (λ_=>True) (ι (f #[V (K,2+t*9),ω]))) (Ξ ⟨t,b,W.o,by simpa using X,trivial,A⟩);go_wp2;go_ret2;exact⟨P.o,QG⟩
  |false=>
   have Z:=y (b.id≠id) (by simpa using X);go_wp2;go_roundw
   .exact⟨t+1,by omega,by go_num,trivial,F λn m=>by
    rw[KX,W.o] at m
    rcases GO.1 m with z|z
    .exact U.o n z
    obtain rfl:n=b:=by simpa using z
    exact Z.o⟩
   simp[QI];omega
 obtain rfl:t=u.ls.length:=H;have P:=y (ko K u id (λ_=>True) (ι (f #[V J,eB id 5]))) (Θ ⟨5,Ξ A,A,λb g r=>absurd r (U.o b (by rwa[Iy]))⟩);go_wp2;go_ret2;exact⟨P.o,QG⟩
end Ls
namespace Ls
structure Tb.Ok (T:Tb):Prop where
 most:1<=T.most/\T.most<=4
 gM:1<=T.gM/\T.gM<=1000
 cB:(T.ls.length:C)<=T.most
 st:∀x∈T.ls,0<=x.st/\x.st<=2
 cK:0<=T.cK/\T.cK<=1048576
 eu:0<=T.eu/\T.eu+T.ls.length<=T.cK
 kx:T.ls.Pairwise λa b=>a.id<b.id
 ZO:∀x∈T.ls,1<=x.id/\x.id<=T.cK
def Tb.Ok.Su {f:Tb}(j:f.Ok):0<=f.eu/\f.eu<=1048576:=by have:=j.eu;have:=j.cK;omega
def Tb.Ok.afd {f:Tb}(V:f.Ok){z A:Se}(X:z∈f.ls)(Z:A∈f.ls)(r:A.id=z.id):A=z:=by
 have W:=V.kx;obtain⟨t,J⟩:=GI.1 X;obtain⟨u,j⟩:=GI.1 Z;obtain⟨K,M⟩:=Gg.1 J;obtain⟨O,P⟩:=Gg.1 j;have U:=JU.1 W;rcases PH t u with o|rfl|o
 .have:=U t u K O o;rw[M,P] at this;omega
 .rw[J] at j;exact(Gm j).s
 have:=U u t O K o;rw[M,P] at this;omega
def pW (K:D)(o:Tb)(id O:Int)(a:ν)(P:cc a K o)(l:o.Ok):
 τ N 203 #[V K,id,O] a λe k=>ko K o id (λb=>O<b.dl) e/\ρ a a k:=by
 have B:=F (ra K o id a P);have m:=F P;have d:=F l;go_enter func203,ntmps203;go_wp2_with fail;go_call B.o as e A ⟨C,b1⟩;have q:=F (m.o.aE b1);have U:=F b1;rcases C with⟨u,b,s,w,-,rfl⟩|⟨n,g,rfl,E⟩
 .have I:A (K,2+u*9+2)=G b.dl:=q.o.eP (j:=2) s H;have Z:=F (W s w);have a0:∀a,(Xc .neq 110 ω ω).run N a=Je (z X) a:=λa=>by kernel_rfl
  by_cases hd:b.dl<=O
  .have M:=y (ko K o id (λb=>O<b.dl) (ι (f #[V J,eB id 6]))) (Θ ⟨6,Θ rfl,rfl,λc i h=>by
    obtain rfl:=d.o.afd (Gl Z.1) i (h.t Z.2.s)
    omega⟩)
   go_wp2;go_ret2;exact⟨M.o,U.o⟩
  have M:=y (ko K o id (λb=>O<b.dl) (ι (f #[V (K,2+u*9),ω]))) (Ξ ⟨u,b,Z.1,Z.2,by omega,rfl⟩);go_wp2;go_ret2;exact⟨M.o,U.o⟩
 have L:=q.o.uA.2.2.2.2;have T:∀a,(Xc .neq 110 (Δ 433 (Γ #[G id,Δ 27 (G n)])) ω).run N a=Je (z ψ) a:=λa=>by
  have P:∀r:D,(Op.equalIn (r+1) 110 (Δ 433 (Γ #[G id,Δ 27 (G n)])) ω).run N a=Je X a:=λr=>by simp[Op.equalIn,Xo IW]
  simp only[Xc];simp[Op.equal,Op.maxDepth,P 9999]
 have p:=F (W g E);have h:=d.o.Su;unfold eB;go_wp2;go_loopw [24] (λiv wr=>∃u:D,(u:Int)<=min o.eu 8/\iv=G u/\wr=A) (λiv _=>8-(QI iv).toNat)
 .exact⟨0,by omega,rfl,rfl⟩
 obtain⟨u,R,rfl,rfl⟩:=hrel;by_cases S:(u:Int)<min o.eu 8
 .have v:u<8:=H;obtain⟨x,Y⟩:=q.o.adb v;cases Q:(x==id) with
  |true=>
   have M:=y (ko K o id (λb=>O<b.dl) (ι (f #[V J,eB id 6]))) (Θ ⟨6,Θ rfl,rfl,λc i h=>absurd trivial (p.2 c i h)⟩);go_wp2;go_ret2;exact⟨M.o,U.o⟩
  |false=>
   go_wp2;go_roundw
   .exact⟨u+1,by omega,by go_num,trivial⟩
   simp[QI];omega
 have M:=y (ko K o id (λb=>O<b.dl) (ι (f #[V J,eB id n]))) (Θ ⟨n,p.1,rfl,λc i h=>absurd trivial (p.2 c i h)⟩);go_wp2;go_ret2;exact⟨M.o,U.o⟩
end Ls
def yv:TypeDesc->Bool
 |.struct _=>U
 |.array _ _=>U
 |_=>X
def uC {f:Λ}{z:TypeDesc}{w:L}{u:D}{j:QF S}{M:Λ}{J:D×D}(O:w.heap[u]?=K j M J)(hd:yv z=U)(V:N.underlying f=z)(P:(N.info? f).map (·.size)=j.size):
 (loadVar f u).run N w=Je (t j) w:=by
 cases z with
 |struct k=>exact XH w u M f j J _ O V A P
 |array m l=>exact XH w u M f j J _ O V A P
 |_=>cases hd
def fB {M:Func}{A O:Tmp}{t:Λ}{J:TypeDesc}(P:M.results=#[.cell A t,.tmp O]){j:QF S}{w:L}{z:D}{u:QF S}{r:Λ}{W:D×D}(n:j.getD A undef=V z)
 (X:w.heap[z]?=K u r W) (hd:yv J=U) (q:N.underlying t=J) (Z:(N.info? t).map (·.size)=u.size):
 (results M j).run N w=Je (f #[u,j.getD O undef]) w:=by
 have p:j[A]?.getD undef=V z:=by simpa using n
 simp[results,P,p,asAddr,uC X hd q Z]
def yw:(N.info? 140).map (·.size)=M 4:=e
section
variable {ops:Array Le}{rest:List Le}{o:Le}{a:Act}{w:ν}{Q:Exit->Act->ν->Prop}
def EK (m:o.guard=J)(A M:Kg)(n:o.op=.store 140 A M)(j:D)(q:a.eval A=V j)(f:QF S)(P:f.size=4)(Z:f.all (·.oneCell')=U)(r:a.eval M=t f)(z:Λ)(u:QF S)(p:u.size=4)
 (O:w.heap[j]?=K u z) (X:∀W,bd w W j (K f z)->Ji N ops Q rest (a.put o.dst undef) W):Ji N ops Q (o::rest) a w:=
 Xw m 140 A M n j f q r z u O (by rw[P];exact yw) (by rw[p,P]) Z (X _ (dk O))
end
def gA (id f:C)(w:L):(Xc .neq 110 (Δ 433 (t #[G id,Δ 27 (G f)])) ω).run N w=Je (z U) w:=by
 have j:∀b:D,(Op.equalIn (b+1) 110 (Δ 433 (t #[G id,Δ 27 (G f)])) ω).run N w=Je X w:=λb=>by simp[Op.equalIn,Xo IW]
 simp only[Xc];simp[Op.equal,Op.maxDepth,j 9999]
def fg (w:L):(Xc .neq 110 ω ω).run N w=Je (z X) w:=e
namespace Ls
def yx (z:Tb)(id A:C)(J:He):Prop:=(∃j∈z.ls,j.id=id/\A<j.dl/\J=f #[t #[G j.id,G j.aG,G j.dl,G j.cf],G 0])\/
 ∃u:C,(u=5\/u=6)/\(∀j∈z.ls,j.id=id->¬A<j.dl)/\J=f #[t #[G 0,G 0,G 0,G 0],G u]
theorem AA (u:D)(z:Tb)(id K:C)(w:ν)(x:cc w u z)(n:z.Ok):
 τ γ 149 #[ξ u,ϑ id,ϑ K] w λr B=>yx z id K r/\ρ w w B:=by
 obtain⟨I,T,V⟩:=aU w (θ #[ϑ 0,ϑ 0,ϑ 0,ϑ 0] 140);have L:=F (pW u z id K I (x.aE V.aE) n);have m:=F x;have e:=F V.aE;have N:=V.at_;go_enter func149,ntmps149;go_wp2_with fail;go_call L.o as r g ⟨G,k⟩;have Z:=Below.ke k N;have M:=F (e.o.t (k.m e.o.z));have O:=F (m.o.aE M.o);rcases G with⟨P,j,J,v,hd,rfl⟩|⟨U,X,rfl,h⟩
 .have Y:g (u,2+P*9)=j.id:=O.o.eP (j:=0) J H;have a0:g (u,2+P*9+1)=j.aG:=O.o.eP (j:=1) J H;have R:g (u,2+P*9+2)=j.dl:=O.o.eP (j:=2) J H;have S:g (u,2+P*9+3)=j.cf:=O.o.eP (j:=3) J H;have W:=y (yx z id K (ι (f #[Γ #[ϑ j.id,ϑ j.aG,ϑ j.dl,ϑ j.cf],ϑ 0]))) (Ξ ⟨j,Gl J,v,hd,A⟩);have s:=fg;clear J v hd;go_wp2_with (refine EK A _ _ A w.heap.size A #[ϑ j.id,ϑ j.aG,ϑ j.dl,ϑ j.cf] A (by simp[φ]) A 140 _ A Z ?_;intro q b);refine QM (fB A A b.at_ A LZ yw) A ?_;exact⟨W.o,b.aE _ _ d M.o⟩
 have s:=gA id U;have E:=F (λw=>jz id U X w);have W:=y (yx z id K (ι (f #[Γ #[ϑ 0,ϑ 0,ϑ 0,ϑ 0],ϑ U]))) (Θ ⟨U,X,h,A⟩);clear X h;unfold eB at *;go_wp2_with (first|((with_reducible go_call E.o _ as r q ⟨rfl,l⟩);have p:=Below.ke l Z;have i:=F (M.o.t (l.m M.o.z));clear l)|(refine EK A _ _ A w.heap.size A #[ϑ 0,ϑ 0,ϑ 0,ϑ 0] A (by simp[φ]) A 140 _ A p ?_;intro a1 c));refine QM (fB A A c.at_ A LZ yw) A ?_;exact⟨W.o,c.aE _ _ d i.o⟩
def uD (w:L)(K:D)(f:Tb)(id z:C)(A:He)(u:L):Prop:=(∃J j,f.ls[J]?=M j/\j.id=id/\z<j.dl/\cc u K {f with ls:=f.ls.set J {j with dl:=z+f.gM}}/\aL (· =K) w u/\A=G 0)\/
 ∃t:C,(t=5\/t=6)/\A=G t/\T w w u
def Mg (z:D)(t:Tb)(id f:C)(w:L)(W:cc w z t)(Z:t.Ok)(p:0<=f/\f<=1073741824):
 Y N 250 #[V z,id,f] w (uD w z t id f):=by
 have g:=F (pW z t id f w W Z);have d:=F W;have q:=Z.gM;go_enter func250,ntmps250;go_wp2_with fail;go_call g.o as k u ⟨A,h⟩;have P:=F h;have J:=F (d.o.aE h);rcases A with⟨K,b,O,x,hd,rfl⟩|⟨M,X,rfl,i⟩
 .have l:u (z,2+K*9+2)=b.dl:=J.o.eP (j:=2) O H;have B:=J.o.uA.2.1;have m:=J.o.oR (2+K*9+2);have r:η.wrap (f+t.gM)=f+t.gM:=QQ H;have U:=y (uD w z t id f (ι (G 0)) (u.setCell (z,2+K*9+2) (G (f+t.gM)))) (Ξ ⟨K,b,O,x,hd,J.o.lQ (j:=2) O H rfl,(aL.aE P.o _).aJ (J.o.ek _ _),rfl⟩);have e:=fg;go_wp2;go_ret;exact U.o
 have e:=gA id M;have E:=F (λw=>jz id M X w);have U:=y (∀n,T w w n->uD w z t id f (ι M) n) (λn v=>Θ ⟨M,X,rfl,v⟩);unfold eB at *;go_wp2_with ((with_reducible go_call E.o _ as k I ⟨rfl,s⟩);have c:=F (P.o.t (s.m P.o.z)));go_ret;exact U.o _ c.o
def uE (w:L)(O:D)(t:Tb)(id P A:C)(J:He)(z:L):Prop:=(∃K j,t.ls[K]?=M j/\j.id=id/\A<j.dl/\cc z O {t with ls:=t.ls.set K {j with aG:=P}}/\aL (· =O) w z/\J=f #[G j.aG,G 0])\/
 ∃u:C,(u=5\/u=6)/\J=f #[G 0,u]/\(∀j∈t.ls,j.id=id->¬A<j.dl)/\T w w z
def re (t:D)(u:Tb)(id J z:Int)(w:L)(Z:cc w t u)(c:u.Ok):
 Y N 303 #[V t,id,J,z] w (uE w t u id J z):=by
 have i:=F (pW t u id z w Z c);have e:=F Z;go_enter func303,ntmps303;go_wp2_with fail;go_call i.o as k v ⟨C,A⟩;have P:=F A;have K:=F (e.o.aE A);rcases C with⟨M,X,W,x,hd,rfl⟩|⟨O,s,rfl,b⟩
 .have m:v (t,2+M*9+1)=X.aG:=K.o.eP (j:=1) W H;have I:=K.o.oR (2+M*9+1);have U:=y (uE w t u id J z (ι (f #[X.aG,G 0])) (v.setCell (t,2+M*9+1) (G J))) (Ξ ⟨M,X,W,x,hd,K.o.lQ (j:=1) W H rfl,(aL.aE P.o _).aJ (K.o.ek _ _),rfl⟩);have l:=fg;go_wp2;go_ret2;exact U.o
 have l:=gA id O;have g:=F (λw=>jz id O s w);have U:=y (∀n,T w w n->uE w t u id J z (ι (f #[G 0,O])) n) (λn h=>Θ ⟨O,s,rfl,b,h⟩);unfold eB at *;go_wp2_with ((with_reducible go_call g.o _ as k E ⟨rfl,r⟩);have d:=F (P.o.t (r.m P.o.z)));go_ret2;exact U.o _ d.o
end Ls
section
structure pX (t n:D):Prop where
 d:∃d,yv d=U/\N.underlying t=M d
 aH:(N.info? t).map (·.size)=n
variable {ops:Array Le}{rest:List Le}{o:Le}{a:Act}{w:ν}{Q:Exit->Act->ν->Prop}{t n g:Nat}{cs z:Array π}{e:Λ}{fr:Nat×Nat}
def EL (O:pX t n)(X:o.guard=J)(f j:Kg)(Z:o.op=.store t f j)(q:a.eval f=V g)(r:a.eval j=Γ cs)(A:cs.size=n)(W:cs.all (·.oneCell')=U)(p:z.size=n)
 (u:w.heap[g]?=K z e (0,0)) (P:∀M,bd w M g (K cs e (0,0))->Ji N ops Q rest (a.put o.dst undef) M):Ji N ops Q (o::rest) a w:=
 Xw X t f j Z g cs q r e z u (A▸O.aH) (by rw[p,A]) W (P _ (dk u))
def zw (j:pX t n)(M:o.guard=J)(f:Kg)(O:o.op=.load t f)(U:a.eval f=V g)(P:cs.size=n)(A:w.heap[g]?=K cs e fr)
 (u:Ji N ops Q rest (a.put o.dst (Γ cs)) w):Ji N ops Q (o::rest) a w:=by
 let⟨d,hd,l⟩:=j.d;refine XK M t f O g U e cs fr d A l ?_ (P▸j.aH) u;cases d<;>first|rfl|cases hd
def xj {f:Fence}{O:D}(X:pX t n)(s:o.guard=J)(P W:Kg)(j:o.op=.store t P W)(v:a.eval P=V g)(x:a.eval W=Γ cs)(A:cs.size=n)(p:cs.all (·.oneCell')=U)(b:z.size=n)
 (u:w.heap[g]?=K z e (0,0)) (Z:∀M,bd w M g (K cs e (0,0))->Xn f O N ops Q rest (a.put o.dst undef) M):Xn f O N ops Q (o::rest) a w:=by
 refine wpListIn_plain s λc q=>?_;unfold Oper.wpIn;refine⟨by simp[Oper.about,j],?_⟩;rw[Oper.semAt_plain f _ _ (by rw[j];intro y r;cases r)];simp only[Xb,j,v,x,Instr.storeAt,Instr.sureAddr,IE,Kb,Kv,run_storeVar_row w g e t z cs u (A▸X.aH) (by rw[b,A]) p];exact q _ _ (Z _ (dk u))
def EM {j:Fence}{A:D}(u:pX t n)(P:o.guard=J)(f:Kg)(U:o.op=.load t f)(X:a.eval f=V g)(W:cs.size=n)(O:w.heap[g]?=K cs e fr)
 (M:Xn j A N ops Q rest (a.put o.dst (Γ cs)) w):Xn j A N ops Q (o::rest) a w:=by
 let⟨b,hd,p⟩:=u.d;refine hH P t f U g X e cs fr b O p ?_ (W▸u.aH) M;cases b<;>first|rfl|cases hd
def YD (u:pX t n){A:Func}{J M:Tmp}(O:A.results=#[.cell J t,.tmp M]){j:QF S}(U:j.getD J undef=V g)(W:cs.size=n)(P:w.heap[g]?=K cs e fr):
 (results A j).run N w=Je (f #[cs,j.getD M undef]) w:=let⟨p,hd,m⟩:=u.d;fB O U P hd m (W▸u.aH)
def EN {t n:D}{cs:QF S}{e:Λ}{fr:D×D}{j:D}(u:pX t n){A:Func}{J:Tmp}(M:A.results=#[.cell J t]){f:QF S}(P:f.getD J undef=V j)(U:cs.size=n)(O:w.heap[j]?=K cs e fr):
 (results A f).run N w=Je (Γ cs) w:=by
 let⟨h,hd,p⟩:=u.d;refine results_cell_row M f w j e cs fr h P O p ?_ (U▸u.aH);cases h<;>first|rfl|cases hd
def fC:pX 281 19:=⟨⟨_,A,Jn⟩,hT⟩
def Sv:pX 73 2:=⟨⟨_,A,underlying73⟩,by kernel_rfl⟩
end
section
variable {ops:Array Le}{rest:List Le}{o:Le}{a:Act}{w:ν}{Q:Exit->Act->ν->Prop}{t n g:Nat}{cs old:Array π}{e:Λ}{fr:Nat×Nat}
theorem ia (z:pX t n)(M:w.heap[g]?=K old e (0,0))(O:∀u,bd w u g (K cs e (0,0))->Ji N ops Q rest (a.put o.dst undef) u)(P:o.guard=J:=by exact A){f j:Kg}(W:o.op=.store t f j:=by exact A)(Z:a.eval f=V g:=by exact A)(r:a.eval j=Γ cs:=by exact A)(c:cs.size=n:=by exact A)(h:cs.all (·.oneCell')=U:=by simp[φ])(X:old.size=n:=by exact A):Ji N ops Q (o::rest) a w:=EL z P f j W Z r c h X M O
theorem oc (j:pX t n)(z:w.heap[g]?=K cs e fr)(u:Ji N ops Q rest (a.put o.dst (Γ cs)) w)(M:o.guard=J:=by exact A){f:Kg}(O:o.op=.load t f:=by exact A)(P:a.eval f=V g:=by exact A)(i:cs.size=n:=by exact A):Ji N ops Q (o::rest) a w:=zw j M f O P i z u
theorem qG {u:He→L→Prop}{z:Func}(O:pX t n)(W:w.heap[g]?=K cs e fr){J M:Tmp}(Z:u (ι (f #[Γ cs,a.tmps.getD M undef])) w)(U:z.results=#[.cell J t,.tmp M]:=by exact A)(X:a.tmps.getD J undef=V g:=by exact A)(j:cs.size=n:=by exact A)(P:a.defers=[]:=by exact A):bodyPost N z u Exit.ret a w:=QM (YD O U X j W) P Z
end
def Tl:hD 42 140 4:=.of (z:=t #[G 0,G 0,G 0,G 0]) (bytes:=32) underlying42 e r A r
namespace Ls
def cc.fR {t:Tb}(o:cc g w t){f:Se}(j:t.ls[q]?=f)(P:a<2):(∃K,g (w,2+q*9+4+a*2)=G K)/\∃M,g (w,2+q*9+4+a*2+1)=O M:=by
 have u:g (w,2+q*9+4)=f.s0:=o.eP (j:=4) j H;have z:g (w,2+q*9+5)=f.r0:=o.eP (j:=5) j H;have A:g (w,2+q*9+6)=f.s1:=o.eP (j:=6) j H;have J:g (w,2+q*9+7)=f.r1:=o.eP (j:=7) j H;rcases(by omega:a=0\/a=1) with rfl|rfl
 .exact⟨⟨_,u⟩,_,z⟩
 exact⟨⟨_,A⟩,_,J⟩
def xB (j:He):Prop:=∃(c:B) (a:C),j=f #[c,a]/\0<=a/\a<=12
def Dx (z:Nat)(K:Tb)(id O:C)(a:L)(U:cc a z K)(i:K.Ok):
 Y γ 205 #[V z,id,O] a λm b=>xB m/\T a a b:=by
 have v:=F (ra z K id a U);have c:=F U;have E:=F i;go_enter func205,ntmps205;go_wp2_with fail;go_call v.o as m h ⟨D,d⟩;have t:=F d;have M:=F (c.o.aE d);rcases D with⟨W,j,J,R,hd,rfl⟩|⟨u,w,rfl,k⟩
 .have l:h (z,2+W*9+3)=j.cf:=M.o.eP (j:=3) J H;have I:h (z,2+W*9+8)=j.st:=M.o.eP (j:=8) J H;have Q:=E.o.st j (Gl J);have e:=F J;have x:=fg;by_cases B:j.cf<O
  .go_wp2;go_ret2;exact⟨⟨_,9,A,H,H⟩,t.o⟩
  go_wp2;go_loopw [32] (λiv wr=>∃f:Nat,(f:C)<=j.st/\iv=G f/\wr=h) (λiv _=>2-(QI iv).toNat)
  .exact⟨0,H,A,A⟩
  obtain⟨f,r,rfl,rfl⟩:=hrel;by_cases N:(f:C)<j.st
  .have g:f<2:=H;let⟨⟨y,n⟩,S,p⟩:=M.o.fR e.o g;cases q:(y==O) with
   |true=>
    go_wp2;go_ret2;exact⟨⟨_,0,A,H,H⟩,t.o⟩
   |false=>
    go_wp2;go_roundw
    .exact⟨f+1,H,gN,tV⟩
    simp[QI];omega
  go_wp2;go_ret2;exact⟨⟨_,7,A,H,H⟩,t.o⟩
 have x:=gA id u;have s:=F (λa=>jz id u w a);have X:=QC (0<=u/\u<=12) H;unfold eB at *;go_wp2_with ((with_reducible go_call s.o _ as m P ⟨rfl,o⟩);have Z:=F (t.o.t (o.m t.o.z)));go_ret2;exact⟨⟨_,u,A,X.1,X.2⟩,Z.o⟩
def qm (t:D)(f:Tb)(j:L)(e:cc j t f)(J:f.Ok):
 Y N 38 #[V t] j λp b=>(∃o:C,p=G o/\0<=o/\o<=8/\(f.ls=[]->o=0))/\T j j b:=by
 let⟨_,_,g,_,_⟩:=e.uA;have x:=e.cB;have P:=F e;have O:=F J;go_enter func38,ntmps38;go_wp2;go_loopw [3,9] (λs iv wr=>∃(a:D) (c:C),a<=(f.ls:D)/\iv=G a/\s=G c/\0<=c/\c<=2*a/\wr=j) (λ_ iv _=>(f.ls:D)-(QI iv).toNat)
 .exact⟨0,0,H,A,A,H,H,A⟩
 obtain⟨a,c,w,rfl,rfl,W,z,rfl⟩:=hrel;by_cases U:a<(f.ls:D)
 .let⟨d,i⟩:∃d,f.ls[a]?=M d:=⟨_,Gf U⟩;have Z:wr (t,2+a*9+8)=G d.st:=P.o.eP (j:=8) i H;have h:=O.o.st d (Gl i);have k:a<4:=H;have X:u.wrap (c+d.st)=c+d.st:=QQ H;go_wp2;go_roundw
  .exact⟨a+1,c+d.st,H,gN,A,H,H,tV⟩
  simp[QI];omega
 obtain rfl:a=(f.ls:D):=H;have K:=y (f.ls=[]->c=0) λe=>by rw[e] at z;simp at z;omega
 go_wp2;go_ret;exact⟨⟨c,A,W,H,K.o⟩,QG⟩
def s4 (f:Se):E S:=[G f.id,G f.aG,G f.dl,G f.cf]
def Ww (t:D)(f:Tb)(j:L)(J:cc j t f):
 Y N 34 #[V t] j λv c=>(∃O,v=ι O/\c.ownsRow j 140 4 O (f.ls:D) (f.ls.flatMap s4))/\T j j c:=by
 let⟨_,_,m,_,_⟩:=J.uA;have s:=J.cB;have K:=F J;go_enter func34,ntmps34;go_wp2_with (at_make;apply YA Tl A _ _ A (f.ls:D) A A H;intro h U b1;have m:=b1.ce m);have n:=F (K.o.aE b1);have d:=F U;have Z:=F b1;go_loopw [3,14] (λx iv wr=>∃(a:D),a<=(f.ls:D)/\iv=G a/\Φ (wr.ownsRow j 140 4 x a ((f.ls.take a).flatMap s4)/\T j j wr)) (λ_ iv _=>(f.ls:D)-(QI iv).toNat)
 .exact⟨0,H,A,F ⟨d.o,Z.o⟩⟩
 obtain⟨a,r,rfl,o⟩:=hrel;by_cases w:a<(f.ls:D)
 .let⟨b,g⟩:∃b,f.ls[a]?=M b:=⟨_,Gf w⟩;have z:=K.o.aE o.2;have k:wr (t,2+a*9)=G b.id:=z.eP (j:=0) g H;have l:wr (t,2+a*9+1)=G b.aG:=z.eP (j:=1) g H;have p:wr (t,2+a*9+2)=G b.dl:=z.eP (j:=2) g H;have I:wr (t,2+a*9+3)=G b.cf:=z.eP (j:=3) g H;have R:a<4:=H;have e:=F g;go_wp2_with (at_builtin;apply aP Tl o.1 o.2.z;intro q i X P);have u:=F (W X (P.cT o.1 o.2 o.2.z));go_roundw
  .exact⟨a+1,H,gN,F ⟨by
   have:=u.1
   rw[KX,e.o,Hj]
   simpa[s4] using this,u.2⟩⟩
  simp[QI];omega
 obtain rfl:a=(f.ls:D):=H;have u:=y (wr.ownsRow j 140 4 u3 (f.ls:D) (f.ls.flatMap s4)/\T j j wr) ⟨by have:=o.1;rwa [Iy] at this,o.2⟩;go_wp2;go_ret;exact⟨⟨_,A,u.1⟩,u.2⟩
end Ls
def bo (j:L)(f:Obj):gJ j (j.alloc f) f:=by
 obtain⟨_,rfl,o⟩:=aU j f;exact o
namespace Ls
def jr (j o:C)(f:L):Y N 21 #[j,o] f λh g=>(∃t,h=V (M ⟨t,0,J⟩)/\f.heap.size<=t/\cc g t ⟨min (max j 1) 4,min (max o 1) 1000,[],0,[0,0,0,0,0,0,0,0],0⟩)/\T f f g:=by
 have u:=bo f (K (Tb.cs ⟨min (max j 1) 4,min (max o 1) 1000,[],0,[0,0,0,0,0,0,0,0],0⟩).toArray 149);have z:=y (cc (f.alloc (K (Tb.cs ⟨min (max j 1) 4,min (max o 1) 1000,[],0,[0,0,0,0,0,0,0,0],0⟩).toArray 149)) f ⟨min (max j 1) 4,min (max o 1) 1000,[],0,[0,0,0,0,0,0,0,0],0⟩/\T f f (f.alloc (K (Tb.cs ⟨min (max j 1) 4,min (max o 1) 1000,[],0,[0,0,0,0,0,0,0,0],0⟩).toArray 149))) ⟨⟨u.at_,by simp,A⟩,u.aE⟩;go_enter func21,ntmps21;go_wp2;go_ret;exact⟨⟨f,A,d,z.1⟩,z.2⟩
end Ls
def Dy (f:L):T 0 f f:=⟨A,A,A,d,λ_ _=>rfl⟩
def bd.only {o:Obj}(j:bd g s w o):aL (· =w) g s:=
 have f:=j.aE 0 g QK (Dy g)
 ⟨f.os,f.tape,f.output,Iu j.aH.s,λa _ b=>j.old a b⟩
def MY (f:L):f.drew.heap=f.heap:=rfl
def lq {b:D×D}(x:g.heap[w]?=K h p b)(j o t u z v f A J:D)(W a X Z s O P U V:S):
 (((((((((g.setCell (w,j) W).setCell (w,o) a).setCell (w,t) X).setCell (w,u) Z).setCell (w,z) s).setCell (w,v) O).setCell (w,f) P).setCell (w,A) U).setCell (w,J) V).drew.heap[w]?=
  M (K (((((((((h.setIfInBounds j W).setIfInBounds o a).setIfInBounds t X).setIfInBounds u Z).setIfInBounds z s).setIfInBounds v O).setIfInBounds f P).setIfInBounds A U).setIfInBounds J V) p b):=by
 have y:=Ms.bJ x j W;have e:=Ms.bJ y o a;have c:=Ms.bJ e t X;have C:=Ms.bJ c u Z;have d:=Ms.bJ C z s;have E:=Ms.bJ d v O;have F:=Ms.bJ E f P;have G:=Ms.bJ F A U;have H:=Ms.bJ G J V;rwa[MY]
def lr (o:aL (· =w) g s)(t u f z A J K M O:D)(X j Z a v P U V W:S):
 aL (· =w) g (((((((((s.setCell (w,t) X).setCell (w,u) j).setCell (w,f) Z).setCell (w,z) a).setCell (w,A) v).setCell (w,J) P).setCell (w,K) U).setCell (w,M) V).setCell (w,O) W).drew:=
 (((((((((o.bV (λ_=>rfl) _).bV (λ_=>rfl) _).bV (λ_=>rfl) _).bV (λ_=>rfl) _).bV (λ_=>rfl) _).bV (λ_=>rfl) _).bV (λ_=>rfl) _).bV (λ_=>rfl) _).bV (λ_=>rfl) _).oG
namespace Ls
def yU (o:L)(z:D)(j:Tb)(J A:C)(u:He)(t:L):Prop:=
 (u=f #[G 0,G 12]/\T o o t/\(j.most<=j.ls.length\/1048576<=j.cK))\/
 (u=f #[G (j.cK+1),G 0]/\cc t z {j with ls:=j.ls++[⟨j.cK+1,J,A+j.gM,0,0,⟨#[]⟩,0,⟨#[]⟩,0⟩],cK:=j.cK+1}/\aL (· =z) o t/\(j.ls.length:C)<j.most/\j.cK<1048576)
def vu (o:D)(b:Tb)(q v:C)(t:ν)(L:cc t o b)(b9:b.Ok)(c4:0<=v/\v<=1073741824):
 τ γ 242 #[ξ o,q,v] t (yU t o b q v):=by
 obtain⟨d1,R,X,m,-⟩:=L.uA;obtain⟨⟨c5,b7⟩,⟨d2,d3⟩,c8,-,⟨c6,c7⟩,-,-,-⟩:=b9;by_cases a:b.most<=(b.ls.length:C)
 .have Y:=y (∀h,yU t o b q v (ι (χ #[G 0,G 12])) (t.drewN h)) (λh=>Ξ ⟨A,((aL.bQ (λ_=>QZ) t).cI h).jn,Ξ a⟩);go_enter NU,NF;go_wp2;go_quiet (fail);go_wp2;go_ret2;exact Y.o _
 by_cases b4:1048576<=b.cK
 .have Y:=y (∀h,yU t o b q v (ι (χ #[G 0,G 12])) (t.drewN h)) (λh=>Ξ ⟨A,((aL.bQ (λ_=>QZ) t).cI h).jn,Θ b4⟩);go_enter NU,NF;go_wp2;go_quiet (fail);go_wp2;go_ret2;exact Y.o _
 obtain⟨p,W,c2,M,b0,c3⟩:=b;obtain⟨O,b6,b5⟩:=L;simp only at *;obtain⟨a3,a4,a5,e3,a6,a7,a8,a9,rfl⟩:∃a3 a4 a5 e3 a6 a7 a8 a9,b0=[a3,a4,a5,e3,a6,a7,a8,a9]:=by
  match b0,b5 with
  |[I,N,a1,b2,b3,c0,c1,L],_=>exact⟨I,N,a1,b2,b3,c0,c1,L,A⟩
 have d4:η.wrap (M+1)=M+1:=QQ om;have d6:η.wrap (v+W)=v+W:=QQ om;match c2,b6 with
 |[],_=>
  replace X:t (o,38)=G 0:=by simpa using X
  replace a:¬p<=0:=by simpa using a
  simp[Tb.cs,Tb.eC,Se.cs,jQ,Jr] at O;go_enter NU,NF;go_wp2;go_quiet (fail);generalize J:t.drewN _=z;have g:z.heap=t.heap:=by rw[<-J];rfl
  rw[<-g] at O;replace R:z (o,1)=G W:=by rwa[<-J]
  replace X:z (o,38)=G 0:=by rwa[<-J]
  replace m:z (o,39)=G M:=by rwa[<-J]
  have d:=y (aL (· =o) t z) (by rw[<-J];exact(aL.bQ _ t).cI _);have T:=aI O 39;have P:=aF (j:=39) (G (M+1)) O;generalize H:z.setCell (o,39) (G (M+1))=Z at P;have l:=F (d.o.aJ P.only);have u:=P.at_;simp at u;have r:=cJ 1 u;have i:=cJ 38 u;have s:=cJ 39 u;go_upto_region 4 with fail;go_quiet (fail);generalize K:Z.drewN _=wr;have e:wr.heap=Z.heap:=by rw[<-K];rfl
  rw[<-e] at u;replace r:wr (o,1)=G W:=by rwa[<-K]
  replace i:wr (o,38)=G 0:=by rwa[<-K]
  replace s:wr (o,39)=G (M+1):=by rwa[<-K]
  have c:=y (aL (· =o) t wr) (by rw[<-K];exact l.o.cI _);have S:=aI u 38;have U:=aF (j:=38) (G 1) u;generalize x:wr.setCell (o,38) (G 1)=V at U;have k:=F (c.o.aJ U.only);have f:=U.at_;simp at f;have w:=F f;replace r:V (o,1)=G W:=cR f A;replace s:V (o,39)=G (M+1):=cR f A;have af:=cJ 2 f;have aa:=cJ 3 f;have ab:=cJ 4 f;have ae:=cJ 5 f;have ag:=cJ 6 f;have ah:=cJ 7 f;have ai:=cJ 8 f;have aj:=cJ 9 f;have a0:=cJ 10 f;have a2:∀n,V.frozen? ⟨o,n,ζ⟩=σ:=λn=>aI f n;clear P U H O f;go_upto_region 6 with fail;clear x;go_region;go_wp2;go_ret2;refine Θ ⟨A,⟨?_,by simp,A⟩,?_,by simp;omega,by simp;omega⟩
  .rw[lq w.o];simp[Tb.cs,Tb.eC,Se.cs,jQ,Jr]
  exact lr k.o _ _ _ _ _ _ _ _ _ _ _ _ _ _ _ _ _ _
 |[I],_=>
  replace X:t (o,38)=G 1:=by simpa using X
  replace a:¬p<=1:=by simpa using a
  simp[Tb.cs,Tb.eC,Se.cs,jQ,Jr] at O;go_enter NU,NF;go_wp2;go_quiet (fail);generalize J:t.drewN _=z;have g:z.heap=t.heap:=by rw[<-J];rfl
  rw[<-g] at O;replace R:z (o,1)=G W:=by rwa[<-J]
  replace X:z (o,38)=G 1:=by rwa[<-J]
  replace m:z (o,39)=G M:=by rwa[<-J]
  have d:=y (aL (· =o) t z) (by rw[<-J];exact(aL.bQ _ t).cI _);have T:=aI O 39;have P:=aF (j:=39) (G (M+1)) O;generalize H:z.setCell (o,39) (G (M+1))=Z at P;have l:=F (d.o.aJ P.only);have u:=P.at_;simp at u;have r:=cJ 1 u;have i:=cJ 38 u;have s:=cJ 39 u;go_upto_region 4 with fail;go_quiet (fail);generalize K:Z.drewN _=wr;have e:wr.heap=Z.heap:=by rw[<-K];rfl
  rw[<-e] at u;replace r:wr (o,1)=G W:=by rwa[<-K]
  replace i:wr (o,38)=G 1:=by rwa[<-K]
  replace s:wr (o,39)=G (M+1):=by rwa[<-K]
  have c:=y (aL (· =o) t wr) (by rw[<-K];exact l.o.cI _);have S:=aI u 38;have U:=aF (j:=38) (G 2) u;generalize x:wr.setCell (o,38) (G 2)=V at U;have k:=F (c.o.aJ U.only);have f:=U.at_;simp at f;have w:=F f;replace r:V (o,1)=G W:=cR f A;replace s:V (o,39)=G (M+1):=cR f A;have af:=cJ 11 f;have aa:=cJ 12 f;have ab:=cJ 13 f;have ae:=cJ 14 f;have ag:=cJ 15 f;have ah:=cJ 16 f;have ai:=cJ 17 f;have aj:=cJ 18 f;have a0:=cJ 19 f;have a2:∀n,V.frozen? ⟨o,n,ζ⟩=σ:=λn=>aI f n;clear P U H O f;go_upto_region 6 with fail;clear x;go_region;go_wp2;go_ret2;refine Θ ⟨A,⟨?_,by simp,A⟩,?_,by simp;omega,by simp;omega⟩
  .rw[lq w.o];simp[Tb.cs,Tb.eC,Se.cs,jQ,Jr]
  exact lr k.o _ _ _ _ _ _ _ _ _ _ _ _ _ _ _ _ _ _
 |[I,N],_=>
  replace X:t (o,38)=G 2:=by simpa using X
  replace a:¬p<=2:=by simpa using a
  simp[Tb.cs,Tb.eC,Se.cs,jQ,Jr] at O;go_enter NU,NF;go_wp2;go_quiet (fail);generalize J:t.drewN _=z;have g:z.heap=t.heap:=by rw[<-J];rfl
  rw[<-g] at O;replace R:z (o,1)=G W:=by rwa[<-J]
  replace X:z (o,38)=G 2:=by rwa[<-J]
  replace m:z (o,39)=G M:=by rwa[<-J]
  have d:=y (aL (· =o) t z) (by rw[<-J];exact(aL.bQ _ t).cI _);have T:=aI O 39;have P:=aF (j:=39) (G (M+1)) O;generalize H:z.setCell (o,39) (G (M+1))=Z at P;have l:=F (d.o.aJ P.only);have u:=P.at_;simp at u;have r:=cJ 1 u;have i:=cJ 38 u;have s:=cJ 39 u;go_upto_region 4 with fail;go_quiet (fail);generalize K:Z.drewN _=wr;have e:wr.heap=Z.heap:=by rw[<-K];rfl
  rw[<-e] at u;replace r:wr (o,1)=G W:=by rwa[<-K]
  replace i:wr (o,38)=G 2:=by rwa[<-K]
  replace s:wr (o,39)=G (M+1):=by rwa[<-K]
  have c:=y (aL (· =o) t wr) (by rw[<-K];exact l.o.cI _);have S:=aI u 38;have U:=aF (j:=38) (G 3) u;generalize x:wr.setCell (o,38) (G 3)=V at U;have k:=F (c.o.aJ U.only);have f:=U.at_;simp at f;have w:=F f;replace r:V (o,1)=G W:=cR f A;replace s:V (o,39)=G (M+1):=cR f A;have af:=cJ 20 f;have aa:=cJ 21 f;have ab:=cJ 22 f;have ae:=cJ 23 f;have ag:=cJ 24 f;have ah:=cJ 25 f;have ai:=cJ 26 f;have aj:=cJ 27 f;have a0:=cJ 28 f;have a2:∀n,V.frozen? ⟨o,n,ζ⟩=σ:=λn=>aI f n;clear P U H O f;go_upto_region 6 with fail;clear x;go_region;go_wp2;go_ret2;refine Θ ⟨A,⟨?_,by simp,A⟩,?_,by simp;omega,by simp;omega⟩
  .rw[lq w.o];simp[Tb.cs,Tb.eC,Se.cs,jQ,Jr]
  exact lr k.o _ _ _ _ _ _ _ _ _ _ _ _ _ _ _ _ _ _
 |[I,N,a1],_=>
  replace X:t (o,38)=G 3:=by simpa using X
  replace a:¬p<=3:=by simpa using a
  simp[Tb.cs,Tb.eC,Se.cs,jQ,Jr] at O;go_enter NU,NF;go_wp2;go_quiet (fail);generalize J:t.drewN _=z;have g:z.heap=t.heap:=by rw[<-J];rfl
  rw[<-g] at O;replace R:z (o,1)=G W:=by rwa[<-J]
  replace X:z (o,38)=G 3:=by rwa[<-J]
  replace m:z (o,39)=G M:=by rwa[<-J]
  have d:=y (aL (· =o) t z) (by rw[<-J];exact(aL.bQ _ t).cI _);have T:=aI O 39;have P:=aF (j:=39) (G (M+1)) O;generalize H:z.setCell (o,39) (G (M+1))=Z at P;have l:=F (d.o.aJ P.only);have u:=P.at_;simp at u;have r:=cJ 1 u;have i:=cJ 38 u;have s:=cJ 39 u;go_upto_region 4 with fail;go_quiet (fail);generalize K:Z.drewN _=wr;have e:wr.heap=Z.heap:=by rw[<-K];rfl
  rw[<-e] at u;replace r:wr (o,1)=G W:=by rwa[<-K]
  replace i:wr (o,38)=G 3:=by rwa[<-K]
  replace s:wr (o,39)=G (M+1):=by rwa[<-K]
  have c:=y (aL (· =o) t wr) (by rw[<-K];exact l.o.cI _);have S:=aI u 38;have U:=aF (j:=38) (G 4) u;generalize x:wr.setCell (o,38) (G 4)=V at U;have k:=F (c.o.aJ U.only);have f:=U.at_;simp at f;have w:=F f;replace r:V (o,1)=G W:=cR f A;replace s:V (o,39)=G (M+1):=cR f A;have af:=cJ 29 f;have aa:=cJ 30 f;have ab:=cJ 31 f;have ae:=cJ 32 f;have ag:=cJ 33 f;have ah:=cJ 34 f;have ai:=cJ 35 f;have aj:=cJ 36 f;have a0:=cJ 37 f;have a2:∀n,V.frozen? ⟨o,n,ζ⟩=σ:=λn=>aI f n;clear P U H O f;go_upto_region 6 with fail;clear x;go_region;go_wp2;go_ret2;refine Θ ⟨A,⟨?_,by simp,A⟩,?_,by simp;omega,by simp;omega⟩
  .rw[lq w.o];simp[Tb.cs,Tb.eC,Se.cs,jQ,Jr]
  exact lr k.o _ _ _ _ _ _ _ _ _ _ _ _ _ _ _ _ _ _
 |[I,N,a1,b2],_=>exact absurd b7 (by simp at a;omega)
end Ls
namespace Ls
def aac (t:Tb):∀o∈t.cs,o.oneCell'=U:=by
 intro o f;simp only[Tb.cs,GF,GO,Jw,GL,Hv,Xf] at f;rcases f with rfl|rfl|⟨z,_,j⟩|rfl|rfl|⟨u,_,rfl⟩|rfl
 all_goals try rfl
 simp only[Se.cs,GF,Hv,Xf] at j;rcases j with rfl|rfl|rfl|rfl|rfl|rfl|rfl|rfl|rfl<;>rfl
def yV:(N.info? 145).map (·.size)=M 9:=e
def Bq {j:D×D}(o:g.heap[w]?=K h p j)(f:D):g (w,f)=h[f]?:=QH o
def ki (a j:D)(f:Tb)(o:ν)(c:cc o a f)(M:j<(f.ls:D)):
 τ γ 153 #[ξ a,ϑ (j:C)] o λl ae=>l=χ #[]/\cc ae a {f with ls:=f.ls.eraseIdx j}/\aL (· =a) o ae:=by
 let⟨b2,c1,k,_,_⟩:=c.uA;have a3:=c.nS;let⟨y,q,w⟩:=c;have K:(f.cs:D)=49:=by simp only[Tb.cs,Gx,Gk,rV,a3,Hp,w,Hy]
 let⟨h,g⟩:∃h,h=f.cs:=⟨_,A⟩;let⟨e,i⟩:∃e,e=(h.drop (2+9*(j+1))).take (((f.ls:D)-1-j)*9):=⟨_,A⟩;have a2:∀b∈e,b.oneCell'=ψ:=λb H=>aac f b (by rw[<-g];rw[i] at H;exact LS (JZ H));rw[<-g] at y K;have U:(e:D)=((f.ls:D)-1-j)*9:=by rw[i,GR,JD,K];omega
 have a0:∀s b,e[s]?=δ b->o.drew ((⟨a,2+9*(j+1),ζ⟩:JM).add s)=δ b:=λs b p=>by
  rw[Jg];apply(QH y).t;rw[KT];rw[i,Jt,JV] at p;split at p
  .exact p
  cases p
 have N:o.drew.heap[a]?=θ h.toArray 149:=y;let⟨b7,c2,ab,d2,R,b4⟩:=f;simp only at M w q k i U;obtain⟨V,W,X,e3,Z,n,v,L,rfl⟩:∃V W X e3 Z n v L,R=[V,W,X,e3,Z,n,v,L]:=by
  match R,w with
  |[G,S,T,Y,l,a8,a9,c],_=>exact⟨G,S,T,Y,l,a8,a9,c,A⟩
 let⟨d,x⟩:∃d:C,d=((ab:D):C)-1:=⟨_,A⟩;have af:=F i;have m:=F U;have ah:=F K;have ag:=F g;have O:=F a2;have P:=F a0;have b9:u.wrap 0=0:=r;have c0:u.wrap 1=1:=r;have c7:u.wrap 2=2:=r;have c8:u.wrap 3=3:=r;have d1:u.wrap 4=4:=r;rcases ab with _|⟨G,_|⟨S,_|⟨T,_|⟨Y,_|⟨_,_⟩⟩⟩⟩⟩
 all_goals rcases j with _|_|_|_|j
 all_goals try(exfalso;simp at M q;done)
 all_goals try(exfalso;simp at M q;omega)
 all_goals
  simp only[Gx,Hy,GU,Nat.reduceAdd] at *;simp only[Nat.reduceSub,Nat.reduceMul,Nat.reduceAdd] at af m P;simp at k;go_enter func153,ntmps153;go_wp2;go_region_law ((first|apply Cc.gQ A (.tmp 13) (.tmp 23) 374 374 A 145 9 underlying374 yV _ _ _ _ _ _ A A a _ _ h.toArray 149 N e rf m.o (λ_=>⟨A,_,A,P.o⟩) (λ_=>by rw[m.o];simp[ah.o]) O.o|apply Cc.gQ A (.tmp 13) (.tmp 23) 374 374 A 145 9 underlying374 yV _ _ _ _ _ _ A A a 2 0 h.toArray 149 N e rf m.o (λc=>absurd c (NH 0)) (λc=>absurd c (NH 0)) O.o);intro I ai a1)
  all_goals
   have t:=ai.o;rw[af.o,ag.o] at t;have a6:=QC (aL (· =a) o I) ((aL.bQ (· =a) o).oG.mz a1 λd3 l _=>by cases l;rfl);simp[splice,Tb.cs,Tb.eC,Se.cs,jQ,Jr] at t;have J:=aF (j:=38) (ϑ d) t;generalize a4:I.setCell (a,38) (ϑ d)=b0 at J;have a7:=F (a6.o.aJ J.only);simp at x;subst x;have z:=J.at_;simp at z;have c1:=Bq t;have b3:=Bq z;have b5:=aI t;have b6:=aI z;have a5:=F z;go_upto_region 2 with fail;clear a4;go_region;go_wp2;go_end0;refine⟨A,⟨?_,sm,A⟩,?_⟩
   .rw[lq a5.o];simp[Tb.cs,Tb.eC,Se.cs,jQ,Jr]
   exact lr a7.o _ _ _ _ _ _ _ _ _ _ _ _ _ _ _ _ _ _
def Wx {f:Tb}(u:(f.ls:D)<=4)(j:w<(f.dx:D)):f.cs.set (40+w) (G c)=({f with dx:=f.dx.set w c}:Tb).cs:=by
 have o:(f.eC.flatMap Se.cs:D)=36:=by
  rw[rV];simp[Tb.eC,Gk,LJ];omega
 have t:({f with dx:=f.dx.set w c}:Tb).eC=f.eC:=A;rw[(H:40+w=w+38+1+1)];simp only[Tb.cs,Gn,t];rw[IC _ _ H,o,(H:w+38-36=w+1+1)];simp only[Gn];rw[LQ _ _ (sU j),NQ]
def Tm {f:Tb}(u:(f.ls:D)<=4)(j:(f.dx:D)=8):f.cs.set 48 (G c)=({f with eu:=c}:Tb).cs:=by
 have o:(f.eC.flatMap Se.cs:D)=36:=by
  rw[rV];simp[Tb.eC,Gk,LJ];omega
 have t:({f with eu:=c}:Tb).eC=f.eC:=A;rw[(H:48=46+1+1)];simp only[Tb.cs,Gn,t];rw[IC _ _ H,o,(H:46-36=8+1+1)];simp only[Gn];rw[IC _ _ (by simp[j]),Hp,j];rfl
def cc.Dz {j:Tb}(f:cc g w j)(t:q<8)(o:C):cc (g.setCell (w,40+q) (G o)) w {j with dx:=j.dx.set q o}:=by
 refine⟨?_,f.cB,sU f.dx⟩;rw[(aF (j:=40+q) (G o) f.bO).at_,Gi,Wx f.cB (f.dx▸t)]
def cc.Wy {o:Tb}(f:cc g w o)(j:C):cc (g.setCell (w,48) (G j)) w {o with eu:=j}:=by
 refine⟨?_,f.cB,f.dx⟩;rw[(aF (j:=48) (G j) f.bO).at_,Gi,Tm f.cB f.dx]
def DA (u:L)(O:D)(o:Tb)(id A:C)(J:He)(z:L):Prop:=(∃K j,o.ls[K]?=M j/\j.id=id/\A<j.dl/\cc z O {o with ls:=o.ls.eraseIdx K}/\aL (· =O) u z/\J=f #[G j.aG,G 0])\/
 ∃t:C,(t=5\/t=6)/\J=f #[G 0,t]/\(∀j∈o.ls,j.id=id->¬A<j.dl)/\T u u z
def ng (j:Nat)(u:Tb)(id M:Int)(e:ν)(x:cc e j u)(Q:u.Ok):
 τ N 304 #[ξ j,id,M] e (DA e j u id M):=by
 have p:=F (pW j u id M e x Q);have d:=F x;go_enter func304,ntmps304;go_wp2_with fail;go_call p.o as k s ⟨I,o⟩;have U:=F o;have z:=F (d.o.aE o);rcases I with⟨K,b,P,m,hd,rfl⟩|⟨O,c,rfl,q⟩
 .have a0:s (j,2+K*9+1)=b.aG:=z.o.eP (j:=1) P H;have R:=z.o.uA.2.2.1;have h:=(Gg.1 P).1;have T:=z.o.cB;have Z:=F (W P (W m hd));have E:=F (ki j K u s z.o h);have n:=fg;have X:=y (∃w,N.info? 145=δ w/\w.size=9) (Jd.1 yV);go_wp2;go_loopw [32] (λiv wr=>∃t:Nat,t<=K/\iv=G t/\wr=s) (λiv _=>K-(QI iv).toNat)
  .exact⟨0,H,rfl,rfl⟩
  obtain⟨t,S,rfl,rfl⟩:=hrel;have B:t<4:=H;have Y:(t:Int)<((u.ls:Nat):Int):=H;by_cases i:t=K
  .subst i;have l:=run_eql_ptr_same wr (⟨j,2+t*9,J⟩:JM) underlying367 X.o.choose_spec.1;go_wp2_with (with_reducible go_call E.o as k D ⟨rfl,C,A⟩);have V:=y (DA e j u id M (ι (f #[b.aG,G 0])) D) (Ξ ⟨t,b,Z.1,Z.2.1,Z.2.2,C,(aL.aE U.o _).aJ A,rfl⟩);go_wp2;go_ret2;exact V.o
  have l:=run_eql_ptr_other wr (a:=(⟨j,2+K*9,J⟩:JM)) (b:=⟨j,2+t*9,J⟩) underlying367 X.o.choose_spec.1 (oA X.o.choose_spec.2) (λk=>by simp only[GS] at k;omega) z.o.bO z.o.bO;go_wp2_with fail;go_roundw
  .exact⟨t+1,H,gN,tV⟩
  simp[QI];omega
 have n:=gA id O;have g:=F (λe=>jz id O c e);have V:=y (∀a,ρ e e a->DA e j u id M (ι (f #[G 0,O])) a) (λa L=>Θ ⟨O,c,rfl,q,L⟩);unfold eB at *;go_wp2_with ((with_reducible go_call g.o _ as k D ⟨rfl,v⟩);have r:=F (U.o.t (v.m U.o.z)));go_ret2;exact V.o _ r.o
end Ls
def sl:S->D
 |P _ a _=>a
 |_=>0
namespace Ls
structure zk (w:L)(t:D)(clock:C)(T T':Tb)(ov:E Se)(sv:S)(wr:L):Prop where
 mc:cc wr t T'
 cT:wr.ownsRow w.heap.size 140 4 sv ov.length (ov.flatMap s4)
 only:aL (· =t) w wr
 vT:T.ls.Perm (ov++T'.ls)
 Ce:T'.ls.Sublist T.ls
 dC:T'.most=T.most/\T'.gM=T.gM/\T'.cK=T.cK
 eu:0<=T'.eu/\T'.eu<=T.eu+ov.length
 over:∀x∈ov,x.dl<=clock
def TY (J:L)(A:D)(j:C)(t:Tb)(u:He)(K:L):Prop:=∃f z o,u=ι o/\zk J A j t f z o K/\∀M∈f.ls,j<M.dl
def zk.cB {f j:Tb}{o:E Se}{wr:L}(t:zk g w c f j o m wr):o.length+j.ls.length=f.ls.length:=by
 have:=t.vT.length_eq;rw[Gk] at this;omega
def zk.fb {w:ν}{t i j:Nat}{e:Int}{T a:Tb}{d:List Se}{o v:π}{wr w':ν}{x:Se}(b:zk w t e T a d o wr)(n:a.ls[i]?=x)(hd:x.dl<=e)
 (m:cc w' t {a with dx:=a.dx.set j x.id,eu:=a.eu+1,ls:=a.ls.eraseIdx i}) (l:w'.ownsRow w 140 4 v (d.length+1) (d.flatMap s4++s4 x)) (k:aL (· =t) w w'):
 zk w t e T {a with dx:=a.dx.set j x.id,eu:=a.eu+1,ls:=a.ls.eraseIdx i} (d++[x]) v w' where
 mc:=m
 cT:=by rw[Gk,Hj];simpa using l
 only:=k
 vT:=by
  refine b.vT.trans ?_;rw[Km];refine List.Perm.append_left _ ?_;have g:=(Gg.1 n);obtain⟨p,h⟩:=g;have f:a.ls=a.ls.take i++x::a.ls.drop (i+1):=by rw[<-h,List.getElem_cons_drop,IZ]
  rw[PQ];conv=>lhs;rw[f]
  exact Lg
 Ce:=(NY ..).trans b.Ce
 dC:=b.dC
 eu:=by
  have:=b.eu;simp only[Gk,Gx,Hy];omega
 over y c:=by
  rcases GO.1 c with c|c
  .exact b.over y c
  .obtain rfl:=GA.1 c;exact hd
theorem DT (f:D)(z:Tb)(J:C)(u:ν)(q:cc u f z)(a5:z.Ok):
 τ γ 78 #[ξ f,G J] u λa d1=>TY u f J z a d1:=by
 have e6:=q.cB;have e4:=a5.Su;have b2:=y (zk u f J z z [] (P ζ 0 0) u) ⟨q,QN,aL.bQ _ _,List.Perm.refl _,NA _,⟨A,A,A⟩,QB,sm⟩;have e9:f<(u:D):=aw q.bO;clear q a5;go_enter func78,ntmps78;go_wp2;go_step3;go_wp2;go_step3;go_wp2;go_loopw [5] (λk wr=>∃(c:Tb) (h:E Se),Φ (zk u f J z c h k wr)) (λk _=>5-sl k)
 .exact⟨z,[],b2⟩
 let⟨c,h,e⟩:=hrel;have e7:=e.o.cB;have c1:=F e.o.only.aH;obtain⟨S,Y,rfl⟩:=Ms.dR e.o.cT;have ag:=e.o.mc.uA.2.2.1;generalize a7:wr=T at e ag c1 ⊢;clear a7;go_wp2;go_loopw [5,12] (λk iv c4=>k=P S (h:D) Y/\∃j:D,j<=(c.ls:D)/\iv=G j/\Φ (ρ T T c4)/\Φ (∀g b,g<j->c.ls[g]?=δ b->J<b.dl)) (λ_ iv _=>(c.ls:D)-(QI iv).toNat)
 .exact⟨A,0,H,A,F QG,F λg b l=>H⟩
 obtain⟨rfl,j,e5,rfl,t,aa⟩:=hrel;clear ag;by_cases a2:j<(c.ls:D)
 .let⟨b,p⟩:∃b,c.ls[j]?=δ b:=⟨_,Gf a2⟩;have O:=F (e.o.mc.aE t.o);have d4:wr (f,2+j*9)=G b.id:=O.o.eP (j:=0) p H;have d3:wr (f,2+j*9+1)=G b.aG:=O.o.eP (j:=1) p H;have d8:wr (f,2+j*9+2)=G b.dl:=O.o.eP (j:=2) p H;have d9:wr (f,2+j*9+3)=G b.cf:=O.o.eP (j:=3) p H;have f0:j<4:=H;have f1:(j:C)<((c.ls:D):C):=H;have af:=F p;clear p;by_cases hd:b.dl<=J
  .have b6:=F (Ms.aQ e.o.cT t.o);go_upto_region 7 with(apply EK rfl _ _ rfl (wr:D) rfl #[G b.id,G b.aG,G b.dl,G b.cf] rfl QA rfl 140 #[G 0,G 0,G 0,G 0] rfl (Gc wr _);intro K o;have ai:K ((wr:D),0)=G b.id:=(cR o.at_ rfl);have c2:K ((wr:D),1)=G b.aG:=(cR o.at_ rfl);have a0:K ((wr:D),2)=G b.dl:=(cR o.at_ rfl);have e3:K ((wr:D),3)=G b.cf:=(cR o.at_ rfl));have n:ρ wr wr K:=o.aE _ _ d ((Ge _ wr).a d _);have b5:=F (Ms.aQ b6.o n);have w:=F (O.o.aE n);have ab:=F (e.o.only.aJ (aL.aE (t.o.t (n.m t.o.z)) _));have d6:=y ((wr:D)<(K:D)/\f<(wr:D)) ⟨aw o.at_,aw O.o.bO⟩;clear o n;go_upto_region 8 with(at_builtin;apply aP Tl b5.o ab.o.aH;intro c7 U a6 W);have V:∀r,Ψ (P S (h:D) Y)=δ r->(u:D)<=r/\r<(T:D):=λr i=>bG e.o.cT i;have e1:=t.o.z;have a1:U.heap[f]?=_:=W.aM w.o.bO (λa=>oA (V _ a));have M:=y (cc U f c) ⟨a1,w.o.cB,w.o.dx⟩;have ai:=W.dN ai (λa=>oU (V _ a));have b3:=F (ab.o.gU W (λr i a=>oA (V _ a)));have Z:=F a6;have ah:=M.o.uA.2.2.2.2;have c3:=e.o.eu;let⟨s,a4,e8⟩:∃s:D,s<8/\c.eu.tmod 8=(s:C):=⟨(c.eu%8).toNat,H,by rw[Int.tmod_eq_emod_of_nonneg c3.1];omega⟩;let⟨f3,c6⟩:=M.o.adb a4;have c8:∀g,U.frozen? ⟨f,g,ζ⟩=σ:=λg=>M.o.oR g;have L:=F a4;clear a6 W c2 a0 e3 a1 V;go_region;let⟨x,m⟩:∃x,(U.setCell (f,40+s) (G b.id)).drew=x:=⟨_,A⟩;have X:=y (cc x f {c with dx:=c.dx.set s b.id}) (m▸⟨(M.o.Dz L.o b.id).bO,(M.o.Dz L.o b.id).cB,(M.o.Dz L.o b.id).dx⟩);have b4:=y (aL (· =f) U x) (m▸(M.o.ek _ _).oG);rw[m];clear m c8 c6 ah;have ah:x (f,48)=c.eu:=X.o.uA.2.2.2.2;have e2:=X.o.oR 48;have f2:η.wrap (c.eu+1)=c.eu+1:=QQ H;let⟨w8,N⟩:∃w8,x.setCell (f,48) (G (c.eu+1))=w8:=⟨_,A⟩;have c0:=y (cc w8 f {c with dx:=c.dx.set s b.id,eu:=c.eu+1}) (N▸X.o.Wy _);have ae:=y (aL (· =f) U w8) (N▸b4.o.aJ (X.o.ek _ _));have a9:=F (ki f j _ w8 c0.o a2);go_upto_region 10 with fail;clear N;go_wp2_with (with_reducible go_call a9.o as a b9 ⟨rfl,a3,I⟩);have v:Φ (zk u f J z {c with dx:=c.dx.set s b.id,eu:=c.eu+1,ls:=c.ls.eraseIdx j} (h++[b]) c7 b9):=F
    (e.o.fb af.o hd a3 (aK Z.o λr i=>(ae.o.aJ I).aG r (bG Z.o i).2 (oA (bG Z.o i).1)) (b3.o.aJ (ae.o.aJ I)))
   have b7:=F (Ms.dR Z.o);clear a3 I;go_roundw
   .exact⟨_,_,v⟩
   obtain⟨f4,e0,rfl⟩:=b7.o;simp[sl];omega
  have b0:=y (J<b.dl) H;go_wp2_with (apply EK A _ _ A (wr:D) A #[G b.id,G b.aG,G b.dl,G b.cf] A QA A 140 #[G 0,G 0,G 0,G 0] A (Gc wr _);intro K o;have a0:K ((wr:D),2)=G b.dl:=(cR o.at_ A));have a8:=F (t.o.t ((o.aE _ _ d ((Ge _ wr).a d _)).m t.o.z));clear o;go_roundw
  .exact⟨A,j+1,H,gN,a8,F λg d2 l R=>by
   by_cases c5:g=j
   .subst c5;rw[af.o] at R;cases Gm R;exact b0.o
   exact aa.o g d2 H R⟩
  simp[QI];omega
 obtain rfl:j=(c.ls:D):=H;have aj:TY u f J z (ι (P S (h:D) Y)) wr:=⟨c,h,_,A,⟨e.o.mc.aE t.o,Ms.aQ e.o.cT t.o,e.o.only.aJ (aL.aE t.o _),e.o.vT,e.o.Ce,e.o.dC,e.o.eu,e.o.over⟩,λb p=>by
  let⟨g,l⟩:=LU p
  exact aa.o g b (Gg.1 l).1 l⟩
 have v:=F aj;clear aj;go_wp2
 (try rw[Exit.noGoto_ret])
 go_ret;exact v.o
end Ls
namespace Ls
def WS:(N.info? 142).map (·.size)=M 2:=e
def DU (j:E S)(f:D)(t u:S)(M:f+2<=(j:D)):splice j f [t,u]=(j.set f t).set (f+1) u:=by
 let⟨d,e,c,k⟩:∃d e c,j.drop f=d::e::c:=by
  have o:(j.drop f)=j-f:=JD;match hd:j.drop f with
  |[]=>rw[hd] at o;simp at o;omega
  |[_]=>rw[hd] at o;simp at o;omega
  |d::e::c=>exact⟨d,e,c,A⟩
 have J:(j.take f)=f:=by rw[GR];omega
 have z:j=j.take f++d::e::c:=by rw[<-k,IZ]
 generalize K:j.take f=O at z J;subst J;rw[z];simp[splice]
def vF (t:L)(A:D)(o:Tb)(J:He)(u:L):Prop:=∃K:C,J=G K/\((T t t u)\/
 ∃z j f,o.ls[z]?=M j/\f.id=j.id/\f.aG=j.aG/\f.dl=j.dl/\0<=f.st/\f.st<=2/\cc u A {o with ls:=o.ls.set z f}/\aL (· =A) t u)
def cc.wv {f:Tb}{j:D}{K o y':Se}{v:S}(u:cc g w {f with ls:=f.ls.set q o})(J:f.ls[q]?=K)(z:j<9)(A:y'.cs=o.cs.set j v):
 cc (g.setCell (w,2+q*9+j) v) w {f with ls:=f.ls.set q y'}:=by
 have t:=(Gg.1 J).1;have:=u.lQ (i:=q) (j:=j) (x:=o) (x':=y') (v:=v) (by simp[t]) z A;simpa[List.set_set] using this
def Om (t:D)(u:Tb)(id j:C)(z:B)(h:ν)(a0:cc h t u)(c6:u.Ok):
 τ γ 240 #[ξ t,id,j,z] h (vF h t u):=by
 have b7:=F (ra t u id h a0);have d6:=F a0;have c7:=F c6;go_enter func240,ntmps240;go_wp2_with fail;go_call b7.o as aa c2 ⟨d2,R⟩;have v:=F R;have x:=F (d6.o.aE R);rcases d2 with⟨o,f,L,f0,hd,rfl⟩|⟨T,c5,rfl,e4⟩
 .have e6:c2 (t,2+o*9+3)=f.cf:=x.o.eP (j:=3) L H;have e1:=c7.o.st f (Gl L);have Z:=(Gg.1 L).1;have P:=F L;have N:=y ((u.ls.set o {f with cf:=j})[o]?=M {f with cf:=j}) (by simp[Z]);have e0:=fg;by_cases e8:j<=f.cf
  .go_wp2;go_ret;exact⟨1,A,Ξ v.o⟩
  have e7:=x.o.oR (2+o*9+3);let⟨g,a6⟩:∃g,c2.setCell (t,2+o*9+3) (G j)=g:=⟨_,A⟩;have U:=y (cc g t {u with ls:=u.ls.set o {f with cf:=j}}) (a6▸x.o.lQ (j:=3) P.o H A);have ab:=y (aL (· =t) h g) (a6▸(aL.aE v.o _).aJ (x.o.ek _ _));have a2:g (t,2+o*9+8)=f.st:=U.o.eP (x:={f with cf:=j}) (j:=8) N.o H;by_cases q:f.st=2
  .have c:((f.st:C)==2)=ψ:=by simp[q]
   have d4:=F q;go_upto_region 8 with fail;have a1:=y (g (t,2+o*9+6)=f.s1/\g (t,2+o*9+7)=f.r1) ⟨U.o.eP (x:={f with cf:=j}) (j:=6) N.o H,U.o.eP (x:={f with cf:=j}) (j:=7) N.o H⟩;let⟨d,S⟩:∃d,d=Tb.cs {u with ls:=u.ls.set o {f with cf:=j}}:=⟨_,A⟩;have c4:g.drew.heap[t]?=θ d.toArray 149:=S▸U.o.bO;have c0:=y (∀(I:D) (ag:π),([G f.s1,O f.r1]:E π)[I]?=M ag->g.drew ((⟨t,2+o*9+4+2,J⟩:JM).add I)=M ag) λI ag af=>by
    rw[Jg];match I with
    |0=>cases Gm af;exact a1.1
    |1=>cases Gm af;exact a1.2
    |I+2=>simp at af
   have a4:2+o*9+4+2<=(d:D):=by
    rw[S];have:=U.o.nS;have:=U.o.cB;simp only[KM] at this;simp only[Tb.cs,Gx,Gk,rV,Hp];omega
   have ah:=F a4;have b4:=y (∀b,b.heap[t]?=θ (splice d.toArray.toList (2+o*9+4) [G f.s1,O f.r1]).toArray 149->cc b t {u with ls:=u.ls.set o {f with cf:=j,s0:=f.s1,r0:=f.r1}}) λb d9=>by
    refine⟨?_,sU U.o.cB,U.o.dx⟩;rw[d9,DU _ _ _ _ (sU ah.o),Nk,S];have a3:=uB (T:={u with ls:=u.ls.set o {f with cf:=j}}) (i:=o) (j:=4) (x:={f with cf:=j}) (x':={f with cf:=j,s0:=f.s1}) (v:=G f.s1) U.o.cB N.o H A;have c:=uB (T:={u with ls:=u.ls.set o {f with cf:=j,s0:=f.s1}}) (i:=o) (j:=5) (x:={f with cf:=j,s0:=f.s1}) (x':={f with cf:=j,s0:=f.s1,r0:=f.r1}) (v:=O f.r1) (sU U.o.cB) (by simp[Z]) H A;simp only[List.set_set] at a3 c;rw[a3,Nat.add_assoc,c]
   clear a4 c q S;go_region_law (apply Cc.gQ A (.tmp 41) (.tmp 45) 476 476 A 142 2 underlying476 WS (t,2+o*9+4) (t,2+o*9+4+2) 2 2 1 1 sG sG t (2+o*9+4) 1 d.toArray 149 c4 [G f.s1,O f.r1] dc sm (λ_=>⟨A,_,A,c0.o⟩) (λ_=>sU ah.o) QA;intro Y b5 c1)
   all_goals
    have r:=F (b4.o Y b5.o);have b9:=y (aL (· =t) h Y) (ab.o.aJ ((aL.bQ (· =t) g).oG.mz c1 (λn aa _=>by cases aa;rfl)));have b6:=y ((u.ls.set o {f with cf:=j,s0:=f.s1,r0:=f.r1})[o]?=M {f with cf:=j,s0:=f.s1,r0:=f.r1}) (by simp[Z]);have e:Y (t,2+o*9+8)=G 2:=d4.o▸r.o.eP (x:={f with cf:=j,s0:=f.s1,r0:=f.r1}) (j:=8) b6.o H;have ae:=r.o.oR (2+o*9+8);have e9:η.wrap 1=1:=dc;let⟨s,a7⟩:∃s,Y.setCell (t,2+o*9+8) (G 1)=s:=⟨_,A⟩;have m:=y (cc s t {u with ls:=u.ls.set o {f with cf:=j,s0:=f.s1,r0:=f.r1,st:=1}}) (a7▸r.o.wv (j:=8) P.o H A);have c8:=y (aL (· =t) h s) (a7▸b9.o.aJ (r.o.ek _ _));have V:=y ((u.ls.set o {f with cf:=j,s0:=f.s1,r0:=f.r1,st:=1})[o]?=M {f with cf:=j,s0:=f.s1,r0:=f.r1,st:=1}) (by simp[Z]);have b3:s (t,2+o*9+6)=G ({f with cf:=j,s0:=f.s1,r0:=f.r1,st:=1}:Se).s1:=m.o.eP (x:={f with cf:=j,s0:=f.s1,r0:=f.r1,st:=1}) (j:=6) V.o H;have b2:s (t,2+o*9+7)=O ({f with cf:=j,s0:=f.s1,r0:=f.r1,st:=1}:Se).r1:=m.o.eP (x:={f with cf:=j,s0:=f.s1,r0:=f.r1,st:=1}) (j:=7) V.o H;have e:s (t,2+o*9+8)=G 1:=m.o.eP (x:={f with cf:=j,s0:=f.s1,r0:=f.r1,st:=1}) (j:=8) V.o H;have a9:∀n,s.frozen? ⟨t,n,J⟩=σ:=λn=>m.o.oR n;have K:=y (cc (((s.setCell (t,2+o*9+6) (G j)).setCell (t,2+o*9+7) (O z)).drew) t {u with ls:=u.ls.set o {{f with cf:=j,s0:=f.s1,r0:=f.r1,st:=1} with s1:=j,r1:=z}}) (by
     have p:=m.o.wv (j:=6) (y':={{f with cf:=j,s0:=f.s1,r0:=f.r1,st:=1} with s1:=j}) P.o H (v:=G j) A
     have X:=p.wv (j:=7) (y':={{f with cf:=j,s0:=f.s1,r0:=f.r1,st:=1} with s1:=j,r1:=z}) P.o H (v:=O z) A
     exact⟨X.bO,X.cB,X.dx⟩)
    have w:=y (aL (· =t) h (((s.setCell (t,2+o*9+6) (G j)).setCell (t,2+o*9+7) (O z)).drew)) (((c8.o.bV (p:=⟨t,2+o*9+6,J⟩) (λ_=>rfl) _).bV (p:=⟨t,2+o*9+7,J⟩) (λ_=>rfl) _).oG);go_upto_region 10 with fail;go_region;generalize b0:(((s.setCell (t,2+o*9+6) (G j)).setCell (t,2+o*9+7) (O z)).drew)=a at K w ⊢;have l:=y ((u.ls.set o {{f with cf:=j,s0:=f.s1,r0:=f.r1,st:=1} with s1:=j,r1:=z})[o]?=M {{f with cf:=j,s0:=f.s1,r0:=f.r1,st:=1} with s1:=j,r1:=z}) (by simp[Z]);have e:a (t,2+o*9+8)=G 1:=K.o.eP (x:={{f with cf:=j,s0:=f.s1,r0:=f.r1,st:=1} with s1:=j,r1:=z}) (j:=8) l.o H;have ae:=K.o.oR (2+o*9+8);have a8:η.wrap 2=2:=dc;have k:Φ (vF h t u (ι (G 0)) (a.setCell (t,2+o*9+8) (G 2))):=F
     ⟨0,A,Θ ⟨o,f,{{f with cf:=j,s0:=f.s1,r0:=f.r1,st:=1} with s1:=j,r1:=z,st:=2},P.o,A,A,A,by show(0:C)<=2;omega,by show(2:C)<=2;omega,K.o.wv (j:=8) P.o H A,w.o.aJ (K.o.ek _ _)⟩⟩
    go_wp2;go_ret;exact k.o
  have c:((f.st:C)==2)=σ:=by simp[q]
  rcases(by omega:f.st=0\/f.st=1) with i|i
  .have W:=y (cc g t {u with ls:=u.ls.set o {f with cf:=j,st:=0}}) (i▸U.o);rw[i] at a2 c;have V:=y ((u.ls.set o {f with cf:=j,st:=0})[o]?=M {f with cf:=j,st:=0}) (by simp[Z]);have e2:g (t,2+o*9+4)=G ({f with cf:=j,st:=0}:Se).s0:=W.o.eP (x:={f with cf:=j,st:=0}) (j:=4) V.o H;have e5:g (t,2+o*9+5)=O ({f with cf:=j,st:=0}:Se).r0:=W.o.eP (x:={f with cf:=j,st:=0}) (j:=5) V.o H;have e:g (t,2+o*9+8)=G 0:=W.o.eP (x:={f with cf:=j,st:=0}) (j:=8) V.o H;have a9:∀n,g.frozen? ⟨t,n,J⟩=σ:=λn=>W.o.oR n;have K:=y (cc (((g.setCell (t,2+o*9+4) (G j)).setCell (t,2+o*9+5) (O z)).drew) t {u with ls:=u.ls.set o {{f with cf:=j,st:=0} with s0:=j,r0:=z}}) (by
    have p:=W.o.wv (j:=4) (y':={{f with cf:=j,st:=0} with s0:=j}) P.o H (v:=G j) A
    have X:=p.wv (j:=5) (y':={{f with cf:=j,st:=0} with s0:=j,r0:=z}) P.o H (v:=O z) A
    exact⟨X.bO,X.cB,X.dx⟩)
   have w:=y (aL (· =t) h (((g.setCell (t,2+o*9+4) (G j)).setCell (t,2+o*9+5) (O z)).drew)) (((ab.o.bV (p:=⟨t,2+o*9+4,J⟩) (λ_=>rfl) _).bV (p:=⟨t,2+o*9+5,J⟩) (λ_=>rfl) _).oG);go_upto_region 10 with fail;go_region;generalize b0:(((g.setCell (t,2+o*9+4) (G j)).setCell (t,2+o*9+5) (O z)).drew)=a at K w ⊢;have l:=y ((u.ls.set o {{f with cf:=j,st:=0} with s0:=j,r0:=z})[o]?=M {{f with cf:=j,st:=0} with s0:=j,r0:=z}) (by simp[Z]);have e:a (t,2+o*9+8)=G 0:=K.o.eP (x:={{f with cf:=j,st:=0} with s0:=j,r0:=z}) (j:=8) l.o H;have ae:=K.o.oR (2+o*9+8);have a8:η.wrap 1=1:=dc;have k:Φ (vF h t u (ι (G 0)) (a.setCell (t,2+o*9+8) (G 1))):=F
    ⟨0,A,Θ ⟨o,f,{{f with cf:=j,st:=0} with s0:=j,r0:=z,st:=1},P.o,A,A,A,by show(0:C)<=1;omega,by show(1:C)<=2;omega,K.o.wv (j:=8) P.o H A,w.o.aJ (K.o.ek _ _)⟩⟩
   go_wp2;go_ret;exact k.o
  have W:=y (cc g t {u with ls:=u.ls.set o {f with cf:=j,st:=1}}) (i▸U.o);rw[i] at a2 c;have V:=y ((u.ls.set o {f with cf:=j,st:=1})[o]?=M {f with cf:=j,st:=1}) (by simp[Z]);have b3:g (t,2+o*9+6)=G ({f with cf:=j,st:=1}:Se).s1:=W.o.eP (x:={f with cf:=j,st:=1}) (j:=6) V.o H;have b2:g (t,2+o*9+7)=O ({f with cf:=j,st:=1}:Se).r1:=W.o.eP (x:={f with cf:=j,st:=1}) (j:=7) V.o H;have e:g (t,2+o*9+8)=G 1:=W.o.eP (x:={f with cf:=j,st:=1}) (j:=8) V.o H;have a9:∀n,g.frozen? ⟨t,n,J⟩=σ:=λn=>W.o.oR n;have K:=y (cc (((g.setCell (t,2+o*9+6) (G j)).setCell (t,2+o*9+7) (O z)).drew) t {u with ls:=u.ls.set o {{f with cf:=j,st:=1} with s1:=j,r1:=z}}) (by
   have p:=W.o.wv (j:=6) (y':={{f with cf:=j,st:=1} with s1:=j}) P.o H (v:=G j) A
   have X:=p.wv (j:=7) (y':={{f with cf:=j,st:=1} with s1:=j,r1:=z}) P.o H (v:=O z) A
   exact⟨X.bO,X.cB,X.dx⟩)
  have w:=y (aL (· =t) h (((g.setCell (t,2+o*9+6) (G j)).setCell (t,2+o*9+7) (O z)).drew)) (((ab.o.bV (p:=⟨t,2+o*9+6,J⟩) (λ_=>rfl) _).bV (p:=⟨t,2+o*9+7,J⟩) (λ_=>rfl) _).oG);go_upto_region 10 with fail;go_region;generalize b0:(((g.setCell (t,2+o*9+6) (G j)).setCell (t,2+o*9+7) (O z)).drew)=a at K w ⊢;have l:=y ((u.ls.set o {{f with cf:=j,st:=1} with s1:=j,r1:=z})[o]?=M {{f with cf:=j,st:=1} with s1:=j,r1:=z}) (by simp[Z]);have e:a (t,2+o*9+8)=G 1:=K.o.eP (x:={{f with cf:=j,st:=1} with s1:=j,r1:=z}) (j:=8) l.o H;have ae:=K.o.oR (2+o*9+8);have a8:η.wrap 2=2:=dc;have k:Φ (vF h t u (ι (G 0)) (a.setCell (t,2+o*9+8) (G 2))):=F
   ⟨0,A,Θ ⟨o,f,{{f with cf:=j,st:=1} with s1:=j,r1:=z,st:=2},P.o,A,A,A,by show(0:C)<=2;omega,by show(2:C)<=2;omega,K.o.wv (j:=8) P.o H A,w.o.aJ (K.o.ek _ _)⟩⟩
  go_wp2;go_ret;exact k.o
 have e0:=gA id T;have d8:=F (λh=>jz id T c5 h);have d3:=y (∀b,ρ h h b->vF h t u (ι T) b) (λb c3=>⟨T,A,Ξ c3⟩);unfold eB at *;go_wp2_with ((with_reducible go_call d8.o _ as aa g ⟨rfl,a5⟩);have d1:=F (v.o.t (a5.m v.o.z)));go_ret;exact d3.o _ d1.o
end Ls
def T1:B:=⟨#[196,130,32,107,118]⟩
def P1:B:=⟨#[6,11]⟩
def K1:B:=⟨#[107]⟩
def V1:B:=⟨#[118]⟩
def D1:Nd:=⟨1,P1,V1,λ_=>⟨#[]⟩⟩
def abj:gv T1=M ⟨#[130,32,107,118]⟩:=e
def abk:Rl.dL ⟨#[130,32,107,118]⟩=M [⟨#[130,32,107]⟩,⟨#[118]⟩]:=e
def Yf:fK ⟨#[130,32,107]⟩=M ⟨#[32,107]⟩:=e
def af4:fK ⟨#[118]⟩=V1:=e
def abl:uj ⟨#[32,107]⟩=M (bs P1,U):=e
def af5:EE D1=U:=e
def af6:EH D1=T1:=e
def abm:Nib.bK (Nib.cU K1.data.toList)=P1:=e
def aeg {j:He}(a:pR ⟨#[130,32,107]⟩ ⟨#[118]⟩ j):∃c,ct c D1/\j=f #[t c,z U]:=by
 cases a with
 |bad a _=>
  rcases a with a|⟨g,a,b⟩
  .rw[Yf] at a;cases a
  rw[Yf] at a;cases a;rw[abl] at b;cases b
 |ext g h c a b _ _ _=>
  rw[Yf] at a;cases a;rw[abl] at b;simp at b
 |leaf g h l k c a b _ _ e d hd i=>
  rw[Yf] at a;cases a;rw[abl] at b;simp only[Gd,Hf,QW] at b;obtain rfl:P1=h:=Ju b;rw[af4] at e d;obtain rfl:k=U:=e;cases Gm (d A);exact⟨c,hd,i⟩
def aeh {o:He}(b:sP T1 o):∃j,ct j D1/\o=f #[t j,z U]:=by
 cases b with
 |none b _=>exact absurd b (by unfold T1;intro b;cases b)
 |bad _ a _=>exact absurd abk (a _ _ _ abj)
 |pair h i e _ c a g=>
  rw[abj] at c;cases c;rw[abk] at a;simp only[Gd,GN,QW] at a;obtain⟨rfl,rfl⟩:=a;exact aeg g
 |branch h k _ c a d _=>
  rw[abj] at c;cases c;rw[abk] at a;cases a;simp at d
def UH (f:Q S)(a:ct f D1)(j:L):Y N 208 #[f] j λd b=>d=z U/\T j j b:=
 jO 1 258 R f D1 a A _ (λd a=>⟨_,a⟩) j λe _=>by
  have:=Av f D1 a e r;rwa [af5] at this
def YR (f:Q S)(a:ct f D1)(j:L):Y N 209 #[f] j λd b=>d=O T1/\T j j b:=
 lN 1 262 R f D1 a A _ (λd a=>⟨_,a⟩) j λe _=>by
  have:=pQ f D1 a e r r;rwa [af6] at this
def UI (j:L)(u:As.cC j):Y N 155 #[T1] j λc i=>(∃b,ct b D1/\c=f #[t b,G 0])/\T j j i:=by
 refine(pU T1 (λc=>∃b,ct b D1/\c=f #[t b,z U]) (λ_ c=>c=z U) (λ_ c=>c=O T1) j (λc ⟨b,a,d⟩=>⟨b,D1,U,a,d⟩) (λ_ c a=>⟨_,a⟩) (λ_ c a=>⟨_,a⟩)
  (λe b1=>(pT T1 e r (u.aE b1)).m λc i ⟨a,h⟩=>⟨aeh a,h⟩) ?_ ?_).m ?_
 .rintro b ⟨o,a,d⟩ e b1;simp only[Ii,Ku,IU,GN,Kt] at d;obtain⟨rfl,_⟩:=d;exact UH b a e
 .rintro b ⟨o,a,d⟩ _ e b1;simp only[Ii,Ku,IU,GN,Kt] at d;obtain⟨rfl,_⟩:=d;exact YR b a e
 rintro c i ⟨⟨b,K,_,⟨o,a,d⟩,_,_,rfl⟩|⟨_,a⟩,h⟩
 .simp only[Ii,Ku,IU,GN,Kt] at d;obtain⟨rfl,_⟩:=d;exact⟨⟨b,a,A⟩,h⟩
 rcases a with⟨b,o,_,a⟩|⟨b,a⟩|⟨b,M,J,a⟩
 .simp at a
 .simp at a
 simp only[Ii,IT] at a;exact absurd a J
def Yg (j:Q S)(a:ct j D1)(o:L):Y N 220 #[j] o λb h=>b=f #[T1,G 0]/\T o o h:=by
 go_call uz j D1 a (λb=>b=z U) (λb=>b=O T1) o (λb a=>⟨_,a⟩) (λb a=>⟨_,a⟩) (λg _=>UH j a g) (λ_ g _=>YR j a g) as b h ⟨⟨_,t,d,rfl⟩|⟨a,_⟩,e⟩
 .simp only[Ii,IT] at d;rw[d];exact⟨A,e⟩
 simp at a
def C1:fj:=⟨K1,V1,X⟩
def R1:B:=⟨#[82,213,32,9,195,71,163,161,45,15,192,87,29,101,74,217,2,57,37,48,225,217,156,67,253,55,34,240,5,31,4,93]⟩
def R0:B:=⟨#[118,190,139,82,141,0,117,247,170,233,141,111,165,122,109,60,131,174,72,10,132,105,230,104,215,176,175,150,137,149,172,113]⟩
def UJ:bn T1=R1:=e
def YS:bn ⟨#[128]⟩=R0:=e
namespace Wi
def rJ (o:C)(j:L):Y N 109 #[o,z U] j λb d=>b=f #[]/\d=j:=by
 go_enter func109,ntmps109;go_wp2;go_end0;exact⟨A,A⟩
def ly (W:C)(j X:B)(K:Bool)(t u:D)(J:L)(a:j.size<1099511627776)(Z:Rl.fX (bs j)=M (K,t,u))(w:t+u=j.size)(s:j.extract t (t+u)=X):Y N 112 #[W,j,K] J λe h=>e=O X/\T J J h:=by
 have V:=kK j J a;rw[Z] at V;have P:=y (Y N 181 #[j] J λe h=>e=f #[z K,O (j.extract t (t+u)),O (j.extract (t+u) j.size),G 0]/\T J J h) V;have c:=cj (p:=j.extract (t+u) j.size) (by rw[ax];omega);have x:((0:C)==0)=U:=r;rw[s] at P;generalize j.extract (t+u) j.size=v at P c;have b:=F (rJ W);cases K;all_goals
  go_enter func112,ntmps112;go_wp2_with (first|(with_reducible go_call P.o as e o ⟨rfl,i⟩)|((with_reducible go_call b.o _ as e q ⟨rfl,k⟩);subst k));go_ret;exact⟨A,i⟩
def Cb (K:C)(o t:B)(z J:Nat)(O:List B)(j:L)(e:As.cC j)(n:o.size<1048577)(X:Rl.fX (bs o)=M (U,z,J))(Z:z+J=o.size)(s:o.extract z (z+J)=t)(h:t.size<1048577)(i:Rl.dL t=O):Y N 110 #[K,o] j λd b=>(∃u,d=ι u/\bS b u O)/\T j j b:=by
 have v:=F (ly K o t U z J j H X Z s);have x:=QC (∀a,T j j a->Y N 180 #[t] a λd b=>(∃u,d=f #[u,G 0]/\bS b u O)/\T a a b) λa b1=>by
  have:=xc t a h (e.aE b1);rwa[i] at this
 have w:=F (rJ K);have p:((0:C)==0)=U:=r;go_enter func110,ntmps110;go_wp2_with fail;go_call v.o as d a ⟨rfl,b1⟩;have k:=F (x.o a b1);have P:=F b1;go_wp2_with fail;go_call k.o as d D ⟨⟨u,rfl,c⟩,g⟩;obtain⟨l,m,rfl,-⟩:=c.bZ;have V:=F (W c (P.o.t (g.m P.o.z)));go_wp2_with ((with_reducible go_call w.o _ as d E ⟨rfl,y⟩);subst y);go_ret;exact⟨⟨_,A,V.1⟩,V.2⟩
end Wi
end Go.Proofs.YtajnhfklchlahaaGreatDoor
