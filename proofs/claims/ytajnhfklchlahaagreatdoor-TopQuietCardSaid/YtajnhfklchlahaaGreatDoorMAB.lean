import Derived.Test.YtajnhfklchlahaaGreatDoorMZ
import Derived.PlainAid
import Derived.WalkSpells
import Derived.WalkLawsBesides
import Derived.Laws.CopyOwn
import Derived.StillTailTactics
import Derived.Lib.Strings
import Derived.BigQuiet
import Derived.Deep.DeepCutAuto
import Derived.Deep.RegionHeld3
set_option linter.all false
set_option maxRecDepth 100000
set_option maxHeartbeats 1600000
namespace Go.Proofs.YtajnhfklchlahaaGreatDoor
open Go.RowKit Go.Maps Go.ChangeMaps Go.MapKept Go.WideShapes Go.Proofs.Tryz
open Go.Maps (Keyed)
open Go.WideShapes (insert_perm sorted_perm)
open Go.WideElems (Fit rd rg pl rd_key rd_val rg_of other_key)
open Go.Maps (Keyed Tidy IsMap has size)
open Go.Maps (Keyed Tidy IsMap has size strike_twice)
open Bool renaming false->σ,true->ψ,false->X,true->U
open Go.IntKind renaming i64->η,i64->u
open Go renaming Lit->IA,Oper->Le,Operand->Kg,TypeId->Λ,Value->π,World->ν,maxLen->Ie,wpList->Ji,Value->S,World->L,DataW->QX,execOp->Xb,keyOf->Xi,Program->Xp,zeroValue->Xs,wpList_plain->Xt,MemPlace->Xz,run_underlying->Xo,plainElem->XA,Addr->JM,Calls->τ,Calls->Y,heap_alloc_new->Xm,yielded->Xg,setRow_other->XL,Ending->He,info_parts->Xv,callFunc->Xa
open Go.Obj renaming map->Lz,cells->θ,cells->K
open Go.Oper renaming wp->Ld
open Go.Result renaming andThen->Ω,ok->Je
open Go.Value renaming bool->υ,map->KD,pointer->ξ,tuple->χ,bool->z,int->Z,pointer->V,tuple->f,string->β,string->O,slice->ο,agg->t,slice->P,func->Hl,ownBlock->Ψ
open Option renaming none->ζ,some->δ,none->J,some->M
open Or renaming inl->Ξ,inr->Θ,inl->o,inr->j
open _root_ renaming rfl->A,Nat->D,List->E,Array->Q,Option->QV,ByteArray->B,Int->C,congrArg->Xl,if_neg->QT,if_pos->QU,decide_eq_true->Xr,decide_eq_false->Xx,False->QZ,of_decide_eq_true->XG,ByteArray->QE,and_true->QW,or_false->Xf
open YtajnhfklchlahaaGreatDoor renaming Ga->F,ϑ->G,om->H,eS->I,sm->R,QD->d,Qz->e,dc->r,QC->y
open Decidable renaming decide->LH
open Go.Proofs.Tryz renaming prog->γ,prog->N
open Go.RowKit renaming Below->ρ,Below->T,Hid->Φ,intOf->QI
open Go.World renaming cell?->Iz,setCell->PZ
open Go.Fn renaming func->Ic
open Go.Region renaming wanted->Jb
variable {w q a i:Nat}{g s l:ν}{k:ByteArray}{v:List ByteArray}{h:Array π}{m:π}{b:List π}{c:Int}{p:Λ}
section
def RV (f:S):QV (QX S×E Xz):=M (.held f,[])
def hd (f:IA×S):IA×QX S:=(f.1,.held f.2)
def be (kl:IA)(L:E (IA×S)):E (IA×S):=L.filter λc=>!c.1.sameKey kl
def aT (L:E (IA×S))(kl:IA):QV S:=(L.find? λc=>c.1.sameKey kl).map (·.2)
def bj (P:Xp)(w:ν)(k:Λ)(b:D)(L:E (IA×S)):Prop:=
 ∃f,w.ownsMap P k RV b L.length (.map f)/\f.Perm (L.map hd)
variable {P:Program}{k t e:Λ}{w:ν}{b:Nat}{L:List (IA×π)}
def oi {u:D}{f:E (IA×QX S)}(j:w.ownsMap P k RV b u (.map f)):w.ownsMap P k RV b (f:D) (.map f):=by
 let⟨g,i,l,h,m,c⟩:=j;refine⟨g,i,l,h,?_,c⟩;have:=length_read (P:=P) (k:=k) (R0:=RV) g;simp only[Qy] at c;rw[c,this];exact d
def bj.of {u:D}{es:E (IA×QX S)}(j:w.ownsMap P k RV b u (.map es))(f:es.Perm (L.map hd)):bj P w k b L:=
 ⟨es,by have:=oi j;rwa[f.length_eq,Hp] at this,f⟩
def bj.lt (f:bj P w k b L):b<(w:D):=let⟨c,d,_⟩:=f;d.lt
def bj.aM {w':ν}(f:bj P w k b L)(j:w'.heap[b]?=w.heap[b]?):bj P w' k b L:=let⟨d,⟨h,c,i,rest⟩,g⟩:=f;⟨d,⟨h,c,j.t i,rest⟩,g⟩
def bj.pk (w:ν)(P:Xp)(k:Λ):bj P (w.alloc (Lz #[] 0)) k w []:=⟨[],w.ownsMap_made P k RV,List.Perm.refl _⟩
def bj.fc (z:bj P w k b L)(u:Keyed P k):L.Pairwise (λc d=>c.1≠d.1):=by
 obtain⟨O,A,J⟩:=z;obtain⟨U,f,M⟩:=A.tidy u;simp only[Qy] at f;subst f;have j:=(J.pairwise_iff (R:=λc d:IA×QX S=>c.1≠d.1) (fun{_ _} K=>Ne.symm K)).1 M;rwa[Jy] at j
def bj.xR (z:bj P w k b L)(u:Keyed P k):∀f∈L,WideAt.IsKeyLit f.1:=by
 obtain⟨U,J,K⟩:=z;obtain⟨V,j,_,M⟩:=J.entries u;simp only[Qy] at j;subst j;intro f O;exact M (hd f) (K.mem_iff.2 (GL.2 ⟨f,O,A⟩))
def cx {kl:IA}{u:S}(f:aT L kl=u):(kl,u)∈L:=by
 unfold aT at f;obtain⟨J,j,rfl⟩:=Jd.1 f;have A:=Lm j;have z:=Qa j;rwa[<-JJ z]
def mx {kl:IA}{u:S}(A:WideAt.IsKeyLit kl)(z:L.Pairwise (λc p=>c.1≠p.1))(f:(kl,u)∈L):aT L kl=u:=by
 induction L with
 |nil=>cases f
 |cons c r n=>
  let⟨h,i⟩:=Nr.1 z;unfold aT;rcases GF.1 f with rfl|j
  .simp[JT A]
  have:c.1.sameKey kl=X:=by
   cases J:c.1.sameKey kl
   .rfl
   exact absurd (JJ J) (h _ j)
  rw[List.find?_cons_of_neg (by simp[this])];exact n i j
def qI {kl:IA}(f:aT L kl=J)(u:WideAt.IsKeyLit kl):∀j,(kl,j)∉L:=by
 intro j z;unfold aT at f;rw[Option.map_eq_none_iff,List.find?_eq_none] at f;exact f _ z (JT u)
def oD {kl:IA}{p:IA×S}(u:WideAt.IsKeyLit kl):p∈be kl L↔p∈L/\p.1≠kl:=by
 rw[be,GX];constructor
 .rintro⟨j,f⟩;refine⟨j,λe=>?_⟩;rw[e,JT u] at f;cases f
 rintro⟨j,f⟩;refine⟨j,?_⟩;cases z:p.1.sameKey kl
 .rfl
 exact absurd (JJ z) f
def bB (kl:IA)(L:E (IA×S)):(be kl L:D)<=(L:D):=KS _ _
def bY {kl:IA}(j:WideAt.IsKeyLit kl)(f:S)(L:E (IA×S)):aT ((kl,f)::L) kl=f:=by
 simp[aT,JT j]
def ck {kl f:IA}(j:kl≠f)(u:S)(L:E (IA×S)):aT ((kl,u)::L) f=aT L f:=by
 unfold aT;rw[List.find?_cons_of_neg (by simp[Maps.sameKey_ne j])]
def qJ {kl:IA}(L:E (IA×S)):aT (be kl L) kl=J:=by
 rw[aT,be,Option.map_eq_none_iff,List.find?_eq_none];intro j f;simpa using(GX.1 f).2
def dO {kl f:IA}(j:f≠kl)(L:E (IA×S)):aT (be kl L) f=aT L f:=by
 unfold aT be;congr 1;exact Maps.find_filter_keep (λg c=>by rw[JJ c,Maps.sameKey_ne j];rfl) L
def oE (V:L.Pairwise (λc d=>c.1≠d.1)){f:E (IA×QX S)}(j:f.Perm (L.map hd)){kl:IA}(z:WideAt.IsKeyLit kl)(J:S):
 (DataW.map f).atKey kl (.held J)=.held ((aT L kl).getD J):=by
 have K:f.Pairwise (λc d=>c.1≠d.1):=by
  apply(j.pairwise_iff (R:=λc d:IA×QX S=>c.1≠d.1) (fun{_ _} M=>Ne.symm M)).2;rwa[Jy]
 cases u:aT L kl with
 |some g=>
  exact WideAt.atKey_mem _ z K (j.mem_iff.2 (GL.2 ⟨_,cx u,A⟩))
 |none=>
  apply Po;show f.any (λc=>c.1.sameKey kl)=X;rw[List.any_eq_false];intro c O U;obtain⟨d,W,rfl⟩:=GL.1 (j.mem_iff.1 O);exact qI u z d.2 (by rwa[<-JJ U])
def OU (O:L.Pairwise (λc d=>c.1≠d.1)){f:E (IA×QX S)}(z:f.Perm (L.map hd)){kl:IA}(u:WideAt.IsKeyLit kl):Maps.has (DataW.map f) kl=(aT L kl).isSome:=by
 cases j:aT L kl with
 |some m=>
  show f.any (λc=>c.1.sameKey kl)=U;exact PU.2 ⟨hd (kl,m),z.mem_iff.2 (GL.2 ⟨_,cx j,A⟩),JT u⟩
 |none=>
  show f.any (λc=>c.1.sameKey kl)=X;rw[List.any_eq_false];intro c J K;obtain⟨d,M,rfl⟩:=GL.1 (z.mem_iff.1 J);exact qI j u d.2 (by rwa[<-JJ K])
def bj.jE (z:bj P w k b L)(f:Keyed P k)(Z:P.underlying t=M (.map k e)){u:S}(q:(Xs e).run P w=Je u w){K:S}{kl:IA}(J:Xi P k K=kl):
 (Instr.lookup t (KD (M b)) K X).run P w=Je ((aT L kl).getD u) w:=by
 have V:=z.fc f;obtain⟨s,O,U⟩:=z;obtain⟨v,c,W,j⟩:=O.lookup f Z q (zd:=.held u) (zp:=[]) A J;rw[oE V U (f.key J)] at j;simp only[RV,Gd,Hf,Qf] at j;rw[W,j.1]
def bj.El (O:bj P w k b L)(j:Keyed P k)(p:P.underlying t=M (.map k e)){K:S}(q:(Xs e).run P w=Je K w){X:S}{kl:IA}(u:Xi P k X=kl):
 (Instr.lookup t (KD (M b)) X U).run P w=Je (f #[(aT L kl).getD K,z (aT L kl).isSome]) w:=by
 have W:=O.fc j;obtain⟨s,Z,V⟩:=O;obtain⟨v,c,n,J⟩:=Z.look_ok j p q (zd:=.held K) (zp:=[]) A u;rw[oE W V (j.key u)] at J;simp only[RV,Gd,Hf,Qf] at J;rw[n,J.1,OU W V (j.key u)]
def bj.cB (u:bj P w k b L)(K:P.underlying t=M (.map k e))(f:Λ):(Builtin.len_ #[t] f #[KD (M b)]).run P w=Je (G L.length) w:=by
 obtain⟨j,z,J⟩:=u;rw[z.len K f,show Maps.size (DataW.map j)=j.length from A,J.length_eq,Hp]
def my {f:E (IA×QX S)}(j:f.Perm (L.map hd))(kl:IA):(f.filter λc=>!c.1.sameKey kl).Perm ((be kl L).map hd):=by
 have:=j.filter (λc=>!c.1.sameKey kl);rwa[Qb] at this
def bj.cO (J:bj P w k b L)(z:Keyed P k)(v:P.underlying t=M (.map k e))(X:L.length<Ie){j val:S}{kl:IA}(W:Xi P k j=kl):
 ∃f,(Instr.mapUpdate t (KD (M b)) j val).run P w=Je () f/\bj P f k b ((kl,val)::be kl L)/\w.mapTurned f b:=by
 obtain⟨u,K,O⟩:=J;obtain⟨f,Z,U,V⟩:=K.store z v X W (val:=val) (d:=.held val) (ps:=[]) A;refine⟨f,Z,bj.of (es:=DataW.insert (kl,.held val) (u.filter λs=>!s.1.sameKey kl)) U ?_,V⟩;exact(insert_perm _ _).trans ((my O kl).cons _)
def bj.FP (K:bj P w k b L)(J:Keyed P k)(c:P.underlying t=M (.map k e)){u:S}{kl:IA}(X:Xi P k u=kl)(z:Λ):
 ∃j,(Builtin.delete_ #[t,k] z #[KD (M b),u]).run P w=Je (f #[]) j/\bj P j k b (be kl L)/\w.mapTurned j b:=by
 obtain⟨A,O,U⟩:=K;obtain⟨j,Z,V,W⟩:=O.drop J c X z;exact⟨j,Z,bj.of (es:=A.filter λs=>!s.1.sameKey kl) V (my U kl),W⟩
def cF (P:Xp)(w:ν)(k:Λ)(b r:D)(L T:E (IA×S))(fS:D):Prop:=
 ∃f left,w.ranges P k RV b r L.length (.map f) left fS/\f.Perm (L.map hd)/\(∀kl,left kl=U↔∃j,(kl,j)∈T)/\T.Sublist L
variable {r fS:Nat}{T:List (IA×π)}
def cF.cS (f:cF P w k b r L T fS):bj P w k b L:=by
 obtain⟨u,left,j,z,_⟩:=f;exact⟨u,j.owns,z⟩
def cF.ne (f:cF P w k b r L T fS):r≠b:=let⟨c,left,d,g,_⟩:=f;d.ne
def cF.lt (f:cF P w k b r L T fS):r<(w:D):=let⟨c,left,d,g,_⟩:=f;d.lt
def cF.lA (f:cF P w k b r L T fS):w.rangeLeft b r=fS:=by
 obtain⟨u,left,j,z,A,J⟩:=f;exact j.left_eq
def cF.Ce (f:cF P w k b r L T fS):T.Sublist L:=by
 obtain⟨u,left,z,A,J,j⟩:=f;exact j
def cF.aM {w':ν}(f:cF P w k b r L T fS)(j:w'.heap[b]?=w.heap[b]?)(u:w'.heap[r]?=w.heap[r]?):cF P w' k b r L T fS:=let⟨g,left,⟨x,d,s,v,c,h,i,l,m,n,p⟩,q⟩:=f;⟨g,left,⟨x,d,s,v,c,j.t h,i,l,m,u.t n,p⟩,q⟩
def bj.ab2 (K:bj P w k b L)(u:Keyed P k)(g:P.underlying t=M (.map k e)):
 ∃f fS,(Instr.range t (KD (M b))).run P w=Je (V w) f/\cF P f k b w L L fS/\w.grownBy f J/\f.heap.size=w.heap.size+1:=by
 have q:=K.xR u;obtain⟨z,W,j⟩:=K;obtain⟨f,v,X,Z,p⟩:=W.range u g;refine⟨f,_,v,⟨z,_,X,j,λkl=>?_,NA _⟩,Z,p⟩;show z.any (λc=>c.1.sameKey kl)=U↔_;rw[PU];constructor
 .rintro⟨c,s,y⟩;obtain⟨d,h,rfl⟩:=GL.1 (j.mem_iff.1 s);exact⟨d.2,by rwa[<-JJ y]⟩
 rintro⟨x,O⟩;exact⟨hd (kl,x),j.mem_iff.2 (GL.2 ⟨_,O,A⟩),JT (q _ O)⟩
def cF.next (l:cF P w k b r L T fS)(M:Keyed P k)(Z:Λ):
 (T=[]/\(Instr.next (V r) X Z).run P w=Je (f #[υ X]) w)\/
 ∃u kl z j A,Xi P k u=δ kl/\(kl,z)∈T/\(Instr.next (V r) X Z).run P w=Je (f #[υ ψ,u,z]) j/\
  cF P j k b r L (be kl T) A/\A<fS/\w.grownBy j (δ r)/\j.heap.size=w.heap.size/\(Instr.entry (V r)).run P j=Je (f #[u,z]) j:=by
 have s:=l.cS.fc M;obtain⟨a2,left,H,d,K,g⟩:=l;rcases H.next M Z with⟨a4,p,O⟩|⟨u,z,kl,a3,j,A,v,N,y,I,O,S,R,n,Y,m⟩
 .refine Ξ ⟨?_,O⟩;cases T with
  |nil=>rfl
  |cons c r=>
   have:=(K c.1).2 ⟨c.2,by simp⟩;rw[p] at this;cases this
 obtain⟨h,x⟩:=(K kl).1 N;have i:=M.key v;have J:=I (.held h);rw[oE s d i,mx i s (g.subset x)] at J;simp only[RV,Gd] at y;have G:a3.1=.held z:=by rw[<-y]
 rw[G,PS] at J;simp only[Qf] at J;subst J;refine Θ ⟨u,kl,h,j,A,v,x,O,⟨a2,_,S,d,λF=>?_,List.filter_sublist.trans g⟩,R,n,Y,m⟩;constructor
 .intro U;rw[Jc] at U;obtain⟨q,W⟩:=(K F).1 U.1;exact⟨q,GX.2 ⟨W,U.2⟩⟩
 rintro⟨q,W⟩;obtain⟨a0,a1⟩:=GX.1 W;rw[Jc];exact⟨(K F).2 ⟨q,a0⟩,a1⟩
def cF.FP (q:cF P w k b r L T fS)(N:Keyed P k)(F:P.underlying t=δ (.map k e)){U:π}{kl:IA}(W:Xi P k U=kl)(V:Λ):
 ∃f j,(Builtin.delete_ #[t,k] V #[KD (δ b),U]).run P w=Je (χ #[]) f/\cF P f k b r (be kl L) (be kl T) j/\j<=fS/\w.mapTurned f b:=by
 obtain⟨h,left,v,x,K,y⟩:=q;obtain⟨f,j,c,O,X,G⟩:=v.drop N F W V;have M:=my x kl;have u:f.ranges P k RV b r (be kl L).length (.map (h.filter λi=>!i.1.sameKey kl)) (λd=>left d&&!d.sameKey kl) j:=by
  have Z:=oi O.owns;obtain⟨n,S,g,R,l,J,Y,a4,m,p⟩:=O;obtain⟨a2,a3,A,a5,a0,a1⟩:=Z;rw[J] at A;simp only[Gd,Obj.map.injEq] at A;obtain⟨rfl,rfl⟩:=A;refine⟨n,S,g,R,l,J,Y,?_,m,p⟩;have:=M.length_eq;rw[Hp] at this;omega
 refine⟨f,j,c,⟨_,_,u,M,λs=>?_,y.filter _⟩,X,G⟩;constructor
 .intro u;rw[Jc] at u;obtain⟨d,z⟩:=(K s).1 u.1;exact⟨d,GX.2 ⟨z,u.2⟩⟩
 rintro⟨d,z⟩;obtain⟨H,I⟩:=GX.1 z;rw[Jc];exact⟨(K s).2 ⟨d,H⟩,I⟩
section
variable {ops:Array Le}{rest:List Le}{o:Le}{a:Act}{Q:Exit->Act->ν->Prop}
def OV (X:o.guard=J)(u A z:Kg)(t:Λ)(x:o.op=Op.mapUpdate t u A z)(k e:Λ)(U:Keyed P k)(i:P.underlying t=M (.map k e))(b:D)(L:E (IA×S))
 (h:a.eval u=KD (M b)) (V:bj P w k b L) (v:(L:D)<Ie) (j f:S) (kl:IA) (O:a.eval A=j) (K:a.eval z=f) (Z:Xi P k j=kl)
 (W:∀c,bj P c k b ((kl,f)::be kl L)->w.mapTurned c b->Ji P ops Q rest (a.put o.dst undef) c):Ji P ops Q (o::rest) a w:=by
 refine Xt X λl p=>?_;let⟨c,y,d,g⟩:=V.cO U i v Z (val:=f);simp[Ld,Xb,x,h,O,K,y,Ω];exact p _ _ (W c d g)
def kJ (U:o.guard=J)(u z:Kg)(t k:Λ)(X:o.op=Op.call {callee:=Callee.builtin Builtin.delete,args:=#[u,z],argTypes:=#[t,k]})
 (e:Λ) (A:Keyed P k) (Z:P.underlying t=M (.map k e)) (b:D) (L:E (IA×S)) (W:a.eval u=KD (M b)) (K:bj P w k b L) (j:S) (kl:IA) (v:a.eval z=j) (V:Xi P k j=kl)
 (O:∀c,bj P c k b (be kl L)->w.mapTurned c b->Ji P ops Q rest (a.put o.dst (f #[])) c):Ji P ops Q (o::rest) a w:=by
 refine Xt U λd l=>?_;let⟨c,s,x,y⟩:=K.FP A Z V o.type;simp[Ld,Xb,X,resolve,invoke,builtin,W,v,s,Ω];exact l _ _ (O c x y)
def UX (U:o.guard=J)(j u:Kg)(t:Λ)(Z:o.op=Op.lookup t j u X)(k e:Λ)(A:Keyed P k)(s:P.underlying t=M (.map k e))(z:S)(v:(Xs e).run P w=Je z w)(b:D)(L:E (IA×S))
 (W:a.eval j=KD (M b)) (K:bj P w k b L) (f:S) (kl:IA) (c:a.eval u=f) (V:Xi P k f=kl)
 (O:Ji P ops Q rest (a.put o.dst ((aT L kl).getD z)) w):Ji P ops Q (o::rest) a w:=by
 refine Xt U λx l=>?_;simp[Ld,Xb,Z,W,c,K.jE A s v V,Ω];exact l _ _ O
def fW (X:o.guard=J)(u A:Kg)(t:Λ)(q:o.op=Op.lookup t u A U)(k e:Λ)(O:Keyed P k)(s:P.underlying t=M (.map k e))(K:S)(v:(Xs e).run P w=Je K w)(b:D)(L:E (IA×S))
 (p:a.eval u=KD (M b)) (V:bj P w k b L) (j:S) (kl:IA) (c:a.eval A=j) (Z:Xi P k j=kl)
 (W:Ji P ops Q rest (a.put o.dst (f #[(aT L kl).getD K,z (aT L kl).isSome])) w):Ji P ops Q (o::rest) a w:=by
 refine Xt X λx l=>?_;simp[Ld,Xb,q,p,c,V.El O s v Z,Ω];exact l _ _ W
def Cg (z:o.guard=J)(f:Kg)(t:Λ)(K:o.op=Op.call {callee:=Callee.builtin Builtin.len,args:=#[f],argTypes:=#[t]})
 (k e:Λ) (O:P.underlying t=M (.map k e)) (b:D) (L:E (IA×S)) (A:a.eval f=KD (M b)) (j:bj P w k b L)
 (u:Ji P ops Q rest (a.put o.dst (G (L:D))) w):Ji P ops Q (o::rest) a w:=by
 refine Xt z λm g=>?_;simp[Ld,Xb,K,resolve,invoke,builtin,A,j.cB O o.type,Ω];exact g _ _ u
def zx (A:o.guard=J)(f:Kg)(t:Λ)(O:o.op=Op.range t f)(k e:Λ)(j:Keyed P k)(U:P.underlying t=M (.map k e))(b:D)(L:E (IA×S))
 (K:a.eval f=KD (M b)) (u:bj P w k b L)
 (z:∀c fS,cF P c k b w L L fS->w.grownBy c J->(c:D)=(w:D)+1->Ji P ops Q rest (a.put o.dst (V w)) c):Ji P ops Q (o::rest) a w:=by
 refine Xt A λv i=>?_;let⟨c,fS,n,q,s,d⟩:=u.ab2 j U;simp[Ld,Xb,O,K,n,Ω];exact i _ _ (z c fS q s d)
def Em (y:o.guard=J)(it:Kg)(A:o.op=Op.next it X)(k:Λ)(p:Keyed P k)(b r:D)(L T:E (IA×S))(fS:D)
 (u:a.eval it=V r) (q:cF P w k b r L T fS)
 (l:T=[]->Ji P ops Q rest (a.put o.dst (f #[z X])) w)
 (v:∀(d:S) (kl:IA) (g:S) (c:ν) (h:D),Xi P k d=kl->(kl,g)∈T->cF P c k b r L (be kl T) h->h<fS->w.grownBy c (M r)->(c:D)=(w:D)->
  (Instr.entry (V r)).run P c=Je (f #[d,g]) c->Ji P ops Q rest (a.put o.dst (f #[z U,d,g])) c):Ji P ops Q (o::rest) a w:=by
 refine Xt y λB i=>?_;unfold Ld;rcases q.next p o.type with⟨s,j⟩|⟨d,kl,g,c,h,K,W,j,Z,O,m,n,x⟩
 .simp[Xb,A,u,j,Ω];exact i _ _ (l s)
 simp[Xb,A,u,j,Ω];exact i _ _ (v d kl g c h K W Z O m n x)
def xS {r fS:D}{T:E (IA×S)}(U:o.guard=J)(u z:Kg)(t k:Λ)(X:o.op=Op.call {callee:=Callee.builtin Builtin.delete,args:=#[u,z],argTypes:=#[t,k]})
 (e:Λ) (A:Keyed P k) (Z:P.underlying t=M (.map k e)) (b:D) (L:E (IA×S)) (W:a.eval u=KD (M b)) (K:cF P w k b r L T fS) (j:S) (kl:IA) (x:a.eval z=j) (V:Xi P k j=kl)
 (O:∀c d,cF P c k b r (be kl L) (be kl T) d->d<=fS->w.mapTurned c b->Ji P ops Q rest (a.put o.dst (f #[])) c):Ji P ops Q (o::rest) a w:=by
 refine Xt U λC m=>?_;let⟨c,d,h,y,i,g⟩:=K.FP A Z V o.type;simp[Ld,Xb,X,resolve,invoke,builtin,W,x,h,Ω];exact m _ _ (O c d y i g)
end
end
section
variable {P:Program}{ops:Array Le}{rest:List Le}{o:Le}{a:Act}{Q:Exit->Act->ν->Prop}{w:ν}{t k e:Λ}{b:Nat}{L:List (IA×π)}{kl:IA}
theorem wL (K:Keyed P k)(q:P.underlying t=M (.map k e)){z:S}(s:(Xs e).run P w=Je z w)(O:bj P w k b L){f:S}(W:Xi P k f=kl)(U:Ji P ops Q rest (a.put o.dst ((aT L kl).getD z)) w)(V:o.guard=J:=by exact A){j u:Kg}(p:o.op=Op.lookup t j u X:=by exact A)(Z:a.eval j=KD (M b):=by exact A)(r:a.eval u=f:=by exact A):Ji P ops Q (o::rest) a w:=UX V j u t p k e K q z s b L Z O f kl r W U
theorem wS (U:Keyed P k)(c:P.underlying t=M (.map k e))(V:bj P w k b L)(r:L.length<Ie){f z:S}(Z:Xi P k f=kl)(W:∀K,bj P K k b ((kl,z)::be kl L)->w.mapTurned K b->Ji P ops Q rest (a.put o.dst undef) K)(X:o.guard=J:=by exact A){j O u:Kg}(s:o.op=Op.mapUpdate t j O u:=by exact A)(q:a.eval j=KD (M b):=by exact A)(x:a.eval O=f:=by exact A)(v:a.eval u=z:=by exact A):Ji P ops Q (o::rest) a w:=OV X j O u t s k e U c b L q V r f z kl x v Z W
end
namespace Cc
section
variable {H:Type}{P:Program}{k:Λ}{R:π->Option (DataW H×List MemPlace)}{w:ν}{b r n:Nat}{D:DataW H}{left:IA->Bool}{fS:Nat}
def ye {w:L}{b:Nat}{o u:Q MapEntry}{j t:Nat}{J:Q MapEntry}{A:Nat}(z:w.heap[b]?=Lz J A)(K:setBlock w b (Lz o j)=setBlock w b (Lz u t)):o=u/\j=t:=by
 have f:=heap_setBlock_same z (Lz o j);rw[K,heap_setBlock_same z] at f;simp only[Gd,Obj.map.injEq] at f;exact⟨f.1.s,f.2.s⟩
def zZ {U S:Λ}{f:Q MapEntry}{j:Nat}(t:Keyed P k)(a:P.underlying U=M (.map k S))(z:w.heap[b]?=Lz f j)(V:Fit P k R f j)(i:f.size<Ie)
 {o J:π} {kl:IA} {W:QX H} {p:E Xz} (A:Xi P k o=kl) (l:R J=M (W,p)) (F:∃c∈f.toList,c.key=o):
 ∃d,(Instr.mapUpdate U (KD (M b)) o J).run P w=Je () (setBlock w b (Lz d j))/\Fit P k R d j/\
  (d.toList.map (rg P k R)).foldr DataW.insert []=putKey kl W ((f.toList.map (rg P k R)).foldr DataW.insert [])/\d.toList.map (λc=>(c.key,c.born))=f.toList.map (λc=>(c.key,c.born)):=by
 let⟨d,s,y,q,I,_⟩:=Maps.fit_store (R':=R) t a z V i (λ_ _ _ _ N=>N) A l;rcases t.find w A f.toList V.keys with⟨Z,u⟩|⟨K,e,Z,u,v⟩
 .let⟨c,L,m⟩:=F;exact absurd m (u c L)
 have G:f[K]?=e:=sU u;have O:(Instr.mapUpdate U (KD (M b)) o J).run P w=Je () (setBlock w b (Lz (f.modify K (λT=>{T with key:=o,val:=J})) j)):=by
  simp[Instr.mapUpdate,Xo a,MapKept.run_getObj_map z,t.check w σ A,Z,G,v,t.stays w A,MapKept.run_setObj_map _ z,Ω,setBlock]
 rw[y] at O;simp only[Result.ok.injEq,true_and] at O;let⟨h,g⟩:=ye z O;subst g;refine⟨d,y,q,I,?_⟩;rw[h];apply LC;intro X;simp only[Ip,Array.toList_modify,Lb];by_cases x:K=X
 .subst x;rw[u];simp[v]
 cases Y:f.toList[X]?<;>simp[x]
def Aa {α:Type}(f:Nat->Bool){t o:E MapEntry}(u:o.map (λa=>(a.key,a.born))=t.map (λa=>(a.key,a.born))):(o.filter λa=>f a.born:Nat)=(t.filter λa=>f a.born:Nat):=by
 have j:∀d:E MapEntry,(d.filter λa=>f a.born:Nat)=((d.map (λa=>(a.key,a.born))).filter λi=>f i.2:Nat):=λd=>by
  rw[Qb,Hp];rfl
 rw[j,j,u]
def wK {j f:E MapEntry}(o:f.map (λa=>(a.key,a.born))=j.map (λa=>(a.key,a.born))){a:MapEntry}(t:a∈f):∃c∈j,c.key=a.key/\c.born=a.born:=by
 have:(a.key,a.born)∈f.map (λa=>(a.key,a.born)):=GL.2 ⟨a,t,A⟩;rw[o] at this;let⟨c,i,d⟩:=GL.1 this;simp only[Hf] at d;exact⟨c,i,d.1,d.2⟩
def yf {Z p:Λ}(U:w.ranges P k R b r n D left fS)(O:Keyed P k)(a6:P.underlying Z=M (.map k p))(I:n<Ie){J L:π}{kl:IA}{X:QX H}{b0:E Xz}
 (V:Xi P k J=kl) (a7:R L=M (X,b0)) (v:Maps.has D kl=ψ):
 ∃A,(Instr.mapUpdate Z (KD (M b)) J L).run P w=Je () A/\A.ranges P k R b r n (D.put kl X) left fS/\w.mapTurned A b:=by
 have Y:=U.ne;obtain⟨f,K,a9,z,N,o,j,a3,rfl,a1,ab,rfl,T,G,a4,a5⟩:=U;have F:∃a∈f.toList,a.key=J:=by
  let⟨b5,ae,af⟩:=PU.1 v;obtain⟨a,c,rfl⟩:=GL.1 (mem_sorted.1 ae);let⟨s,h⟩:=j.reads a c;have e:=JJ af;rw[rg_of h] at e;exact⟨a,c,O.inj (e▸rd_key h) V⟩
 let⟨l,a2,y,a0,q⟩:=zZ O a6 o j (Np a3 I) V a7 F;have W:∀d∈l.toList,∃a∈f.toList,(rg P k R a).1=(rg P k R d).1/\a.born=d.born:=λd g=>by
  let⟨a,c,e,i⟩:=wK q g;let⟨s,h⟩:=j.reads a c;let⟨b3,m⟩:=y.reads d g;refine⟨a,c,?_,i⟩;have t:=rd_key h;have u:=rd_key m;rw[e] at t;rw[rg_of h,rg_of m];exact Gm (t.s.t u)
 have S:∀a∈f.toList,∃d∈l.toList,(rg P k R d).1=(rg P k R a).1:=λa c=>by
  let⟨d,g,e,i⟩:=wK q.s c;let⟨s,h⟩:=j.reads a c;let⟨b3,m⟩:=y.reads d g;refine⟨d,g,?_⟩;have t:=rd_key h;have u:=rd_key m;rw[e] at u;rw[rg_of h,rg_of m];exact Gm (u.s.t t)
 have b4:l.size=f.size:=by
  have:=Xl List.length q;simpa using this
 refine⟨_,a2,⟨l,K,a9,z,N,heap_setBlock_same o _,y,om,by rw[DataW.put_eq,a0],(heap_setBlock_other o _ Y).t a1,λd g=>?_,?_,λd g=>?_,λx0 a8=>?_,a4,a5⟩,⟨f,K,l,K,o,rfl⟩⟩
 .let⟨a,c,_,i⟩:=W d g;rw[<-i];exact ab a c
 .have e:∀x:Q MapEntry,(leftOf x z).size=(x.toList.filter λp=>!z.contains p.born:Nat):=λx=>by
   rw[leftOf,<-Array.toList_filter,JG]
  rw[e,e];exact Aa (α:=Nat) (λb2=>!z.contains b2) q
 .let⟨a,c,e,i⟩:=W d g;rw[<-e,<-i];exact T a c
 obtain⟨a,c,rfl⟩:=G x0 a8;exact S a c
def kP (w:L){z:Q Le}{A:E Le}{j:Le}{f:Act}{o:Exit->Act->L->Prop}(G:j.guard=J)(K X V:Kg)(O:Λ)(N:j.op=Op.mapUpdate O K X V)
 (k Z:Λ) (m:Keyed P k) (s:P.underlying O=M (.map k Z)) (R:S->QV (QX H×E Xz)) (b r n:Nat) (D:QX H) (left:IA->Bool) (fS:Nat)
 (g:f.eval K=KD (M b)) (C:w.ranges P k R b r n D left fS) (h:n<Ie) (t W:S) (kl:IA) (v:f.eval X=t) (i:f.eval V=W) (e:Xi P k t=kl)
 (u:QX H) (I:E Xz) (l:R W=M (u,I)) (d:Maps.has D kl=U)
 (a:∀c,c.ranges P k R b r n (D.put kl u) left fS->w.mapTurned c b->Ji P z o A (f.put j.dst undef) c):
 Ji P z o (j::A) f w:=by
 refine Xt G λp F=>?_;let⟨c,q,x,y⟩:=yf C m s h e l d;simp[Ld,Xb,N,g,v,i,q,Ω];exact F _ _ (a c x y)
def mr (w:L){J:Q Le}{K:E Le}{o:Le}{t:Act}{z:Exit->Act->L->Prop}(C:o.guard=ζ)(it:Kg)(s:o.op=Op.next it X)(k u:Λ)(j:IntKind)(S:Keyed P k)(G:P.underlying k=M .string)(V:P.underlying u=M (.int j))
 (b r n:Nat) (D:QX H) (left:IA->Bool) (fS:Nat) (F:t.eval it=ξ r) (a3:w.ranges P k (XA P u) b r n D left fS)
 (a4:fS=0->(∀kl,left kl=X)->Ji P J z K (t.put o.dst (f #[υ X])) w)
 (a5:∀(a:B) (c:Int) (d:L) (h:Nat),a.size<=Ie->(Lit.int j c).wf=U->left (.string a.data.toList)=U->(∀a2,D.atKey (.string a.data.toList) a2=.lit (.int j c))->
  d.ranges P k (XA P u) b r n D (λl=>left l&&!l.sameKey (.string a.data.toList)) h->h<fS->
  w.grownBy d (M r)->(d:Nat)=(w:Nat)->(Instr.entry (ξ r)).run P d=Je (f #[O a,Z j c]) d->Ji P J z K (t.put o.dst (f #[υ U,O a,Z j c])) d):
 Ji P J z (o::K) t w:=by
 have W:∀g kl,Xi P k g=M kl->∃a:B,g=O a/\kl=.string a.data.toList/\a<=Ie:=λg kl e=>by
  cases g<;>simp[Xi,G,mapKey] at e;rename_i T;exact⟨T,A,e.2.s,e.1⟩
 exact wpList_next_ranges w C it s k S (XA P u) O (Z j) (λg kl e=>by obtain⟨a,rfl,_⟩:=W g kl e;exact⟨a,A⟩) (λa8 a1 i=>by obtain⟨c,rfl,_⟩:=plainElem_int_inv V i;exact⟨c,A⟩)
  b r n D left fS F a3 a4 (λa c kl a1 d h e I i a6 v q p x m=>by
   obtain⟨a9,a0,rfl,y⟩:=W _ _ e
   cases a0
   obtain⟨a7,Y,rfl,N⟩:=plainElem_int_inv V i
   cases Y
   exact a5 a c d h y N I a6 v q p x m)
end
abbrev Ts:=E (B×B)
abbrev Cs:=E (B×D)
def kl (f:B):IA:=.string f.data.toList
def hI {f:B}:kl k=kl f↔k=f:=by
 constructor
 .intro j;unfold kl at j;simp only[Lit.string.injEq] at j;cases k;cases f;simp only[ByteArray.mk.injEq] at *;exact PV.1 j
 rintro rfl;rfl
def gV (f:B):WideAt.IsKeyLit (kl f):=by unfold kl;trivial
def kj (f j:B):(kl f).sameKey (kl j)=LH (f=j):=by
 by_cases o:f=j
 .subst o;simp[JT (gV f)]
 rw[Xx o,PO];exact λd=>o (hI.1 (JJ d))
def often:Cs->B->D
 |[],_=>0
 |b::c,a=>if b.1=a then b.2 else often c a
def ds:Cs->B->Cs
 |[],a=>[(a,1)]
 |b::c,a=>if b.1=a then(b.1,min (b.2+1) 15)::c else b::ds c a
def iL:Cs->Cs
 |[]=>[]
 |a::b=>if 1<a.2 then(a.1,a.2/2)::iL b else iL b
def bD (f:Cs):Prop:=(f.map (·.1)).Nodup/\∀j∈f,1<=j.2/\j.2<=15
def qS {f:Cs}(j:k∉f.map (·.1)):often f k=0:=by
 induction f with
 |nil=>rfl
 |cons g a e=>
  simp only[Ij,GF,not_or] at j;rw[often,QT (λd=>j.1 d.s)];exact e j.2
def ij {j:Cs}(o:(j.map (·.1)).Nodup){t:B×D}(f:t∈j):often j t.1=t.2:=by
 induction j with
 |nil=>cases f
 |cons i h g=>
  simp only[Ij,JS] at o;unfold often;rcases GF.1 f with rfl|f
  .rw[QU A]
  rw[QT (λe=>o.1 (by rw[e];exact Ky (f:=(·.1)) f))];exact g o.2 f
def Ab {f:Cs}(j:bD f)(u:B):often f u<=15:=by
 by_cases o:u∈f.map (·.1)
 .obtain⟨z,t,rfl⟩:=GL.1 o;rw[ij j.1 t];exact(j.2 z t).2
 rw[qS o];omega
def wM {f:Cs}(j:bD f)(t:B):t∈f.map (·.1)↔often f t≠0:=by
 constructor
 .intro b;obtain⟨z,o,rfl⟩:=GL.1 b;rw[ij j.1 o];have:=(j.2 z o).1;omega
 intro u;refine Nx λb=>u (qS b)
def Ad (u:Cs)(z:B):∀t,t∈(ds u z).map (·.1)↔t∈u.map (·.1)\/t=z:=by
 induction u with
 |nil=>intro t;simp[ds]
 |cons h g a=>
  intro t;unfold ds;split
  .rename_i A;subst A;simp only[Ij,GF];constructor
   .rintro(f|f)
    .exact j f
    exact o (j f)
   rintro((f|f)|f)
   .exact o f
   .exact j f
   exact o f
  simp only[Ij,GF,a t];constructor
  .rintro(f|f|f)
   .exact o (o f)
   .exact o (j f)
   exact j f
  rintro((f|f)|f)
  .exact o f
  .exact j (o f)
  exact j (j f)
def Ae {t:Cs}(f:bD t)(z:B):bD (ds t z):=by
 obtain⟨j,o⟩:=f;induction t with
 |nil=>exact⟨by simp[ds],by simp[ds]⟩
 |cons n m l=>
  simp only[Ij,JS] at j;unfold ds;split
  .rename_i u;refine⟨sU j,λb a=>?_⟩;rcases GF.1 a with rfl|a
   .have:=o n R;simp only;omega
   exact o b (GK _ a)
  rename_i u;obtain⟨A,J⟩:=l j.2 (λb a=>o b (GK _ a));refine⟨?_,λb a=>?_⟩
  .simp only[Ij,JS];refine⟨λi=>?_,A⟩;rcases(Ad m z _).1 i with f|f
   .exact j.1 f
   exact u f
  rcases GF.1 a with rfl|a
  .exact o b R
  exact J b a
def yg (t:Cs)(j o:B):often (ds t j) o=if o=j then min (often t j+1) 15 else often t o:=by
 induction t with
 |nil=>
  unfold ds often;by_cases f:o=j
  .subst f;simp[often]
  rw[QT (λb=>f b.s),QT f];rfl
 |cons h i g=>
  unfold ds;by_cases b:h.1=j
  .rw[QU b];unfold often;simp only;by_cases f:o=j
   .subst f;rw[QU b,QU A,QU b]
   rw[QT (by rw[b];exact λa=>f a.s),QT f,QT (by rw[b];exact λa=>f a.s)]
  rw[QT b];unfold often;rw[g];by_cases f:o=j
  .subst f;rw[QT b,QU A,QU A,QT b]
  rw[QT f,QT f]
def vY {f:Cs}(o:bD f)(t:B):(ds f t:D)=if often f t≠0 then (f:D) else (f:D)+1:=by
 induction f with
 |nil=>simp[ds,often]
 |cons e i h=>
  have z:=o.2 e R;have u:bD i:=⟨(JS.1 o.1).2,λa g=>o.2 a (GK _ g)⟩;unfold ds often;by_cases j:e.1=t
  .rw[QU j,QU j,QU H];rfl
  rw[QT j,QT j,Gx,h u,Gx];split<;>rfl
def qT (f:Cs)(j:B):(ds f j:D)<=(f:D)+1:=by
 induction f with
 |nil=>simp[ds]
 |cons e d c=>
  unfold ds;split
  .simp
  simp[Gx];omega
def CB {o:Cs}(f:k∈(iL o).map (·.1)):k∈o.map (·.1):=by
 induction o with
 |nil=>exact f
 |cons a e c=>
  unfold iL at f;split at f
  .simp only[Ij,GF] at f ⊢;exact f.imp id c
  simp only[Ij,GF];exact j (c f)
def CC {j:Cs}(u:bD j):bD (iL j):=by
 obtain⟨f,o⟩:=u;induction j with
 |nil=>exact⟨f,o⟩
 |cons c k i=>
  simp only[Ij,JS] at f;have t:=i f.2 (λb a=>o b (GK _ a));unfold iL;split
  .refine⟨?_,λb a=>?_⟩
   .simp only[Ij,JS];exact⟨λh=>f.1 (CB h),t.1⟩
   rcases GF.1 a with rfl|a
   .have:=o c R;simp only;omega
   exact t.2 b a
  exact t
def Af {j:Cs}(o:(j.map (·.1)).Nodup)(f:B):often (iL j) f=often j f/2:=by
 induction j with
 |nil=>simp[iL,often]
 |cons d h g=>
  simp only[Ij,JS] at o;unfold iL;by_cases u:1<d.2
  .rw[QU u];unfold often;simp only;split
   .rfl
   exact g o.2
  rw[QT u,g o.2];show _=(if d.1=f then d.2 else often h f)/2;by_cases t:d.1=f
  .rw[QU t,qS (t▸o.1)];omega
  rw[QT t]
def pB (f:Cs):(iL f:D)=(f.filter (λb=>LH (2<=b.2)):D):=by
 induction f with
 |nil=>rfl
 |cons b e d=>
  unfold iL;by_cases j:1<b.2
  .rw[QU j,List.filter_cons_of_pos QB,Gx,Gx,d]
  rw[QT j,List.filter_cons_of_neg QB,d]
def sx (f:Cs):(iL f:D)<=(f:D):=by rw[pB];exact KS _ _
def Yy {t:Type}(o:QX t)(j:Cs)(left:IA->Bool):Prop:=
 Tidy o/\size o=(j.filter (λd=>left (kl d.1)||decide (2<=d.2))).length/\
 ∀f,o.atKey (kl f) (.lit (.int u 0))=.lit (.int u ((if left (kl f) then often j f else often j f/2:D):C))/\
  has o (kl f)=LH ((if left (kl f) then often j f else often j f/2)≠0)
def Vx {t:Type}(f:QX t)(o:Cs):Prop:=
 Tidy f/\size f=o.length/\∀j,f.atKey (kl j) (.lit (.int u 0))=.lit (.int u (often o j:C))/\has f (kl j)=LH (often o j≠0)
def Tidy.gb {j:Type}{f:QX j}(t:Tidy f):IsMap f:=by
 obtain⟨u,o,_⟩:=t;exact⟨u,o⟩
def RH {f:Type}:Vx (DataW.map []:QX f) []:=⟨⟨[],A,List.Pairwise.nil⟩,A,λb=>⟨A,A⟩⟩
def CD {J:Type}{t:QX J}{j:Cs}(K:Vx t j)(M:bD j)(f:B)(O:Tidy (t.put (kl f) (.lit (.int u ((min (often j f+1) 15:D):C))))):
 Vx (t.put (kl f) (.lit (.int u ((min (often j f+1) 15:D):C)))) (ds j f):=by
 let⟨a,k,g⟩:=K;refine⟨O,?_,λd=>?_⟩
 .rw[Maps.size_put a,vY M,k,(g f).2];by_cases o:often j f=0<;>simp[o]
 rw[yg];by_cases o:d=f
 .subst o;rw[QU A,Maps.atKey_put_same (Tidy.gb a) (gV d),Maps.has_put_same (Tidy.gb a) (gV d)];exact⟨A,(Xr H).s⟩
 have z:kl d≠kl f:=λn=>o (hI.1 n);rw[QT o,Maps.atKey_put_other z,Maps.has_put_other z];exact g d
def HD {t:Type}{j:QX t}{f:Cs}(z:Vx j f)(o:bD f):Yy j f (has j):=by
 let⟨m,n,d⟩:=z;refine⟨m,?_,λg=>?_⟩
 .rw[Pq.2 λc a=>by
   have A:has j (kl c.1)=U:=by rw[(d c.1).2,ij o.1 a];have:=(o.2 c a).1;simp;omega
   simp[A]]
  exact n
 let⟨i,b⟩:=d g;rw[i,b];by_cases u:often f g=0<;>simp[u]
def Vy {t:Type}{j:QX t}{f:Cs}{left:IA->Bool}(u:Yy j f left)(z:bD f)(o:∀A,left A=X):Vx j (iL f):=by
 let⟨a,g,h⟩:=u;refine⟨a,?_,λk=>?_⟩
 .rw[g,pB];simp[o]
 have:=h k;rw[o,QT R] at this;rwa[Af z.1]
def vZ {c:Cs}(j:(c.map (·.1)).Nodup){left:IA->Bool}{x:B}{n:D}(f:(x,n)∈c)(t:left (kl x)=U)(A:n<2):
 (c.filter (λa=>(left (kl a.1)&&!(kl a.1).sameKey (kl x))||decide (2<=a.2)):D)+1=(c.filter (λa=>left (kl a.1)||decide (2<=a.2)):D):=by
 induction c with
 |nil=>cases f
 |cons a p k=>
  simp only[Ij,JS] at j;rcases GF.1 f with rfl|f
  .rw[List.filter_cons_of_neg (by simp[kj];omega),List.filter_cons_of_pos (by simp[t]),Gx];congr 2;refine List.filter_congr λm d=>?_;have:m.1≠x:=λb=>j.1 (by show x∈_;rw[<-b];exact Ky (f:=(·.1)) d);simp[kj,this]
  have u:a.1≠x:=λb=>j.1 (b▸Ky (f:=(·.1)) f);have z:=k j.2 f;have b:((left (kl a.1)&&!(kl a.1).sameKey (kl x))||decide (2<=a.2))=(left (kl a.1)||decide (2<=a.2)):=by simp[kj,u]
  by_cases o:(left (kl a.1)||decide (2<=a.2))=U
  .rw[Ke,Ke];simp[b,o,if_true,Gx];omega
  rw[Ke,Ke];simp only[b,o];exact z
def oN {b:Cs}(o:(b.map (·.1)).Nodup){left:IA->Bool}{n:D}(u:(k,n)∈b)(z:2<=n):
 (b.filter (λa=>(left (kl a.1)&&!(kl a.1).sameKey (kl k))||decide (2<=a.2)))=(b.filter (λa=>left (kl a.1)||decide (2<=a.2))):=by
 refine List.filter_congr λg c=>?_;by_cases f:g.1=k
 .have j:=ij o c;have t:=ij o u;rw[f,t] at j;simp only at j;have:LH (2<=g.2)=U:=Xr H;simp[this]
 simp[kj,f]
def Vz {t:Type}{f:QX t}{j:Cs}{left:IA->Bool}(z:Yy f j left)(o:left (kl k)=U)(J:∀K,f.atKey (kl k) K=.lit (.int u c)):c=(often j k:C)/\has f (kl k)=LH (often j k≠0):=by
 let⟨_,_,i⟩:=z;let⟨b,e⟩:=i k;rw[o,QU A] at b e;rw[J] at b;simp only[Nn,NP,true_and] at b;exact⟨b,e⟩
def RI {O:Type}{o:QX O}{j:Cs}{left:IA->Bool}(V:Yy o j left)(u:bD j)(J:left (kl k)=U)(z:has o (kl k)=U)(y:often j k<2)(Z:Tidy (o.del (kl k))):
 Yy (o.del (kl k)) j (λe=>left e&&!e.sameKey (kl k)):=by
 let⟨s,b,i⟩:=V;have W:often j k≠0:=by have:=(i k).2;rw[z,J,QU A] at this;simpa using this.s
 obtain⟨f,M,rfl⟩:=GL.1 ((wM u k).2 W);have a:=ij u.1 M;refine⟨Z,?_,λd=>?_⟩
 .have P:=Maps.size_del (D:=o) (k:=kl f.1) s;rw[z,QU A] at P;have w:=vZ u.1 (left:=left) (x:=f.1) (n:=f.2) M J H;show _=(j.filter (λe=>(left (kl e.1)&&!(kl e.1).sameKey (kl f.1))||decide (2<=e.2)):Nat);omega
 by_cases t:d=f.1
 .subst t;rw[Maps.atKey_del_same,Maps.has_del_same];have:(left (kl f.1)&&!(kl f.1).sameKey (kl f.1))=X:=by simp[kj]
  simp only[this,Lx,if_false];have:often j f.1/2=0:=H;rw[this];exact⟨A,A⟩
 have K:kl d≠kl f.1:=λv=>t (hI.1 v);rw[Maps.atKey_del_other K,Maps.has_del_other K];have:(left (kl d)&&!(kl d).sameKey (kl f.1))=left (kl d):=by simp[kj,t]
 simp only[this];exact i d
def HE {M:Type}{o:QX M}{j:Cs}{left:IA->Bool}(O:Yy o j left)(z:bD j)(P:has o (kl k)=U)(W:2<=often j k)(V:Tidy (o.put (kl k) (.lit (.int u ((often j k/2:D):C))))):
 Yy (o.put (kl k) (.lit (.int u ((often j k/2:D):C)))) j (λa=>left a&&!a.sameKey (kl k)):=by
 let⟨g,b,p⟩:=O;obtain⟨f,K,rfl⟩:=GL.1 ((wM z k).2 H);have Z:=ij z.1 K;refine⟨V,?_,λd=>?_⟩
 .rw[Maps.size_put g,P,QU A,b,oN z.1 (n:=f.2) K H]
 by_cases t:d=f.1
 .subst t;rw[Maps.atKey_put_same (Tidy.gb g) (gV _),Maps.has_put_same (Tidy.gb g) (gV _)];have:(left (kl f.1)&&!(kl f.1).sameKey (kl f.1))=X:=by simp[kj]
  simp only[this,Lx,if_false];exact⟨tV,(Xr H).s⟩
 have J:kl d≠kl f.1:=λc=>t (hI.1 c);rw[Maps.atKey_put_other J,Maps.has_put_other J];have:(left (kl d)&&!(kl d).sameKey (kl f.1))=left (kl d):=by simp[kj,t]
 simp only[this];exact p d
def RJ:Keyed N 9:=Maps.string_keyed Jh
def RK (f:L):(Xs 3).run N f=Je (G 0) f:=e
def tN (f:k.size<=Ie):Xi N 9 (O k)=kl k:=WideMaps.keyOf_string_mk Jh f
def Eu {f:B}:(k.toList==f.toList)=U↔k=f:=by
 rw[beq_iff_eq,Lib.toList_data,Lib.toList_data];exact⟨Ju,λc=>c▸rfl⟩
def VA {f:B}(j:k≠f):(k.toList==f.toList)=X:=by
 rw[PO];exact λc=>j (Eu.1 c)
structure aL (w w':L)(S:D->Prop):Prop where
 os:w'.os=w.os
 cb:w'.tape=w.tape
 aW:w'.output=w.output
 aH:w.heap.size<=w'.heap.size
 aG:∀k,k<w.heap.size->¬S k->w'.heap[k]?=w.heap[k]?
def aL.bQ (f:L)(j:D->Prop):aL f f j:=⟨A,A,A,d,λ_ _ _=>rfl⟩
def aL.aJ {S:D->Prop}(f:aL g s S)(j:aL s l S):aL g l S:=
 ⟨j.os.t f.os,j.cb.t f.cb,j.aW.t f.aW,GB f.aH j.aH,λh a c=>(j.aG h (GP a f.aH) c).t (f.aG h a c)⟩
def aL.cz {j T:D->Prop}(f:aL g s j)(o:∀b,j b->T b):aL g s T:=
 ⟨f.os,f.cb,f.aW,f.aH,λb d i=>f.aG b d (λh=>i (o b h))⟩
def aL.ml (f:L)(o:Obj)(j:D->Prop):aL f (f.alloc o) j:=⟨A,A,A,by simp,λe c _=>QP c⟩
def aL.bV (o:L)(j u:D)(z:S)(f:D->Prop)(t:f j):aL o (o.setCell (j,u) z) f:=
 ⟨A,A,A,by simp[PZ],λb i a=>QJ (λd=>a (d▸t))⟩
def aL.oG {j:D->Prop}(f:aL g s j):aL g s.drew j:=⟨f.os,f.cb,f.aW,f.aH,f.aG⟩
def aL.cI {j:D->Prop}(f:aL g s j)(o:D):aL g (s.drewN o) j:=⟨f.os,f.cb,f.aW,f.aH,f.aG⟩
def aL.kQ (f:g.grownBy s (M w)):aL g s (· =w):=⟨f.os,f.tape,f.output,f.size,λh a c=>f.block h a (λe=>c (Gm e))⟩
def aL.aM {u w':L}{j:D->Prop}{f:D}{t:Obj}(z:aL u w' j)(o:u.heap[f]?=t)(A:¬j f):w'.heap[f]?=t:=(z.aG f (aw o) A).t o
def aL.cT {t:D->Prop}{base:D}(J:aL g s t)(u:g.ownsRow base q a m i b)(z:∀f,m.ownBlock=M f->¬t f):s.ownsRow base q a m i b:=by
 refine⟨u.1,?_⟩;rcases u.2 with V|⟨f,O,K,rfl,P,U,W⟩
 .exact o V
 exact j ⟨f,O,K,A,P,J.aM U (z f A),W⟩
def aL.cS {j:Type}{t:D->Prop}{o:S->QV (QX j×E Xz)}{f:QX j}(A:aL g s t)(K:g.ownsMap N p o w q f)(O:¬t w):s.ownsMap N p o w q f:=by
 obtain⟨M,z,J,u⟩:=K;exact⟨M,z,A.aM J O,u⟩
def Ag (B t:D)(o:QV Obj):Prop:=t=B\/(∃j f,o=K j 518 f)\/∃j f,o=K j 185 f
structure Fr (B:D)(w w':L):Prop where
 os:w'.os=w.os
 cb:w'.tape=w.tape
 aW:w'.output=w.output
 aH:w.heap.size<=w'.heap.size
 dK:∀k,k<w.heap.size->k<B->w'.heap[k]?=w.heap[k]?
 bq:∀k,k<w.heap.size->¬Ag B k w.heap[k]?->w'.heap[k]?=w.heap[k]?
def Fr.bQ (B:D)(f:L):Fr B f f:=⟨A,A,A,d,λ_ _ _=>rfl,λ_ _ _=>rfl⟩
def Fr.aJ (f:Fr w g s)(j:Fr w s l):Fr w g l:=
 ⟨j.os.t f.os,j.cb.t f.cb,j.aW.t f.aW,GB f.aH j.aH,λc b i=>(j.dK c (GP b f.aH) i).t (f.dK c b i),
  λc b h=>(j.bq c (GP b f.aH) (by rwa[f.bq c b h])).t (f.bq c b h)⟩
def Fr.pC {o:D->Prop}(f:aL g s o)(t:∀j,j<(g:D)->o j->w<=j/\Ag w j g.heap[j]?):Fr w g s:=
 ⟨f.os,f.cb,f.aW,f.aH,λd b k=>f.aG d b (λa=>oA (t d b a).1),λd b c=>f.aG d b (λa=>c (t d b a).2)⟩
def Fr.gu (B:D)(a:aL g s (λ_=>QZ)):Fr B g s:=Fr.pC a (λ_ _ a=>a.elim)
def Fr.aE {B:D}(f:Fr B g s)(c:B<=g.heap.size):T B g s:=⟨f.os,f.cb,f.aW,f.aH,λa e=>f.dK a H e⟩
def de:Ts->E S
 |[]=>[]
 |a::b=>O a.1::O a.2::de b
def hj (f:Ts):(de f:D)=(f:D)*2:=by
 induction f with
 |nil=>rfl
 |cons d c b=>simp[de,Gx,b];omega
def rR (f j:Ts):de (f++j)=de f++de j:=by
 induction f with
 |nil=>rfl
 |cons e d c=>simp[Hz,de,c]
def HF (f:Ts)(a:D):(de f).take (a*2)=de (f.take a):=by
 induction f generalizing a with
 |nil=>simp[de]
 |cons e d c=>
  cases a with
  |zero=>rfl
  |succ a=>rw[show(a+1)*2=a*2+1+1 by omega];simp[de,GW,c]
def HG (f:Ts)(a:D):(de f).drop (a*2)=de (f.drop a):=by
 induction f generalizing a with
 |nil=>simp[de]
 |cons e d c=>
  cases a with
  |zero=>rfl
  |succ a=>rw[show(a+1)*2=a*2+1+1 by omega];simp[de,List.drop_succ_cons,c]
def RL (o:Ts):∀j∈de o,j.oneCell'=U:=by
 induction o with
 |nil=>intro j f;cases f
 |cons a e d=>
  intro j f;simp only[de,GF] at f;rcases f with rfl|rfl|f
  .rfl
  .rfl
  exact d j f
def VB (f:Ts)(j:w<(f:D)):(de f)[w*2]?=O f[w].1/\(de f)[w*2+1]?=O f[w].2:=by
 induction f generalizing w with
 |nil=>cases j
 |cons a e d=>
  cases w with
  |zero=>exact⟨A,A⟩
  |succ w=>
   rw[show(w+1)*2=w*2+1+1 by omega];simp only[de,Hm,List.getElem_cons_succ];exact d (sU j)
structure Ca where
 aH:D
 T:Ts
 C:Cs
 n:D
def bM (j:L)(B t:D)(f:Ca):Prop:=
 ∃bm u,∃o:QX Unit,j.heap[t]?=K #[G f.aH,u,KD (M bm),G f.n] 185 (0,0)/\B<=t/\bm=B/\
  j.ownsRow B 518 2 u f.T.length (de f.T)/\j.ownsMap N 9 (XA N 3) bm f.C.length o/\Vx o f.C/\bD f.C/\f.aH<=64/\f.T.length<=f.aH/\∀z∈f.T,z.1.size<=Ie
def HH {j:Type}{o:Xp}{t:S->QV (QX j×E Xz)}{f:QX j}(J:g.ownsMap o p t w q f):g.ownsMap o p t w (size f) f:=by
 obtain⟨M,z,K,u,O,rfl⟩:=J;refine⟨M,z,K,u,?_,A⟩;simp[Maps.size,length_sorted]
def VC {f:QX Unit}{j:Cs}(o:g.ownsMap N 9 (XA N 3) w q f)(t:Vx f j):g.ownsMap N 9 (XA N 3) w (j:D) f:=by
 rw[<-t.2.1];exact HH o
def bM.lt {j:Ca}(f:bM g w q j):q<(g:D)/\w<=q:=let⟨bm,h,b,e,d,_⟩:=f;⟨aw e,d⟩
def bM.aM {t w':L}{B j:D}{o:Ca}(a:bM t B j o)(f:aL t w' (λ_=>QZ)):bM w' B j o:=let⟨bm,m,b,i,g,h,k,c,l⟩:=a;⟨bm,m,b,f.aM i (λa=>a),g,h,f.cT k (λ_ _ a=>a),f.cS c (λa=>a),l⟩
def bM.cI {j:Ca}(o:bM g w q j)(f:D):bM (g.drewN f) w q j:=o.aM ((aL.bQ _ _).cI f)
def gW {f j o:S}(t:g.heap[w]?=K #[m,f,j,o] p (0,0)):g w=m/\g (w,1)=f/\g (w,2)=j/\g (w,3)=o:=by
 simp[Iz,t]
def aI (f:g.heap[w]?=K h p (0,0))(j:D):g.frozen? (w,j)=X:=by
 simp[World.frozen?,f]
def dR (j:g.ownsRow w q a m i b):∃o f,m=P o i f:=by
 rcases j.2 with⟨rfl,t⟩|⟨u,f,z,rfl,_⟩
 .exact⟨J,0,by rw[t]⟩
 exact⟨_,_,A⟩
def pD {t:QV JM}(z:g.ownsRow w 518 2 (P t q a) q b)(s:0<q):
 ∃j f,t=M ⟨j,0,J⟩/\w<=j/\g.heap[j]?=K f 518 (0,0)/\q<=a/\a<=Ie/\f.size=a*2/\f.toList.take (q*2)=b:=by
 rcases z.2 with⟨r,o⟩|⟨j,Z,f,u,o,O,U,V,W,X⟩
 .omega
 simp only[Gy] at u;obtain⟨rfl,_,rfl⟩:=u;exact⟨j,f,A,o,O,U,V,W,X⟩
def nJ {f:Ts}(j:g.heap[w]?=K h p (0,0))(t:h.toList.take (q*2)=de f)(u:(f:D)=q)(o:a<(f:D)):
 g (w,a*2)=O f[a].1/\g (w,a*2+1)=O f[a].2:=by
 let⟨c,d⟩:=VB f o;rw[<-t,JI H] at c d;simp only[IQ] at c d;simp[Iz,j,c,d]
def pl (f:Ts)(j:B):D:=f.findIdx (λc=>LH (c.1=j))
def acr {T:Ts}(f:pl T k<(T:D)):T[pl T k].1=k:=have:=List.findIdx_getElem (w:=f);XG this
def HI {f:Ts}(j:w<pl f k)(o:w<(f:D)):f[w].1≠k:=have:=List.not_of_lt_findIdx j;λd=>by simp[d] at this
def acs (f:Ts)(j:B):pl f j<=(f:D):=List.findIdx_le_length
def RM (o:B×B)(u:B)(j:D)(f:L)(J:f j=u)(K:j<(f:D)):
 Y N 351 #[t #[o.1,o.2],V j] f λe a=>e=z (o.1.toList==u.toList)/\aL f a (λ_=>QZ):=by
 go_enter func351,ntmps351;go_wp2;go_ret;exact⟨A,aL.ml _ _ _⟩
def Yz (f:Ts)(j:B):C:=if pl f j<f.length then(pl f j:C) else -1
def nK (B Z:D)(b:QV JM)(f:Ts)(j:QE)(t:D)(J:ν)(v:J.ownsRow B 518 2 (P b f.length Z) f.length (de f))(x:J.heap[t]?=θ #[j] 9 (0,0))(I:f.length<=100):
 Y γ 350 #[P b f.length Z,Hl (Ic 351) #[] #[ξ t]] J λg c=>g=G (Yz f j)/\aL J c (λ_=>QZ):=by
 have w:=F v;go_enter func350,ntmps350;go_wp2;go_loopw [8] (λm wr=>∃o:D,o<=f.length/\o<=pl f j/\m=G o/\aL J wr (λ_=>QZ)) (λm _=>f.length-(QI m).toNat)
 .exact⟨0,QK,QK,A,aL.bQ _ _⟩
 obtain⟨o,N,k,rfl,z⟩:=hrel;have S:=acs f j;by_cases V:o<f.length
 .obtain⟨T,n,rfl,p,y,R,q,L,h⟩:=pD w.o H;obtain⟨l,c1⟩:=nJ (z.aM y (λd=>d)) h A V;have r:=z.aM x (λd=>d);have s:wr t=j:=by simp[Iz,r]
  have a:=aw r;by_cases u:f[o].1=j
  .have K:pl f j=o:=by
    refine Nat.le_antisymm ?_ k;refine Nat.le_of_not_lt λe=>HI e V u
   have t1:(f[o].1.toList==j.toList)=U:=Eu.2 u;have d:=RM f[o] j t wr s a;rw[t1] at d;have M:=F d;have O:Φ (Yz f j=(o:C)):=by show Yz f j=_;unfold Yz;rw[K,QU V]
   clear d u t1 K;go_wp2_with fail;refine M.o.m ?_;rintro g i ⟨rfl,W⟩;go_wp2;go_ret;exact⟨by rw[O.o];rfl,z.aJ W⟩
  have K:o+1<=pl f j:=by
   rcases KG o (pl f j) with d|d
   .exact d
   have g:pl f j=o:=by omega
   have:=acr (T:=f) (k:=j) H;simp only[g] at this;exact absurd this u
  have t1:(f[o].1.toList==j.toList)=X:=VA u;have d:=RM f[o] j t wr s a;rw[t1] at d;have M:=F d;go_wp2_with fail;refine M.o.m ?_;rintro g i ⟨rfl,W⟩;go_wp2;go_roundw
  .exact⟨o+1,by omega,K,by go_num,z.aJ W⟩
  simp[QI];omega
 have O:Φ (Yz f j= -1):=QT H;go_wp2;go_ret;exact⟨by rw[O.o];rfl,z⟩
def kR (t B:D)(o:Ca)(j:QE)(f:L)(O:bM f B t o):
 Y N 336 #[V t,j] f λd m=>d=G (Yz o.T j)/\aL f m (λ_=>QZ):=by
 obtain⟨bm,c,W,u,Z,q,z,x,a,b,r,s,v⟩:=O;obtain⟨X,c1,c2,c3⟩:=gW u;obtain⟨U,M,rfl⟩:=dR z;have w:=aw u;have J:=F (nK B M U o.T j f (f.alloc (K #[j] 9)) (z.alloc _) (Xm _ _) H);go_enter func336,ntmps336;go_wp2_with fail;refine J.o.m ?_;rintro d y ⟨rfl,P⟩;go_wp2;go_ret;exact⟨A,(aL.ml _ _ _).aJ P⟩
def kk (f:C):Ca:=⟨(min (max f 0) 64).toNat,[],[],0⟩
def HJ {size j:C}(f:L)(o:((kk size).aH:C)=j):
 bM ((f.alloc (Lz #[] 0)).alloc (K #[G j,P J 0 0,KD (M f),G 0] 185)) f (f.heap.size+1) (kk size)/\
 Fr f f ((f.alloc (Lz #[] 0)).alloc (K #[G j,P J 0 0,KD (M f),G 0] 185)):=by
 subst o;refine⟨⟨f,P J 0 0,.map [],?_,by omega,A,QN,?_,RH,⟨List.nodup_nil,by simp[kk]⟩,?_,QK,by simp[kk]⟩,Fr.gu _ ((aL.ml _ _ _).aJ (aL.ml _ _ _))⟩
 .have:=Xm (f.alloc (Lz #[] 0)) (K #[G (kk size).aH,P J 0 0,KD (M f),G 0] 185);simpa[kk] using this
 .exact(World.ownsMap_made f N 9 (XA N 3)).alloc _
 show(min (max size 0) 64).toNat<=64;omega
def jr (b:C)(f:L):Y N 41 #[b] f λa d=>∃j,a=V (j,0)/\f.heap.size<=j/\bM d f j (kk b)/\Fr f f d:=by
 have t:=@run_makeMap N;have o:=F (fun(h:C) (g:((kk b).aH:C)=h)=>HJ (size:=b) f g);go_enter func41,ntmps41;go_wp2;all_goals go_ret
 all_goals exact⟨_,A,by omega,o.o _ (by show((min (max b 0) 64).toNat:C)=_;omega)⟩
def oO {j:QV D}(t:g.grownBy s j){o:Obj}(f:g.heap[w]?=o)(u:M w≠j):s.heap[w]?=o:=(t.block w (aw f) u).t f
def qU {j:Type}{o:S->QV (QX j×E Xz)}{t:QX j}{z:Λ}{u:D×D}(A:g.ownsMap N p o w q t)(f:g.heap[a]?=K h z u):a≠w:=by
 rintro rfl;let⟨b,k,i,_⟩:=A;rw[i] at f;cases f
def tO {f:Type}{t:S->QV (QX f×E Xz)}{j K:D}{u:QX f}(z:g.ownsMap N p t w q u)(J:g.ownsRow a i j m K b):m.ownBlock≠M w:=by
 rcases J.2 with⟨rfl,_⟩|⟨P,O,U,rfl,_,A,_⟩
 .simp[Ψ]
 intro o;simp only[Ψ,Gd] at o;exact qU z A o
def wN {w':L}{n':D}{bm:Ca}{O D':QX Unit}{C':Cs}(t:g.heap[q]?=K #[G bm.aH,m,KD (M a),G bm.n] 185 (0,0))(P:w<=q)(j:a=w)
 (z:g.ownsRow w 518 2 m (bm.T:D) (de bm.T)) (u:g.ownsMap N 9 (XA N 3) a i O) (U:bm.aH<=64) (V:(bm.T:D)<=bm.aH) (W:∀Z∈bm.T,Z.1.size<=Ie)
 (b:g.grownBy w' (M a)) (X:w'.ownsMap N 9 (XA N 3) a n' D') (A:Vx D' C') (J:bD C'):bM w' w q {bm with C:=C'}/\Fr w g w':=by
 have f:=aL.kQ b;refine⟨⟨a,m,D',f.aM t (qU u t),P,j,f.cT z (λv b c=>tO u z (by rw[b,c])),VC X A,A,J,U,V,W⟩,Fr.pC f λB _ c=>?_⟩;subst c;exact⟨Iu j.s,o j⟩
def HK (z B:D)(f:Ca)(o:ν)(ab:bM o B z f)(R:(f.C:D)<Ie):
 τ N 335 #[ξ z] o λL l=>L=χ #[]/\bM l B z {f with C:=iL f.C}/\Fr B o l:=by
 let⟨bm,c7,G,g,q,d,a1,r,T,a,v,S,ag⟩:=ab;have m:=Ga d;clear d;let⟨a4,c1,c2,c3⟩:=gW g;have ai:=aw g;have a0:=qU r g;have aj:=HD T a;have I:=Ga (fun(l:ν) (e:QX Unit) (F:Cs)=>wN (w':=l) (n':=(f.C:D)) (D':=e) (C':=F) g q m.o a1 r v S ag);go_enter func335,ntmps335;go_wp2_with (first
  |(at_range;refine wpList_range_own _ A _ 182 A 9 3 RJ GY _ bm (f.C:D) G A r ?_;intro b9 a2 ae b5)
  |go_in)
 go_frame;go_loopw [2] (λ_ wr=>∃(e:QX Unit) (left:IA->Bool) (fS:D),wr.ranges N 9 (XA N 3) bm (o:D) (f.C:D) e left fS/\Yy e f.C left/\o.grownBy wr (δ bm))
  (λ_ wr=>wr.rangeLeft bm (o:D))
 .exact⟨_,_,_,a2,aj,ae.but _⟩
 let⟨e,left,fS,k,i,c⟩:=hrel;go_wp2_with (first
  |(at_next;refine mr _ A _ A 9 3 u RJ Jh Hu bm (o:D) (f.C:D) _ _ _ A k ?_ ?_)
  |go_in)
 .intro _ ah;have Z:=I.o _ e (iL f.C) c k.owns (Vy i a ah) (CC a);go_wp2;go_end0;exact⟨A,Z.1,Z.2⟩
 intro t a5 c0 n X b7 V K W ai af b6 b0;have M:=c.andThen af (λw h=>by cases h;exact Ξ QD);obtain⟨rfl,b2⟩:=Vz i V K;have Y:=oO M g (by simp[a0]);let⟨d0,a6,a7,a8⟩:=gW Y;have O:has e (kl t)=ψ:=by
  refine Nx λb=>?_;have b:has e (kl t)=σ:=sU b;have x:=Po b (.lit (.int u 7));have y:=Po b (.lit (.int u 8));have e3:=K (.lit (.int u 7));have J:=K (.lit (.int u 8));unfold kl at x y;rw[x] at e3;rw[y] at J;rw[<-e3] at J;cases J
 have a9:=Ab a t;by_cases s:often f.C t<2
 .have hd:LH ((often f.C t:Int)<2)=ψ:=Xr H;go_wp2_with (first
   |(at_delete;refine wpList_delete_ranges _ A _ _ 182 9 A 3 RJ GY _ bm (o:D) (f.C:D) _ _ _ A W _ _ A (tN X) ?_;intro a3 p j b3 U;go_frame)
   |go_in)
  unfold kl at j;rw[strike_twice] at j;have P:=RI i a V O s (j.owns.tidy RJ);go_roundw
  .exact⟨_,_,p,j,P,M.andThen U.grown (λw h=>by cases h;exact Θ A)⟩
  rw[j.left_eq,k.left_eq];omega
 have hd:LH ((often f.C t:Int)<2)=σ:=Xx H;have b4:Int.tdiv (often f.C t:Int) 2=((often f.C t/2:D):Int):=by
  rw[Int.tdiv_eq_ediv_of_nonneg H];omega
 go_wp2_with (first
  |(at_mapUpdate;refine kP _ A _ _ _ 182 A 9 3 RJ GY _ bm (o:D) (f.C:D) _ _ _ A W R _ _ _ A A (tN X) (.lit (.int u ((often f.C t/2:D):Int))) [] ?hval O ?_;rotate_left;intro a3 j U;go_frame)
  |go_in)
 case hval=>exact plainElem_int Hu (WalkArith.wf_i64 H)
 have P:=HE (left:=left) i a O H (j.owns.tidy RJ);go_roundw
 .exact⟨_,_,n,j,P,M.andThen U.grown (λw h=>by cases h;exact Θ A)⟩
 rw[j.left_eq,k.left_eq];omega
def Zy:(N.info? 518).map (λa=>(a.zero,a.size,a.bytes))=M (M (t #[ByteArray.empty,ByteArray.empty]),2,32):=e
def Zz:(N.info? 518).map (·.size)=M 2:=e
def mJ {P:Xp}(j:L)(Z g v J:Λ)(u t X x:D)(A:JM)(p e V W:D)(o:Q S)(q:Λ)(f:E S)
 (s:P.underlying Z=M (.slice J)) (a:(P.info? J).map (·.size)=V)
 (b:j.heap[u]?=K o q) (F:W=Nat.min p X) (d:(f:D)=W*V)
 (G:∀n z,f[n]?=M z->j (A.add n)=M z) (h:t+(f:D)<=o.size) (y:∀z∈f,z.oneCell'=U):
 (Builtin.copy_ #[Z,g] v #[ο (u,t) X x,ο (M A) p e]).run P j=
  Je (goInt W) (j.setRow u (o.toList.take t++f++o.toList.drop (t+(f:D))).toArray):=by
 have c:=run_loadCells_list (P:=P) j A f G;have r:=run_storeCells_at P u t q f 0 o j b (sU h) y;cases O:P.info? J with
 |none=>simp[O] at a
 |some w=>
  have C:w.size=V:=by simpa[O] using a
  simp[Builtin.copy_,Xo s,Builtin.lenOf,Builtin.firstCells,sizeOf,typeInfo,O,C,<-F,<-d,c,r]
def wa {P:Xp}(f:L)(z Z r j:Λ)(u o:QV JM)(t K J X q:D)(W:P.underlying z=M (.slice j))(V:(P.info? j).map (·.size)=q)(U:Nat.min J t=0):
 (Builtin.copy_ #[z,Z] r #[ο u t K,ο o J X]).run P f=Je (goInt 0) f:=by
 cases A:P.info? j with
 |none=>simp[A] at V
 |some s=>
  have O:∀(c:JM),(loadCells c 0).run P f=Je #[] f:=λc=>sU (run_loadCells_list (P:=P) f c [] R);cases u<;>cases o<;>simp[Builtin.copy_,Xo W,Builtin.lenOf,Builtin.firstCells,sizeOf,typeInfo,A,U,storeCells,O]
def js (j:L)(f:D)(o:Q S):j.grownBy (j.setRow f o) (M f):=
 ⟨A,A,A,by simp[World.setRow],λa _ e=>XL j f a o (λd=>e (by rw[d]))⟩
def CE (f:L)(j:QV D):f.grownBy f j:=⟨A,A,A,d,λ_ _ _=>rfl⟩
def gQ {z:Xp}{d:Q Le}{f:Le}{t:Act}{G:Act->ν->Prop}{Y:Exit->Act->ν->Prop}{l:Prop}(N:f.guard=ζ)(e F:Kg)(K b:Λ)
 (x:f.op=.call {callee:=.builtin .copy,args:=#[e,F],argTypes:=#[K,b]}) (O:Λ) (V:D) (c:z.underlying K=M (.slice O)) (k:(z.info? O).map (·.size)=V)
 (q v:QV JM) (J Z P a:D) (hd:t.eval e=ο q J Z) (y:t.eval F=ο v P a)
 (u off o:D) (A:Q π) (W:Λ) (r:g.heap[u]?=θ A W) (j:E π) (I:o=Nat.min P J) (p:(j:D)=o*V)
 (R:0<o->q=M ⟨u,off,ζ⟩/\∃ad,v=M ad/\∀h X,j[h]?=M X->g (ad.add h)=M X)
 (n:0<o->off+(j:D)<=A.size) (L:∀X∈j,X.oneCell'=U)
 (i:∀w,Φ (w.heap[u]?=θ (splice A.toList off j).toArray W)->g.grownBy w (M u)->G (t.put f.dst (goInt o)) w):
 if Jb f (Xg d t.tmps)=U then Ld z f t g G Y else l:=by
 have T:Jb f (Xg d t.tmps)=U:=by simp[Jb,N]
 rw[QU T];by_cases m:o=0
 .subst m;obtain rfl:j=[]:=GH H;have s:=wa (P:=z) g K b f.type O q v J Z P a V c k I.s;simp[Ld,Xb,x,resolve,invoke,builtin,hd,y,s,Ω];exact i g (show _=_ by simpa[splice] using r) (CE _ _)
 obtain⟨rfl,ad,rfl,S⟩:=R H;have s:=mJ (P:=z) g K b f.type O u off J Z ad P a V o A W j c k r I p S (n H) L;simp[Ld,Xb,x,resolve,invoke,builtin,hd,y,s,Ω];exact i _ (show _=_ by simpa[splice] using setRow_heap g u _ _ W _ r) (js _ _ _)
def HL {f:Ts}{t:B}(z:b.take (w*2)=de f)(j:(f:D)=w)(K:q<w):
 (((splice b 2 (de (f.take q))).set 0 (O k)).set 1 (O t)).take (w*2)=de ((k,t)::(f.take q++f.drop (q+1))):=by
 let⟨a,c⟩:∃a,b=de f++a:=⟨b.drop (w*2),by rw[<-z,IZ]⟩;subst c;cases f with
 |nil=>simp at j;omega
 |cons d g=>
  have u:(de ((d::g).take q)).length=q*2:=by rw[hj,GR];simp[Gx] at j ⊢;omega
  have A:splice (de (d::g)++a) 2 (de ((d::g).take q))=O d.1::O d.2::(de ((d::g).take q)++(de (g.drop q)++a)):=by
   rw[splice,u,(H:2+q*2=q*2+1+1)];simp only[de,Hz,GW,Hw,List.drop_succ_cons,Ho];rw[LV (by rw[hj];simp[Gx] at j;omega),HG]
  rw[A];simp only[Gw,Gn];rw[show(d::g).drop (q+1)=g.drop q by rfl];simp only[de,rR];rw[<-Km];have J:(de ((d::g).take q)++de (g.drop q)).length=w*2-2:=by
   rw[Gk,u,hj,JD];simp[Gx] at j;omega
  obtain⟨o,rfl⟩:∃o,w=o+1:=⟨w-1,H⟩;rw[show(o+1)*2=o*2+1+1 by omega];simp only[GW];rw[Ja H,Hr H]
def lK {f:S}(j:g.heap[w]?=K #[m,f] p):g w=m/\g (w,1)=f:=by
 simp[Iz,j]
def bJ {w:L}{f:D}{j:D×D}(t:w.heap[f]?=K h p j)(z:D)(o:S):(w.setCell (f,z) o).heap[f]?=K (h.setIfInBounds z o) p j:=by
 have u:=aw t;have A:w.heap[f]=K h p j:=by simpa[IB u] using t
 show(w.heap.modify f _)[f]?=_;rw[IB (by simpa using u),Kl,A];rfl
def dX (f:Ts)(j:D)(o:B):Ts:=
 match f[j]? with
 |some d=>(d.1,o)::(f.take j++f.drop (j+1))
 |none=>f
def kS {f:Ts}(o:w<f.length)(j:B):dX f w j=(f[w].1,j)::(f.take w++f.drop (w+1)):=by
 unfold dX;rw[Gf o]
def kE {f:Ts}(j:w<f.length)(o:B):(dX f w o).length=f.length:=by
 rw[kS j];simp;omega
def kT (b B f:D)(j:Ca)(t:QE)(U:ν)(a9:bM U B b j)(P:f<j.T.length):
 τ γ 337 #[ξ b,ϑ f,O t] U λk ah=>k=χ #[]/\bM ah B b {j with T:=dX j.T f t}/\Fr B U ah:=by
 obtain⟨bm,l,ai,r,a6,q,S,R,a8,b2,a7,b9,n⟩:=a9;have a1:=Ga q;clear q;obtain⟨c4,af,c0,c1⟩:=gW r;obtain⟨f1,W,rfl⟩:=dR S;obtain⟨o,J,rfl,L,V,b4,b0,I,e⟩:=pD S H;have d6:=aw r;have d2:=aw V;obtain⟨d0,c2⟩:=nJ V e A P;have e0:(0:C)<=(f:C):=H;have e1:(f:C)<(j.T.length:C):=H;have e2:η.wrap ((f:C)+1)=(f:C)+1:=QQ H;have e4:(1:C)<=(f:C)+1:=H;have e5:(f:C)+1<=(W:C):=H;have e6:((f:C)+1).toNat=f+1:=H;have e7:(f:C)<=(W:C):=H;have e8:(0:C)<=(f:C)+1:=H;have e9:(f:C)+1<=(j.T.length:C):=H;go_enter func337,ntmps337;go_upto_region 1 with fail;have c:=aL.ml U (K #[O j.T[f].1,O t] 518) (λ_=>QZ);have F:=Xm U (K #[O j.T[f].1,O t] 518);generalize a0:U.alloc (K #[O j.T[f].1,O t] 518)=G at c F ⊢;clear a0;have d8:=aw F;have g:=c.aM r (λa=>a);have h:=c.aM V (λa=>a);have c5:=aw g;have d3:=aw h;have af:=(gW g).2.1;have N:b≠o:=by rintro rfl;rw[r] at V;simp at V
 have c7:o≠U.heap.size:=H;have v:(de (j.T.take f)).length=f*2:=by rw[hj,GR];omega
 obtain⟨u,w⟩:∃u,u=de (j.T.take f):=⟨_,A⟩;have s:=RL (j.T.take f);have T:∀m i,u[m]?=M i->G ((o:JM).add m)=M i:=λm i x=>by
  rw[w,<-HF,<-e,Nq,Nh H] at x;have:=Gg.1 x;obtain⟨b3,c8⟩:=this;rw[GR] at b3;rw[Jg,GU];simp only[Iz,h];have k:J[m]?=M i:=by
   rw[JI H] at x;simpa using x
  simpa using k
 rw[<-w] at v s;have a5:=Ga (show(((splice J.toList 2 u).set 0 (O j.T[f].1)).set 1 (O t)).take (j.T.length*2)=de (dX j.T f t) by
  rw[kS P,w];exact HL e A P)
 have a4:Φ (0<f->(if W=1 then M ⟨o,0,ζ⟩ else M ⟨o,2,ζ⟩:QV JM)=M ⟨o,2,ζ⟩/\∃ad,M (o:JM)=M ad/\∀m l,u[m]?=M l->G.drew (ad.add m)=M l):=λa=>⟨QT H,o,A,T⟩;have a2:Φ (0<f->2+u.length<=J.size):=λ_=>by rw[v,I];omega
 clear w T;go_cut [] (λab=>Φ (ab.heap[o]?=K (splice J.toList 2 u).toArray 518)/\G.grownBy ab (M o))
 case first=>
  go_region_law (refine gQ A (.tmp 23) (.tmp 29) 183 183 A 518 2 underlying183 Zz _ _ _ _ _ _ A A o 2 f J 518 h u (Nat.min_self f).s v a4.o a2.o s ?_;intro f3 a3 Z)
  all_goals
   go_wp2_with fail;all_goals
    go_meet;exact⟨a3,⟨Z.os,Z.tape,Z.output,Z.size,Z.block⟩⟩
 case rest=>
  obtain⟨p,y⟩:=hcut;have X:=p.o;have Y:=oO y g (by simp[N]);have aa:=oO y F QB;have af:=(gW Y).2.1;obtain⟨f2,t1⟩:=lK aa;have c3:=aI X 0;have c6:=aI X 1;have d4:=aw X;have d1:=aw Y;have d9:=aw aa;have b5:(splice J.toList 2 u).length=W*2:=by rw[length_splice];simpa using I;rw[v];simp[I];omega
  have x0:∃i,wc o=M i:=by
   refine⟨(splice J.toList 2 u)[0]'H,?_⟩;simp[Iz,X]
  have ae:∃i,wc (o,1)=M i:=by
   refine⟨(splice J.toList 2 u)[1]'H,?_⟩;simp[Iz,X]
  obtain⟨u0,x0⟩:=x0;obtain⟨u1,ae⟩:=ae;have f0:(0:C)<(j.T.length:C):=H;clear X;go_upto_region 2 with fail;go_region;go_wp2;go_end0;have b6:(((wc.setCell o (O j.T[f].1)).setCell (o,1) (O t)).drew).heap[o]?=_:=bJ (bJ p.o 0 _) 1 _;have d:aL U (((wc.setCell o (O j.T[f].1)).setCell (o,1) (O t)).drew) (λag=>ag=o):=
   ((((c.cz (λ_ a=>a.elim)).aJ (aL.kQ y)).aJ (aL.bV _ _ _ _ _ A)).aJ (aL.bV _ _ _ _ _ A)).oG
  refine⟨A,⟨bm,ο o j.T.length W,ai,d.aM r N,a6,a1.o,?_,d.cS R (λk=>qU R V k.s),a8,b2,a7,?_,?_⟩,Fr.pC d λag _ k=>?_⟩
  .show World.ownsRow _ B 518 2 _ (dX j.T f t).length (de (dX j.T f t));rw[kE P];refine⟨by rw[hj,kE P],Θ ⟨o,W,_,A,L,b6,b4,b0,?_,?_⟩⟩
   .simpa using b5
   rw[<-a5.o];simp
  .show(dX j.T f t).length<=j.aH;rwa[kE P]
  .intro b7 z;have z:b7∈dX j.T f t:=z;rw[kS P] at z;rcases GF.1 z with rfl|z
   .exact n j.T[f] (NL P)
   rcases GO.1 z with z|z
   .exact n _ (JZ z)
   exact n _ (LS z)
  subst k;exact⟨L,Θ (Ξ ⟨_,_,V⟩)⟩
def kU (f:Ca)(j:B):Cs:=if f.n+1=10*f.aH then iL (ds f.C j) else ds f.C j
def kV (f:Ca):D:=if f.n+1=10*f.aH then 0 else f.n+1
def oQ (f:Ca)(j:B):Ca:=
 if f.aH=0 then f else
 ⟨f.aH,match f.T[pl f.T j]? with|some c=>dX f.T (pl f.T j) c.2|none=>f.T,kU f j,kV f⟩
def we (f:Ca)(j:B):B:=match f.T[pl f.T j]? with|some c=>c.2|none=>⟨#[]⟩
def Ah (f:Ca)(j:B):Bool:=LH (pl f.T j<f.T.length)
def bM.open {f:Ca}(u:bM g w q f):g q=f.aH/\g (q,3)=f.n/\q<g.heap.size/\f.aH<=64/\f.T.length<=f.aH:=by
 obtain⟨bm,Z,K,j,X,O,J,W,P,U,A,z,V⟩:=u;obtain⟨o,c1,M,t⟩:=gW j;exact⟨o,t,aw j,A,z⟩
def mK {z:Ca}(J:bM g w q z)(f:D)(t:C)(B:t=f):bM (g.setCell (q,3) (G t)) w q {z with n:=f}/\Fr w g (g.setCell (q,3) (G t)):=by
 subst B;let⟨bm,x,p,e,i,r,l,k,b,d,s,a,v⟩:=J;have o:aL g (g.setCell (q,3) (G f)) (λm=>m=q):=aL.bV _ _ _ _ _ A;refine⟨⟨bm,x,p,bJ e 3 _,i,r,o.cT l (λh d c=>?_),o.cS k (λc=>qU k e c.s),b,d,s,a,v⟩,Fr.pC o λm _ c=>?_⟩
 .subst c;rcases l.2 with⟨rfl,_⟩|⟨M,O,K,rfl,_,u,_⟩
  .cases d
  simp only[Ψ,Gd] at d;subst d;rw[e] at u;simp at u
 subst c;exact⟨i,j (j ⟨_,_,e⟩)⟩
def bM.oR {t:Ca}(j:bM g w q t)(f:D):g.frozen? (q,f)=X:=by
 obtain⟨bm,z,u,o,_⟩:=j;exact aI o f
def bM.Ev {j:Ca}(u:bM g w q j)(z:a<(j.T:D)):
 ∃f o,g (q,1)=P (f,0) (j.T:D) o/\f<(g:D)/\g (f,a*2)=O j.T[a].1/\g (f,a*2+1)=O j.T[a].2:=by
 let⟨bm,l,c,k,h,r,d,C,v,y,s,e,b⟩:=u;obtain⟨M,o,rfl⟩:=dR d;obtain⟨f,U,rfl,V,t,K,B,W,J⟩:=pD d H;let⟨d0,i⟩:=nJ t J A z;exact⟨f,o,(gW k).2.1,aw t,d0,i⟩
def VD {f:Ca}(j:f.n+1=10*f.aH):kU f k=iL (ds f.C k)/\kV f=0:=⟨QU j,QU j⟩
def VE {f:Ca}(j:¬f.n+1=10*f.aH):kU f k=ds f.C k/\kV f=f.n+1:=⟨QT j,QT j⟩
def yh {f:Ts}(j:pl f k<(f:D)):Yz f k=(pl f k:C):=QU j
def CF {f:Ts}(j:¬pl f k<(f:D)):Yz f k= -1:=QT j
def Ew {f:Ca}(o:¬f.aH=0)(j:pl f.T k<(f.T:D)):oQ f k=⟨f.aH,dX f.T (pl f.T k) f.T[pl f.T k].2,kU f k,kV f⟩/\we f k=f.T[pl f.T k].2/\Ah f k=U:=by
 rw[oQ,we,Ah,QT o,Gf j];exact⟨A,A,Xr j⟩
def RN {f:Ca}(o:¬f.aH=0)(j:¬pl f.T k<(f.T:D)):oQ f k=⟨f.aH,f.T,kU f k,kV f⟩/\we f k=⟨#[]⟩/\Ah f k=X:=by
 rw[oQ,we,Ah,QT o,KU H];exact⟨A,A,Xx j⟩
def pE {f:Ca}(j:f.aH=0)(o:(f.T:D)<=f.aH):oQ f k=f/\we f k=⟨#[]⟩/\Ah f k=X:=by
 rw[oQ,we,Ah,QU j,KU H];exact⟨A,A,Xx H⟩
theorem fN (t B:D)(f:Ca)(j:QE)(O:ν)(a0:bM O B t f)(b6:j.size<=Ie)(e1:(f.C:D)+1<Ie)(e8:f.n<1000):
 τ γ 298 #[ξ t,β j] O λn a4=>n=χ #[β (we f j),υ (Ah f j)]/\bM a4 B t (oQ f j)/\Fr B O a4:=by
 have d6:=a0;let⟨bm,f3,d4,b,b3,ag,a2,i,ae,I,b4,ah,c6⟩:=a0;have a9:=F ag;clear ag;let⟨x,c1,b2,w⟩:=gW b;have e5:=aw b;by_cases Z:f.aH=0
 .have hd:((f.aH:Int)==0)=ψ:=QB;have o:=F (pE (k:=j) Z ah);go_enter func298,ntmps298;go_wp2;go_ret2;refine⟨by rw[o.2.1,o.2.2];rfl,by rwa[o.1],Fr.bQ _ _⟩
 have hd:((f.aH:Int)==0)=σ:=QB;have e0:=Ab I j;have a1:=tN b6;let⟨f4,b9,a6,d8⟩:=i.drew.lookup_int RJ GY Hu (RK _) a1;have R:=(ae.2.2 j).1;rw[a6] at R;simp only[Nn,NP,true_and] at R;subst R;have e9:η.wrap ((often f.C j:Int)+1)=(often f.C j:Int)+1:=QQ H;have y:(if 15<(often f.C j:Int)+1 then 15 else(often f.C j:Int)+1)=((min (often f.C j+1) 15:D):Int):=pO;let⟨S,c7,p,g⟩:=i.drew.update RJ GY H a1 (plainElem_int (a:=if 15<(often f.C j:Int)+1 then 15 else(often f.C j:Int)+1) Hu (y▸WalkArith.wf_i64 H));rw[y] at p;clear y;have a7:O.grownBy S (δ bm):=⟨g.os,g.tape,g.output,g.size,g.block⟩;let⟨c,d⟩:=wN b b3 a9.o a2 i b4 ah c6 a7 p (CD ae I j (p.tidy RJ)) (Ae I j);have K1:=F c;have d9:=F d;go_enter func298,ntmps298;go_upto_region 3 with fail;go_region;clear c7 b9 i a2 x c1 b2 w b;generalize (if 15<(often f.C j:Int)+1 then 15 else(often f.C j:Int)+1)=f2;let⟨x,w,e6,_,_⟩:=c.open;simp only at x w;have s:=c.oR 3;have f0:η.wrap ((f.n:Int)+1)=((f.n+1:D):Int):=by rw[QQ H];omega
 have f1:η.wrap (10*(f.aH:Int))=10*(f.aH:Int):=QQ H;by_cases b:f.n+1=10*f.aH
 .have b5:(((f.n:Int)+1)==10*(f.aH:Int))=ψ:=QB;have e2:(((f.n+1:D):Int)==10*(f.aH:Int))=ψ:=QB;have P:=F (VD (k:=j) b);let⟨m,a⟩:=mK c (f.n+1) (10*(f.aH:Int)) H;have L:=F (d.aJ a);have r:=F m;clear c d m a;go_upto_region 5 with fail;go_quiet (fail);let⟨G,k⟩:∃G,G=(S.setCell (t,3) (ϑ (10*(f.aH:Int)))).drewN nq:=⟨_,A⟩;have m:bM G B t ⟨f.aH,f.T,ds f.C j,f.n+1⟩:=k▸r.o.cI _;have a:Fr B O G:=k▸L.o.aJ (Fr.gu B ((aL.bQ _ _).cI _));rw[<-k];clear k x w s;let⟨x,w,e7,_,_⟩:=m.open;have s:=m.oR 3;let⟨a3,af⟩:=mK m 0 0 A;have e4:=qT f.C j;have b0:=F (HK t B _ _ a3 (by show(ds f.C j).length<_;omega));have a8:=F (a.aJ af);clear a3 af a;go_wp2_with fail;apply b0.o.m;rintro n h ⟨rfl,X,V⟩;have V:=a8.o.aJ V;have X:bM h B t ⟨f.aH,f.T,kU f j,kV f⟩:=by rwa[P.1,P.2]
  have J:=F (show bM h B t ⟨f.aH,f.T,kU f j,kV f⟩/\Fr B O h from⟨X,V⟩);clear X V P;have M:=F (kR t B ⟨f.aH,f.T,kU f j,kV f⟩ j h J.1);by_cases z:pl f.T j<(f.T:D)
  .have o:=F (Ew Z z);have u:=M.o;rw[yh z] at u;have U:=F u;clear u M;have c2:LH ((pl f.T j:Int)<0)=σ:=Xx H;go_wp2_with fail;apply U.o.m;rintro n e ⟨rfl,K⟩;have W:=J.1.aM K;let⟨d2,c0,T,c3,Y,ab⟩:=W.Ev z;simp only at T Y ab;have b7:=W.lt.1;have c8:(0:Int)<=(pl f.T j:Int):=H;have d1:(pl f.T j:Int)<((f.T:D):Int):=H;have v:=F (kT t B (pl f.T j) _ f.T[pl f.T j].2 e W z);have q:=F (J.2.aJ (Fr.gu B K));go_wp2_with fail;apply v.o.m;rintro n d3 ⟨rfl,a5,N⟩;go_wp2;go_ret2;exact⟨by rw[o.2.1,o.2.2];rfl,by rwa[o.1],q.o.aJ N⟩
  have o:=F (RN Z z);have u:=M.o;rw[CF z] at u;have U:=F u;clear u M;go_wp2_with fail;apply U.o.m;rintro n e ⟨rfl,K⟩;go_wp2;go_ret2;exact⟨by rw[o.2.1,o.2.2];rfl,o.1▸J.1.aM K,J.2.aJ (Fr.gu B K)⟩
 have b5:(((f.n:Int)+1)==10*(f.aH:Int))=σ:=QB;have P:=F (VE (k:=j) b);let⟨m,a⟩:=mK c (f.n+1) ((f.n:Int)+1) H;have L:=F (d.aJ a);have r:=F m;clear c d m a;go_upto_region 5 with fail;go_quiet (fail);let⟨h,l⟩:∃h,h=(S.setCell (t,3) (ϑ ((f.n:Int)+1))).drewN nq:=⟨_,A⟩;have X:bM h B t ⟨f.aH,f.T,kU f j,kV f⟩:=by rw[l,P.1,P.2];exact r.o.cI _
 have V:Fr B O h:=l▸L.o.aJ (Fr.gu B ((aL.bQ _ _).cI _));rw[<-l];clear l x w s;have J:=F (show bM h B t ⟨f.aH,f.T,kU f j,kV f⟩/\Fr B O h from⟨X,V⟩);clear X V P;have M:=F (kR t B ⟨f.aH,f.T,kU f j,kV f⟩ j h J.1);by_cases z:pl f.T j<(f.T:D)
 .have o:=F (Ew Z z);have u:=M.o;rw[yh z] at u;have U:=F u;clear u M;have c2:LH ((pl f.T j:Int)<0)=σ:=Xx H;go_wp2_with fail;apply U.o.m;rintro n e ⟨rfl,K⟩;have W:=J.1.aM K;let⟨d2,c0,T,c3,Y,ab⟩:=W.Ev z;simp only at T Y ab;have b7:=W.lt.1;have c8:(0:Int)<=(pl f.T j:Int):=H;have d1:(pl f.T j:Int)<((f.T:D):Int):=H;have v:=F (kT t B (pl f.T j) _ f.T[pl f.T j].2 e W z);have q:=F (J.2.aJ (Fr.gu B K));go_wp2_with fail;apply v.o.m;rintro n d3 ⟨rfl,a5,N⟩;go_wp2;go_ret2;exact⟨by rw[o.2.1,o.2.2];rfl,by rwa[o.1],q.o.aJ N⟩
 have o:=F (RN Z z);have u:=M.o;rw[CF z] at u;have U:=F u;clear u M;go_wp2_with fail;apply U.o.m;rintro n e ⟨rfl,K⟩;go_wp2;go_ret2;exact⟨by rw[o.2.1,o.2.2];rfl,o.1▸J.1.aM K,J.2.aJ (Fr.gu B K)⟩
def wO {bm:Ca}{z:S}{t:QX Unit}{f:Ts}(A:g.heap[q]?=K #[G bm.aH,m,KD (M a),G bm.n] 185)(J:w<=q)(W:a=w)
 (P:g.ownsRow w 518 2 m (bm.T:D) (de bm.T)) (u:g.ownsMap N 9 (XA N 3) a (bm.C:D) t) (V:Vx t bm.C) (c:bD bm.C) (U:bm.aH<=64)
 (O:aL g s (λi=>i=q\/M i=m.ownBlock)) (Z:s.heap[q]?=K #[G bm.aH,z,KD (M a),G bm.n] 185) (y:s.ownsRow w 518 2 z (f:D) (de f))
 (x:(f:D)<=bm.aH) (B:∀d∈f,d.1.size<=Ie):bM s w q {bm with T:=f}/\Fr w g s:=by
 refine⟨⟨a,z,t,Z,J,W,y,O.cS u (λb=>?_),V,c,U,x,B⟩,Fr.pC O λi _ b=>?_⟩
 .rcases b with b|b
  .exact qU u A b.s
  exact tO u P b.s
 rcases b with rfl|b
 .exact⟨J,j (j ⟨_,_,A⟩)⟩
 rcases P.2 with⟨rfl,_⟩|⟨h,e,C,rfl,X,v,_⟩
 .cases b
 simp only[Ψ,Gd] at b;subst b;exact⟨X,j (o ⟨_,_,v⟩)⟩
def tP (f:Ca):D:=match f.T[f.T.length-1]? with|some b=>often f.C b.1|none=>0
def ik (f:Ca)(j o:B):Ts:=
 if f.aH=0 then f.T else if pl f.T j<f.T.length then dX f.T (pl f.T j) o else if f.T.length<f.aH then(j,o)::f.T else if tP f<often f.C j then(j,o)::f.T.take (f.T.length-1) else f.T
def jL (f:Ca)(j:B):Bool:=
 if f.aH=0 then X else if pl f.T j<f.T.length then U else if f.T.length<f.aH then U else LH (tP f<often f.C j)
def CG {f:Ca}{v:B}(j:f.aH=0):ik f k v=f.T/\jL f k=X:=by simp[ik,jL,j]
def Ai {f:Ca}{v:B}(j:¬f.aH=0)(o:pl f.T k<(f.T:D)):ik f k v=dX f.T (pl f.T k) v/\jL f k=U:=by simp[ik,jL,j,o]
def CH {f:Ca}{v:B}(j:¬f.aH=0)(o:¬pl f.T k<(f.T:D))(t:(f.T:D)<f.aH):ik f k v=(k,v)::f.T/\jL f k=U:=by simp[ik,jL,j,o,t]
def RO {f:Ca}{v:B}(j:¬f.aH=0)(o:¬pl f.T k<(f.T:D))(t:¬(f.T:D)<f.aH)(u:tP f<often f.C k):ik f k v=(k,v)::f.T.take ((f.T:D)-1)/\jL f k=U:=by simp[ik,jL,j,o,t,u]
def HM {f:Ca}{v:B}(j:¬f.aH=0)(o:¬pl f.T k<(f.T:D))(t:¬(f.T:D)<f.aH)(u:¬tP f<often f.C k):ik f k v=f.T/\jL f k=X:=by simp[ik,jL,j,o,t,u]
def CI {T:Ts}{u v:B}:dX (T++[(k,u)]) (T:D) v=(k,v)::T:=by
 rw[kS R];simp
def HN {f:Ts}{o j:B}(t:0<(f:D)):dX (f.set ((f:D)-1) (k,o)) ((f:D)-1) j=(k,j)::f.take ((f:D)-1):=by
 rw[kS QB];simp only[List.getElem_set_self];congr 1;rw[JP QB,IS,List.take_set_of_le d]
def RP {f:Ts}(j:w<(f:D)):(de f).set (w*2) (O k)=de (f.set w (k,f[w].2)):=by
 induction f generalizing w with
 |nil=>cases j
 |cons g a e=>
  cases w with
  |zero=>rfl
  |succ w=>
   rw[show(w+1)*2=w*2+1+1 by omega];simp[de,Gn,List.getElem_cons_succ,e (sU j)]
def HO (o:g.ownsRow w 518 2 m q b)(j:Obj)(f:(g.alloc j).grownBy s m.ownBlock):aL g s (λa=>M a=m.ownBlock):=
 ⟨f.os,f.tape,f.output,oP f.size,λa c d=>(f.block a QB d).t (QP c)⟩
def acu (o:L)(t u:S):∀f j,[t,u][f]?=M j->(o.alloc (K #[t,u] 518)) ((o:JM).add f)=M j:=by
 intro f j z;rw[Jg,GU];simp only[Iz,Xm];simpa using z
def hL {o:Λ}(f:g.heap[w]?=K h p)(t:g.ownsRow q o a m i b)(u:p≠o):m.ownBlock≠M w:=by
 rcases t.2 with⟨rfl,_⟩|⟨J,A,O,rfl,_,z,_⟩
 .simp[Ψ]
 intro j;simp only[Ψ,Gd] at j;subst j;rw[z] at f;simp at f;exact u f.2.s
def RQ (f:Ca)(j A:QE)(B u:D)(J:L)(t:He)(o:L):Prop:=
 t=z (jL f j)/\bM o B u {f with T:=ik f j A}/\Fr B J o
def HP (o B:D)(f:Ca)(j u:QE)(m:ν)(p:bM m B o f)(c8:j.size<=Ie):
 τ γ 300 #[ξ o,j,u] m (RQ f j u B o m):=by
 let⟨ab,x,i0,c3,h6⟩:=p.open;by_cases S:f.aH=0
 .have hd:((f.aH:Int)==0)=ψ:=QB;have t:=F (CG (k:=j) (v:=u) S);go_enter func300,Qo;go_wp2;go_ret;exact⟨t.2▸rfl,by rwa[t.1],Fr.bQ _ _⟩
 have hd:((f.aH:Int)==0)=σ:=QB;have T:=F (kR o B f j m p);by_cases V:pl f.T j<(f.T:D)
 .have t:=F (Ai (v:=u) S V);have Z:=T.o;rw[yh V] at Z;have Y:=F Z;clear Z T;have h7:LH ((pl f.T j:Int)>=0)=ψ:=Xr H;have h8:LH ((0:Int)<=(pl f.T j:Int))=ψ:=Xr H;have e2:η.wrap (((f.T:D):Int)-1)=((f.T:D):Int)-1:=QQ H;go_enter func300,Qo;go_wp2_with fail;apply Y.o.m;rintro b W ⟨rfl,K⟩;have z:=p.aM K;have I:=F (Fr.gu B K);let⟨a,w,i7,b0,b9,c0⟩:=z.Ev V;have h9:=z.lt.1;have q:=F (kT o B (pl f.T j) f u W z V);go_wp2_with fail;apply q.o.m;rintro b J ⟨rfl,X,M⟩;go_wp2;go_ret;exact⟨t.2▸rfl,by rwa[t.1],I.o.aJ M⟩
 have Z:=T.o;rw[CF V] at Z;have Y:=F Z;clear Z T;by_cases b4:(f.T:D)<f.aH
 .have t:=F (CH (v:=u) S V b4);have e2:η.wrap (((f.T:D):Int)-1)=((f.T:D):Int)-1:=QQ H;have h1:LH (((f.T:D):Int)<(f.aH:Int))=ψ:=Xr H;go_enter func300,Qo;go_wp2_with fail;apply Y.o.m;rintro b W ⟨rfl,K⟩;have I:=F (Fr.gu B K);let⟨h0,f7,g6,g7,g9⟩:=Xv Zy;have z:=p.aM K;let⟨h3,h2,_,c7,_,_,e9,_⟩:=z;have z:=p.aM K;let⟨ab,c1,c2,x⟩:=gW c7;obtain⟨b6,a5,rfl⟩:=dR e9;have d1:=aw c7;go_upto_region 8 with fail;go_quiet (fail);have X:=z.cI nq;have M:Fr B m (W.drewN nq):=I.o.aJ (Fr.gu B ((aL.bQ _ _).cI _));have c1:(W.drewN nq) (o,1)=P b6 (f.T:D) a5:=c1;generalize W.drewN nq=J at X M c1 ⊢;let⟨bm,e5,e7,i,a8,N,n,g,e,a9,_,_,k⟩:=X;have a3:=F N;clear N;obtain rfl:e5=P b6 (f.T:D) a5:=by
   have:=(gW i).2.1;rw[c1] at this;exact(Gm this).s
  have g0:=aw i;have h5:B<=J:=H;go_wp2_with (at_builtin;apply wpList_append_own _ A _ _ _ A B 518 h0 _ 2 32 underlying183 f7 g6 g7 g9 A H _ (f.T:D) _ A (n.alloc _) J 1 1 [O j,eS] A A (acu _ _ _) QA (by unfold Ie;omega) H QB);intro h2 e4 v d8 _;have b3:=HO n _ d8;have d9:=hL i n dc;have h:=b3.aM i (λb=>d9 b.s);have G:(f.T++[(j,(⟨#[]⟩:QE))]).length=(f.T:D)+1:=sm;have d4:de (f.T++[(j,(⟨#[]⟩:QE))])=de f.T++[O j,eS]:=by rw[rR];rfl
  rw[<-d4,<-G] at v;obtain⟨b7,a6,rfl⟩:=dR v;have s:aL J (e4.setCell (o,1) (P b7 (f.T++[(j,(⟨#[]⟩:QE))]).length a6)) (λl=>l=o\/δ l=(P b6 (f.T:D) a5).ownBlock):=
   (b3.cz (λl b=>Θ b)).aJ (aL.bV _ _ _ _ _ (Ξ A))
  have R:(e4.setCell (o,1) (P b7 (f.T++[(j,(⟨#[]⟩:QE))]).length a6)).ownsRow B 518 2 (P b7 (f.T++[(j,(⟨#[]⟩:QE))]).length a6) (f.T++[(j,(⟨#[]⟩:QE))]).length (de (f.T++[(j,(⟨#[]⟩:QE))])):=
   ownsRow_setCell_other v (hL h v dc) _
  have U:=wO i a8 a3.o n g e a9 c3 s (bJ h 1 _) R (oA G) (λe6 d=>by
   rcases GO.1 d with d|d
   .exact k _ d
   cases GA.1 d
   exact c8)
  rw[G] at U;have r:=CI (T:=f.T) (k:=j) (u:=⟨#[]⟩) (v:=u);have q:=F (kT o B (f.T:D) _ u _ U.1 (by show _<(f.T++[(j,(⟨#[]⟩:QE))]).length;rw[G];omega));have a4:=F r;have a2:=F (M.aJ U.2);have g8:=aI h 1;have c1:=(gW h).2.1;have i1:=aw h;have i2:η.wrap (((f.T:D):Int)+1-1)=((f.T:D):Int):=by rw[QQ H];omega
  have i3:η.wrap ((f.T:D):Int)=((f.T:D):Int):=QQ H;rw[G];clear v d8 n g e U s R r d4 h i b3 d9 k G;go_wp2_with fail;apply q.o.m;rintro b w8 ⟨rfl,e8,a7⟩;go_wp2;go_ret;exact⟨t.2▸rfl,by rwa[t.1,<-a4.o],a2.o.aJ a7⟩
 let⟨c,b2⟩:∃c,c=(f.T:D)-1:=⟨_,A⟩;have L:c<(f.T:D):=H;have e0:0<(f.T:D):=H;have e2:η.wrap (((f.T:D):Int)-1)=(c:Int):=by rw[QQ H];omega
 have h1:LH (((f.T:D):Int)<(f.aH:Int))=σ:=Xx H;have a1:tP f=often f.C f.T[c].1:=by
  rw[tP,<-b2,Gf L]
 have f0:=F b2;clear b2;go_enter func300,Qo;go_wp2_with fail;apply Y.o.m;rintro b W ⟨rfl,K⟩;have I:=F (Fr.gu B K);have z:=p.aM K;let⟨ab,x,d1,_,_⟩:=z.open;let⟨a,w,c1,b0,b9,c0⟩:=z.Ev L;go_upto_region 8 with fail;go_quiet (fail);have X:=z.cI nq;have M:Fr B m (W.drewN nq):=I.o.aJ (Fr.gu B ((aL.bQ _ _).cI _));clear ab c1 x b9 c0 d1 b0 I K z;generalize W.drewN nq=J at X M ⊢;have f1:=F X;let⟨bm,e5,e7,i,a8,N,n,g,e,a9,_,_,k⟩:=X;have a3:=F N;clear N;obtain⟨i6,w,rfl⟩:=dR n;obtain⟨a,h4,rfl,f2,y,g1,f4,f5,e1⟩:=pD n e0;let⟨ab,c1,c2,x⟩:=gW i;have g0:=aw i;have b0:=aw y;let⟨b9,c0⟩:=nJ y e1 A L;have f8:=tN c8;have f9:=tN (k _ (NL L));let⟨e6,g2,c6,g4⟩:=g.drew.lookup_int RJ GY Hu (RK _) f8;have d:=(e.2.2 j).1;rw[c6] at d;simp only[Nn,NP,true_and] at d;subst d;let⟨i8,g3,d2,g5⟩:=g.drew.lookup_int RJ GY Hu (RK _) f9;have b5:=(e.2.2 f.T[c].1).1;rw[d2] at b5;simp only[Nn,NP,true_and] at b5;subst b5;have i4:(0:Int)<=(c:Int):=H;have i5:(c:Int)<((f.T:D):Int):=H;clear c6 d2 g4 g5;by_cases a0:tP f<often f.C j
 .have t:=F (RO (v:=u) S V b4 a0);rw[a1] at a0;have f6:LH ((often f.C f.T[c].1:Int)<(often f.C j:Int))=ψ:=Xr H;clear a1;go_upto_region 12 with fail;go_region;have f3:o≠a:=by rintro rfl;rw[i] at y;simp at y
  have g8:=aI y (c*2);have ae:(f.T.set c (j,f.T[c].2):D)=(f.T:D):=sm;have s:aL J (J.drew.setCell (a,c*2) (O j)) (λl=>l=o\/δ l=(P a (f.T:D) w).ownBlock):=
   ((aL.bQ _ _).oG).aJ (aL.bV _ _ _ _ _ (Θ A))
  have d6:(J.drew.setCell (a,c*2) (O j)).heap[a]?=_:=bJ (w:=J.drew) y (c*2) (O j);have d3:(J.drew.setCell (a,c*2) (O j)).heap[o]?=_:=(Gq J.drew (a,c*2) (O j) o (sU f3)).t i;have R:(J.drew.setCell (a,c*2) (O j)).ownsRow B 518 2 (P a (f.T:D) w) (f.T.set c (j,f.T[c].2):D) (de (f.T.set c (j,f.T[c].2))):=by
   rw[ae];refine⟨by rw[hj,ae],Θ ⟨a,w,_,A,f2,d6,g1,f4,sU f5,?_⟩⟩;rw[Array.toList_setIfInBounds,List.take_set,e1,RP L]
  have U:=wO i a8 a3.o n g e a9 c3 s d3 R (oA ae) (λe6 d=>by
   rcases JE d with d|d
   .exact k _ d
   rwa[d])
  have r:dX (f.T.set c (j,f.T[c].2)) c u=(j,u)::f.T.take ((f.T:D)-1):=by
   have:=f0.o;subst this;exact HN e0
  have q:=F (kT o B c _ u _ U.1 (by show c<(f.T.set c (j,f.T[c].2):D);rwa[ae]));have a4:=F r;have a2:=F (M.aJ U.2);clear U r R d6 d3 s n g e k y g2 g3;go_wp2_with fail;apply q.o.m;rintro b w8 ⟨rfl,e8,a7⟩;go_wp2;go_ret;exact⟨t.2▸rfl,by rwa[t.1,<-a4.o],a2.o.aJ a7⟩
 have t:=F (HM (v:=u) S V b4 a0);rw[a1] at a0;have f6:LH ((often f.C f.T[c].1:Int)<(often f.C j:Int))=σ:=Xx H;clear a1;go_upto_region 12 with fail;go_region;go_wp2;go_ret;exact⟨t.2▸rfl,t.1▸f1.o.cI 1,M.aJ (Fr.gu B (aL.bQ _ _).oG)⟩
end Cc
namespace Ms
def tQ:(N.info? 9).map (λa=>(a.zero,a.size,a.bytes))=M (M (O ByteArray.empty),1,16):=e
def Ex:(N.info? 9).map (·.size)=M 1:=e
def bU (o:L)(t:D)(u:C)(f:E B):Prop:=
 ∃j,o.heap[t]?=K #[u,j] 154 (0,0)/\o.ownsRow 0 9 1 j f.length (f.map O)
def hL {o:Λ}(f:g.heap[w]?=K h p (0,0))(t:g.ownsRow q o a m i b)(u:p≠o):m.ownBlock≠M w:=by
 rcases t.2 with⟨rfl,_⟩|⟨J,A,O,rfl,_,z,_⟩
 .simp[Ψ]
 intro j;simp only[Ψ,Gd] at j;subst j;rw[z] at f;simp at f;exact u f.2.s
def xY (f:g.ownsRow 0 p 1 (P w q q) q b):g.heap[w]?=K b.toArray p (0,0):=by
 rcases f.2 with⟨f,_⟩|⟨A,u,z,j,_,o,_,_,J,t⟩
 .cases f
 simp only[Gy,Gd,GS] at j;obtain⟨⟨rfl,_⟩,_,rfl⟩:=j;rw[o,<-t,Hr QB]
def Aj (f:g.ownsRow 0 p 1 (P w q q) q b):∃j:E S,(j:D)=q/\g.heap[w]?=K j.toArray p (0,0):=
 ⟨b,oA f.1,xY f⟩
def pv (o:g.heap[w]?=K b.toArray p (0,0))(f:(b:D)=q)(t:q<=Ie):g.ownsRow 0 p 1 (P w q q) q b:=
 ⟨H,j ⟨w,q,b.toArray,A,QK,o,d,t,by simp[f],by simp[Hr,f]⟩⟩
def cd {xs:E S}(j:g.heap[w]?=K xs.toArray p (0,0))(f:D):g (w,f)=xs[f]?:=by
 simp[Iz,j]
def aI (f:g.heap[w]?=K h p (0,0))(j:D):g.frozen? (w,j)=X:=by
 simp[World.frozen?,f]
def bJ {w:L}{f:D}{j:D×D}(t:w.heap[f]?=K h p j)(z:D)(o:S):(w.setCell (f,z) o).heap[f]?=K (h.setIfInBounds z o) p j:=by
 have u:=aw t;have A:w.heap[f]=K h p j:=by simpa[IB u] using t
 show(w.heap.modify f _)[f]?=_;rw[IB (by simpa using u),Kl,A];rfl
def CJ {u:Type}(j f t:E u)(o:u)(J:(f:D)=w)(K:(t:D)=q-w)(O:w<=q)(M:(j:D)=q+1):splice ((splice j 0 f).set w o) (w+1) t=f++o::t:=by
 subst J;have z:(splice j 0 f).set f o=f++o::j.drop (f+1):=by
  rw[splice,Hw,Ho,IC _ _ d,PG,GU];rw[Kk (by omega:f<(j:D))];rfl
 rw[z];rw[splice,List.take_append,Hr H];have A:(f:D)+1-(f:D)=1:=H;rw[A,GW,Hw,JP QB];simp
def dR (j:g.ownsRow w q a m i b):∃o f,m=P o i f:=by
 rcases j.2 with⟨rfl,t⟩|⟨u,f,z,rfl,_⟩
 .exact⟨J,0,by rw[t]⟩
 exact⟨_,_,A⟩
def yi {f:D}{u:QV JM}(z:g.ownsRow w q a (P u i f) i b):i<=f/\f<=Ie:=by
 rcases z.2 with⟨t,j⟩|⟨J,K,M,o,_,_,j,A,_⟩
 .exact⟨H,by simp at t;omega⟩
 simp only[Gy] at o;obtain⟨_,_,rfl⟩:=o;exact⟨j,A⟩
def sK {t:QV JM}(j:g.ownsRow w q 1 (P t a i) a b)(W:0<a):∃f,t=M ⟨f,0,J⟩/\f<(g:D)/\∀d c,b[d]?=M c->g ⟨f,d,J⟩=M c:=by
 have u:=j;rcases j.2 with⟨U,V⟩|⟨f,K,O,o,_,z,_,_,_,X⟩
 .omega
 simp only[Gy] at o;obtain⟨rfl,_,rfl⟩:=o;refine⟨f,A,aw z,λd c p=>?_⟩;have:=u.cells (g:=f) A d c p;rwa[Jg,GU] at this
def wP (f:JM)(j:D):(f.add j).block=f.block:=by unfold Addr.add;split<;>rfl
def Ak {n:D}{f:QV JM}(j:g.ownsRow w q 1 (P f a i) a b)(A:n<a):
 ∃ad,(if i=n then f else Option.map (λe=>e.add n) f)=M ad/\ad.block<(g:D)/\∀c d,(b.drop n)[c]?=M d->g (ad.add c)=M d:=by
 obtain⟨u,rfl,t,o⟩:=sK j H;have z:=(yi j).1;refine⟨⟨u,n,J⟩,?_,t,λc d p=>?_⟩
 .rw[QT H];simp[Jg]
 rw[Jg];exact o _ _ (by rwa[<-JV])
def aQ (f:g.ownsRow w q a m i b)(M:T g g s):s.ownsRow w q a m i b:=by
 refine⟨f.1,?_⟩;rcases f.2 with P|⟨u,K,z,rfl,O,t,J⟩
 .exact o P
 exact j ⟨u,K,z,A,O,(M.b u (aw t)).t t,J⟩
def kW (o:E B):∀f∈o.map O,f.oneCell'=U:=by
 intro f j;obtain⟨t,_,rfl⟩:=GL.1 j;rfl
def RR (u z:L)(o:D)(t:C):Prop:=∃j,z.heap[o]?=K #[t,j] 154 (0,0)/\∀f,j.ownBlock=M f->u.heap.size<=f
def sL (t:D)(u:C)(f:D)(V:B)(o:E B)(j:ν)(d8:bU j t u o)(ah:f<=(o:D))(e6:(o:D)<=64):
 τ γ 194 #[ξ t,ϑ f,O V] j λe Y=>e=χ #[]/\
  bU Y t u (o.take f++V::o.drop f)/\j.grownBy Y (M t)/\RR j Y t u:=by
 let⟨d9,ag,a4,a5,a6⟩:=Xv tQ;let⟨c,a,x⟩:=d8;have ai:=hL a x dc;have U:=aw a;have I:j t=u:=by simp[Iz,a]
 have g:j (t,1)=M c:=by simp[Iz,a]
 obtain⟨z,J,rfl⟩:=dR x;go_enter func194,ntmps194;go_wp2_with (at_make;refine wpList_make_full _ A _ _ 33 A 0 9 d9 (O ByteArray.empty) 1 Jv ag a4 a5 η η _ _ ((o:D)+1) A A ?c1 ?c2 ?c3 ?c4 ?c5 ?_);case c1=>omega
 case c2=>omega
 case c3=>rw[a6];omega
 case c4=>unfold Ie;omega
 case c5=>omega
 intro T aj af;have ae:=(af.block t U sm).t a;have ab:ρ j j T:=(Ge _ j).grown af QD nF;have e8:=(yi x).1;have I:T t=u:=by simp[Iz,ae]
 have g:T (t,1)=P z (o:D) J:=by simp[Iz,ae]
 let⟨p,a7,c6⟩:=Aj aj;clear aj ag a4 a5 a6;let⟨h,N⟩:∃h,h=(o.take f).map O:=⟨_,A⟩;have s:=F N;have a2:(h:D)=f:=by rw[N];simp[ah]
 clear N;have W:=F a2;clear a2;have n:=F a7;clear a7;go_wp2_with (with_reducible refine wpList_copy_splice A (.tmp 14) (.tmp 20) 33 33 A 9 Jv Ex _ _ _ _ _ _ A A (j:D) 0 p 9 c6 h ?d1 ?d2 ?d3 ?d4 (j:D) j ab QD ?_);case d1=>rw[W.o];exact(Nh H).s
 case d2=>
  intro b5;obtain⟨e0,rfl,c8,c0⟩:=sK x (oA W.o);refine⟨_,A,λq e2 b=>?_⟩;rw[Jg,GU,ab.cell (by exact c8)];apply c0 q e2;rw[s.o] at b;rw[Ip] at b ⊢;rw[Jt] at b;split at b
  .exact b
  cases b
 case d3=>
  have e4:=W.o;have b4:=n.o;omega
 case d4=>rw[s.o];exact kW _
 intro Z l w;have I:Z t=u:=by simp[Iz,w.b t U,a]
 have g:Z (t,1)=P z (o:D) J:=by simp[Iz,w.b t U,a]
 have a8:(splice p 0 h:D)=(o:D)+1:=by rw[length_splice _ _ _ (by rw[W.o,n.o];omega),n.o]
 let⟨G,e7⟩:∃G,Z ((j:D),f)=M G:=by
  rw[cd l.o];exact⟨_,Gf H⟩
 have e9:=aI l.o f;have aa:=F a8;clear a8;go_wp2_with fail;let⟨L,S⟩:∃L,L=splice p 0 h:=⟨_,A⟩;rw[<-S] at l aa;have b2:=F S;clear S;let⟨i,R⟩:∃i,i=(o.drop f).map O:=⟨_,A⟩;have a3:(i:D)=(o:D)-f:=by rw[R];simp
 have v:=F R;have m:=F a3;clear R a3;let⟨k,r⟩:∃k,k=Z.setCell ((j:D),f) (O V):=⟨_,A⟩;have c7:k.heap[(j:D)]?=θ (L.set f (O V)).toArray 9 (0,0):=by
  rw[r,bJ l.o];simp
 have y:ρ j j k:=r▸w.s QD _;rw[<-r];clear r;have I:k t=u:=by simp[Iz,y.b t U,a]
 have g:k (t,1)=P z (o:D) J:=by simp[Iz,y.b t U,a]
 have f0:(0:C)<=(f:C)+1:=H;have f1:(f:C)+1<=((o:D):C)+1:=H;have f2:η.wrap ((f:C)+1)=(f:C)+1:=QQ H;have f3:((f:C)+1).toNat=f+1:=H;have f4:(f:C)<=((o:D):C):=H;have a0:0<(i:D)->(if (o:D)=f then M (j:JM) else M ⟨(j:D),f+1,ζ⟩)=M ⟨(j:D),f+1,ζ⟩/\
  ∃ad,(if J=f then z else Option.map (λG=>G.add f) z)=M ad/\∀(q:D) (c:π),i[q]?=M c->k.drew (ad.add q)=M c:=by
  intro b5;have e:=m.o;let⟨ad,b6,b7,b9⟩:=Ak x (n:=f) H;refine⟨QT H,ad,b6,λq c a1=>?_⟩;rw[y.d.cell (by rw[wP];exact b7)];apply b9 q c;rw[v.o,Pu] at a1;exact a1
 have b3:=F a0;clear a0;go_region_law (refine step_copy_splice A (.tmp 29) (.tmp 35) 33 33 A 9 Jv Ex _ _ _ _ _ _ A A (j:D) (f+1) _ 9 c7 i (by have e:=m.o;show _=min _ _;omega) (by exact b3.o) (by have e:=m.o;have b4:=aa.o;simp;omega) (v.o▸kW _) (j:D) j y.d QD ?_;intro a9 b0 K)
 generalize (if (o:D)=f then(M (j:JM)) else _)=f5;generalize (if J=f then z else _)=f6;have X:=(K.b t U).t a;have I:a9 t=u:=by simp[Iz,X]
 have g:a9 (t,1)=P z (o:D) J:=by simp[Iz,X]
 have e5:=aI X 1;go_wp2;go_end0;refine⟨A,⟨P j ((o:D)+1) ((o:D)+1),?_,?_⟩,?_,_,bJ X 1 _,λe0 e=>by simp[Ψ] at e;omega⟩
 .exact bJ X 1 _
 .have e:(o.take f++V::o.drop f).length=(o:D)+1:=QB;rw[e];refine ownsRow_setCell_other (pv ?_ QB (by unfold Ie;omega)) (by simp[Ψ];omega) _;rw[b0.o,b2.o,CJ p h i (O V) W.o m.o ah n.o,s.o,v.o];simp
 refine⟨K.os,K.tape,K.output,by simpa[PZ] using K.z,λe1 d6 ai=>?_⟩;rw[QJ (λe=>ai (by rw[e]))];exact K.b e1 d6
def CK {z:Type}(j f o:E z)(u:(f:D)=w)(A:(j:D)=w+(o:D)):splice (splice j 0 f) w o=f++o:=by
 subst u;have t:splice j 0 f=f++j.drop (f:D):=by
  rw[splice,Hw,Ho,GU]
 rw[t];rw[splice,Ja d,Iy,JP QB];simp
theorem ki (t:D)(J:C)(f:D)(j:E B)(o:ν)(b4:bU o t J j)(d6:f<(j:D))(c7:(j:D)<=64):
 τ γ 146 #[ξ t,ϑ f] o λe ag=>e=χ #[]/\
  bU ag t J (j.take f++j.drop (f+1))/\o.grownBy ag (M t):=by
 let⟨b5,w,Y,aa,ab⟩:=Xv tQ;let⟨c,a,r⟩:=b4;have N:=hL a r dc;have Z:=aw a;have I:o t=J:=by simp[Iz,a]
 have m:o (t,1)=M c:=by simp[Iz,a]
 obtain⟨z,K,rfl⟩:=dR r;have d8:(1:C)<=((j:D):C):=H;go_enter func146,ntmps146;go_wp2_with (at_make;refine wpList_make_full _ A _ _ 33 A 0 9 b5 (β ByteArray.empty) 1 Jv w Y aa η η _ _ ((j:D)-1) A A ?c1 ?c2 ?c3 ?c4 ?c5 ?_);case c1=>omega
 case c2=>omega
 case c3=>rw[ab];omega
 case c4=>unfold Ie;omega
 case c5=>omega
 intro i x L;have v:=(L.block t Z sm).t a;have s:ρ o o i:=(Ge _ o).grown L QD nF;have c8:=(yi r).1;have I:i t=J:=by simp[Iz,v]
 have m:i (t,1)=P z (j:D) K:=by simp[Iz,v]
 let⟨p,ae,b0⟩:=Aj x;clear x w Y aa ab;let⟨h,q⟩:∃h,h=(j.take f).map β:=⟨_,A⟩;have n:=F q;have S:(h:D)=f:=by rw[q];simp;omega
 clear q;have O:=F S;clear S;have V:=F ae;clear ae;go_wp2_with (with_reducible refine wpList_copy_splice A (.tmp 12) (.tmp 18) 33 33 A 9 Jv Ex _ _ _ _ _ _ A A (o:D) 0 p 9 b0 h ?d1 ?d2 ?d3 ?d4 (o:D) o s QD ?_);case d1=>rw[O.o];exact(Nh H).s
 case d2=>
  intro a5;obtain⟨e6,rfl,b2,a9⟩:=sK r (oA O.o);refine⟨_,A,λl b7 b=>?_⟩;rw[Jg,GU,s.cell (by exact b2)];apply a9 l b7;rw[n.o] at b;rw[Ip] at b ⊢;rw[Jt] at b;split at b
  .exact b
  cases b
 case d3=>
  have c0:=O.o;have a0:=V.o;omega
 case d4=>rw[n.o];exact kW _
 intro k a1 W;have I:k t=J:=by simp[Iz,W.b t Z,a]
 have m:k (t,1)=P z (j:D) K:=by simp[Iz,W.b t Z,a]
 have af:(splice p 0 h:D)=(j:D)-1:=by rw[length_splice _ _ _ (by rw[O.o,V.o];omega),V.o]
 have a3:=F af;clear af;go_wp2_with fail;let⟨g,d⟩:∃g,g=(j.drop (f+1)).map β:=⟨_,A⟩;have T:(g:D)=(j:D)-(f+1):=by rw[d];simp
 have G:=F d;have U:=F T;clear d T;have d9:(0:C)<=(f:C)+1:=H;have e0:(f:C)<=((j:D):C)-1:=H;have e1:η.wrap ((f:C)+1)=(f:C)+1:=QQ H;have e2:((f:C)+1).toNat=f+1:=H;have e4:(f:C)+1<=((j:D):C):=H;have e5:(f:C)<=(((j:D)-1:D):C):=H;have y:0<(g:D)->(if (j:D)-1=f then M (o:JM) else M ⟨(o:D),f,ζ⟩)=M ⟨(o:D),f,ζ⟩/\
  ∃ad,(if K=f+1 then z else Option.map (λb9=>b9.add (f+1)) z)=M ad/\∀(l:D) (c:π),g[l]?=M c->k.drew (ad.add l)=M c:=by
  intro a5;have e:=U.o;let⟨ad,a6,a7,a8⟩:=Ak r (n:=f+1) H;refine⟨QT H,ad,a6,λl c R=>?_⟩;rw[W.d.cell (by rw[wP];exact a7)];apply a8 l c;rw[G.o,Pu] at R;exact R
 have a4:=F y;clear y;go_region_law (refine step_copy_splice A (.tmp 22) (.tmp 29) 33 33 A 9 Jv Ex _ _ _ _ _ _ A A (o:D) f _ 9 a1.o g (by have e:=U.o;show _=min _ _;omega) (by exact a4.o) (by have e:=U.o;have a0:=a3.o;simp;omega) (G.o▸kW _) (o:D) o W.d QD ?_;intro ah a2 u)
 generalize (if (j:D)-1=f then(M (o:JM)) else _)=e7;generalize (if K=f+1 then z else _)=e8;have X:=(u.b t Z).t a;have I:ah t=J:=by simp[Iz,X]
 have m:ah (t,1)=P z (j:D) K:=by simp[Iz,X]
 have c6:=aI X 1;go_wp2;go_end0;refine⟨A,⟨P o ((j:D)-1) ((j:D)-1),?_,?_⟩,?_⟩
 .exact bJ X 1 _
 .have e:(j.take f++j.drop (f+1):D)=(j:D)-1:=QB;rw[e];refine ownsRow_setCell_other (pv ?_ QB (by unfold Ie;omega)) (by simp[Ψ];omega) _;rw[a2.o,CK p h g O.o (oB V.o U.o),n.o,G.o];simp
 refine⟨u.os,u.tape,u.output,by simpa[PZ] using u.z,λb6 b3 N=>?_⟩;rw[QJ (λe=>N (by rw[e]))];exact u.b b6 b3
def at_hit (K:D)(x:C)(o:D)(t:E B)(b:L)(J:FuncId)(P u:Q S)(M:L->Prop)(v:bU b K x t)(R:o<t.length)(l:t.length<=64)
 (m:∀u (b:L),(Xa J u).run N b=Je (.enter J u) b)
 (W:#[O t[o]]++P=u) (hF:Y N J u b λg h=>g=f #[]/\M h):
 Y N 144 #[V K,G o,Hl (Ic J) #[] P] b λg h=>g=z U/\M h:=by
 obtain⟨y,r,Z⟩:=v;have c1:b (K,1)=y:=by simp[Iz,r]
 obtain⟨T,e,rfl⟩:=dR Z;obtain⟨q,rfl,H,s⟩:=sK Z om;have p:=F hF;have a:=F W;clear hF W;go_enter func144,ntmps144;go_wp2;go_loop [7,13] (λ_ i=>∃j:D,j<=o/\i=G j) (λ_ i=>o-(QI i).toNat)
 .exact⟨0,QK,A⟩
 obtain⟨j,I,rfl⟩:=hrel;have d:j<t.length:=by omega
 have n:b (q,j)=O t[j]:=s j _ (by simp[d]);by_cases c:j=o
 .subst c;go_wp2_with fail;rw[a.o];refine p.o.m ?_;rintro g h ⟨rfl,w⟩;go_wp2;go_ret;exact⟨A,w⟩
 have k:((j:C)==(o:C))=X:=by simp;omega
 go_wp2;go_round
 .exact⟨j+1,by omega,by go_num⟩
 simp[QI];omega
def at_miss (u:D)(P:C)(o:C)(f:E B)(t:L)(J:S)(M:bU t u P f)(a:o<0\/f.length<=o)(q:f.length<=64):
 Y N 144 #[V u,G o,J] t λg n=>g=z X/\t=n:=by
 obtain⟨U,K,O⟩:=M;have c1:t (u,1)=U:=by simp[Iz,K]
 obtain⟨b,W,rfl⟩:=dR O;go_enter func144,ntmps144;go_wp2;go_loop [7,13] (λ_ e=>∃j:D,j<=f.length/\e=G j) (λ_ e=>f.length-(QI e).toNat)
 .exact⟨0,QK,A⟩
 obtain⟨j,r,rfl⟩:=hrel;by_cases s:j<f.length
 .have Z:((j:C)==o)=X:=by simp;omega
  go_wp2;go_round
  .exact⟨j+1,by omega,by go_num⟩
  simp[QI];omega
 go_wp2;go_ret;exact⟨A,A⟩
theorem ae5:∀f (b:L),(Xa 145 f).run N b=Je (.enter 145 f) b:=by intro f b;kernel_rfl
theorem ae6:∀f (b:L),(Xa 152 f).run N b=Je (.enter 152 f) b:=by intro f b;kernel_rfl
theorem ae7:∀f (b:L),(Xa 151 f).run N b=Je (.enter 151 f) b:=by intro f b;kernel_rfl
structure aL (w w':L)(S:D->Prop):Prop where
 os:w'.os=w.os
 cb:w'.tape=w.tape
 aW:w'.output=w.output
 aH:w.heap.size<=w'.heap.size
 aG:∀k,k<w.heap.size->¬S k->w'.heap[k]?=w.heap[k]?
def aL.bQ (f:L)(j:D->Prop):aL f f j:=⟨A,A,A,d,λ_ _ _=>rfl⟩
def aL.aJ {S:D->Prop}(f:aL g s S)(j:aL s l S):aL g l S:=
 ⟨j.os.t f.os,j.cb.t f.cb,j.aW.t f.aW,GB f.aH j.aH,λh a c=>(j.aG h (GP a f.aH) c).t (f.aG h a c)⟩
def aL.gU {o t:D->Prop}(f:aL g s o)(j:aL s l t)(u:∀a,a<g.heap.size->t a->o a):aL g l o:=
 ⟨j.os.t f.os,j.cb.t f.cb,j.aW.t f.aW,GB f.aH j.aH,λa b c=>(j.aG a (GP b f.aH) (λi=>c (u a b i))).t (f.aG a b c)⟩
def aL.cz {j T:D->Prop}(f:aL g s j)(o:∀b,j b->T b):aL g s T:=
 ⟨f.os,f.cb,f.aW,f.aH,λb d i=>f.aG b d (λh=>i (o b h))⟩
def aL.ml (f:L)(o:Obj)(j:D->Prop):aL f (f.alloc o) j:=⟨A,A,A,by simp,λe c _=>QP c⟩
def aL.bV (o:L)(j u:D)(z:S)(f:D->Prop)(t:f j):aL o (o.setCell (j,u) z) f:=
 ⟨A,A,A,by simp[PZ],λb i a=>QJ (λd=>a (d▸t))⟩
def aL.kQ (f:g.grownBy s (M w)):aL g s (· =w):=⟨f.os,f.tape,f.output,f.size,λh a c=>f.block h a (λe=>c (Gm e))⟩
def aL.aM {u w':L}{j:D->Prop}{f:D}{t:Obj}(z:aL u w' j)(o:u.heap[f]?=t)(A:¬j f):w'.heap[f]?=t:=(z.aG f (aw o) A).t o
def aL.cT {t:D->Prop}{base:D}(J:aL g s t)(u:g.ownsRow base q a m i b)(z:∀f,m.ownBlock=M f->¬t f):s.ownsRow base q a m i b:=by
 refine⟨u.1,?_⟩;rcases u.2 with V|⟨f,O,K,rfl,P,U,W⟩
 .exact o V
 exact j ⟨f,O,K,A,P,J.aM U (z f A),W⟩
def aL.yj {o:D->Prop}(t:aL g s o)(J:bU g w c v)(u:∀j,o j->j≠w/\∀f,g.heap[j]?≠M (K f 9 (0,0))):bU s w c v:=by
 let⟨q,n,a⟩:=J;refine⟨q,t.aM n (λd=>(u w d).1 A),t.cT a λm l d=>?_⟩;rcases a.2 with⟨rfl,_⟩|⟨P,O,f,rfl,_,z,_⟩
 .cases l
 simp only[Ψ,Gd] at l;subst l;exact(u _ d).2 f z
def bU.lt (f:bU g w c v):w<(g:D):=let⟨b,e,_⟩:=f;aw e
def RS (o:L)(j f:C)(t:j=f):bU (o.alloc (K #[j,P J 0 0] 154)) o f []:=
 t▸⟨P J 0 0,Xm _ _,QN⟩
def aL.cI {j:D->Prop}(f:aL g s j)(o:D):aL g (s.drewN o) j:=⟨f.os,f.cb,f.aW,f.aH,f.aG⟩
def aL.eM {j:D->Prop}{k:D}(f:aL (g.drewN k) s j):aL g s j:=⟨f.os,f.cb,f.aW,f.aH,f.aG⟩
def mL (u:L)(t o:D):Prop:=∀j,u.heap[t]?=K j 154 (0,0)->∀f,f∈j->f.ownBlock≠M o
def qV (u:bU g w c v)(t:s.heap[w]?=g.heap[w]?)(A:(g:D)<=q):mL s w q:=by
 let⟨p,i,l⟩:=u;intro z f J o j;rw[t,i] at f;simp only[Gd,Hq,QW] at f;subst f;simp only[List.mem_toArray,GF,Hv,Xf] at o;rcases o with rfl|rfl
 .cases j
 have:=(l.lt q j).2;omega
def aL.tT (f:aL g s (· =q))(t:bU g w c v)(o:w≠q)(j:mL g w q):bU s w c v:=by
 let⟨h,a,d⟩:=t;refine⟨h,f.aM a o,f.cT d λp m b=>?_⟩;subst b;exact j _ a h R m
def bU.cI (f:bU g w c v)(j:D):bU (g.drewN j) w c v:=f
def jr (j:C)(f:L):Y N 23 #[j] f λd c=>d=V f/\bU c f (min (max j 1) 64) []/\aL f c (λ_=>QZ):=by
 go_enter func23,ntmps23;go_wp2;all_goals
  go_ret;exact⟨A,RS _ _ _ H,aL.ml _ _ _⟩
def iM (j:C)(f:E B)(o:B):E B:=if(f.length:C)<j then f++[o] else f
def mM (j:C)(f:E B):Bool:=LH ((f.length:C)<j)
def wQ (f:((v:D):C)<c):iM c v k=v++[k]:=QU f
def RT (f:¬((v:D):C)<c):iM c v k=v:=QT f
def wR (f:((v:D):C)<c):mM c v=U:=Xr f
def RU (f:¬((v:D):C)<c):mM c v=X:=Xx f
def tU (f:D)(t:C)(M:B)(u:E B)(J:L)(O:bU J f t u)(v:t<=64):
 Y N 136 #[V f,M] J λh e=>h=z (mM t u)/\
  bU e f t (iM t u M)/\aL J e (· =f)/\(RR J e f t\/e.heap[f]?=J.heap[f]?):=by
 have P:=O;let⟨q,i,p⟩:=O;have s:J f=t:=by simp[Iz,i]
 have c1:J (f,1)=q:=by simp[Iz,i]
 obtain⟨w,Z,rfl⟩:=dR p;by_cases K:((u:D):C)<t
 .rw[wQ K,wR K];have a:(u:D)<=64:=H;go_enter func136,ntmps136;go_wp2_with fail;go_quiet (fail);go_wp2_with fail;apply(sL f t (u:D) M u _ (P.cI _) d H).m;rintro h e ⟨rfl,U,W,X⟩;go_wp2;go_ret;exact⟨A,sU U,(aL.kQ W).eM,o X⟩
 rw[RT K,RU K];have b:t<=((u:D):C):=H;go_enter func136,ntmps136;go_wp2_with fail;go_quiet (fail);go_wp2;go_ret;exact⟨A,P,(aL.bQ _ _).cI _,j A⟩
def eO (f:C)(j:E B):Bool:=LH (0<=f/\f<j.length)
def RW (z t bm W:D)(Z:C)(M:D)(U d:B)(J:E B)(u:L)(w:bU u z Z J)(x:M<(J:D))(s:(J:D)<=64)
 (X:u.heap[t]?=K #[d] 9 (0,0)) (g:u.heap[bm]?=K #[V z] 79 (0,0)) (v:u.heap[W]?=K #[M] 3 (0,0))
 (hd:mL u z t) (b:z≠t) (y:bm≠t) (i:W≠t):
 Y N 145 #[U,V t,V bm,V W] u λn h=>n=f #[]/\
  (bU h z Z (J.take M++J.drop (M+1))/\h.heap[t]?=K #[U] 9 (0,0)/\aL u h (λq=>q=z\/q=t)):=by
 have P:aL u (u.setCell t (O U)) (· =t):=aL.bV _ _ _ _ _ A;have H:=cell_of_one X;have k:=free_of_one X;have F:=cell_of_one (P.aM g y);have G:=cell_of_one (P.aM v i);have r:=one_setCell (u:=O U) X;go_enter func145,ntmps145;go_wp2_with fail;apply(ki z Z M J _ (P.tT w b hd) x s).m;rintro n h ⟨rfl,c,e⟩;go_wp2;go_end0;have p:=aL.kQ e;exact⟨A,c,p.aM r (Ne.symm b),(P.cz (λ_ a=>j a)).aJ (p.cz (λ_ a=>o a))⟩
def im (f:0<=c)(j:c<(v:D)):eO c v=U:=by simp[eO,f,j]
def hn (f:¬(0<=c/\c<((v:D):C))):eO c v=X:=by simp[eO];omega
def iq (j:C)(f:E B):E B:=if eO j f then f.eraseIdx j.toNat else f
def gd (j:C)(f:E B):B:=if eO j f then f[j.toNat]?.getD ByteArray.empty else ByteArray.empty
def tW (f:w<(v:D)):iq w v=v.take w++v.drop (w+1):=by
 rw[iq,QU (im H H),PQ];rfl
def tX {k:D}(f:k<(v:D)):gd k v=v[k]:=by
 rw[gd,QU (im H H)];simp[f]
def wT (f:¬(0<=c/\c<((v:D):C))):iq c v=v:=by rw[iq,hn f];rfl
def HQ (f:¬(0<=c/\c<((v:D):C))):gd c v=ByteArray.empty:=by rw[gd,hn f];rfl
def jk (f:L)(j o t:Obj):aL f (((f.alloc j).alloc o).alloc t) (λ_=>QZ)/\(((f.alloc j).alloc o).alloc t).heap[f.heap.size]?=j/\(((f.alloc j).alloc o).alloc t).heap[f.heap.size+1]?=o/\
 (((f.alloc j).alloc o).alloc t).heap[f.heap.size+1+1]?=t/\(((f.alloc j).alloc o).alloc t).heap.size=f.heap.size+3:=by
 refine⟨((aL.ml _ _ _).aJ (aL.ml _ _ _)).aJ (aL.ml _ _ _),?_,?_,?_,by simp⟩
 .rw[QP (by simp;omega),QP R,Xm]
 .rw[QP R,show f+1=(f.alloc j).heap.size by simp,Xm]
 rw[show f+1+1=((f.alloc j).alloc o).heap.size by simp,Xm]
def pF (o:D)(u:C)(t:C)(j:E B)(a:L)(p:bU a o u j)(b:(j:D)<=64):
 Y N 74 #[V o,G t] a λn l=>n=f #[O (gd t j),z (eO t j)]/\
  bU l o u (iq t j)/\aL a l (· =o):=by
 have rS:∀(r:Fn) (first q:Q S) (a:L),(Instr.makeFunc r first q).run N a=Je (Hl r first q) a:=λ_ _ _ _=>rfl;have v:=p.lt;go_enter func74,ntmps74;go_wp2_with fail;let⟨q1,q2,q3,q4,q5⟩:=jk a (K #[V (M {block:=o,off:=0})] 79) (K #[t] 3) (K #[O {data:=#[]}] 9);generalize (((a.alloc (K #[V (M {block:=o,off:=0})] 79)).alloc (K #[t] 3)).alloc (K #[O {data:=#[]}] 9))=X at q1 q2 q3 q4 q5;have U:bU X o u j:=q1.yj p (λ_ e=>e.elim);by_cases W:0<=t/\t<j
 .let⟨s,w⟩:=W;obtain⟨Z,rfl⟩:=Ly s;have P:Z<j:=H;have d:=RW o (a+1+1) a (a+1) u Z j[Z] _ j X U P b q4 q2 q3 (qV p (q1.aG o v (λe=>e)) H) H H H;apply(at_hit o u Z j X 145 #[V (M ⟨a+1+1,0,J⟩),V a,V (M ⟨a+1,0,J⟩)] _ _ U P b ae5 rf d).m;rintro n l ⟨rfl,x,y,g⟩;have c:=cell_of_one y;go_wp2;go_ret2;rw[tW P,tX P,im s w];exact⟨A,x,(q1.cz (λ_ e=>e.elim)).gU g (λh i e=>H)⟩
 apply(at_miss o u t j X _ U H b).m;rintro n l ⟨rfl,rfl⟩;have c:=cell_of_one q4;go_wp2;go_ret2;rw[wT W,HQ W,hn W];exact⟨A,U,q1.cz (λ_ e=>e.elim)⟩
def Vp (f:L)(j o:Obj):aL f ((f.alloc j).alloc o) (λ_=>QZ)/\((f.alloc j).alloc o).heap[f.heap.size]?=j/\((f.alloc j).alloc o).heap[f.heap.size+1]?=o/\
 ((f.alloc j).alloc o).heap.size=f.heap.size+2:=by
 refine⟨(aL.ml _ _ _).aJ (aL.ml _ _ _),?_,?_,by simp⟩
 .rw[QP R,Xm]
 rw[show f+1=(f.alloc j).heap.size by simp,Xm]
def rS:∀(a:Fn) (first b:Q S) (c:L),(Instr.makeFunc a first b).run N c=Je (Hl a first b) c:=λ_ _ _ _=>rfl
def RX (o bm J:D)(z:C)(t:D)(q:B)(j:E B)(u:L)(U:bU u o z j)(W:t<(j:D))(M:(j:D)<=64)
 (O:u.heap[bm]?=K #[V o] 79) (P:u.heap[J]?=K #[t] 3):
 Y N 151 #[q,V bm,V J] u λh a=>h=f #[]/\
  (bU a o z (j.take t++j.drop (t+1))/\aL u a (· =o)):=by
 have r:=cell_of_one O;have s:=cell_of_one P;go_enter func151,ntmps151;go_wp2_with fail;apply(ki o z t j _ U W M).m;rintro h a ⟨rfl,X,Z⟩;go_wp2;go_end0;exact⟨A,X,aL.kQ Z⟩
def tY (j:D)(u:C)(t:C)(f:E B)(o:L)(q:bU o j u f)(W:(f:D)<=64):
 Y N 76 #[V j,G t] o λl k=>l=z (eO t f)/\
  bU k j u (iq t f)/\aL o k (· =j):=by
 have rS:=rS;have d:=q.lt;go_enter func76,ntmps76;go_wp2_with fail;let⟨h,s,b,y⟩:=Vp o (K #[V (M {block:=j,off:=0})] 79) (K #[G t] 3);generalize ((o.alloc (K #[V (M {block:=j,off:=0})] 79)).alloc (K #[G t] 3))=P at h s b y;have O:bU P j u f:=h.yj q (λ_ a=>a.elim);by_cases Z:0<=t/\t<(f:D)
 .let⟨r,v⟩:=Z;obtain⟨U,rfl⟩:=Ly r;have X:U<(f:D):=H;have c:=RX j (o:D) ((o:D)+1) u U f[U] f P O X W s b;apply(at_hit j u U f P 151 #[V o,V (M ⟨o+1,0,J⟩)] _ _ O X W ae7 rf c).m;rintro l k ⟨rfl,w,x⟩;go_wp2;go_ret;rw[tW X,im r v];exact⟨A,w,(h.cz (λ_ a=>a.elim)).aJ x⟩
 apply(at_miss j u t f P _ O H W).m;rintro l k ⟨rfl,rfl⟩;go_wp2;go_ret;rw[wT Z,hn Z];exact⟨A,O,h.cz (λ_ a=>a.elim)⟩
def aL.acv (f:aL g s (· =w))(t:bU g q c v)(o:g.heap[w]?=K h p)(j:p≠9)(u:w≠q):bU s q c v:=
 f.yj t (λb l=>⟨H,λd a=>by subst l;rw[o] at a;simp at a;exact j a.2⟩)
def CL (J bm bs:D)(t:C)(P:B)(w:Bool)(u:E B)(M:L)(s:bU M J t u)(e:t<=64)
 (c:M.heap[bm]?=K #[V J] 79) (W:M.heap[bs]?=K #[w] 4) (X:bs≠J):
 Y N 152 #[P,V bm,V bs] M λa d=>a=f #[]/\
  (bU d J t (iM t u P)/\d.heap[bs]?=K #[z (mM t u)] 4/\aL M d (λb=>b=J\/b=bs)):=by
 have x:=cell_of_one c;have y:=cell_of_one W;go_enter func152,ntmps152;go_wp2_with fail;apply(tU J t P u _ s e).m;rintro a d ⟨rfl,v,Z,-⟩;have O:=Z.aM W X;have i:=cell_of_one O;have h:=free_of_one O;have p:aL d (d.setCell bs (z (mM t u))) (· =bs):=aL.bV _ _ _ _ _ A;have U:=F p;have q:=F (one_setCell (u:=z (mM t u)) O);go_wp2;go_end0;exact⟨A,U.o.acv v O r X,q.o,(Z.cz (λ_ g=>Ξ g)).aJ (U.o.cz (λ_ g=>j g))⟩
def hM (o:C)(j:C)(f:E B):E B:=if eO j f then iM o f (f[j.toNat]?.getD ByteArray.empty) else f
def kX (o:C)(j:C)(f:E B):Bool:=eO j f&&mM o f
def yk (f:w<(v:D)):hM c w v=iM c v v[w]:=by
 rw[hM,QU (im H H)];simp[f]
def yl (f:w<(v:D)):kX c w v=mM c v:=by
 rw[kX,im H H];rfl
def Al {f:C}(j:¬(0<=f/\f<((v:D):C))):hM c f v=v:=by rw[hM,hn j];rfl
def Am {f:C}(j:¬(0<=f/\f<((v:D):C))):kX c f v=X:=by rw[kX,hn j];rfl
def CM (j:D)(o:C)(u:C)(f:E B)(t:L)(r:bU t j o f)(w:o<=64)(q:(f:D)<=64):
 Y N 77 #[V j,G u] t λk a=>k=z (kX o u f)/\
  bU a j o (hM o u f)/\aL t a (· =j):=by
 have rS:=rS;have F:=r.lt;go_enter func77,ntmps77;go_wp2_with fail;let⟨h,s,b,c⟩:=Vp t (K #[V (M {block:=j,off:=0})] 79) (K #[z X] 4);generalize ((t.alloc (K #[V (M {block:=j,off:=0})] 79)).alloc (K #[z X] 4))=P at h s b c;have O:bU P j o f:=h.yj r (λ_ e=>e.elim);by_cases W:0<=u/\u<(f:D)
 .let⟨v,l⟩:=W;obtain⟨Z,rfl⟩:=Ly v;have U:Z<(f:D):=H;have g:=CL j (t:D) ((t:D)+1) o f[Z] X f P O w s b H;apply(at_hit j o Z f P 152 #[V t,V (M ⟨t+1,0,J⟩)] _ _ O U q ae6 rf g).m;rintro k a ⟨rfl,x,y,i⟩;have d:=cell_of_one y;go_wp2;go_ret;rw[yk U,yl U];exact⟨A,x,(h.cz (λ_ e=>e.elim)).gU i (λm n e=>H)⟩
 apply(at_miss j o u f P _ O H q).m;rintro k a ⟨rfl,rfl⟩;have d:=cell_of_one b;go_wp2;go_ret;rw[Al W,Am W];exact⟨A,O,h.cz (λ_ e=>e.elim)⟩
end Ms
end Go.Proofs.YtajnhfklchlahaaGreatDoor
