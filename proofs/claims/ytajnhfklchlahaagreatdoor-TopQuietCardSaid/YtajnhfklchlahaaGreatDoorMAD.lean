import Derived.Test.YtajnhfklchlahaaGreatDoorMAA
import Derived.Test.YtajnhfklchlahaaGreatDoorSh
import Derived.Laws.AppendOwnNone
set_option linter.all false
set_option maxHeartbeats 3200000
set_option maxRecDepth 100000
namespace Go.Proofs.YtajnhfklchlahaaGreatDoor
open Go.Proofs.Tryz Go.RowKit Go.Shelf
open And renaming intro->W
open Go renaming Value->π,World->ν,Calls->Y,Value->S,World->L,Oper->Le,Operand->Kg,TypeId->Λ,maxLen->Ie,wpList->Ji,execOp->Xb,yielded->Xg,wpListIn->Xn,wpList_plain->Xt,info_parts->Xv,bodyPost_ret->QM,Ending->He,results_tmp->Xy,callFunc->Xa
open Go.Ending renaming returned->ι
open Go.IntKind renaming u8->Ix,i64->u,u64->If
open Go.Proofs.Tryz renaming prog->N
open Go.RowKit renaming Below->ρ,Hid->Φ,Below->T
open Go.Value renaming slice->ο,int->Z,slice->P,string->O,agg->Γ,ownBlock->Ψ,agg->t,tuple->χ,bool->z,tuple->f,oneCell'->φ,iface->Δ,nilIface->ω,pointer->V
open Option renaming none->J,some->M
open _root_ renaming rfl->A,ByteArray->B,Int->C,Nat->D,List->E,UInt8->QO,Array->Q,if_pos->QU,False->QZ,if_neg->QT,beq_eq_false_iff_ne->Xk,decide_eq_false->Xx,of_decide_eq_true->XG
open YtajnhfklchlahaaGreatDoor renaming Ga->F,ϑ->G,om->H,QD->d,Qz->e,dc->r,QC->y,eS->I,sm->R
open Bool renaming true->U,false->X
open Go.Obj renaming cells->θ,cells->K
open Go.Oper renaming wp->Ld
open Go.Region renaming wanted->Jb
open Go.Result renaming andThen->Ω,ok->Je
open Or renaming inl->Ξ,inl->o,inr->j
open Decidable renaming decide->LH
open Go.Instr renaming typeAssert->Kf
variable {w q a i:Nat}{g s l:ν}{k:ByteArray}{h:Array π}{m:π}{b:List π}{c:Int}{p:Λ}
def bS (z:L)(u:S)(j:E B):Prop:=
 (∃K f,u=P K 0 f/\j=[])\/
 (∃o t f,u=P (M ⟨o,t,J⟩) j.length f/\(∀(d:D) A,j[d]?=M A->z.cell? ⟨o,t+d,J⟩=M (O A))/\o<z.heap.size/\j.length<=f)
theorem sy (f:E (E QO)):([]:E QO).intercalate f=f.flatten:=by
 induction f with
 |nil=>rfl
 |cons b a e=>
  cases a with
  |nil=>simp[List.intercalate,List.intersperse]
  |cons c d=>
   have:([]:E QO).intercalate (b::c::d)=b++([]:E QO).intercalate (c::d):=by simp[List.intercalate,List.intersperse]
   rw[this,e];rfl
theorem ub (f:E B):Lib.join (f.map (·.data.toList)) (⟨#[]⟩:B).data.toList=f.flatMap bs:=by
 rw[Lib.join,show(⟨#[]⟩:B).data.toList=[] from A,sy,List.flatMap_def];rfl
theorem HZ (f:L)(z:S)(j:E B)(t:bS f z j)(W:(j:D)<=1048576)(X:(j.flatMap bs:D)<1099511627776):
 Y N 177 #[z,O ⟨#[]⟩] f λd a=>d=ι (O (tx (j.flatMap bs)))/\T f f a:=by
 rcases t with⟨J,o,rfl,rfl⟩|⟨K,V,o,rfl,M,P,U⟩
 .apply(Tryz.strings_Join_none J o ⟨#[]⟩ f).m;rintro d a ⟨rfl,rfl⟩;exact⟨A,Ge _ _⟩
 have u:=ub j;apply(Tryz.strings_Join K V o j ⟨#[]⟩ f M P H U (by rw[u];omega)).m;rintro d a ⟨rfl,t⟩;exact⟨u▸rfl,t⟩
theorem fx (b:L)(K:S)(f:E B)(V:bS b K f)(k:(f:D)<=1048576)(o:(f.flatMap bs:D)<1099511627776):
 Y N 103 #[K] b λc p=>c=ι (O (tx (Rl.eK (f.flatMap bs))))/\T b b p:=by
 have z:=HZ b K f V k o;let⟨a,i⟩:∃a,a=f.flatMap bs:=⟨_,A⟩;rw[<-i] at z o ⊢;have J:=dP a;have w:=dP (Rl.mA 192 (a:D));have X:=dJ 192 (a:D) o;have j:=λb=>tj 192 (a:D) b H o;let⟨e,h⟩:∃e,e=Rl.mA 192 (a:D):=⟨_,A⟩;rw[<-h] at w X j;rw[show((192:D):C)=192 from A] at j;have U:=F z;have P:=F (W j h);have l:((tx a).size:C)<=1099511627776:=oA J;have s:((tx e).size:C)<=6:=H;have G:=F J;clear z j h i V w X J;let⟨d,g⟩:∃d,d=tx a:=⟨_,A⟩;have t:(d.size:C)=((a:D):C):=by rw[g,dP]
 rw[<-g] at U l;have y:=F g;clear g;have r:=F t;have x:Φ (∀b:L,Y N 86 #[Z Ix 192,Z u (d.size:C)] b λc p=>c=ι (O (tx e))/\T b b p):=F (t▸P.1);clear t;go_enter func103,ntmps103;go_wp2_with (first|((with_reducible apply U.o.m);rintro c n ⟨rfl,b1⟩;have M:=F b1)|((with_reducible apply(x.o _).m);rintro c q ⟨rfl,m⟩));go_ret;refine⟨?_,M.o.t (m.m M.o.z)⟩;have c:tx e++d=tx (Rl.eK a):=by rw[y.o,nB,P.2];rfl
 rw[<-c];rfl
section
structure hD (t e size:D):Prop where
 ut:N.underlying t=M (.slice e)
 inf:∃i z,N.info? e=M i/\i.zero=M z/\i.size=size/\i.bytes<=1000/\z.cells.size=size
 Rk:0<size
def hD.of {t e size bytes:D}{z:S}(o:N.underlying t=M (.slice e))(j:(N.info? e).map (λa=>(a.zero,a.size,a.bytes))=M (M z,size,bytes))(A:bytes<=1000)(u:z.cells.size=size)(f:0<size):hD t e size:=let⟨a,c,d,b,g⟩:=Xv j;⟨o,⟨a,z,c,d,b,H,u⟩,f⟩
def hO:hD 33 9 1:=.of (z:=I) (bytes:=16) Jv Qz r A r
def uc:hD 454 504 2:=.of (z:=Γ #[I,I]) (bytes:=32) underlying454 Qz r A r
def ue:hD 63 73 2:=.of (z:=Γ #[I,I]) (bytes:=32) underlying63 Qz r A r
variable {t e size base n:Nat}{v:π}{xs:List π}{W w:ν}
def bG {j:D}(o:w.ownsRow base e size v n xs)(f:v.ownBlock=j):base<=j/\j<(w:D):=by
 rcases o.2 with⟨rfl,_⟩|⟨K,A,J,rfl,u,z,_⟩
 .cases f
 simp only[Ψ,Gd] at f;subst f;exact⟨u,aw z⟩
def sM (j:hD t e size)(J:W.ownsRow base e size v n xs)(f:Q S)(z:f.size=size)(u:∀a∈f.toList,a.oneCell'=U)(V:n+1<=1000000)(O:base<=(W:D))(o:Λ):
 ∃d c,(Builtin.append_ #[t,t] o #[v,ο W 1 1]).run N (W.alloc (K f e))=Je d c/\c.ownsRow base e size d (n+1) (xs++f.toList)/\aL (λm=>v.ownBlock=M m) W c:=by
 let⟨i,k,s,F,g,r,h⟩:=j.inf;let⟨d,c,l,q,b,_⟩:=run_append_own (P:=N) (W.alloc (K f e)) base t o e i k size i.bytes j.ut s F g A h j.Rk v n xs (J.alloc _) W 1 1 f.toList (sU z) (λG a y=>by
  rw[Jg,GU,QH (Gc W _)];simpa using y) u (by unfold Ie;omega) (oA (No (H:n+1<=1000000) r)) QB
 refine⟨d,c,l,q,⟨b.os,b.tape,b.output,?_,λp x g=>?_⟩⟩
 .have:=b.size;simp at this;omega
 exact(b.block p QB (λe=>g e.s)).t (QP x)
def ym {z:Q Le}{A:E Le}{j:Le}{o:Act}{u:Exit->Act->L->Prop}(g:hD t e size)(X:j.guard=J)(O V:Kg)(b:j.op=.call {callee:=.builtin .append,args:=#[O,V],argTypes:=#[t,t]})
 (r:o.eval O=v) (F:W.ownsRow base e size v n xs) (m:o.eval V=P W 1 1) (f:Q S) (y:f.size=size) (l:∀d∈f.toList,d.oneCell'=U) (Z:n+1<=1000000) (i:base<=(W:D))
 (p:∀a c,c.ownsRow base e size a (n+1) (xs++f.toList)->aL (λq=>v.ownBlock=M q) W c->Ji N z u A (o.put j.dst a) c):Ji N z u (j::A) o (W.alloc (K f e)):=by
 refine Xt X λH x=>?_;let⟨a,c,G,s,h⟩:=sM g F f y l Z i j.type;simp[Ld,Xb,b,resolve,invoke,builtin,r,m,G,Ω];exact x _ _ (p a c s h)
def CR {u:Fence}{X:D}{O:Q Le}{V:E Le}{j:Le}{o:Act}{A:Exit->Act->L->Prop}(x:hD t e size)(k:j.guard=J)(Z b:Kg)(z:j.op=.call {callee:=.builtin .append,args:=#[Z,b],argTypes:=#[t,t]})
 (s:o.eval Z=v) (q:W.ownsRow base e size v n xs) (l:o.eval b=P W 1 1) (f:Q S) (F:f.size=size) (d:∀H∈f.toList,H.oneCell'=U) (p:n+1<=1000000) (G:base<=(W:D))
 (m:∀a c,c.ownsRow base e size a (n+1) (xs++f.toList)->aL (λy=>v.ownBlock=M y) W c->Xn u X N O A V (o.put j.dst a) c):Xn u X N O A (j::V) o (W.alloc (K f e)):=by
 refine wpListIn_plain k λR i=>?_;let⟨a,c,r,g,h⟩:=sM x q f F d p G j.type;unfold Oper.wpIn;refine⟨by simp[Oper.about,z,resolve,Target.leads,Kb],?_⟩;rw[Oper.semAt_plain u _ _ (by rw[z];intro T I;cases I)];simp[Xb,z,resolve,invoke,builtin,s,l,r,Ω];exact i _ _ (m a c g h)
def nL {z:Q Le}{f:Le}{j:Act}{u:Act->L->Prop}{q:Exit->Act->L->Prop}{p:Prop}(r:hD t e size)(X:f.guard=J)(A O:Kg)(b:f.op=.call {callee:=.builtin .append,args:=#[A,O],argTypes:=#[t,t]})
 (h:j.eval A=v) (F:W.ownsRow base e size v n xs) (c:j.eval O=P W 1 1) (o:Q S) (i:o.size=size) (x:∀G∈o.toList,G.oneCell'=U) (Z:n+1<=1000000) (V:base<=(W:D))
 (l:∀g d,d.ownsRow base e size g (n+1) (xs++o.toList)->aL (λs=>v.ownBlock=M s) W d->u (j.put f.dst g) d):if Jb f (Xg z j.tmps)=U then Ld N f j (W.alloc (K o e)).drew u q else p:=by
 have m:Jb f (Xg z j.tmps)=U:=by simp[Jb,X]
 rw[QU m];let⟨g,d,H,y,a⟩:=sM (W:=W.drew) r F o i x Z V f.type;have I:(Builtin.append_ #[t,t] f.type #[v,P W 1 1]).run N (W.alloc (K o e)).drew=Je g d:=H;simp[Ld,Xb,b,resolve,invoke,builtin,h,c,I,Ω];exact l g d y ⟨a.os,a.cb,a.aW,a.aH,a.aG⟩
def gX {z:Q Le}{f:Le}{j:Act}{u:Act->L->Prop}{q:Exit->Act->L->Prop}{p:Prop}(r:hD t e size)(X:f.guard=J)(A O:Kg)(b:f.op=.call {callee:=.builtin .append,args:=#[A,O],argTypes:=#[t,t]})
 (h:j.eval A=v) (F:W.ownsRow base e size v n xs) (c:j.eval O=P W 1 1) (o:Q S) (i:o.size=size) (x:∀G∈o.toList,G.oneCell'=U) (Z:n+1<=1000000) (V:base<=(W:D))
 (l:∀g d,d.ownsRow base e size g (n+1) (xs++o.toList)->aL (λs=>v.ownBlock=M s) W d->u (j.put f.dst g) d):if Jb f (Xg z j.tmps)=U then Ld N f j (W.alloc (K o e)) u q else p:=by
 have m:Jb f (Xg z j.tmps)=U:=by simp[Jb,X]
 rw[QU m];let⟨g,d,H,y,a⟩:=sM r F o i x Z V f.type;have I:(Builtin.append_ #[t,t] f.type #[v,P W 1 1]).run N (W.alloc (K o e))=Je g d:=H;simp[Ld,Xb,b,resolve,invoke,builtin,h,c,I,Ω];exact l g d y ⟨a.os,a.cb,a.aW,a.aH,a.aG⟩
def YA {O:Q Le}{U:E Le}{o:Le}{j:Act}{K:Exit->Act->L->Prop}(M:hD t e size)(r:o.guard=J)(A z:Kg)(x:o.op=.makeSlice t A z)(n:D)
 (b:j.eval A=G 0) (q:j.eval z=G (n:C)) (g:n<=1000000)
 (V:∀f,f.ownsRow w e size (P w 0 n) 0 []->T w w f->Ji N O K U (j.put o.dst (P w 0 n)) f):Ji N O K (o::U) j w:=by
 let⟨k,a,s,c,y,p,h⟩:=M.inf;have F:k.bytes*n<=1000*n:=JY n p;apply wpList_make_own _ r A z t x w e k a size M.ut s c y u u _ n b q H H (by unfold Ie;omega) d;intro f X Z;exact V f X ((aL.mz (aL.bQ (λ_=>QZ) w) Z (λi e=>by cases e)).jn)
def aL.cT {B:D}{f j:L}(o:aL (λg=>v.ownBlock=M g) w j)(A:w.ownsRow B e size v n xs)(z:T B f w)(u:B<=w.heap.size):T B f j:=
 z.t (o.cE u λa h=>(bG A h).1)
theorem hP {h:Type}{enc:h->E S}{s:D}(f:∀b,(enc b:D)=s):∀(xs:E h) (c:D) (b:h) (a:D),xs[c]?=M b->a<s->(xs.flatMap enc)[c*s+a]?=(enc b)[a]?
 |[],c,b,a,d,_=>by simp at d
 |i::xs,0,b,a,d,g=>by
  obtain rfl:i=b:=sU d;rw[GV,Lf,GU,Ir (by rw[f];exact g)]
 |i::xs,c+1,b,a,d,g=>by
  rw[GV,Jj (by rw[f,PW];omega),f,show(c+1)*s+a-s=c*s+a by rw[PW];omega];exact hP f xs c b a (sU d) g
def fy {K:Type}{enc:K->E S}{xs:E K}(q:∀d,(enc d:D)=size)(U:w.ownsRow base e size v (xs:D) (xs.flatMap enc)):
 (v=P J 0 0/\xs=[])\/∃f z,v=P (f,0) (xs:D) z/\(xs:D)<=z/\base<=f/\f<(w:D)/\∀c d b,xs[c]?=M d->b<size->w (f,c*size+b)=(enc d)[b]?:=by
 rcases U.2 with⟨rfl,Z⟩|⟨f,O,s,rfl,V,u,X,_,h,r⟩
 .exact o ⟨A,GH Z⟩
 refine j ⟨f,O,A,X,V,aw u,λc d b g a=>?_⟩;rw[QH u,<-hP q xs c d b g a,<-r,Jt];have x:=(Gg.1 g).1;have:c*size+b<xs*size:=by
  have:=JY size (H:c+1<=xs);rw[PW] at this;omega
 rw[QU this,IQ]
def bS.bZ {xs:E B}(a:bS w v xs):∃j f,v=P j xs.length f/\∀(c:D) d,xs[c]?=M d->∃o u,j=M ⟨o,u,J⟩/\c<f/\w ⟨o,u+c,J⟩=O d:=by
 rcases a with⟨j,f,rfl,rfl⟩|⟨o,u,f,rfl,z,K,U⟩
 .exact⟨j,f,A,λc d a=>by simp at a⟩
 exact⟨_,f,A,λc d a=>⟨o,u,A,by have:=(Gg.1 a).1;omega,z c d a⟩⟩
def bS.hQ {z:L}{xs:E B}(f:bS w v xs)(u:T w w z):bS z v xs:=by
 rcases f with f|⟨M,U,A,J,K,O,P⟩
 .exact o f
 exact j ⟨M,U,A,J,λl e k=>u.ce (K l e k),GP O u.z,P⟩
end
section
variable {t e size base z n m:Nat}{v u:π}{xs ys:List π}{W w:ν}
def Sd (o:hD t e size)(K:w.ownsRow base e size v n xs)(Z:w.ownsRow z e size u m ys)(H:∀q∈ys,q.oneCell'=U)(x:n+m<=1000000)(k:base<=w.heap.size)(O:Λ):
 ∃J j,(Builtin.append_ #[t,t] O #[v,u]).run N w=Je J j/\j.ownsRow base e size J (n+m) (xs++ys)/\aL (λa=>v.ownBlock=M a) w j:=by
 obtain⟨P,i,V,b,h,l,c⟩:=o.inf;have X:=Z.1;rcases Z.2 with⟨rfl,rfl⟩|⟨a,g,L,rfl,p,r,R,T,S,y⟩
 .obtain rfl:ys=[]:=GH (by rw[X,Lf]);exact⟨v,w,run_append_owned_none (P:=N) (w:=w) base t O e P size o.ut V v n xs K,by simpa using K,aL.bQ _ _⟩
 obtain⟨J,j,G,I,f,_⟩:=run_append_own (P:=N) w base t O e P i size P.bytes o.ut V b h A c o.Rk v n xs K (a,0) m g ys X (λY q d=>by
  rw[Jg,GU,QH r]
  rw[<-y,Jt] at d
  split at d
  .simpa using d
  cases d) H (by unfold Ie;omega) (by have:=No x l;omega) k
 exact⟨J,j,G,I,f.os,f.tape,f.output,f.size,λF s h=>f.block F s (λe=>h e.s)⟩
def nN {O:Q Le}{f:Le}{j:Act}{K:Act->L->Prop}{p:Exit->Act->L->Prop}{g:Prop}(q:hD t e size)(b:f.guard=J)(P V:Kg)(G:f.op=.call {callee:=.builtin .append,args:=#[P,V],argTypes:=#[t,t]})
 (a:j.eval P=v) (H:w.ownsRow base e size v n xs) (l:j.eval V=u) (y:w.ownsRow z e size u m ys) (s:∀c∈ys,c.oneCell'=U) (F:n+m<=1000000) (Z:base<=w.heap.size)
 (r:∀A o,o.ownsRow base e size A (n+m) (xs++ys)->aL (λx=>v.ownBlock=M x) w o->K (j.put f.dst A) o):if Jb f (Xg O j.tmps)=U then Ld N f j w K p else g:=by
 have k:Jb f (Xg O j.tmps)=U:=by simp[Jb,b]
 rw[QU k];obtain⟨A,o,I,d,X⟩:=Sd q H y s F Z f.type;unfold Ld;simp[Xb,G,resolve,invoke,builtin,a,l,I,Ω];exact r A o d X
end
namespace Fm
def wi (f o j:C):Bool:=LH (o<=f)&&LH (f<=j)
def uf {f j:C}:wi c f j=U↔f<=c/\c<=j:=by simp[wi]
def gg (f o j:C)(u:L):Y N 192 #[G f,G o,G j] u λg a=>g=z (wi f o j)/\u=a:=by
 have t:wi f o j=(LH (o<=f)&&LH (f<=j)):=A;have J:=F t;clear t;by_cases K:o<=f<;>by_cases M:f<=j;all_goals
  go_enter func192,ntmps192;go_wp2;go_ret;refine⟨?_,A⟩;rw[J.o];simp[K,M]
def ug (f:D)(j:L)(J:f<=9223372036854775807):Y N 135 #[f] j λc d=>c=O (tx (Rl.dg f))/\T j j d:=by
 have u:=lD f j H;have o:=F u;have z:If.wrap (f:C)=(f:C):=IntWalk.u64_in _ H;go_enter func135,ntmps135;go_wp2_with fail;apply o.o.m;rintro c d ⟨rfl,t⟩;go_wp2;go_ret;exact⟨A,t⟩
def py (f:Bool)(j:L):Y N 143 #[f] j λd e=>d=O (tx (Rl.dg (if f=U then 1 else 0)))/\T j j e:=by
 cases f
 .have o:=F (ug 0 j H);go_enter func143,ntmps143;go_wp2_with fail;apply o.o.m;rintro d e ⟨rfl,f⟩;go_wp2;go_ret;exact⟨A,f⟩
 have o:=F (ug 1 j H);go_enter func143,ntmps143;go_wp2_with fail;apply o.o.m;rintro d e ⟨rfl,f⟩;go_wp2;go_ret;exact⟨A,f⟩
def kY (f:B)(t:L):Y N 202 #[f] t λe a=>e=z (LH (f.size=0\/f.size=32))/\t=a:=by
 by_cases o:f.size=0
 .have u:((f.size:C)==0)=U:=by simp[o]
  have j:=y (LH (f.size=0\/f.size=32)=U) (by simp[o]);go_enter func202,ntmps202;go_wp2;go_ret;exact⟨j.o▸rfl,A⟩
 have u:((f.size:C)==0)=X:=by rw[Xk];omega
 have j:=y (LH (f.size=0\/f.size=32)=((f.size:C)==32)) (by rw[Bool.eq_iff_iff,decide_eq_true_iff,beq_iff_eq];omega);go_enter func202,ntmps202;go_wp2;go_ret;exact⟨j.o▸rfl,A⟩
def EA (j:C):S:=f #[z (LH (j=0\/j=7)),G (if 1<=j/\j<=4 then 6 else 0),G (if j=4 then 6 else 0),z (LH (j=2\/j=4))]
def pI (j:C)(o:L):Y N 193 #[j] o λd e=>d=EA j/\o=e:=by
 by_cases u:0<=j/\j<=9
 .rcases(by omega:j=0\/j=1\/j=2\/j=3\/j=4\/j=5\/j=6\/j=7\/j=8\/j=9) with rfl|rfl|rfl|rfl|rfl|rfl|rfl|rfl|rfl|rfl
  all_goals
   go_enter func193,ntmps193;go_wp2;apply QM (cG A _ _ _) A;exact⟨A,A⟩
 have t:=y (EA j=f #[z X,G 0,G 0,z X]) (by rw[EA,Xx H,QT H,QT H,Xx H]);have J:(j==0)=X:=by rw[Xk];omega
 have K:(j==1)=X:=by rw[Xk];omega
 have M:(j==2)=X:=by rw[Xk];omega
 have O:(j==3)=X:=by rw[Xk];omega
 have P:(j==4)=X:=by rw[Xk];omega
 have U:(j==7)=X:=by rw[Xk];omega
 go_enter func193,ntmps193;go_wp2;apply QM (cG A _ _ _) A;exact⟨t.o▸rfl,A⟩
structure gR where
 bq:C
 bI:C
 oT:C
 at_:C
 fe:B
 pJ:B
 ho:C
def gR.cs (f:gR):Q S:=#[f.bq,f.bI,f.oT,f.at_,f.fe,f.pJ,f.ho]
structure gh (a:gR):Prop where
 k:0<=a.bq/\a.bq<=9
 q:1<=a.oT/\a.oT<=1048576
 s:0<=a.bI/\a.bI<=1048576
 z:a.bq=0->a.bI=0
 t: -1<=a.at_/\a.at_<=1048576
 y:a.fe.size<=6
 u:a.pJ.size<=6
 l:0<=a.ho/\a.ho<=8
def VL (j:gR)(o:He):Prop:=∃f,o=z f/\(f=U->gh j)
def Ao (f:gR)(o:ν)(a2:f.fe.size<=1099511627776)(i:f.pJ.size<=1099511627776):Y N 134 #[Γ f.cs] o λe n=>VL f e/\ρ o o n:=by
 obtain⟨j,W,t⟩:=aU o (θ f.cs 32);have r:j o=f.bq:=cR t.at_ A;have s:j (o,1)=f.bI:=cR t.at_ A;have T:j (o,2)=f.oT:=cR t.at_ A;have a0:j (o,3)=f.at_:=cR t.at_ A;have y:j (o,4)=f.fe:=cR t.at_ A;have R:j (o,5)=f.pJ:=cR t.at_ A;have a1:j (o,6)=f.ho:=cR t.at_ A;have w:=F W;have V:=F t.aE;have x:=F (λv c b=>gg v c b j);clear W t;have O:∀k,∃P u J X,Y N 193 #[G k] j (λe n=>e=χ #[z P,G u,G J,z X]/\j=n)/\0<=u/\u<=6/\0<=J/\J<=6:=λk=>⟨_,_,_,_,pI k j,by split<;>omega,by split<;>omega,by split<;>omega,by split<;>omega⟩;obtain⟨P,u,J,X,K,a3,d,l,m⟩:=O f.bq;obtain⟨S,p,L,q,M,g,h,H,I⟩:=O 0;have K:=F K;have M:=F M;clear O;go_enter func134,ntmps134;go_wp2_with (first|(rw[w.o])|((with_reducible refine(x.o _ _ _).m ?_);rintro e Z ⟨rfl,rfl⟩)|((with_reducible refine K.o.m ?_);rintro e Z ⟨rfl,rfl⟩)|((with_reducible refine M.o.m ?_);rintro e Z ⟨rfl,rfl⟩));all_goals
  refine QM (Xy A _ _ _) A ?_;first
  |exact⟨⟨_,A,λa=>by cases a⟩,V.o⟩
  |exact⟨⟨_,A,λa=>by
   first|have a:wi f.ho 1 8=U:=a|have a:(f.ho==0)=U:=a
   simp only[Pa,Bool.not_true,Qh,uf,beq_iff_eq,bne_eq_false_iff_eq] at *
   exact⟨by omega,by omega,by omega,by omega,by omega,by omega,by omega,by omega⟩⟩,V.o⟩
end Fm
theorem aP {z:D}{W:Q Le}{X:E Le}{j:Le}{f:Act}{V:Exit->Act->L->Prop}(k:hD w q a)(F:g.ownsRow i q a m z b)(y:i<=g.heap.size)(l:∀O u,u.ownsRow i q a O (z+1) (b++h.toList)->aL (λv=>m.ownBlock=M v) g u->Ji N W V X (f.put j.dst O) u)(n:j.guard=J:=by exact rfl){o t:Kg}(c:j.op=.call {callee:=.builtin .append,args:=#[o,t],argTypes:=#[w,w]}:=by exact rfl)(e:f.eval o=m:=by exact rfl)(s:f.eval t=P g 1 1:=by exact rfl)(x:h.size=a:=by exact rfl)(A:∀d∈h.toList,d.oneCell'=U:=by simp[φ])(Z:z+1<=1000000:=by omega):Ji N W V (j::X) f (g.alloc (K h q)):=ym k n o t c e F s h x A Z y l
inductive Pt where
 |nil
 |none
 |leaf (b:D) (path value:B)
 |ext (b:D) (path:B) (next:Pt)
 |branch (b:D) (value:B) (kids:D->Pt)
def di (f:D->D):D:=f 0+f 1+f 2+f 3+f 4+f 5+f 6+f 7+f 8+f 9+f 10+f 11+f 12+f 13+f 14+f 15
def cZ {f:Type}(j:D->f)(o:D)(t:f):D->f:=λb=>if b=o then t else j b
def cy {o:Type}(t:D->o)(f:D)(j:o):cZ t f j f=j:=QU A
def bX {j:Type}(f:D->j)(t:j)(o:q≠w):cZ f w t q=f q:=QT o
def dS {f:D->D}(o:w<16)(j:D):di (cZ f w j)+f w=di f+j:=by
 apply C6 w;refine⟨?_,?_,?_,?_,?_,?_,?_,?_,?_,?_,?_,?_,?_,?_,?_,?_⟩<;>simp[di,cZ]<;>omega
def ht {f:D->D}{i:D}(j:i<16):f i<=di f:=by
 apply C6 i;refine⟨?_,?_,?_,?_,?_,?_,?_,?_,?_,?_,?_,?_,?_,?_,?_,?_⟩<;>simp[di]<;>omega
namespace Pt
def cm:Pt->S
 |nil=>ω
 |none=>Δ 502 (t #[])
 |leaf a _ _=>Δ 491 (V a)
 |ext a _ _=>Δ 494 (V a)
 |branch a _ _=>Δ 497 (V a)
def bc (j:B)(f:D->S):Q S:=#[j,f 0,f 1,f 2,f 3,f 4,f 5,f 6,f 7,f 8,f 9,f 10,f 11,f 12,f 13,f 14,f 15]
def At (f:L):Pt->Prop
 |nil=>True
 |none=>True
 |leaf a d e=>f.heap[a]?=K #[d,e] 493
 |ext a d g=>f.heap[a]?=K #[d,g.cm] 496/\g.At f
 |branch a e b=>f.heap[a]?=K (bc e λc=>(b c).cm) 500/\∀c,c<16->(b c).At f
def fT:Pt->D->Prop
 |nil,_=>QZ
 |none,_=>QZ
 |leaf b _ _,a=>a=b
 |ext b _ e,a=>a=b\/e.fT a
 |branch b _ d,a=>a=b\/∃f,f<16/\(d f).fT a
def fG:Pt->Prop
 |nil=>True
 |none=>True
 |leaf _ _ _=>True
 |ext c _ e=>¬e.fT c/\e.fG
 |branch c _ b=>(∀f,f<16->¬(b f).fT c/\(b f).fG)/\∀j f,j<16->f<16->j≠f->∀o,(b j).fT o->¬(b f).fT o
def dZ:Pt->Prop
 |nil=>True
 |none=>True
 |leaf _ a _=>Nib.bF (bs a)=U
 |ext _ a c=>Nib.bF (bs a)=U/\c≠nil/\c.dZ
 |branch _ _ d=>∀f,f<16->(d f).dZ
def bu:Pt->D
 |nil=>0
 |none=>0
 |leaf _ a _=>a.size+2
 |ext _ a d=>a.size+1+d.bu
 |branch _ _ c=>3+di λb=>(c b).bu
def bw:Pt->D
 |nil=>0
 |none=>0
 |leaf _ _ _=>1
 |ext _ _ c=>1+c.bw
 |branch _ _ b=>1+di λa=>(b a).bw
def at_frame :∀{f:Pt},f.At g->(∀c,f.fT c->s.heap[c]?=g.heap[c]?)->f.At s
 |nil,_,_=>trivial
 |none,_,_=>trivial
 |leaf d k l,a,b=>(b d A).t a
 |ext d k n,a,b=>⟨(b d (o A)).t a.1,at_frame a.2 λc e=>b c (j e)⟩
 |branch d l m,a,b=>⟨(b d (o A)).t a.1,λh i=>at_frame (a.2 h i) λc e=>b c (j ⟨h,i,e⟩)⟩
def hR :∀{f:Pt} {c:D},f.At g->f.fT c->c<(g:D)
 |leaf d i e,c,b,a=>by obtain rfl:c=d:=a;exact aw b
 |ext d i l,c,b,a=>by
  rcases a with rfl|a
  .exact aw b.1
  exact hR b.2 a
 |branch d e k,c,b,a=>by
  rcases a with rfl|⟨o,j,a⟩
  .exact aw b.1
  exact hR (b.2 o j) a
def at_below {f:Pt}(j:f.At g)(o:T g g s):f.At s:=at_frame j λa b=>o.b a (hR j b)
def VM (j:B)(f:D->S):(bc j f).size=17:=rfl
def lL (j:B)(f:D->S)(o:w<16):(bc j f)[1+w]?=f w:=by
 apply C6 w;repeat' constructor
def uh (j:B)(f:D->S)(t:w<16)(o:S):(bc j f).setIfInBounds (1+w) o=bc j (cZ f w o):=by
 apply C6 w;repeat' constructor
end Pt
def qY (f j:B):bs (f++j)=bs f++bs j:=by simp[bs,ByteArray.data_append]
def jt (f j:E QO):Nib.bF (f++j)=(Nib.bF f&&Nib.bF j):=by simp[Nib.bF]
def fq {f:E QO}(o:Nib.bF f=U)(j:D):Nib.bF (f.drop j)=U:=by
 have:=o;rw[<-IZ j f,jt,Jc] at this;exact this.2
def ui {f:E QO}(o:Nib.bF f=U)(j:D):Nib.bF (f.take j)=U:=by
 have:=o;rw[<-IZ j f,jt,Jc] at this;exact this.1
def nO (f:Nib.bF (bs k)=U)(j:w<k.size):k[w].toNat<16:=by
 have:=LN.1 f k[w] (Gl (fh j));have:=XG this;have:=Ki.1 this;have o:(15:QO).toNat=15:=A;omega
def ou (j:B)(f:D):bs (j.extract 0 f)=(bs j).take f:=by unfold bs;simp
namespace Pt
structure gF (T:Pt)(p:B)(w w':L)(T':Pt):Prop where
 eg:T'.At w'
 fG:T'.fG
 dZ:T'.dZ
 cn:∀x,T'.fT x->T.fT x\/w.heap.size<=x
 some:T'≠nil
 bu:T'.bu<=p.size+1+T.bu
 bw:T'.bw<=T.bw+1
 bZ:∀b q v,T=leaf b q v->∃b',T'=leaf b' (p++q) v
def fA:∀{f:Pt},f≠nil->∃j o,f.cm=Δ j o
 |nil,b=>absurd A b
 |none,_=>⟨_,_,A⟩
 |leaf _ _ _,_=>⟨_,_,A⟩
 |ext _ _ _,_=>⟨_,_,A⟩
 |branch _ _ _,_=>⟨_,_,A⟩
def Is:Pt->D|leaf ..=>411|ext ..=>417|branch ..=>412|_=>425
def wW:Pt->D|leaf ..=>408|ext ..=>414|branch ..=>418|_=>422
def IN:Pt->D|leaf ..=>409|ext ..=>415|branch ..=>419|_=>423
def wX:Pt->D|leaf ..=>410|ext ..=>416|branch ..=>420|_=>424
def kF:Pt->S
 |leaf a _ _=>V a
 |ext a _ _=>V a
 |branch a _ _=>V a
 |_=>t #[]
def VN:Pt->D|leaf ..=>491|ext ..=>494|branch ..=>497|_=>502
def yn:∀{f:Pt},f≠nil->f.cm=Δ f.VN f.kF
 |nil,b=>absurd A b
 |none,_=>rfl
 |leaf _ _ _,_=>rfl
 |ext _ _ _,_=>rfl
 |branch _ _ _,_=>rfl
def acx:∀(b:Pt) (a:L),(method 674 b.VN b.kF "guilloche/trie.put").run N a=Je (b.Is,b.kF) a
 |nil,a=>e
 |none,a=>e
 |leaf c d g,a=>e
 |ext c d i,a=>e
 |branch c g h,a=>e
def acy:∀(c:Pt) (a:Q S) (b:L),(Xa c.Is a).run N b=Je (.enter c.Is a) b
 |nil,a,b=>e
 |none,a,b=>e
 |leaf d g h,a,b=>e
 |ext d g k,a,b=>e
 |branch d h i,a,b=>e
def pK {T:Pt}(f:T≠nil):∃(e b:D) (c:S),T.cm=Δ e c/\T.Is=b/\T.kF=c/\(∀a:L,(method 674 e c "guilloche/trie.put").run N a=Je (b,c) a)/\∀(d:Q S) (a:L),(Xa b d).run N a=Je (.enter b d) a:=
 ⟨T.VN,T.Is,T.kF,yn f,A,A,acx T,acy T⟩
def ZC:∀(b:Pt) (a:L),(method 674 b.VN b.kF "guilloche/trie.drop").run N a=Je (b.wW,b.kF) a
 |nil,a=>e
 |none,a=>e
 |leaf c d g,a=>e
 |ext c d i,a=>e
 |branch c g h,a=>e
def ZD:∀(c:Pt) (a:Q S) (b:L),(Xa c.wW a).run N b=Je (.enter c.wW a) b
 |nil,a,b=>e
 |none,a,b=>e
 |leaf d g h,a,b=>e
 |ext d g k,a,b=>e
 |branch d h i,a,b=>e
def qZ {f:Pt}(j:f≠nil):∃(a c:D) (d:S),f.cm=Δ a d/\f.wW=c/\f.kF=d/\(∀b:L,(method 674 a d "guilloche/trie.drop").run N b=Je (c,d) b)/\∀(e:Q S) (b:L),(Xa c e).run N b=Je (.enter c e) b:=
 ⟨f.VN,f.wW,f.kF,yn j,A,A,ZC f,ZD f⟩
def KB:∀(b:Pt) (a:L),(method 674 b.VN b.kF "guilloche/trie.entries").run N a=Je (b.IN,b.kF) a
 |nil,a=>e
 |none,a=>e
 |leaf c d g,a=>e
 |ext c d i,a=>e
 |branch c g h,a=>e
def Ma:∀(c:Pt) (a:Q S) (b:L),(Xa c.IN a).run N b=Je (.enter c.IN a) b
 |nil,a,b=>e
 |none,a,b=>e
 |leaf d g h,a,b=>e
 |ext d g k,a,b=>e
 |branch d h i,a,b=>e
def hS {f:Pt}(j:f≠nil):∃(a c:D) (d:S),f.cm=Δ a d/\f.IN=c/\f.kF=d/\(∀b:L,(method 674 a d "guilloche/trie.entries").run N b=Je (c,d) b)/\∀(e:Q S) (b:L),(Xa c e).run N b=Je (.enter c e) b:=
 ⟨f.VN,f.IN,f.kF,yn j,A,A,KB f,Ma f⟩
def ZE:∀(b:Pt) (a:L),(method 674 b.VN b.kF "guilloche/trie.form").run N a=Je (b.wX,b.kF) a
 |nil,a=>e
 |none,a=>e
 |leaf c d g,a=>e
 |ext c d i,a=>e
 |branch c g h,a=>e
def ZF:∀(c:Pt) (a:Q S) (b:L),(Xa c.wX a).run N b=Je (.enter c.wX a) b
 |nil,a,b=>e
 |none,a,b=>e
 |leaf d g h,a,b=>e
 |ext d g k,a,b=>e
 |branch d h i,a,b=>e
def wY {T:Pt}(f:T≠nil):∃(e b:D) (c:S),T.cm=Δ e c/\T.wX=b/\T.kF=c/\(∀a:L,(method 674 e c "guilloche/trie.form").run N a=Je (b,c) a)/\∀(d:Q S) (a:L),(Xa b d).run N a=Je (.enter b d) a:=
 ⟨T.VN,T.wX,T.kF,yn f,A,A,ZE T,ZF T⟩
end Pt
def at_ptr2 {j:S}(f:g.heap[w]?=K #[m,j] p):g w=m/\g (w,1)=j:=⟨cR f A,cR f A⟩
def dj (j:L)(f:Obj):gJ j (j.alloc f) f:=⟨R,Gc j f,λe a=>QP a,(Ge _ j).a d f⟩
def wZ (j:L)(f:Obj):gJ j (j.drew.alloc f) f:=⟨by show(j.drew.alloc f).heap.size=_;simp,Gc j.drew f,GC j.drew f,((Ge _ j).d).a QD f⟩
def acz (j:S)(o:L):(Kf (Δ 491 j) 299 491 U).run N o=Je (f #[j,z U]) o:=e
def ac0 (o:S)(j:L):(Kf (Δ 494 o) 299 491 U).run N j=Je (f #[V J,z X]) j:=e
def ac1 (o:S)(j:L):(Kf (Δ 497 o) 299 491 U).run N j=Je (f #[V J,z X]) j:=e
def ac2 (o:S)(j:L):(Kf (Δ 502 o) 299 491 U).run N j=Je (f #[V J,z X]) j:=e
def ac3 (j:S)(o:L):(Kf (Δ 494 j) 299 494 U).run N o=Je (f #[j,z U]) o:=e
def ac4 (o:S)(j:L):(Kf (Δ 497 o) 299 494 U).run N j=Je (f #[V J,z X]) j:=e
def ac5 (o:S)(j:L):(Kf (Δ 502 o) 299 494 U).run N j=Je (f #[V J,z X]) j:=e
def ac6 (j:S)(o:L):(Kf (Δ 497 j) 299 497 U).run N o=Je (f #[j,z U]) o:=e
def ac7 (o:S)(j:L):(Kf (Δ 502 o) 299 497 U).run N j=Je (f #[V J,z X]) j:=e
def iN (t:B)(z:Pt)(i:z≠.nil)(f:ν)(W:z.At f)(q:z.fG)(X:z.dZ)(e:Nib.bF (bs t)=U)(a2:t.size<=100000)(x:z.bu<=1000000):
 Y N 413 #[t,z.cm] f λL p=>(∃u,L=ι u.cm/\z.gF t f p u)/\T f f p:=by
 by_cases v:t.size=0
 .have a0:=cj v;have P:=QC ((∃u,ι z.cm=ι u.cm/\z.gF t f f u)/\T f f f) ⟨⟨z,A,W,q,X,λn c=>Ξ c,i,H,H,λh d m c=>⟨h,by
   subst c;congr 1
   apply Ju
   have g:=qY t d
   rw[GH (show(bs t).length=0 by rw[aX,v]),Ho] at g
   exact g.s⟩⟩,QG⟩
  generalize z.cm=a6 at P;go_enter PM,Pr;go_wp2;go_ret;exact P.o
 have a0:=cp (H:0<t.size);cases z with
 |nil=>exact absurd A i
 |none=>
  have P:=QC ((∃u,ι (Δ 502 (Γ #[]))=ι u.cm/\Pt.none.gF t f f u)/\T f f f) ⟨⟨.none,A,tV,tV,tV,λn c=>Ξ c,R,QK,QK,nF⟩,QG⟩;have s:=ac2;have y:=ac5;have I:=ac7;show Y N 413 #[O t,Δ 502 (Γ #[])] f _;go_enter PM,Pr;go_wp2;go_ret;exact P.o
 |leaf h d m=>
  let⟨a1,k⟩:=at_ptr2 W;have S:d.size<=1000000:=by simp[Pt.bu] at x;omega
  have r:(t++d).size=t.size+d.size:=R;have P:∀a,gJ f a (K #[O (t++d),O m] 493)->(∃u,ι (Δ 491 (V f))=ι u.cm/\(Pt.leaf h d m).gF t f a u)/\T f f a:=λa b=>⟨⟨.leaf f (t++d) m,A,b.at_,tV,by
   show Nib.bF (bs (t++d))=U
   rwa[qY,jt,e],λn c=>j (by show f<=n;have:n=f:=c;omega),R,by show(t++d).size+2<=t.size+1+(d.size+2);rw[r];omega,(H:1<=1+1),λa7 a3 a8 c=>by cases c;exact⟨_,A⟩⟩,b.aE⟩
  have Z:=F P;have s:=acz;show Y N 413 #[O t,Δ 491 (V (M ⟨h,0,J⟩))] f _;go_enter PM,Pr;go_upto_region 6 with fail;go_region;go_wp2;go_ret;exact Z.o _ (wZ f _)
 |ext h d l=>
  let⟨a1,k⟩:=at_ptr2 W.1;have S:d.size<=1000000:=by simp[Pt.bu] at x;omega
  have r:(t++d).size=t.size+d.size:=R;have P:∀a,gJ f a (K #[O (t++d),l.cm] 496)->(∃u,ι (Δ 494 (V f))=ι u.cm/\(Pt.ext h d l).gF t f a u)/\T f f a:=λa b=>⟨⟨.ext f (t++d) l,A,⟨b.at_,Pt.at_below W.2 b.aE⟩,⟨λc=>oA (Pt.hR W.2 c),q.2⟩,⟨by
   show Nib.bF (bs (t++d))=U
   rw[qY,jt,e];exact X.1,X.2⟩,λn c=>c.elim (λc=>j H) (λc=>Ξ (j c)),R,by show(t++d).size+1+l.bu<=t.size+1+(d.size+1+l.bu);rw[r];omega,(H:1+l.bw<=1+l.bw+1),nF⟩,b.aE⟩
  let⟨a5,a4,G⟩:=Pt.fA X.2.1;rw[G] at P k;have Z:=F P;have s:=ac0;have y:=ac3;show Y N 413 #[O t,Δ 494 (V (M ⟨h,0,J⟩))] f _;go_enter PM,Pr;go_upto_region 9 with fail;go_region;go_wp2;go_ret;exact Z.o _ (wZ f _)
 |branch h m w=>
  have P:∀a,gJ f a (K #[O t,Δ 497 (V (M ⟨h,0,J⟩))] 496)->(∃u,ι (Δ 494 (V f))=ι u.cm/\(Pt.branch h m w).gF t f a u)/\T f f a:=λa b=>⟨⟨.ext f t (.branch h m w),A,⟨b.at_,Pt.at_below W b.aE⟩,⟨λc=>oA (Pt.hR W c),q⟩,⟨e,R,X⟩,λn c=>c.elim (λc=>j H) (λc=>Ξ c),R,QD,(H:1+_<=_+1),nF⟩,b.aE⟩;have Z:=F P;have s:=ac1;have y:=ac4;have I:=ac6;show Y N 413 #[O t,Δ 497 (V (M ⟨h,0,J⟩))] f _;go_enter PM,Pr;go_wp2;go_ret;exact Z.o _ (dj f _)
end Go.Proofs.YtajnhfklchlahaaGreatDoor
