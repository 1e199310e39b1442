import Derived.Test.YtajnhfklchlahaaGreatDoorMAA
import Derived.Test.YtajnhfklchlahaaGreatDoorMAB
import Derived.Sort.Walk0
import Derived.Test.YtajnhfklchlahaaGreatDoorRows
import Derived.SevenTiedAt
set_option linter.all false
set_option maxHeartbeats 3200000
set_option maxRecDepth 100000
namespace Go.Proofs.YtajnhfklchlahaaGreatDoor
open Go.Proofs.Tryz Go.RowKit Go.Shelf Go
open Go.Maps (Keyed)
open Bool renaming false->X,true->U
open Decidable renaming decide->LH
open Go renaming Calls->τ,Value->π,World->ν,Calls->Y,Value->S,World->L,Ending->He,Lit->IA,maxLen->Ie,keyOf->Xi
open Go.Ending renaming returned->ι
open Go.Proofs.Tryz renaming prog->γ,prog->N
open Go.RowKit renaming Below->T,Hid->Φ,intOf->QI
open Go.Value renaming bool->z,slice->P,string->O,int->Z,agg->t
open Option renaming none->J,some->M
open Or renaming inl->o,inr->j
open _root_ renaming rfl->A,ByteArray->B,Int->C,Nat->D,List->E,decide_eq_true->Xr,UInt8->QO,congrArg->Xl
open YtajnhfklchlahaaGreatDoor renaming om->H,QD->d,Qz->e,Ga->F,ϑ->G,eS->I,sm->R,dc->r,QC->y
open Go.IntKind renaming i64->η,i64->u
open Go.Obj renaming cells->θ,cells->K
variable {w q a i:Nat}{g s l:ν}{k:ByteArray}{n:List (IA×π)}{m:π}
def gm (f:B):Bool:=LH (0<f.size)&&LH (f.size<=6)
def mB (f:B):Bool:=LH (0<f.size)&&LH (f.size<=80)
def eJ (f:B)(t:L):Y N 167 #[f] t λe g=>e=z (gm f)/\g=t:=by
 by_cases o:f.size=0
 .have u:=cj o;have j:gm f=X:=by simp[gm,o]
  rw[j];go_enter func167,ntmps167;go_wp2;go_ret;exact⟨A,A⟩
 have u:=cp (H:0<f.size);have j:gm f=LH ((f.size:C)<=6):=by rw[gm,Xr (H:0<f.size),Bool.true_and];simp[decide_eq_decide];omega
 rw[j];go_enter func167,ntmps167;go_wp2;go_ret;exact⟨A,A⟩
def eb (f:B)(t:L):Y N 168 #[f] t λe g=>e=z (mB f)/\g=t:=by
 by_cases o:f.size=0
 .have u:=cj o;have j:mB f=X:=by simp[mB,o]
  rw[j];go_enter func168,ntmps168;go_wp2;go_ret;exact⟨A,A⟩
 have u:=cp (H:0<f.size);have j:mB f=LH ((f.size:C)<=80):=by rw[mB,Xr (H:0<f.size),Bool.true_and];simp[decide_eq_decide];omega
 rw[j];go_enter func168,ntmps168;go_wp2;go_ret;exact⟨A,A⟩
def cq (K:L)(A:S)(j:E (B×B)):Prop:=
 (∃U f,A=P U 0 f/\j=[])\/∃t z f,A=P (M ⟨t,z,J⟩) j.length f/\j.length<=f/\
  ∀u o,j[u]?=M o->K ⟨t,z+u*2,J⟩=O o.1/\K ⟨t,z+u*2+1,J⟩=O o.2
def cq.aE {t:E (B×B)}(f:cq g m t)(z:T g g s):cq s m t:=by
 rcases f with f|⟨J,M,c,A,K,u⟩
 .exact o f
 exact j ⟨J,M,c,A,K,λi d h=>⟨z.ce (u i d h).1,z.ce (u i d h).2⟩⟩
abbrev dh:=B×B
def tw (f j:B):Bool:=Op.bytesLess f.toList j.toList
def xW (o:E dh)(j:D):Prop:=
 ∀f,o[j]?=M f->gm f.1=U/\mB f.2=U/\∀t,0<j->o[j-1]?=M t->tw t.1 f.1=U
structure bD (es:E dh):Prop where
 ok:∀i,xW es i
 aH:es.length<=40
def kM (o:E dh)(j:He):Prop:=∃f:C,j=G f/\(f=0↔bD o)/\0<=f/\f<=12
def kM.bad {f:E dh}{j:dh}(o:f[w]?=j)(c:¬xW f w):kM f (ι (G 1)):=⟨1,A,⟨λc=>H,λe=>absurd (e.ok w) c⟩,H,H⟩
def xW.fb {o:E dh}(d:∀f,f<w->xW o f){j:dh}(K:o[w]?=j)(A:gm j.1=U)(J:mB j.2=U)(O:∀z,0<w->o[w-1]?=M z->tw z.1 j.1=U):∀f,f<w+1->xW o f:=by
 intro f V;rcases KG f w with t|t
 .exact d f t
 obtain rfl:f=w:=H;intro P u;rw[K] at u;obtain rfl:=Gm u;exact⟨A,J,O⟩
def kN (Z:π)(f:E dh)(u:ν)(h:cq u Z f)(S:(f:D)<=1000000):τ γ 165 #[Z] u λc q=>kM f c/\T u u q:=by
 rcases h with⟨a5,p,rfl,rfl⟩|⟨a6,a7,p,rfl,L,d⟩
 .go_enter func165,ntmps165;go_wp2;go_loopw [7] (λb wr=>b=G 0/\wr=u) (λb _=>0)
  .exact⟨A,A⟩
  obtain⟨rfl,rfl⟩:=hrel;go_wp2;go_ret;exact⟨⟨0,A,⟨λ_=>⟨λb c a=>by simp at a,sm⟩,λ_=>rfl⟩,H,H⟩,QG⟩
 go_enter func165,ntmps165;go_wp2;go_loopw [7] (λb wr=>∃o:D,o<=(f:D)/\b=G o/\T u u wr/\Φ (∀b,b<o->xW f b)) (λb _=>(f:D)-(QI b).toNat)
 .exact⟨0,QK,A,QG,F (λb a=>H)⟩
 obtain⟨o,N,rfl,J,V⟩:=hrel;by_cases g:o<(f:D)
 .let⟨c,m⟩:∃c,f[o]?=M c:=⟨_,Gf g⟩;let⟨x,y⟩:=d o _ m;have i:=J.ce x;have k:=J.ce y;have t:=F m;let⟨I,Y,n⟩:=aU wr (θ #[O c.1,O c.2] 73);have a4:=cJ 0 n.at_;have c1:=cJ 1 n.at_;have z:=F (J.t (n.aE.m J.z));have s:=F n.aH;cases W:gm c.1 with
  |false=>
   have K:=F (kM.bad t.o (λa=>by have:=(a c t.o).1;rw[W] at this;cases this));go_wp2;go_quiet (first|(go_at_call 167;exact Calls.quiet_of_same (eJ _ _))|(go_at_call 168;exact Calls.quiet_of_same (eb _ _)));go_wp2;go_ret;exact⟨K.o,z.o.sI _⟩
  |true=>
  cases X:mB c.2 with
  |false=>
   have K:=F (kM.bad t.o (λa=>by have:=(a c t.o).2.1;rw[X] at this;cases this));go_wp2;go_quiet (first|(go_at_call 167;exact Calls.quiet_of_same (eJ _ _))|(go_at_call 168;exact Calls.quiet_of_same (eb _ _)));go_wp2;go_ret;exact⟨K.o,z.o.sI _⟩
  |true=>
  rcases Py o with rfl|R
  .rw[show((0:D):C)=0 from A];simp only[Lf,JC] at i k;go_wp2;go_quiet (first|(go_at_call 167;exact Calls.quiet_of_same (eJ _ _))|(go_at_call 168;exact Calls.quiet_of_same (eb _ _)));go_wp2;go_roundw
   .exact⟨1,H,gN,z.o.sI _,F (xW.fb V.o t.o W X (λl a=>H))⟩
   simp[QI];omega
  obtain⟨j,rfl⟩:∃j,o=j+1:=⟨o-1,H⟩;let⟨l,v⟩:∃l,f[j]?=M l:=⟨_,Gf H⟩;have a2:=z.o.ce (d j _ v).1;have w:=F v;have a0:(0:C)<((j+1:D):C):=H;have a1:η.wrap (((j+1:D):C)-1)=(j:C):=by rw[show((j+1:D):C)-1=(j:C) from H];exact QQ H
  cases P:tw l.1 c.1 with
  |false=>
   have K:=F (kM.bad t.o (λa=>by have:=(a c t.o).2.2 l H w.o;rw[P] at this;cases this));unfold tw at P;go_wp2;go_quiet (first|(go_at_call 167;exact Calls.quiet_of_same (eJ _ _))|(go_at_call 168;exact Calls.quiet_of_same (eb _ _)));go_wp2;go_ret;exact⟨K.o,z.o.sI _⟩
  |true=>
   have e:=F (xW.fb V.o t.o W X (λa3 _ a=>by rw[show j+1-1=j from A,w.o] at a;cases Gm a;exact P));unfold tw at P;go_wp2;go_quiet (first|(go_at_call 167;exact Calls.quiet_of_same (eJ _ _))|(go_at_call 168;exact Calls.quiet_of_same (eb _ _)));go_wp2;go_roundw
   .exact⟨j+1+1,H,gN,z.o.sI _,e⟩
   simp[QI];omega
 have r:=QC (∀b,xW f b) λb=>by
  rcases KG b o with a|a
  .exact V.o b a
  intro c m;have:=(Gg.1 m).1;omega
 have U:(f:D)<=40\/40<(f:D):=H;have:o=(f:D):=H;rcases U with U|U
 .go_wp2;go_ret;exact⟨⟨0,A,⟨λ_=>⟨r.o,U⟩,λ_=>rfl⟩,H,H⟩,J⟩
 go_wp2;go_ret;exact⟨⟨12,A,⟨λa=>H,λa=>oA a.aH⟩,H,H⟩,J⟩
def dH:Keyed N 9:=Maps.string_keyed Jh
def kl (f:B):IA:=.string f.data.toList
def hI {f:B}(j:kl k=kl f):k=f:=Ju (by simpa[kl] using j)
def ev (f:dh):S:=t #[f.1,f.2]
def mk (f:dh):IA×S:=(kl f.1,ev f)
def Rh {j o:dh}(f:mk j=mk o):j=o:=by
 simp only[mk,ev,Hf,Kt,IU,GN,IT] at f;exact Prod.ext f.2.1 f.2.2.1
def gD (j:E (IA×S)):Prop:=∀o∈j,∃f,o=mk f/\gm f.1=U/\mB f.2=U
def po {g h:Type}(f:g->h):∀(c:E h) (b:E g),(b.map f).Perm c->∃e:E g,e.Perm b/\e.map f=c
 |[],b,d=>⟨[],by have:=d.length_eq;simp at this;subst this;exact .refl _,A⟩
 |p::c,b,d=>by
  have J:p∈b.map f:=d.mem_iff.2 (Hk ..);obtain⟨j,z,rfl⟩:=GL.1 J;obtain⟨o,t,rfl⟩:=List.append_of_mem z;have u:((o++t).map f).Perm c:=by
   refine(List.perm_cons (f j)).1 (List.Perm.trans ?_ d);simp only[Io,Ij];exact Lg.symm
  let⟨e,l,m⟩:=po f c (o++t) u;exact⟨j::e,(l.cons j).trans Lg.symm,by rw[Ij,m]⟩
def Ri:∀(b:E (IA×S)),(∀d∈b,∃f,d=mk f/\gm f.1=U/\mB f.2=U)->∃j:E dh,b=j.map mk
 |[],_=>⟨[],A⟩
 |d::b,e=>by
  obtain⟨f,rfl,_⟩:=e d (Hk ..);obtain⟨j,rfl⟩:=Ri b λg a=>e g (GK _ a);exact⟨f::j,A⟩
def Ck (o:gD n)(u:n.Pairwise (λi l=>i.1≠l.1)){j:E (E QO)}(z:(j.map Lit.string).Perm (n.map (·.1)))(A:j.Pairwise (·<=·)):
 ∃f:E dh,f.map (λa=>a.1.data.toList)=j/\(f.map mk).Perm n/\(∀a∈f,gm a.1=U/\mB a.2=U)/\j.Pairwise (· < ·):=by
 let⟨e,k,m⟩:=po (λi:IA×S=>i.1) _ _ z.symm;obtain⟨f,rfl⟩:=Ri e λi c=>o i (k.mem_iff.1 c);have t:f.map (λa=>a.1.data.toList)=j:=by
  have b:(f.map λa=>a.1.data.toList).map Lit.string=j.map Lit.string:=by rw[<-m];simp[mk,kl]
  have h:=Xl (List.map λp:IA=>match p with|.string w=>w|_=>[]) b;simpa[Js,Function.comp_def] using h
 refine⟨f,t,k,λa s=>?_,?_⟩
 .let⟨x,b,h,q⟩:=o (mk a) (k.mem_iff.1 (Ky s));cases Rh b;exact⟨h,q⟩
 have b:((f.map mk).map (·.1)).Pairwise (·≠·):=by
  rw[Jy];exact(k.pairwise_iff (fun{d g} (c:d.1≠g.1)=>c.symm)).2 u
 rw[m,Jy] at b;have h:j.Pairwise (λd g=>d<=g/\d≠g):=List.pairwise_and_iff.2 ⟨A,b.imp λc a=>c (by rw[a])⟩;refine h.imp fun{d g} c=>?_;rcases List.le_iff_lt_or_eq.1 c.1 with b|b
 .exact b
 exact absurd b c.2
def dW (f:k.size<=Ie):Xi N 9 (O k)=kl k:=WideMaps.keyOf_string_mk Jh f
structure fj where
 fe:B
 cm:B
 eB:Bool
def eh (K:L)(U:S)(j:E fj):Prop:=
 (∃V f,U=P V 0 f/\j=[])\/∃o u f,U=P (M ⟨o,u,J⟩) j.length f/\j.length<=f/\
  ∀t A,j[t]?=M A->K ⟨o,u+t*3,J⟩=O A.fe/\K ⟨o,u+t*3+1,J⟩=O A.cm/\K ⟨o,u+t*3+2,J⟩=z A.eB
def eh.aE {z:E fj}(f:eh g m z)(u:T g g s):eh s m z:=by
 rcases f with f|⟨J,M,c,A,K,t⟩
 .exact o f
 exact j ⟨J,M,c,A,K,λh a b=>⟨u.ce (t h a b).1,u.ce (t h a b).2.1,u.ce (t h a b).2.2⟩⟩
def fj.wC (f:fj):Bool:=gm f.fe&& (if f.eB then f.cm.size==0 else mB f.cm)
def iJ (j:E (IA×S))(f:dh):E (IA×S):=mk f::be (kl f.1) j
def ji (j:E (IA×S))(f:fj):E (IA×S):=if f.eB then be (kl f.fe) j else iJ j (f.fe,f.cm)
def gD.be (f:gD n)(j:IA):gD (be j n):=λe c=>f e ((GX.1 c).1)
def gD.kO (o:gD n){f:dh}(t:gm f.1=U)(u:mB f.2=U):gD (iJ n f):=by
 intro z j;rcases GF.1 j with rfl|j
 .exact⟨f,A,t,u⟩
 exact o.be _ z j
def gD.turn (j:gD n){o:fj}(f:o.wC=U):gD (ji n o):=by
 unfold ji;unfold fj.wC at f;split
 .exact j.be _
 rename_i d;simp[d] at f;exact j.kO f.1 f.2
def rO (f:E (IA×S))(j:dh):(iJ f j:D)<=(f:D)+1:=by
 unfold iJ;have:=bB (kl j.1) f;simp;omega
def zI (f:E (IA×S))(j:fj):(ji f j:D)<=(f:D)+1:=by
 unfold ji;split
 .have:=bB (kl j.fe) f;omega
 exact rO _ _
def lE:∀(b:E dh) (a:E (IA×S)),(b.foldl iJ a).length<=(a:D)+(b:D)
 |[],a=>R
 |c::b,a=>by have:=lE b (iJ a c);have:=rO a c;simp[NV,Gx];omega
def lF:∀(b:E fj) (a:E (IA×S)),(b.foldl ji a).length<=(a:D)+(b:D)
 |[],a=>R
 |c::b,a=>by have:=lF b (ji a c);have:=zI a c;simp[NV,Gx];omega
def wD:∀(b:E dh) (c:E (IA×S)),gD c->(∀a∈b,gm a.1=U/\mB a.2=U)->gD (b.foldl iJ c)
 |[],_,d,_=>d
 |a::b,c,d,e=>wD b _ (d.kO (e a (Hk ..)).1 (e a (Hk ..)).2) λh g=>e h (GK _ g)
def wE:∀(a:E fj) (b:E (IA×S)),gD b->(∀d∈a,d.wC=U)->gD (a.foldl ji b)
 |[],_,c,_=>c
 |d::a,b,c,e=>wE a _ (c.turn (e d (Hk ..))) λh g=>e h (GK _ g)
def bD.ent {o:E dh}(f:bD o):∀a∈o,gm a.1=U/\mB a.2=U:=λa b=>by
 obtain⟨t,j⟩:=GI.1 b;exact⟨(f.ok t a j).1,(f.ok t a j).2.1⟩
def nE (f:gm k=U):k.size<=6:=by simp[gm] at f;omega
def Zb {j:fj}(f:j.wC=U):j.fe.size<=6:=by simp[fj.wC] at f;exact nE f.1
def Vd {es:E dh}(f:(es.map λa=>a.1.data.toList).Pairwise (· < ·))(j:∀a∈es,gm a.1=U/\mB a.2=U)(o:(es:D)<=40):bD es:=by
 refine⟨λd a b=>?_,o⟩;let⟨g,h⟩:=j a (Gl b);refine⟨g,h,λn m k=>?_⟩;rw[tw,bytesLess_eq,Lib.toList_data,Lib.toList_data];rw[JU] at f;let⟨l,e⟩:=Gg.1 b;let⟨b1,c⟩:=Gg.1 k;have:=f (d-1) d QB QB H;simp only[List.getElem_map,e,c] at this;exact Xr this
namespace TopQuiet
def aa {f j:Bool}(o:f=U)(t:j=U):(f&&j)=U:=by rw[o,t];rfl
def q0:(Rows.topQuietRow.wf (OpenSpec.ofChange Rows.topQuietSpec))=U:=by kernel_rfl
def q1:(laidOutB Tryz.pinned.checked.prog)=U:=by kernel_rfl
def q2:(mapsRowed Tryz.pinned.checked.prog)=U:=by kernel_rfl
def q3:(Tryz.f3.params.all (Tryz.pinned.checked.prog.readableRec ·))=U:=by kernel_rfl
def q4:(namedTie Tryz.pinned.checked.prog Rows.topQuietRow.named Rows.topQuietSpec.vars)=U:=by kernel_rfl
def q5:((Rows.topQuietRow.stops==[]))=U:=by kernel_rfl
def q6:((Tryz.pinned.checked.prog.stops==[]))=U:=by kernel_rfl
def q7:((Rows.topQuietRow.knobs==[]))=U:=by kernel_rfl
def q8:((Tryz.pinned.checked.prog.stopKnobs==[]))=U:=by kernel_rfl
def q9:((Rows.topQuietRow.inPlace==Tryz.pinned.checked.prog.inPlace 3))=U:=by kernel_rfl
def q10:((Rows.topQuietRow.unfollowed==Tryz.pinned.checked.prog.unfollowed 3))=U:=by kernel_rfl
def q11:((Rows.topQuietRow.recurses==Tryz.pinned.checked.prog.recurses 3))=U:=by kernel_rfl
def q12:((Rows.topQuietRow.named==Tryz.pinned.checked.prog.varsNamed 3))=U:=by kernel_rfl
def q13:((Rows.topQuietRow.maps==(Tryz.f3.params.toList++Rows.topQuietSpec.plain.varTypes Tryz.pinned.checked.prog).any (Tryz.pinned.checked.prog.mapsRec ·)))=U:=by kernel_rfl
def q14:((Rows.topQuietRow.ifaces==(Tryz.f3.params.toList++Rows.topQuietSpec.plain.varTypes Tryz.pinned.checked.prog).any (Tryz.pinned.checked.prog.ifacesRec ·)))=U:=by kernel_rfl
def q15:((Rows.topQuietRow.mapsOut==Tryz.pinned.checked.prog.mapsAmong Tryz.f3.resultTypes.toList))=U:=by kernel_rfl
def q16:((Rows.topQuietRow.loops==(Tryz.f3.params.toList++Rows.topQuietSpec.plain.varTypes Tryz.pinned.checked.prog).any (Tryz.pinned.checked.prog.loopsFrom ·)))=U:=by kernel_rfl
def q17:((Rows.topQuietRow.wideKeys==(Tryz.f3.params.toList++Rows.topQuietSpec.plain.varTypes Tryz.pinned.checked.prog++Tryz.f3.resultTypes.toList).any (Tryz.pinned.checked.prog.wideKeysFrom ·)))=U:=by kernel_rfl
def q18:(Rows.topQuietSpec.vars.all (Tryz.pinned.checked.prog.varReadable ·))=U:=by kernel_rfl
def q19:(Tryz.f3.resultTypes.all (λa=>Tryz.pinned.checked.prog.readableRec a&&LH (a<Tryz.pinned.checked.prog.types.size)))=U:=by kernel_rfl
def q20:((Rows.topQuietRow.ifacesOut==Tryz.f3.resultTypes.toList.any (Tryz.pinned.checked.prog.ifacesRec ·)))=U:=by kernel_rfl
def q21:((Rows.topQuietRow.loopsOut==Tryz.f3.resultTypes.toList.any (Tryz.pinned.checked.prog.loopsFrom ·)))=U:=by kernel_rfl
def q22:((Rows.topQuietRow.plainKeys==Tryz.pinned.checked.prog.plainKeys))=U:=by kernel_rfl
def q23:(Rows.topQuietRow.shortTexts.isNone)=U:=by kernel_rfl
def q24:(Tryz.pinned.checked.prog.stopsHeard)=U:=by kernel_rfl
def q25:(Tryz.pinned.checked.prog.mayEnter)=U:=by kernel_rfl
def q26:((Rows.topQuietRow.lifted==Tryz.pinned.checked.prog.liftsFinal))=U:=by kernel_rfl
def q27:((Tryz.pinned.checked.prog.make==Rows.topQuietRow.make))=U:=by kernel_rfl
def q28:((Rows.topQuietRow.kinds==(if Rows.topQuietRow.domain.isEmpty then [] else Tryz.f3.params.toList.map λb=>match Tryz.pinned.checked.prog.underlying b with|some (.int a)=>M a|_=>J)))=U:=by kernel_rfl
def q29:((Rows.topQuietRow.pinned==Rows.topQuietRow.pinnedBy))=U:=by kernel_rfl
def q30:((Rows.topQuietRow.veiled==(Tryz.f3.params.toList++Rows.topQuietSpec.plain.varTypes Tryz.pinned.checked.prog++Tryz.f3.resultTypes.toList).any (Tryz.pinned.checked.prog.veiledRec ·)))=U:=by kernel_rfl
def q31:(Rows.topQuietRow.veiledFits Tryz.pinned.checked.prog Tryz.f3.params.toList (Tryz.f3.params.toList++Rows.topQuietSpec.plain.varTypes Tryz.pinned.checked.prog++Tryz.f3.resultTypes.toList))=U:=by kernel_rfl
def Ze:joinedFacts Tryz.pinned.checked.prog 3 Tryz.f3 Rows.topQuietSpec Rows.topQuietRow=U:=(aa (aa (aa (aa (aa (aa (aa (aa (aa (aa (aa (aa (aa (aa (aa (aa (aa (aa (aa (aa (aa (aa (aa (aa (aa (aa (aa (aa (aa (aa (aa q0 q1) q2) q3) q4) q5) q6) q7) q8) q9) q10) q11) q12) q13) q14) q15) q16) q17) q18) q19) q20) q21) q22) q23) q24) q25) q26) q27) q28) q29) q30) q31)
def c1:Rows.topQuietRow.wfByText (OpenSpec.ofChange Rows.topQuietSpec)=U:=by kernel_rfl
def c2:Tryz.pinned.checked.prog.mainIs=M (U, "b2ea5dded6934601dc57b3dbf39a5000ae908d381c37264d31cd6ac9392df8e9".toList):=by kernel_rfl
def c3:U=Tryz.pinned.checked.prog.looks []:=by kernel_rfl
def c4:X=Rows.topQuietRow.goesBy Tryz.pinned.checked.prog:=by kernel_rfl
def c5:Tryz.pinned.checked.prog.funcNamed Rows.topQuietRow.func=M 3:=by kernel_rfl
def c6:([23,24,3].all λa=>!Tryz.pinned.checked.prog.wantsStandIn a)=U:=by kernel_rfl
end TopQuiet
end Go.Proofs.YtajnhfklchlahaaGreatDoor
