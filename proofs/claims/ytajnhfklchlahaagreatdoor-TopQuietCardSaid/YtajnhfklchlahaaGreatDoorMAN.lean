/- TopQuiet holds of the given program at every input: no condition but the tied tables of the card. -/
import Derived.Test.YtajnhfklchlahaaGreatDoorMAL
import Derived.Test.YtajnhfklchlahaaGreatDoorMAM
import Derived.LaidMore
import Derived.Deep.Fields
import Derived.Test.YtajnhfklchlahaaGreatDoorCards
import Derived.Test.YtajnhfklchlahaaGreatDoorTie
set_option linter.all false
set_option maxRecDepth 100000
set_option maxHeartbeats 3200000
namespace Go.Proofs.YtajnhfklchlahaaGreatDoor
open Go.Proofs.Tryz Go.RowKit Go.Shelf Go.ChangeShapes Go.WideShapes Go.ChangeAt Go.Deep Go
open And renaming intro->κ,intro->W
open Bool renaming false->σ,true->ψ,false->X,true->U
open Go renaming Calls->τ,Ending->He,Value->π,World->ν,Calls->Y,Value->S,World->L,bodyPost_ret->QM,callFunc->Xa,DataW->QX,Lit->IA,wpAnyH_ready->Xu,Addr->JM,TypeId->Λ,maxLen->Ie,MemPlace->Xz,wpList_load_mid->Xj,info_parts->Xv,Oper->Le,Operand->Kg,wpList->Ji,execOp->Xb,run_underlying->Xo,wpList_plain->Xt,cell_of_row->Xe
open Go.Ending renaming returned->ι
open Go.IntKind renaming i64->η,i64->u,u32->Ik
open Go.Obj renaming cells->θ,map->Lz,cells->K
open Go.Proofs.Tryz renaming prog->γ,prog->N
open Go.Result renaming ok->Je,andThen->Ω
open Go.RowKit renaming Below->ρ,Below->T,Hid->Φ,intOf->QI
open Go.Value renaming agg->Γ,bool->υ,func->Hl,oneCell'->φ,slice->ο,string->β,tuple->χ,agg->t,bool->z,int->Z,string->O,tuple->f,slice->P,pointer->ξ,pointer->V,map->KD
open Option renaming none->ζ,some->δ,none->J,some->M
open _root_ renaming rfl->A,ByteArray->B,Int->C,Nat->D,Array->Q,ByteArray->QE,List->E,if_pos->QU,Option->QV,and_true->QW,or_false->Xf,congrArg->Xl,if_neg->QT,of_decide_eq_true->XG
open YtajnhfklchlahaaGreatDoor renaming ϑ->G,om->H,eS->I,sm->R,QD->d,Qz->e,dc->r,QC->y,Ga->F
open Go.Act renaming put->JB
open Or renaming inl->Ξ,inr->Θ,inl->o,inr->j
open Go.DataW renaming trod->KW
open Go.Oper renaming wp->Ld
variable {g s l:ν}{n:List (IA×π)}
namespace Fm
def ob (f:Rd):(eo f).xs=f.xs:=by
 unfold eo;split
 .rfl
 split<;>rfl
def abc (f:Rd):(eD f).xs=f.xs:=by
 unfold eD;split
 .split
  .exact ob f
  exact ob f
 exact ob f
def XW (f:Rd):(eE f).xs=f.xs:=by
 unfold eE;split
 .split
  .exact ob f
  exact ob f
 exact ob f
def Uw {j:Rd->Rd}(f:∀a,(j a).xs=a.xs):∀(c:D) (a:Rd),(yy j c a).xs=a.xs
 |0,_=>rfl
 |c+1,a=>(f _).t (Uw f c a)
def BR {f:Rd}{j:D}(u:∀x∈f.xs,x.size<=j):(ed f).size<=j:=by
 have A:(dq f).size<=j:=by
  unfold dq;split
  .exact QK
  cases o:f.xs[f.nx]? with
  |none=>exact QK
  |some a=>exact u a (Gl o)
 unfold ed;split
 .split
  .rw[ax];omega
  exact QK
 exact QK
def OF (t:QE)(u:C):∀x∈(dI t u).xs,x.size<=t.size:=by
 unfold dI;split
 .rename_i A j;have:=lP j;split
  .rename_i J o;split
   .intro x f;cases f
   intro x f;have:=Rl.gx o x f;omega
  intro x f;cases f
 intro x f;cases f
def BS {t:QE}(j:t.size<=1099511627776):(iU t).fe.size<=1099511627776/\(iU t).pJ.size<=1099511627776:=by
 have f:∀x∈(d5 t).xs,x.size<=1099511627776:=λx a=>by
  rw[d5,Uw abc] at a;have:=OF t 8 x a;omega
 exact⟨BR f,BR (by rwa[XW])⟩
end Fm
namespace Gt
open Fd (bh)
variable {w w' w2 W W':ν}{B g s r b:Nat}{S z S2:Gs}{x x':St}{P E F:List Int}{t:ByteArray}{V:Bool->Prop}
structure Ux (S z:Gs):Prop where
 dC:me S z
 Oq:z.md.aN=S.md.aN
 c0:S.aY<=z.aY
 c1:z.aY<=S.aY+1000
 od:bD S [] [] []->bD z [] [] []
 G:S.G<=z.G/\z.G<=S.G+1
def BT (w:L)(B g:D)(S:Gs)(j:He)(w':L):Prop:=∃z f,j=Γ f/\f.size=12/\cw w' B g z/\Fz B [136,84,373,149,158,178,154,101,192,185,518,9] [S.m,S.q,S.p.r,S.p.m,S.p.k] w w'/\Ux S z
def cW.gen (u:cW W B g S s w'):∃z x',cY w' B g z s x'/\Az B S s W w'/\Ux S z:=by
 obtain⟨z,x',r,o,J,j,c1,K,A,f⟩:=u;exact⟨z,x',r,K,o,J,j,c1,A,f⟩
def xQ.any {f:He}(j:xQ w B g S (λz _ _=>Ux S z) f w'):BT w B g S f w':=by
 obtain⟨z,x',K,rfl,o,-,u,J⟩:=j;exact⟨z,_,A,A,o,u,J⟩
def XX (j:Ac)(w:ν)(a:cw w B g S)(M: -9223372036854775808<=j.bq/\j.bq<=9223372036854775807)(y:aT (xP g) (il j.bq)=J):τ N 7 #[bh g,j.cs] w (BT w B g S):=by
 have X:=bo w (K j.cs 39);generalize ab:w.alloc (K j.cs 39)=o at X;have Z:=bo o (K (x0.cs (ο J 0 0)) 35);generalize i:o.alloc (K (x0.cs (ο J 0 0)) 35)=w2 at Z;have T:=bo w2 (Lz #[] 0);have H0:MI w2 (w2.alloc (Lz #[] 0)) w2 0 []:=⟨bj.pk w2 N 3,d,T.aE,d⟩;have a5:=@run_makeMap N;have rS:∀(c:Fn) (first k:Q π) (w:ν),(Instr.makeFunc c first k).run N w=Je (Hl c first k) w:=λ_ _ _ _=>rfl;have f:=Ga (κ a (κ X (κ Z (κ M y))));have a3:o.alloc (K #[G 0,G 0,υ σ,G 0,G 0,G 0,G 0,I,I,G 0,ο J 0 0,I] 35)=w2:=i;go_enter func7,ntmps7;go_upto_region 2 with(first|(refine gH rfl _ _ _ rfl rfl H0 dc 0 _ rfl rfl H ?_;intro ae H1)|(refine gH rfl _ _ _ rfl rfl H1 dc 1 _ rfl rfl H ?_;intro a0 l)|(refine gH rfl _ _ _ rfl rfl l dc 2 _ rfl rfl H ?_;intro a7 m)|(refine gH rfl _ _ _ rfl rfl m dc 3 _ rfl rfl H ?_;intro a8 p)|(refine gH rfl _ _ _ rfl rfl p dc 4 _ rfl rfl H ?_;intro w8 q)|(refine gH rfl _ _ _ rfl rfl q dc 5 _ rfl rfl H ?_;intro a9 v)|(refine gH rfl _ _ _ rfl rfl v dc 6 _ rfl rfl H ?_;intro a6 L)|(refine gH rfl _ _ _ rfl rfl L dc 7 _ rfl rfl H ?_;intro O u));have a1:bj N O 3 w2 (xP g):=u.cS;have b1:ρ w w w2:=f.2.1.aE.t (f.2.2.1.aE.m f.2.1.aE.z);have Y:=Ga (b1.t (u.gi.m b1.z));have R:O.heap[w.heap.size]?=K j.cs 39 (0,0):=u.gi.ke (f.2.2.1.aE.ke f.2.1.at_);have e:O.heap[o.heap.size]?=K (x0.cs (ο J 0 0)) 35 (0,0):=u.gi.ke f.2.2.1.at_;have a4:=cJ 0 R;have a2:=f.2.2.2.2;have M:=f.2.2.2.1;go_wp2_with (first|(at_lookup;refine fW A _ _ 87 A 3 86 eX underlying87 _ (Uv _) _ _ A a1 _ _ A (kG M) ?_;rw[a2])|(refine EL YQ A _ _ A A A A (by simp[φ]) A e ?_;intro h U));refine QM (EN YQ A A A U.at_) A ?_;have n:ρ w w h:=U.aE _ _ f.2.1.aE.z Y.o;exact⟨S,_,A,A,f.1.aE n,Fz.aE n _ _ _,.bQ S,A,LW _,by omega,λa=>a,d,Ib _⟩
def abd (f:Ac)(K:List fj)(w:ν)(d:cw w B g S)(u:bD S [] [] [])(I: -9223372036854775808<=f.bq/\f.bq<=9223372036854775807)(o: -9223372036854775808<=f.n/\f.n<=9223372036854775807)(a2:oe B w f.v K)(G:K.length<=1000)(J:f.bK.size<=1099511627776/\f.lz.fe.size<=1099511627776/\f.lz.pJ.size<=1099511627776)(M:S.G+1<=51):Y N 7 #[bh g,f.cs] w (BT w B g S):=by
 have j:∀h:D,aT (xP g) (il f.bq)=bm h g->(∀n w,(Xa h n).run N w=Je (.enter h n) w)->(∀W s,kh W B g S s->ρ w w W->Y N h #[bh g,f.cs,bh s] W λc w'=>c=χ #[]/\cW W B g S s w')->Y N 7 #[bh g,f.cs] w (BT w B g S):=λh m p q=>
  (BQ h f (λz _ _=>Ux S z) w d I m p (λ_ _ _ _ d _ _=>d) λW s a b=>(q W s a b).m λc w' ⟨i,k⟩=>⟨i,k.gen⟩).m λc w' d=>d.any
 by_cases l:f.bq=0
 .refine j 25 (by rw[l];rfl) (enters_of func25 e A) λW s a b=>(FF (λb=>b=ψ->Fm.gh f.lz) f W a (λd=>d A) (λw=>(Fm.Ao f.lz w J.2.1 J.2.2).m λc w' d=>d)).m ?_;rintro c w' ⟨rfl,⟨-,d⟩|d⟩
  .exact⟨A,d⟩
  exact⟨A,d.act⟩
 by_cases m:f.bq=1
 .exact j 26 (by rw[m];rfl) (enters_of func26 e A) λW s a b=>Ed f K W a (a2.aE b) G M
 by_cases p:f.bq=2
 .refine j 27 (by rw[p];rfl) (enters_of func27 e A) λW s a b=>FG (λw'=>cW W B g S s w') f W a o (λL a1 a0 y a4 h a6 _ a5 R r T a3=>?_) (λ_ _ d=>d);have v:bD {S with QL:=L} [] [] []:=⟨u.aZ,λh H=>u.ql h (T h H),u.fl,u.dl⟩;exact(XO h y r v R (by show 0+5<=1000;omega) M).m λc w' ⟨i,k⟩=>⟨i,k.act ⟨A,A,A,A,A,A,A,A,A,A⟩ A A A a3 λ_=>v⟩
 by_cases q:f.bq=3
 .refine j 28 (by rw[q];rfl) (enters_of func28 e A) λW s a b=>(vO (λb=>b=ψ->Fm.gh (Fm.iU (Ms.gd (jf f.n) (jy S f.n)))) f W a o M (λ_ d=>d A) (λl w=>(Fm.Ao _ w (Fm.BS (by have:=pj (n:=jf f.n) (jD d l);omega)).1 (Fm.BS (by have:=pj (n:=jf f.n) (jD d l);omega)).2).m λc w' d=>d)).m λc w' ⟨i,k⟩=>⟨i,k.1⟩
 by_cases O:f.bq=4
 .exact j 29 (by rw[O];rfl) (enters_of func29 e A) λW s a b=>Us f W a o
 by_cases U:f.bq=5
 .exact j 30 (by rw[U];rfl) (enters_of func30 e A) λW s a b=>Ef f W a o
 by_cases X:f.bq=6
 .exact j 31 (by rw[X];rfl) (enters_of Pn e A) λW s a b=>(BP f W a o).m λc w' ⟨i,k⟩=>⟨i,k.act⟩
 by_cases Z:f.bq=7
 .exact j 32 (by rw[Z];rfl) (enters_of func32 e A) λW s a b=>Up f W a J.1
 refine XX f w d I ?_;unfold xP;simp only[ck (show il 7≠il f.bq from λc=>Z (jc c).s),ck (show il 6≠il f.bq from λc=>X (jc c).s),ck (show il 5≠il f.bq from λc=>U (jc c).s),ck (show il 4≠il f.bq from λc=>O (jc c).s),ck (show il 3≠il f.bq from λc=>q (jc c).s),ck (show il 2≠il f.bq from λc=>p (jc c).s),ck (show il 1≠il f.bq from λc=>m (jc c).s),ck (show il 0≠il f.bq from λc=>l (jc c).s)];rfl
end Gt
namespace Gt
open Fd (bh)
variable {w w' w2 W W':ν}{B g s r b:Nat}{S S' S2:Gs}{x x':St}{P E F:List Int}{t:ByteArray}{V:Bool->Prop}
def BU (w:ν)(j:cw w B g S):Y N 8 #[bh g] w λe w'=>(∃a,e=ι a/\w'.ownsRow w 3 1 a (S.md.vs:D) (S.md.vs.flatMap b1))/\T w w w':=by
 have u:=j.aV.1;have o:=Ga (sh S.p S.md S.R S.L S.ca S.G w j.cl);go_enter func8,ntmps8;go_wp2_with ((with_reducible go_call o.o as e f ⟨⟨a,rfl,d⟩,b1⟩);have H1:=Ga (κ d b1));go_ret;exact⟨⟨a,A,H1.1⟩,H1.2⟩
def oC (w:L)(j:cw w B g S):Y N 9 #[bh g] w λe w'=>(∃a,e=ι a/\w'.ownsRow w 140 4 a (S.T.ls:D) (S.T.ls.flatMap Ls.s4))/\ρ w w w':=by
 have c1:=j.aV.2.1;have o:=Ga (Ls.Ww S.t S.T w j.mc);go_enter func9,ntmps9;go_wp2_with ((with_reducible go_call o.o as e f ⟨⟨a,rfl,d⟩,b1⟩);have H1:=Ga (κ d b1));go_ret;exact⟨⟨a,A,H1.1⟩,H1.2⟩
def Eg (id:C)(w:L)(f:cw w B g S)(M: -9223372036854775808<=id/\id<=9223372036854775807):Y N 10 #[bh g,id] w λc w'=>(∃o m e,c=ο o m e/\(aT S.QL (il id)=J->m=0))/\T w w w':=by
 have c5:=f.aV.2.2.2.2.2.1;have z:=f.oz;have K:=kG M;let⟨p,e,d,h⟩:=f.qv.jJ id;have j:=h.aT;have u:=Ga (ze p (d:D) e (d.flatMap jX) w (Tz d) (oA h.cB) (λc=>by
  rcases h.jJ with⟨a,-⟩|⟨g,i,q,a,-⟩
  .rw[a];rfl
  .rw[c] at a;cases a) (λa0 k R H n=>by
  rcases h.jJ with⟨a,e3⟩|f
  .rw[e3] at k;cases k
  let⟨g,i,q,a,_,I⟩:=f.aV 0
  simp only[Gy] at a
  rw[k] at a
  cases Gm a.1
  exact I R H n) (TB d))
 have O:=y (aT S.QL (il id)=J->(d:D)=0) λc=>by
  rw[c] at j;simp only[Option.getD_none,Gy] at j;exact j.2.1.s
 go_enter func10,ntmps10;go_wp2_with (first|(at_lookup;apply wL eX JX (rD _) z K;rw[j])|((with_reducible go_call u.o as c G ⟨⟨v,rfl,l⟩,b1⟩);have H1:=Ga (κ l b1)));go_ret;obtain⟨o,e,rfl⟩:=aR H1.1;exact⟨⟨o,_,e,A,O.o⟩,H1.2⟩
def qD (id:C)(w:L)(f:cw w B g S)(o: -9223372036854775808<=id/\id<=9223372036854775807):Y N 11 #[bh g,id] w λe w'=>(∃a:C,e=G a/\(aT S.FL (il id)=J->a=0))/\T w w w':=by
 have u:=f.aV.2.2.1;have j:=Ga (Fd.sg id w f.dy o);go_enter func11,ntmps11;go_wp2_with ((with_reducible go_call j.o as e h ⟨⟨a,rfl,-,d⟩,rfl⟩);have H1:=Ga d);go_ret;exact⟨⟨a,A,H1.o⟩,QG⟩
def qE (id:C)(w:L)(f:cw w B g S)(o: -9223372036854775808<=id/\id<=9223372036854775807):Y N 12 #[bh g,id] w λc w'=>(∃b:Bool,c=z b/\(aT S.FL (il id)=J->b=X))/\T w w w':=by
 have u:=f.aV.2.2.1;have j:=Ga (Fd.ni id w f.dy o);go_enter func12,ntmps12;go_wp2_with ((with_reducible go_call j.o as c h ⟨⟨n,rfl,d⟩,rfl⟩);have H1:=Ga d);go_ret;exact⟨⟨n,A,H1.o⟩,QG⟩
def sp (w:L)(f:cw w B g S):Y N 13 #[bh g] w λd w'=>(∃a:C,d=G a/\(S.T.ls=[]->0<=a/\a<=2))/\ρ w w w':=by
 let⟨y,l,c⟩:=f.bO;obtain⟨K,M,rfl⟩:=aR c;have c1:=f.aV.2.1;have J:=cJ 8 l;have o:ρ w w w.drew:=QG.d;have O:=Ga (Ls.qm S.t S.T w.drew (f.mc.aE o) f.ok.qH);have j:=Ga (κ f.ok.os o);go_enter func13,ntmps13;go_wp2_with fail;go_region_held3 (λw'=>w' (g,1)=bh S.t/\w' (g,8)=ο K (S.os:D) M) (first|(with_reducible exact⟨c1,J⟩)|(with_reducible exact⟨U,X⟩)|go_keep) (first|(go_at_call 38;(with_reducible go_call O.o as d z ⟨⟨a,rfl,q,u,h⟩,b1⟩);have U:=b1.ce c1;have X:=b1.ce J;have Z:η.wrap (a+((S.os:D):C))=a+((S.os:D):C):=QQ (oA j.o.1);have H1:=Ga (κ b1 h)));all_goals
  go_wp2;go_ret;exact⟨⟨_,A,λd=>by rw[H1.2 d];have:=j.1;omega⟩,j.2.t H1.1⟩
end Gt
namespace Gt
variable {w:ν}
def af0 (o:E fj)(j:He):Prop:=∃f:Bool,j=z f/\(f=U->o.length<=45)
def Uy (z:S)(j:E fj)(w:L)(K:eh w z j)(y:(j:D)<=9223372036854775807):Y N 24 #[z] w λd r=>af0 j d/\r=w:=by
 obtain⟨p,b,rfl,J⟩:=K.bZ;have P:=F J;go_enter func24,ntmps24;go_wp2;go_loopw [3] (λiv wr=>∃f:D,f<=(j:D)/\f<=46/\iv=G f/\wr=w) (λiv _=>46-(QI iv).toNat)
 .exact⟨0,H,H,A,A⟩
 obtain⟨f,e,v,rfl,s⟩:=hrel;cases s;by_cases q:f<(j:D)
 .have Z:(f:C)<((j:D):C):=H;by_cases o:f<=45
  .have W:(f:C)<=45:=H;have n:(0:C)<=(f:C):=H;let⟨c,a⟩:∃c,j[f]?=M c:=⟨_,Gf q⟩;obtain⟨g,k,rfl,x,l,c1,-⟩:=P.o f c a;have m:u.wrap ((f:C)+1)=(f:C)+1:=QQ H;by_cases h:20<c.fe.size
   .have U:(20:C)<(c.fe.size:C):=H;go_wp2;go_ret;exact⟨⟨X,A,nF⟩,A⟩
   have U:¬((20:C)<(c.fe.size:C)):=H;by_cases i:100<c.cm.size
   .have V:(100:C)<(c.cm.size:C):=H;go_wp2;go_ret;exact⟨⟨X,A,nF⟩,A⟩
   have V:¬((100:C)<(c.cm.size:C)):=H;go_wp2;go_roundw
   .exact⟨f+1,H,H,R,tV⟩
   simp[QI];omega
  have W:¬((f:C)<=45):=H;have t:¬(((j:D):C)<=45):=H;go_wp2;go_ret;exact⟨⟨_,A,λd=>by simp at d⟩,A⟩
 have Z:¬((f:C)<((j:D):C)):=H;by_cases o:(j:D)<=45
 .have t:((j:D):C)<=45:=H;have O:=F o;go_wp2;go_ret;exact⟨⟨_,A,λd=>O.o⟩,A⟩
 have t:¬(((j:D):C)<=45):=H;go_wp2;go_ret;exact⟨⟨_,A,λd=>by simp at d⟩,A⟩
def nz (w:L)(O:S)(t:E Ac):Prop:=∃o u,O=P o t.length u/\∀f j,t[f]?=M j->(∃A K,o=M ⟨A,K,J⟩/\f<u/\w.rangeAt A (K+f*11) j.cs.toList)/\∃z,eh w j.v z/\z.length<=9223372036854775807
def Eh (w:L)(f:Ac):Prop:=(∃j,eh w f.v j/\j.length<=45)/\f.bK.size<=300/\f.lz.fe.size<=50/\f.lz.pJ.size<=50
def af1 (w:L)(f:E Ac)(o:He):Prop:=∃j:Bool,o=z j/\(j=U->f.length<=50/\∀t∈f,Eh w t)
def FH (Z:π)(j:E Ac)(w:ν)(I:nz w Z j)(a6:(j:D)<=9223372036854775807):τ γ 6 #[Z] w λe N=>af1 w j e/\N=w:=by
 obtain⟨a7,a8,rfl,L⟩:=I;have T:=F L;go_enter func6,ntmps6;go_wp2;go_loopw [3,4] (λiv _ wr=>∃f:D,f<=(j:D)/\f<=51/\iv=ϑ f/\wr=w/\Φ (∀(d:D) a,d<f->j[d]?=M a->Eh w a)) (λiv _ _=>51-(QI iv).toNat)
 .exact⟨0,H,H,rfl,rfl,F λd a g=>H⟩
 obtain⟨f,a0,a5,rfl,q,V⟩:=hrel;obtain rfl:=q;by_cases p:f<(j:D)
 .have G:(f:C)<((j:D):C):=H;by_cases P:f<=50
  .have l:(f:C)<=50:=H;have a4:(0:C)<=(f:C):=H;let⟨a,k⟩:∃a,j[f]?=M a:=⟨_,Gf p⟩;obtain⟨⟨u,J,rfl,g,z⟩,K,U,s⟩:=T.o f a k;have a3:η.wrap ((f:C)+1)=(f:C)+1:=QQ H;have h:=F (Uy a.v K wr U s);have a2:wr (u,J+f*11+8)=M a.v:=z 8 _ rfl;have a1:wr (u,J+f*11+10)=O a.bK:=z 10 _ rfl;have c5:wr (u,J+f*11+1+4)=O a.lz.fe:=z 5 _ rfl;have c6:wr (u,J+f*11+1+5)=O a.lz.pJ:=z 6 _ rfl;have W:=F (κ k U);go_wp2_with fail;go_call h.o as e R ⟨⟨Q,rfl,A⟩,rfl⟩;have i:=F A;cases Q with
   |false=>
    go_wp2;go_ret;exact⟨⟨X,rfl,nF⟩,rfl⟩
   |true=>
    by_cases t:300<a.bK.size
    .have o:(300:C)<(a.bK.size:C):=H;go_wp2;go_ret;exact⟨⟨X,rfl,nF⟩,rfl⟩
    have o:¬((300:C)<(a.bK.size:C)):=H;have H1:=F t;by_cases r:50<a.lz.fe.size
    .have o:(50:C)<(a.lz.fe.size:C):=H;go_wp2;go_ret;exact⟨⟨X,rfl,nF⟩,rfl⟩
    have o:¬((50:C)<(a.lz.fe.size:C)):=H;have v:=F r;by_cases a9:50<a.lz.pJ.size
    .have o:(50:C)<(a.lz.pJ.size:C):=H;go_wp2;go_ret;exact⟨⟨X,rfl,nF⟩,rfl⟩
    have o:¬((50:C)<(a.lz.pJ.size:C)):=H;have c:=y (∀(d:D) m,d<f+1->j[d]?=M m->Eh R m) λd m g n=>by
     by_cases e:d=f
     .subst e;have t:=W.1;rw[n] at t;cases Gm t;have:=H1.o;have:=v.o;exact⟨⟨K,W.2,i.o rfl⟩,H,H,H⟩
     exact V.o d m H n
    go_wp2;go_roundw
    .exact⟨f+1,H,H,sm,tV,c⟩
    simp[QI];omega
  have l:¬((f:C)<=50):=H;have b:¬(((j:D):C)<=50):=H;go_wp2;go_ret;exact⟨⟨_,rfl,λe=>by simp at e⟩,rfl⟩
 have G:¬((f:C)<((j:D):C)):=H;have Y:f=(j:D):=H;have S:=y (∀a∈j,Eh wr a) λa k=>by
  let⟨d,g⟩:=GI.1 k;exact V.o d a (oA (Gg.1 g).1) g
 by_cases P:(j:D)<=50
 .have b:((j:D):C)<=50:=H;have x:=F P;go_wp2;go_ret;exact⟨⟨_,rfl,λe=>⟨x.o,S.o⟩⟩,rfl⟩
 have b:¬(((j:D):C)<=50):=H;go_wp2;go_ret;exact⟨⟨_,rfl,λe=>by simp at e⟩,rfl⟩
end Gt
def Uz:ownKnob N.godebug=J:=by kernel_rfl
def BV:laidOutB N=U:=by kernel_rfl
def af2:N.globalNamed "errors.errorType" =M 0:=by kernel_rfl
def abe:N.globalNamed "guilloche/sha.cubes" =M 1:=by kernel_rfl
def abf:(N.globals[1]?).map (·.type)=M 442:=by kernel_rfl
def af3:(N.cutTypes.find? (·.1== "internal/reflectlite.rtype")).map (·.2)=M 311:=by kernel_rfl
def abg:((List.range 574).filter λa=>N.rowNamed a [101,114,114,111,114])=[110]:=by kernel_rfl
def abh:N.types.size=574:=by kernel_rfl
def BW:E (String×QX Unit):=[("errors.errorType",Rows.laid_errors_errorType),("guilloche/sha.cubes",Rows.laid_guilloche_sha_cubes)]
def UA (j:Os)(f:Q S):laidMetH N BW ((World.doorLaid N 21 j).forCall (λ_ _=>0) ⟨#[],f,[]⟩).memory:=
 laidMetH_of_parts3 (fuel:=8) (laidMet_of_run' 8 e e) e e
def abi:(Rows.laid_guilloche_sha_cubes:QX Unit)=.agg (Hs.Sh.cubes.map λa:D=>.lit (.int Ik (a:C))):=by kernel_rfl
def XY (u:laidMetH N BW g):eI g:=by
 have F:laidMet N [("guilloche/sha.cubes",Rows.laid_guilloche_sha_cubes)] g/\handlesMet N [("errors.errorType",Rows.laid_errors_errorType)] g:=u;obtain⟨u,K⟩:=F;constructor
 .obtain⟨x,Y,y,o,t,e3,i,P⟩:=K _ (GA.2 A);have en:x=[101,114,114,111,114]:=(Gm o).s;subst en;obtain rfl:=Gm (af3.s.t t);have p:y∈(List.range 574).filter λe=>N.rowNamed e [101,114,114,111,114]:=GX.2 ⟨List.mem_range.2 (by rw[<-abh];exact e3),i⟩;rw[abg] at p;obtain rfl:=GA.1 p;have K:typeHandle N 110=V (M ⟨3,110,J⟩):=by kernel_rfl
  rw[K] at P;have:=World.var?_cell af2 P 0;unfold As.cC;simpa using this
 obtain⟨T,⟨m,S,h,I,R,q0,a,v,w,n,_,_⟩,_,_⟩:=u;obtain rfl:=Gm (abe.s.t a);obtain rfl:=Gm (abf.s.t v);rw[abi] at n;obtain⟨c,L,rfl,q,k,s,H⟩:=DataW.trod_array Tryz.underlying442 n;have l:N.cellsOf 383=1:=by kernel_rfl
 have d:N.cellsOf 442=64:=by kernel_rfl
 rw[d] at k;simp only[Hf,DataW.agg.injEq] at q;have X:∀f,f<64->g ⟨1,f,J⟩=Z Ik ((Hs.Sh.cubes.getD f 0:D):C):=by
  intro f O;have z:=H f O;rw[l,Ny] at z;have b:f<c.length:=by omega
  rw[Gf b] at z;obtain⟨W,o,t,_⟩:=Jp Tryz.underlying383 z;have j:(c.map (·.1))[f]?=M (.lit (.int Ik W)):=by rw[Ip,Gf b,JR,t]
  rw[<-q.1,Ip,Gf (by show f<Hs.Sh.cubes.length;exact O)] at j;simp only[JR,Gd,Nn,NP,true_and] at j;have G:=World.var?_cell a w f;have U:((h.toList.drop f).take 1)[0]?=Z Ik W:=by rw[o];rfl
  rw[Jt,QU r,JV,JC,IQ] at U;rw[G,U,<-j];simp[IL,show f<Hs.Sh.cubes.length from O];rfl
 exact⟨World.block_lt_of_cell? g ⟨1,0,J⟩ (X 0 r),X⟩
namespace Gt
open Fd (bh)
variable {w w' w2 W W':ν}{B g s r b:Nat}{S S' S2:Gs}{x x':St}{P E F:List Int}{t:ByteArray}{V:Bool->Prop}
structure Cf where
 aN:C
 cg:C
 rB:C
 zr:C
 gM:C
 nA:C
 fV:C
def Cf.cs (f:Cf):Q π:=#[f.aN,f.cg,f.rB,f.zr,f.gM,f.nA,f.fV]
def zs (w:L)(j:Cf)(o:He)(w':L):Prop:=ρ w w w'/\((j.cg<1/\∃u:C,o=f #[ξ J,u]/\u≠0)\/
 (1<=j.cg/\∃(g:Nat) (S:Gs),o=f #[bh g,ϑ 0]/\cw w' S.p.b g S/\w.heap.size<=S.p.b/\bD S [] [] []/\S.md=⟨min (max j.aN 1) 8,1,[⟨0,0,ο J 0 0,ο J 0 0⟩]⟩/\S.G=0/\S.aY=0/\(S.T.ls=[]/\S.T.cK=0/\S.T.most=min (max j.zr 1) 4)/\(S.FL=[]/\S.QL=[]/\S.os=[])/\(S.U=[]/\S.D=[])/\S.fV=min (max j.fV 1) 64/\aT S.R (il 0)=(bn ⟨#[128]⟩)))
abbrev CS (j:D)(f:Cf)(w:L):Prop:=w (j,3)=f.zr/\w (j,4)=f.gM/\w (j,5)=f.nA/\w (j,6)=f.fV
def CS.aE {q:D}{c:Cf}(f:CS q c w)(b:T w w w'):CS q c w':=⟨b.ce f.1,b.ce f.2.1,b.ce f.2.2.1,b.ce f.2.2.2⟩
def XZ {f:Cf}{u:Pl}{e:Md.dY}{d c:List (IA×π)}{y:Cc.Ca}{Z o j:ν}{t M U K J i:D}(I:1<=f.cg)(a7:w.heap.size<=Z.heap.size/\2<=Z.heap.size/\Z.heap.size<=o.heap.size)(z:jW Z f.aN f.cg u e d c y o)(b1:T w w o)(X:T o o j)(ah:eI j)
 (N:Ls.cc j t ⟨min (max f.zr 1) 4,min (max f.gM 1) 1000,[],0,[0,0,0,0,0,0,0,0],0⟩) (a5:o.heap.size<=t) (hF:∃v,o.heap.size<=v/\Fd.bz j v M U (min (max f.nA 1) 4) []) (Y:Ms.bU j K (min (max f.fV 1) 64) []) (a6:o.heap.size<=K) (q:Ms.bU j J (min (max f.fV 1) 64) []) (hd:o.heap.size<=J) (ai:K≠J) (H:bj γ j 3 i []) (a3:o.heap.size<=i) (ag:i≠U):
 zs w f (ι (χ #[bh j,G 0])) (j.alloc (θ #[bh u.c,bh t,bh M,bh K,bh J,KD (δ i),G (min (max f.nA 1) 4),G 0,ο ζ 0 0] 84)):=by
 have O:=bo j (θ #[bh u.c,bh t,bh M,bh K,bh J,KD (δ i),G (min (max f.nA 1) 4),G 0,ο ζ 0 0] 84);have ab:=z.iY;obtain⟨v,a2,hF⟩:=hF;have b0:=z.ch.df.cS.lt;have a9:=z.ch.cO.cS.lt;have a8:u.k<o:=by
  obtain⟨bm,b6,l,ab,q1,rfl,I,⟨b3,aj,ae,_⟩,b2⟩:=z.ch.gO;exact(Qi.1 ae).1
 have h:Fd.bz j u.b M U (min (max f.nA 1) 4) []:=⟨hF.bO,hF.cS,hF.cg,⟨by have:=hF.dK;omega,by have:=hF.dK;omega⟩,by obtain⟨l,a0,a1⟩:=hF.qs;exact⟨l,(λx a=>by cases a),(λb4 b5 i r L=>by cases L)⟩⟩;have p:=X.t (O.aE.m X.z);refine⟨b1.t (p.m b1.z),Θ ⟨I,j,⟨u,e,d,c,y,0,t,⟨min (max f.zr 1) 4,min (max f.gM 1) 1000,[],0,[0,0,0,0,0,0,0,0],0⟩,M,U,min (max f.nA 1) 4,[],K,J,min (max f.fV 1) 64,[],[],i,[],[],min (max f.nA 1) 4,0⟩,A,?_,by show w<=u.b;omega,?_,z.md,A,A,⟨A,A,A⟩,⟨A,A,A⟩,⟨A,A⟩,A,z.oZ⟩⟩
 .have a4:=X.z;have af:∀k,T j j k->bt k u e d c y 0/\Ls.cc k t ⟨min (max f.zr 1) 4,min (max f.gM 1) 1000,[],0,[0,0,0,0,0,0,0,0],0⟩/\Ms.bU k K (min (max f.fV 1) 64) []/\Ms.bU k J (min (max f.fV 1) 64) []/\bj γ k 3 i []:=λk b=>⟨(z.ch.aE X).aE b,N.aE b,dV Y (Fz.aE b 0 [] []) (λ_ a=>by cases a) R R,dV q (Fz.aE b 0 [] []) (λ_ a=>by cases a) R R,H.aM (b.b _ H.lt)⟩;obtain⟨c1,c2,c3,c4,c5⟩:=af _ O.aE;refine⟨⟨_,O.at_,QN⟩,c1,c2,h.fz (Fz.aE O.aE u.b [] []) (λ_ a=>by cases a) R R R R R,c3,c4,c5,(λx a=>by cases a),⟨⟨A,by show 2<=u.b;omega⟩,?_,?_,by simp,ai,?_,by simp,by simp;omega,by simp,by simp,?_⟩,ah.aE O.aE⟩
  .have:=h.dK;refine⟨?_,?_,?_,?_,?_,this.2⟩<;>simp only<;>omega
  .simp;omega
  .have:=h.dK;have:=hF.dK;refine⟨?_,?_,?_,ag,?_,?_,?_⟩<;>simp only<;>omega
  exact⟨by simp;omega,by simp;omega,by simp;omega,by simp,by simp,by simp,by simp,by simp⟩
 refine⟨?_,(λm n=>by cases n),(λm n=>by cases n),(λm n=>by cases n)⟩;rw[z.md];exact Md.bN.iY _ _
theorem tk (u:D){f:Q Oper}{o:Exit->Act->L->Prop}{A:Region.Mode}{S:L->Prop}{J:Oper}{O:D}{z:Q Bool}{j:Act}{w:L}(K:π)(U:f[u]?=M J)(y:YieldsIf N f S J K j)(a:wpAnyH N A f o S O (z.setIfInBounds u true) (j.put J.dst K) w)(X:Region.noSelect f=true:=by kernel_rfl)(Z:Region.free A f z u=true:=by kernel_rfl)(p:(Region.ready A f z).contains u=true:=by kernel_rfl)(q:∀k j w,o (Exit.panic k) (j.put J.dst K) w->o (Exit.panic k) j w:=by exact λ_ _ _ v=>v)(s:S w:=by assumption):wpAnyH N A f o S (O+1) z j w:=
 wpAnyH_take U X Z p q y s a
theorem tr {f b j:L}{B:D}(o:T f f b)(z:T b b j)(u:B<=f.heap.size:=by exact Nat.le_refl _):T B f j:=(o.t (z.m o.z)).m u
def BX (d:Cf)(w:ν)(Z:eI w)(H:d.cg<=9223372036854775807)(Y:2<=w.heap.size):τ N 5 #[Γ d.cs] w (zs w d):=by
 have j:=bo w (θ d.cs 23);generalize a5:w.alloc (θ d.cs 23)=o at j;have a7:o w=d.aN:=cR j.at_ rfl;have a8:o (w.heap.size,1)=d.cg:=cR j.at_ rfl;have a9:o (w.heap.size,2)=d.rB:=cR j.at_ rfl;have I:CS w.heap.size d o:=⟨cR j.at_ rfl,cR j.at_ rfl,cR j.at_ rfl,cR j.at_ rfl⟩;have a6:=Ga (Bv d.aN d.cg d.rB o (Z.aE j.aE) H);have u:=Ga (κ I (κ j.aE (κ Z (κ Y j.aH))));clear j I Z H Y;go_enter func5,ntmps5;go_wp2_with fail;go_call a6.o as k w4 (⟨c0,rfl,rfl⟩|⟨c0,c8,p,md,R,L,f0,d9,rfl⟩)
 .have G:=Ga (κ c0 u.o.2.1);clear c0;go_wp2;go_ret2;exact⟨G.o.2,Ξ ⟨G.o.1,3,rfl,by decide⟩⟩
 have K:=Ga (κ d9 (u.o.2.1.t (c8.m u.o.2.1.z)));have a4:=QC (w.heap.size<=o.heap.size/\2<=o.heap.size/\o.heap.size<=w4.heap.size) ⟨u.o.2.1.z,by have:=u.o.2.2.2.1;have:=u.o.2.1.z;omega,c8.z⟩;have a3:=QC (∀W,ρ w4 w4 W->eI W) λW b=>u.o.2.2.1.aE (K.o.2.t (b.m K.o.2.z));have T:=Ga (λW=>Ls.jr d.zr d.gM W);have y:=Ga (λW=>Fd.jr d.nA W);have O:=QC (∀W:ν,τ N 23 #[ϑ d.fV] W λk w'=>k=bh W.heap.size/\Ms.bU w' W.heap.size (min (max d.fV 1) 64) []/\ρ W W w') λW=>(Ms.jr d.fV W).m λk w' ⟨ab,a0,v⟩=>⟨ab,a0,⟨v.os,v.cb,v.aW,v.aH,λb2 b0=>v.aG b2 b0 (λb4=>b4)⟩⟩;have a2:=Ga c0;have b6:=@run_makeMap N;have s0:w4.drew (w.heap.size,3)=d.zr/\w4.drew (w.heap.size,4)=d.gM/\w4.drew (w.heap.size,5)=d.nA/\w4.drew (w.heap.size,6)=d.fV:=(u.o.1.aE c8).aE QG.d;clear c8 d9 c0 a5 a7 a8 a9;go_wp2_with fail;refine wp_region_held_drew (S:=λw'=>w' (w.heap.size,3)=d.zr/\w' (w.heap.size,4)=d.gM/\w' (w.heap.size,5)=d.nA/\w' (w.heap.size,6)=d.fV) e s0 (λi=>?_);refine tk 0 ?_ rf ?_ (tk 1 ?_ rf ?_ (tk 2 ?_ rf ?_ (tk 3 ?_ rf ?_ (tk 4 ?_ rf ?_ (tk 6 ?_ rf ?_ (tk 7 ?_ rf ?_ (tk 9 ?_ rf ?_ (tk 10 ?_ rf ?_ (tk 12 ?_ rf ?_ (tk 13 ?_ rf ?_ (tk 16 ?_ rf ?_ (tk 17 ?_ rf ?_ (tk 18 ?_ rf ?_ (tk 19 ?_ rf ?_ ?_))))))))))))));all_goals try((with_reducible show YieldsIf _ _ _ _ _ _);refine Ξ ⟨by rfl,?_⟩;intro w n;(try dsimp only at n);go_simp;(try with_reducible rfl))
 try simp only[JB,Gi,Gw,Gn]
 all_goals
  first|(have:=q0;refine Xu (rs:=[5]) e sm ?_;refine Hi rfl (λc a=>?_) Ia)|(refine Xu (rs:=[5,15]) e sm ?_;refine Hi rfl (λc a=>?_) (Hi rfl (λc a=>?_) Ia))
 all_goals
  go_simp;first|(go_call T.o _ as k C ⟨⟨t,rfl,c7,b9⟩,b3⟩)|(have q0:=trivial;have s0:=CS.aE (q:=w.heap.size) (c:=d) s0 (bo _ (Lz #[] 0)).aE;refine a.out _ _ s0 (λi=>?_);clear a c i;(try simp only[JB,Gi,Gw,Gn]);refine Xu (rs:=[5]) e sm ?_;refine Hi rfl (λc a=>?_) Ia;go_simp;go_call T.o _ as k C ⟨⟨t,rfl,c7,b9⟩,b3⟩)
  have s0:=CS.aE (q:=w.heap.size) (c:=d) s0 b3;have X:=Ga (κ c7 (κ b9 b3));clear c7 b9 b3;go_wp2_with fail;refine a.out _ _ s0 (λi=>?_);clear a c i;try simp only[JB,Gi,Gw,Gn]
 all_goals
  first|(have:=q0;refine Xu (rs:=[8]) e sm ?_;refine Hi rfl (λc a=>?_) Ia)|(refine Xu (rs:=[8,15]) e sm ?_;refine Hi rfl (λc a=>?_) (Hi rfl (λc a=>?_) Ia))
 all_goals
  go_simp;first|(go_call y.o _ as k z ⟨⟨f,m,rfl,hF⟩,a1⟩)|(have q0:=trivial;have s0:=CS.aE (q:=w.heap.size) (c:=d) s0 (bo _ (Lz #[] 0)).aE;refine a.out _ _ s0 (λi=>?_);clear a c i;(try simp only[JB,Gi,Gw,Gn]);refine Xu (rs:=[8]) e sm ?_;refine Hi rfl (λc a=>?_) Ia;go_simp;go_call y.o _ as k z ⟨⟨f,m,rfl,hF⟩,a1⟩)
  have s0:=CS.aE (q:=w.heap.size) (c:=d) s0 a1;have J:=Ga (κ hF a1);clear hF a1;go_wp2_with fail;refine a.out _ _ s0 (λi=>?_);clear a c i;try simp only[JB,Gi,Gw,Gn]
 all_goals
  first|(have:=q0;refine Xu (rs:=[11]) e sm ?_;refine Hi rfl (λc a=>?_) Ia)|(refine Xu (rs:=[11,15]) e sm ?_;refine Hi rfl (λc a=>?_) (Hi rfl (λc a=>?_) Ia))
 all_goals
  go_simp;first|(go_call O.o _ as k A ⟨rfl,hF,Q⟩)|(have q0:=trivial;have s0:=CS.aE (q:=w.heap.size) (c:=d) s0 (bo _ (Lz #[] 0)).aE;refine a.out _ _ s0 (λi=>?_);clear a c i;(try simp only[JB,Gi,Gw,Gn]);refine Xu (rs:=[11]) e sm ?_;refine Hi rfl (λc a=>?_) Ia;go_simp;go_call O.o _ as k A ⟨rfl,hF,Q⟩)
  have s0:=CS.aE (q:=w.heap.size) (c:=d) s0 Q;have U:=Ga (κ hF Q);clear hF Q;go_wp2_with fail;refine a.out _ _ s0 (λi=>?_);clear a c i;try simp only[JB,Gi,Gw,Gn]
 all_goals
  first|(have:=q0;refine Xu (rs:=[14]) e sm ?_;refine Hi rfl (λc a=>?_) Ia)|(refine Xu (rs:=[14,15]) e sm ?_;refine Hi rfl (λc a=>?_) (Hi rfl (λc a=>?_) Ia))
 all_goals
  go_simp;first|(go_call O.o _ as k h ⟨rfl,hF,M⟩)|(have q0:=trivial;have s0:=CS.aE (q:=w.heap.size) (c:=d) s0 (bo _ (Lz #[] 0)).aE;refine a.out _ _ s0 (λi=>?_);clear a c i;(try simp only[JB,Gi,Gw,Gn]);refine Xu (rs:=[14]) e sm ?_;refine Hi rfl (λc a=>?_) Ia;go_simp;go_call O.o _ as k h ⟨rfl,hF,M⟩)
  have s0:=CS.aE (q:=w.heap.size) (c:=d) s0 M;have q:=Ga (κ hF M);clear hF M;go_wp2_with fail;refine a.out _ _ s0 (λi=>?_);clear a c i;try simp only[JB,Gi,Gw,Gn]
 all_goals
  first|have:=q0|(refine Xu (rs:=[15]) e sm ?_;refine Hi rfl (λc a=>?_) Ia;go_simp;have q0:=trivial;have s0:=CS.aE (q:=w.heap.size) (c:=d) s0 (bo _ (Lz #[] 0)).aE;refine a.out _ _ s0 (λi=>?_);clear a c i;(try simp only[JB,Gi,Gw,Gn]))
  refine tk 20 ?_ rf ?_ ?_;rotate_left
  .refine Ξ ⟨by rfl,?_⟩;intro w n;(try dsimp only at n);go_simp;(try with_reducible rfl)
  try simp only[JB,Gi,Gw,Gn]
  refine Xu (rs:=[21]) e sm ?_;refine Hi rfl (λc a=>?_) Ia;go_simp;refine a.out _ _ (CS.aE (q:=w.heap.size) (c:=d) s0 (bo _ _).aE) (λi=>?_);clear a c;try simp only[JB,Gi,Gw,Gn]
  refine Xu (rs:=[22]) e sm ?_;refine Hi rfl (λc a=>?_) Ia;go_simp;refine a.out _ _ i (λ_=>?_);clear a c;try simp only[JB,Gi,Gw,Gn]
  refine Xu (rs:=[23]) e sm ?_;refine Hi rfl (λc a=>?_) Ia;go_simp;refine a.out _ _ i (λ_=>?_);clear a c;try simp only[JB,Gi,Gw,Gn]
  refine wpAnyH_done e ?_ _;go_wp2;go_ret2;try rw[<-GG h (Lz #[] 0)]
  try rw[<-GG A (Lz #[] 0)]
  try rw[<-GG z (Lz #[] 0)]
  have b5:=aw (eY U.o.1).choose_spec;have b7:=J.o.1.cS.lt;have d1:=J.o.1.dK.2;have d2:=U.o.2.z;have d3:=q.o.2.z;have d4:=X.o.2.2.z;have d6:=J.o.2.z;refine XZ a2.o a4.o K.o.1 K.o.2 ?_ (a3.o _ ?_) (X.o.2.1.aE ?_) (GB (Below.size (B:=w4) ?_) X.o.1) ⟨_,Below.size (B:=w4) ?_,J.o.1.fz (Fz.aE ?_ _ [] []) (λ_ l=>by cases l) sm sm sm sm sm⟩ (dV U.o.1 (Fz.aE ?_ 0 [] []) (λ_ l=>by cases l) sm sm) (Below.size (B:=w4) ?_) (dV q.o.1 (Fz.aE ?_ 0 [] []) (λ_ l=>by cases l) sm sm) (Below.size (B:=w4) ?_) ?_ ?_ (Below.size (B:=w4) ?_) ?_;all_goals
   try first|refine (bj.pk w4.drew N 3).aM (Below.block ?_ _ (bj.pk w4.drew N 3).lt)|refine (bj.pk _ N 3).aM (Below.block ?_ _ (bj.pk _ N 3).lt)
   first|(repeat first|exact QG|exact (bo _ _).aE|refine tr X.o.2.2 ?_|refine tr J.o.2 ?_|refine tr U.o.2 ?_|refine tr q.o.2 ?_|refine tr (show ρ w4 w4 w4.drew from QG.d) ?_|refine tr (bo _ (Lz #[] 0)).aE ?_);done|((try simp only[GG,World.size_drew] at *);omega)
end Gt
def er:N.cellsOf 3=1:=e
def gW:N.cellsOf 4=1:=e
def vQ:N.cellsOf 9=1:=e
def Ya:N.cellsOf 23=7:=e
def FI:N.cellsOf 32=7:=e
def Yb:N.cellsOf 37=1:=e
def FJ:N.cellsOf 39=11:=e
def FK:N.cellsOf 56=3:=e
def Yc {f:C}(j:(Lit.int u f).wf=U): -9223372036854775808<=f/\f<=9223372036854775807:=by
 simpa[Lit.wf,IntKind.min,IntKind.max,IntKind.signed,IntKind.bits] using j
section
variable {H:Type}{z:Λ×π->H}{W:ν}{base n:Nat}{y:Nat->Bool}{held:Bool}{cs:List π}{x:DataW H×List MemPlace}
def UB (O:KW z N W base y held n 23 cs=x):∃i:Gt.Cf,cs=i.cs.toList/\i.cg<=9223372036854775807:=by
 let⟨ae,b,_,_,w,a5,a⟩:=NO Pk O;rw[Ya] at w;match cs,w,ae,a5 with
 |[a9,k,h,g,e,d,c],_,[G,I,L,R,S,T,Y],_=>
  have f:KW z N W base y held b 3 (List.take (N.cellsOf 3) [a9,k,h,g,e,d,c])=G:=a 0 _ A;rw[er] at f;let⟨a6,l,_,af⟩:=Jp Hu f;simp only[GW,Hw,GN,QW] at l;subst l;have j:KW z N W base y held b 3 (List.take (N.cellsOf 3) [k,h,g,e,d,c])=I:=a 1 _ A;rw[er] at j;let⟨a7,m,_,F⟩:=Jp Hu j;simp only[GW,Hw,GN,QW] at m;subst m;have o:KW z N W base y held b 3 (List.take (N.cellsOf 3) [h,g,e,d,c])=L:=a 2 _ A;rw[er] at o;let⟨a8,p,_,ag⟩:=Jp Hu o;simp only[GW,Hw,GN,QW] at p;subst p;have t:KW z N W base y held b 3 (List.take (N.cellsOf 3) [g,e,d,c])=R:=a 3 _ A;rw[er] at t;let⟨ab,e3,_,ah⟩:=Jp Hu t;simp only[GW,Hw,GN,QW] at e3;subst e3;have u:KW z N W base y held b 3 (List.take (N.cellsOf 3) [e,d,c])=S:=a 4 _ A;rw[er] at u;let⟨a4,q,_,a1⟩:=Jp Hu u;simp only[GW,Hw,GN,QW] at q;subst q;have J:KW z N W base y held b 3 (List.take (N.cellsOf 3) [d,c])=T:=a 5 _ A;rw[er] at J;let⟨a3,r,_,a2⟩:=Jp Hu J;simp only[GW,Hw,GN,QW] at r;subst r;have K:KW z N W base y held b 3 (List.take (N.cellsOf 3) [c])=Y:=a 6 _ A;rw[er] at K;let⟨v,s,_,a0⟩:=Jp Hu K;simp only[GW,Hw,GN,QW] at s;subst s;exact⟨⟨a6,a7,a8,ab,a4,a3,v⟩,A,(Yc F).2⟩
def UC (M:KW z N W base y held n 32 cs=x):∃a:Fm.gR,cs=[G a.bq,G a.bI,G a.oT,G a.at_,β a.fe,β a.pJ,G a.ho]:=by
 let⟨a9,c,_,_,w,a3,b⟩:=NO KI M;rw[FI] at w;match cs,w,a9,a3 with
 |[a7,k,i,h,g,e,d],_,[F,I,L,R,S,T,Y],_=>
  have f:KW z N W base y held c 3 (List.take (N.cellsOf 3) [a7,k,i,h,g,e,d])=F:=b 0 _ A;rw[er] at f;let⟨a4,l,_,ab⟩:=Jp Hu f;simp only[GW,Hw,GN,QW] at l;subst l;have j:KW z N W base y held c 3 (List.take (N.cellsOf 3) [k,i,h,g,e,d])=I:=b 1 _ A;rw[er] at j;let⟨a5,m,_,ae⟩:=Jp Hu j;simp only[GW,Hw,GN,QW] at m;subst m;have o:KW z N W base y held c 3 (List.take (N.cellsOf 3) [i,h,g,e,d])=L:=b 2 _ A;rw[er] at o;let⟨a6,p,_,af⟩:=Jp Hu o;simp only[GW,Hw,GN,QW] at p;subst p;have t:KW z N W base y held c 3 (List.take (N.cellsOf 3) [h,g,e,d])=R:=b 3 _ A;rw[er] at t;let⟨a8,e3,_,ag⟩:=Jp Hu t;simp only[GW,Hw,GN,QW] at e3;subst e3;have u:KW z N W base y held c 9 (List.take (N.cellsOf 9) [g,e,d])=S:=b 4 _ A;rw[vQ] at u;let⟨a2,q,_,_⟩:=LM Jh u;simp only[GW,Hw,GN,QW] at q;subst q;have J:KW z N W base y held c 9 (List.take (N.cellsOf 9) [e,d])=T:=b 5 _ A;rw[vQ] at J;let⟨a1,r,_,_⟩:=LM Jh J;simp only[GW,Hw,GN,QW] at r;subst r;have K:KW z N W base y held c 3 (List.take (N.cellsOf 3) [d])=Y:=b 6 _ A;rw[er] at K;let⟨v,s,_,a0⟩:=Jp Hu K;simp only[GW,Hw,GN,QW] at s;subst s;exact⟨⟨a4,a5,a6,a8,a2,a1,v⟩,A⟩
def UD (t:KW z N W base y held n 56 cs=x):∃b:fj,cs=[O b.fe,O b.cm,υ b.eB]:=by
 let⟨F,c,_,_,k,i,a⟩:=NO Tryz.underlying56 t;rw[FK] at k;match cs,k,F,i with
 |[w,l,d],_,[s,m,v],_=>
  have f:KW z N W base y held c 9 (List.take (N.cellsOf 9) [w,l,d])=s:=a 0 _ A;rw[vQ] at f;let⟨p,e,_,_⟩:=LM Jh f;simp only[GW,Hw,GN,QW] at e;subst e;have j:KW z N W base y held c 9 (List.take (N.cellsOf 9) [l,d])=m:=a 1 _ A;rw[vQ] at j;let⟨q,g,_,_⟩:=LM Jh j;simp only[GW,Hw,GN,QW] at g;subst g;have o:KW z N W base y held c 4 (List.take (N.cellsOf 4) [d])=v:=a 2 _ A;rw[gW] at o;let⟨r,h,_⟩:=DataW.trod_bool Nw o;simp only[GW,Hw,GN,QW] at h;subst h;exact⟨⟨p,q,r⟩,A⟩
end
def OG {H:Type}{z:Λ×S->H}{W:L}{n:D}{q:S}{x:QX H×E Xz}(t:KW z N W 0 (λ_=>U) U n 37 [q]=x):∃b,eh W q b/\(b:D)<=9223372036854775807:=by
 rcases open_slice Tryz.underlying37 t with⟨M,_⟩|⟨f,b,F,Y,n,G,Pl,M,_,e,r,s,_,d⟩
 .simp at M;subst M;exact⟨[],o ⟨_,_,A,A⟩,R⟩
 simp at M;subst M;simp only[if_true] at s;rw[FK] at d;have V:∀a,a<b->∃u:fj,W (f.add (a*3))=u.fe/\W ((f.add (a*3)).add 1)=u.cm/\W ((f.add (a*3)).add 2)=υ u.eB:=by
  intro a t;let⟨I,k,l⟩:=d a om;obtain⟨u,rfl⟩:=UD l;let⟨_,_,h⟩:=World.cells?_some k;have P:=h 0 om;rw[Addr.add_zero'] at P;exact⟨u,P,h 1 om,h 2 om⟩
 let K:D->fj:=λa=>if t:a<b then(V a t).choose else⟨⟨#[]⟩,⟨#[]⟩,X⟩
 have Z:∀a,a<b->W (f.add (a*3))=O (K a).fe/\W ((f.add (a*3)).add 1)=O (K a).cm/\W ((f.add (a*3)).add 2)=υ (K a).eB:=by
  intro a t;have:=(V a t).choose_spec;simp only[K,t,dif_pos];exact this
 by_cases g:b=0
 .subst g;exact⟨[],o ⟨_,_,A,A⟩,R⟩
 let⟨w,off,v⟩:=f;have m:v=J:=by simpa[Addr.add] using World.cell?_spot (Z 0 om).1
 subst m;refine⟨(List.range b).map K,j ⟨w,off,F,R,sU e,λc T i=>?_⟩,by simp;unfold Ie at r;omega⟩;have p:c<b:=by simpa using(Gg.1 i).1
 rw[Ip,Pp p] at i;cases Gm i;have:=Z c p;simp only[Jg] at this;exact this
section
variable {H:Type}{z:Λ×π->H}{W:ν}{n:Nat}{cs:List π}{x:DataW H×List MemPlace}
def UE (J:KW z N W 0 (λ_=>U) U n 39 cs=x):∃a:Gt.Ac,cs=a.cs.toList/\((-9223372036854775808<=a.bq/\a.bq<=9223372036854775807)/\-9223372036854775808<=a.n/\a.n<=9223372036854775807)/\∃q,eh W a.v q/\(q:D)<=9223372036854775807:=by
 let⟨a6,c,_,_,p,R,b⟩:=NO Pj J;rw[FJ] at p;match cs,p,a6,R with
 |[a4,r,s,m,v,w,F,h,e,g,d],_,[a2,a3,a5,L,I],_=>
  have o:KW z N W 0 (λ_=>U) U c 3 (List.take (N.cellsOf 3) [a4,r,s,m,v,w,F,h,e,g,d])=a2:=b 0 _ A;rw[er] at o;let⟨S,i,_,a0⟩:=Jp Hu o;simp only[GW,Hw,GN,QW] at i;subst i;have f:KW z N W 0 (λ_=>U) U c 32 (List.take (N.cellsOf 32) [r,s,m,v,w,F,h,e,g,d])=a3:=b 1 _ A;rw[FI] at f;simp only[GW,Hw] at f;have j:KW z N W 0 (λ_=>U) U c 37 (List.take (N.cellsOf 37) [e,g,d])=a5:=b 2 _ A;rw[Yb] at j;simp only[GW,Hw] at j;have t:KW z N W 0 (λ_=>U) U c 3 (List.take (N.cellsOf 3) [g,d])=L:=b 3 _ A;rw[er] at t;let⟨T,e3,_,a1⟩:=Jp Hu t;simp only[GW,Hw,GN,QW] at e3;subst e3;have u:KW z N W 0 (λ_=>U) U c 9 (List.take (N.cellsOf 9) [d])=I:=b 4 _ A;rw[vQ] at u;let⟨Y,k,_,_⟩:=LM Jh u;simp only[GW,Hw,GN,QW] at k;subst k;let⟨G,l⟩:=UC f;simp only[GN,QW] at l;obtain⟨rfl,rfl,rfl,rfl,rfl,rfl,rfl⟩:=l;exact⟨⟨S,G,e,T,Y⟩,A,⟨Yc a0,Yc a1⟩,OG j⟩
end
def OH {H:Type}{z:Λ×π->H}{W:ν}{S:D}{i:QV JM}{f V:D}{x:QX H×E Xz}(o:KW z γ W 0 (λ_=>U) U S 24 [P i f V]=x):
 ∃q:E Gt.Ac,(q:D)=f/\f<=9223372036854775807/\Gt.nz W (P i f V) q/\∀a∈q,(-9223372036854775808<=a.bq/\a.bq<=9223372036854775807)/\-9223372036854775808<=a.n/\a.n<=9223372036854775807:=by
 rcases open_slice Tryz.underlying24 o with⟨u,_⟩|⟨K,t,a2,a3,n,Y,Pl,u,_,a1,r,L,_,Z⟩
 .simp at u;obtain⟨rfl,rfl,rfl⟩:=u;exact⟨[],A,R,⟨_,_,A,λc a d=>by simp at d⟩,R⟩
 simp at u;obtain⟨rfl,rfl,rfl⟩:=u;simp only[if_true] at L;rw[FJ] at Z;have w:∀b,b<f->∃a:Gt.Ac,(∀g h,a.cs.toList[g]?=M h->W ((K.add (b*11)).add g)=M h)/\((-9223372036854775808<=a.bq/\a.bq<=9223372036854775807)/\-9223372036854775808<=a.n/\a.n<=9223372036854775807)/\∃t,eh W a.v t/\(t:D)<=9223372036854775807:=by
  intro b o;let⟨a0,T,k⟩:=Z b om;obtain⟨a,rfl,l,F⟩:=UE k;let⟨_,_,G⟩:=World.cells?_some T;exact⟨a,λg h p=>(G g (Gg.1 p).1).t p,l,F⟩
 let j:D->Gt.Ac:=λb=>if o:b<f then(w b o).choose else⟨0,Fm.dz,P J 0 0,0,⟨#[]⟩⟩
 have O:∀b,b<f->(∀g h,(j b).cs.toList[g]?=M h->W ((K.add (b*11)).add g)=M h)/\((-9223372036854775808<=(j b).bq/\(j b).bq<=9223372036854775807)/\-9223372036854775808<=(j b).n/\(j b).n<=9223372036854775807)/\∃t,eh W (j b).v t/\(t:D)<=9223372036854775807:=by
  intro b o;have:=(w b o).choose_spec;simp only[j,o,dif_pos];exact this
 have X:∀c a,((List.range f).map j)[c]?=M a->c<f/\a=j c:=λc a d=>by
  have e:c<f:=by simpa using(Gg.1 d).1
  rw[Ip,Pp e] at d;exact⟨e,(Gm d).s⟩
 refine⟨(List.range f).map j,R,by unfold Ie at r;omega,⟨M K,V,R,λc a d=>?_⟩,λa d=>?_⟩
 .obtain⟨e,rfl⟩:=X c a d;let⟨v,off,N⟩:=K;have I:=(O 0 om).1 0 _ A;have s:N=J:=by simpa[Addr.add] using World.cell?_spot I
  subst s;refine⟨⟨v,off,A,om,λg h p=>?_⟩,(O c e).2.2⟩;have:=(O c e).1 g h p;simp only[Jg] at this;exact this
 let⟨c,e⟩:=GI.1 d;obtain⟨m,rfl⟩:=X c a e;exact(O c m).2.1
namespace Fm
def A1:gR:=⟨0,0,1,-1,⟨#[]⟩,⟨#[]⟩,0⟩
theorem YT (w:L):Y N 134 #[t A1.cs] w λc w'=>c=ι (z U)/\T w w w':=by
 let⟨b,d,a⟩:=aU w (K A1.cs 32);have q:b.cell? ⟨(w:D),0,J⟩=M (Z u 0):=cR a.at_ A;have c1:b.cell? ⟨(w:D),1,J⟩=M (Z u 0):=cR a.at_ A;have n:b.cell? ⟨(w:D),2,J⟩=M (Z u 1):=cR a.at_ A;have h:b.cell? ⟨(w:D),3,J⟩=M (Z u (-1)):=cR a.at_ A;have c4:b.cell? ⟨(w:D),4,J⟩=M (O ⟨#[]⟩):=cR a.at_ A;have c5:b.cell? ⟨(w:D),5,J⟩=M (O ⟨#[]⟩):=cR a.at_ A;have p:b.cell? ⟨(w:D),6,J⟩=M (Z u 0):=cR a.at_ A;have l:=F a.aE;have o:=F (λw=>gg 0 0 9 w);have P:=F (λw=>gg 1 1 1048576 w);have V:=F (λw=>gg (-1) (-1) 1048576 w);rw[(r:wi 0 0 9=U)] at o;rw[(r:wi 1 1 1048576=U)] at P;rw[(r:wi (-1) (-1) 1048576=U)] at V;have W:=F (pI 0 b);have k:EA 0=f #[z U,Z u 0,Z u 0,z X]:=e;rw[k] at W;clear a k;show Y N 134 #[t #[Z u 0,Z u 0,Z u 1,Z u (-1),O ⟨#[]⟩,O ⟨#[]⟩,Z u 0]] w _;have d:w.alloc (K #[Z u 0,Z u 0,Z u 1,Z u (-1),O ⟨#[]⟩,O ⟨#[]⟩,Z u 0] 32)=b:=d;go_enter func134,ntmps134;go_wp2_with (first|(rw[d])|((with_reducible apply(o.o _).m);rintro c j ⟨rfl,rfl⟩)|((with_reducible apply(P.o _).m);rintro c j ⟨rfl,rfl⟩)|((with_reducible apply(V.o _).m);rintro c j ⟨rfl,rfl⟩)|((with_reducible apply W.o.m);rintro c j ⟨rfl,rfl⟩));go_ret;exact⟨A,l.o⟩
def UK:gh A1:=⟨r,r,r,λ_=>rfl,r,r,r,r⟩
def TA:QE:=iS A1
def BY:iU TA=A1:=e
def nM1:nM TA 0=0:=e
def af9:(eD (d7 TA)).bad.isSome=X:=e
end Fm
namespace Gt
open Fd (bh)
variable {w w':ν}{B g s:Nat}{S:Gs}
def UL {u:π}{j o:Fm.gR}{z:E Fm.gR}(t:jY w u [j])(k:jY w u (o::z)):o=j:=by
 obtain⟨g,V,U,rfl,-,-,t⟩:=t;let⟨v,F,H,l,_,_,k⟩:=k;simp only[Gy,Gd,GS,QW] at l;obtain⟨⟨rfl,rfl⟩,-,-⟩:=l;have f:∀c a e,(jX j)[c]?=M a->(jX o)[c]?=M e->a=e:=λc a e h i=>Gm ((t 0 j A c a h).s.t (k 0 o A c e i));let⟨m,n,L,p,N,q,r⟩:=j;let⟨x,y,G,b,C,D,d⟩:=o;have J:=f 0 _ _ A A;have h:=f 1 _ _ A A;have i:=f 2 _ _ A A;have e3:=f 3 _ _ A A;have K:=f 4 _ _ A A;have O:=f 5 _ _ A A;have P:=f 6 _ _ A A;cases J;cases h;cases i;cases e3;cases K;cases O;cases P;rfl
def ac (j:C)(f:Fm.gR):Ac:=⟨j,f,P J 0 0,0,⟨#[]⟩⟩
def aga (w:L)(a:cw w B g S)(f:S.U=[]):
 Y N 7 #[bh g,t (ac 0 Fm.A1).cs] w (xQ w B g S (λd c _=>d={S with U:=[Fm.TA]}/\c=x0)):=by
 refine BQ 25 (ac 0 Fm.A1) _ w a r A (enters_of func25 Qz A) (λ_ _ _ _ a _ _=>a) λh s p _=>?_;go_call FF (λb=>b=ψ) (ac 0 Fm.A1) h p (λ_=>Fm.UK) (λw=>(Fm.YT w).m λm w' ⟨a,b⟩=>⟨⟨ψ,a,A⟩,b⟩) as m w' ⟨i,⟨a,_⟩|⟨c,e,l,k⟩⟩
 .cases a
 have u:=a.ok.fV.1;have j:Ms.mM S.fV S.U=ψ:=by rw[f];exact Ms.wR (by show(0:C)<_;omega)
 have o:Ms.iM S.fV S.U (Fm.iS (ac 0 Fm.A1).lz)=[Fm.TA]:=by rw[f,Ms.wQ (by show(0:C)<_;omega)];rfl
 rw[o] at e;exact⟨i,_,c,e,l,A,k j⟩
def agb (w:L)(h:cw w B g S)(f:S.U=[Fm.TA])(u:S.os=[])(z:S.QL=[])(o:S.G+1<=51):
 Y N 7 #[bh g,t (ac 3 Fm.dz).cs] w λc w'=>xQ w B g S (λi l b=>(∃a,i={S with U:=[],QL:=[(il 0,a)],G:=S.G+1}/\jY b a [Fm.A1])/\l=x0) c w':=by
 have j:Ms.gd (jf (ac 3 Fm.dz).n) (jy S (ac 3 Fm.dz).n)=Fm.TA:=by
  show Ms.gd 0 S.U=Fm.TA;rw[f];exact Ms.tX (k:=0) R
 refine BQ 28 (ac 3 Fm.dz) _ w h r A (enters_of func28 e A) (λi l b T ⟨⟨a,q,v⟩,x⟩ p _=>⟨⟨a,q,v.aG λI y=>p.jJ (λ_ H=>by cases H) y R⟩,x⟩) λb s F _=>?_;go_call vO (λd=>d=ψ) (ac 3 Fm.dz) b F r o (λ_ _=>by rw[j,Fm.BY];exact Fm.UK) (λ_ w=>by
  rw[j,Fm.BY]
  exact(Fm.YT w).m λc w' ⟨h,d⟩=>⟨⟨ψ,h,A⟩,d⟩) as c w' ⟨m,-,hd⟩;let⟨a,G,n,k⟩:=hd A Fm.TA f ⟨u,z,Fm.BY▸rfl,r,Fm.nM1,Fm.BY▸rfl,Fm.af9⟩;rw[Fm.BY] at k;exact⟨m,_,x0,G,n,⟨a,A,k⟩,A⟩
theorem agc (w:L)(b:cw w B g S){o:π}(z:S.QL=[(il 0,o)])(y:jY w o [Fm.A1])(j:bD S [] [] [])(x:S.G+1<=51)(hF:rF S R0):
 Y N 7 #[bh g,Γ (ac 2 Fm.dz).cs] w λh w'=>xQ w B g S (λ_ a _=>a.cN=[Fm.RB]/\a.YM=U/\a.got=⟨#[]⟩) h w':=by
 refine BQ 27 (ac 2 Fm.dz) _ w b r A (enters_of func27 e A) (λ_ _ _ _ b _ _=>b) λc s H q=>?_;refine(FG (λw'=>∃u a,cY w' B g u s a/\Az B S s c w'/\a.cN=[Fm.RB]/\a.YM=U/\a.got=⟨#[]⟩) (ac 2 Fm.dz) c H r ?_ ?_).m λh w' b=>b
 .intro n M G X p k f b1 m O d P W;rw[z] at f;have V:M=o:=by
   have:=f.s.t (bY (iz 0) o []);exact Gm this
  subst V;cases UL ((y.aG λg d=>q.b g d.lt).aG λg d=>b1.b g d.lt) m;refine(Uo True Fm.RB R0 Fm.A1 X d (P:=[]) (E:=[]) (F:=[]) ?_ O (by simp[x0]) x (λ_=>⟨⟨⟨hF.next,hF.aZ,hF.ls,hF.op,hF.most,hF.oZ⟩,A,A,A⟩,λc=>Fm.Yg J 0 c⟩)).m ?_
  .exact⟨j.aZ,λk i=>j.ql k (P k i),j.fl,j.dl⟩
  rintro h w' ⟨K,u,I,Z,F,l,-,-,-,v⟩;refine⟨K,u,_,Z,?_,?_,A,A⟩
  .exact Az.aJ W l ⟨A,A,A,A,A,A,A,A,A,A⟩
  rw[v trivial];rfl
 intro f;rw[z,show(ac 2 Fm.dz).n=0 from A,bY (iz 0)] at f;cases f
end Gt
namespace Gt
open Fd (bh)
variable {w:ν}{B g:Nat}{S:Gs}
def FM (w:ν)(J:cw w B g S):τ γ 59 #[bh g] w λb Y=>(∃L R l,b=ο L R l)/\ρ w w Y:=by
 have P:=F (oC w J);have O:=QC ((S.T.ls:D)<=4) J.mc.cB;clear J;go_enter func59,ntmps59;go_wp2_with fail;go_call P.o as b r ⟨⟨v,rfl,p⟩,b1⟩;have M:=F b1;have a7:=O.o;have n:=F (fy (enc:=Ls.s4) (λ_=>rfl) p);obtain⟨a9,ab,rfl⟩:=aR p;generalize S.T.ls=j at *;clear P p b1 O;go_wp2;go_loopw [3,9] (λs iv wr=>∃f:D,f<=(j:D)/\iv=G f/\Φ (∃h,wr.ownsRow (r:D) 3 1 s f h/\ρ r r wr)) (λ_ iv _=>(j:D)-(QI iv).toNat)
 .exact⟨0,H,A,F ⟨[],QN,QG⟩⟩
 obtain⟨f,a4,rfl,m⟩:=hrel;let⟨h,i,a⟩:=m.o;obtain⟨a2,a3,rfl⟩:=aR i;by_cases q:f<(j:D)
 .let⟨c,e⟩:∃c,j[f]?=δ c:=⟨_,Gf q⟩;rcases n.o with⟨_,b⟩|⟨U,l,b,I,-,-,V⟩
  .rw[b] at e;cases e
  simp only[Gy] at b;obtain⟨rfl,-,rfl⟩:=b;have X:wr.rangeAt U (f*4) (Ls.s4 c):=λN ae x=>a.ce (by rw[V f c N e (Gg.1 x).1,x]);have a6:(f:C)<((j:D):C):=H;have a5:(0:C)<=(f:C):=H;have u:=F (W i a);clear V e i a I;go_upto_region 5 with(first|(apply Xj rfl 140 _ rfl U (f*4) rfl (Ls.s4 c) _ X LZ rfl XV.aH)|(refine ia XV (Gc wr _) ?_ (h:=Uu c);intro y K));have a8:y ((wr:D),0)=G c.id:=cR K.at_ A;have z:ρ wr wr y:=K.aE _ _ d (Below.alloc QG d _);have o:=F (W (aQ u.1 z) (u.2.t (z.m u.2.z)));clear K z X;go_wp2_with (at_builtin;apply aP vw o.1 o.2.z;intro a0 a1 k Z);have t:=F (W k (Z.cT o.1 o.2 o.2.z));clear k Z;go_roundw
  .exact⟨f+1,H,gN,F ⟨_,t.o⟩⟩
  simp[QI];omega
 obtain rfl:f=(j:D):=H;have t:=F (M.o.t (a.m M.o.z));clear i a;go_wp2;go_ret;exact⟨⟨_,_,_,A⟩,t.o⟩
def iN (O V:π)(j c t o:D)(P f:E π)(w:ν)(z:w.ownsRow j 9 1 O t P)(K:w.ownsRow c 9 1 V o f)(x:∀a∈f,a.oneCell'=ψ)(Y:t+o<=1000)(G:j<=(w:D)):
 τ γ 60 #[O,V] w λd q=>(∃m,d=ι m/\q.ownsRow j 9 1 m (t+o) (P++f))/\aL (λg=>O.ownBlock=M g) w q:=by
 obtain⟨e,h,rfl⟩:=aR z;rcases K.2 with⟨rfl,l⟩|⟨g,v,p,rfl,-,i,L,-,T,W⟩
 .let⟨s,H,_⟩:=Xv tQ;have b:f=[]:=GH (oA K.1);have X:=y (w.ownsRow j 9 1 (ο e t h) (t+o) (P++f)) (by rwa[l,b,IS]);have u:=F z;go_enter func60,ntmps60;go_wp2_with (at_builtin;apply wpList_append_own_none A _ _ 33 A j 9 s 1 Jv H _ _ _ A u.o A);go_ret;exact⟨⟨_,A,X.o⟩,aL.bQ _ _⟩
 have Z:=y (∀k a,f[k]?=M a->w ((⟨g,0,J⟩:JM).add k)=M a) λk a b=>by
  rw[Jg,GU,QH i];rw[<-W,Jt] at b;split at b
  .simpa using b
  cases b
 have u:=F (κ z x);have I:(f:D)=o*1:=oA K.1;go_enter func60,ntmps60;go_wp2_with (at_builtin;apply SS hO A _ _ A A u.1 ⟨g,0,J⟩ v A I Z.o u.2 om G;intro m R U r);obtain⟨N,n,rfl⟩:=aR U;go_ret;exact⟨⟨_,A,U⟩,r⟩
def BZ {w j:L}{o:D}{A:Obj}{f:JM}{t:π}(J:bd w j o A)(u:w f=t)(z:f.block≠o):j f=t:=(GQ (w:=w) (J.old _ z)).t u
def Ei:pX 132 11:=⟨⟨_,A,underlying132⟩,by kernel_rfl⟩
def Yi (f k n m aa l an i h M r U x0 sl:C)(p d at_ a W u:QE)(s Z R y:QV JM)(V ac O o bm bc x v:D)(w:ν)(ae:f≠1)(af:f≠6):
 τ γ 61 #[Γ #[f,k,n,m,aa,p,d,l,P s V ac,an,at_],Γ #[i,h,υ X,M,r,U,x0,a,W,sl,P Z O o,u],P R bm bc,P y x v] w λT ai=>T=χ #[Γ #[υ X,P J 0 0,P J 0 0,G 0,G 0,G 0,G 0,I,I,G 0,I],υ X]/\ρ w w ai:=by
 let⟨H,Y,c⟩:=aU w (K #[f,k,n,m,aa,p,d,l,P s V ac,an,at_] 39);let⟨a9,a5,b⟩:=aU H (K #[i,h,υ X,M,r,U,x0,a,W,sl,P Z O o,u] 35);let⟨ab,a6,e⟩:=aU a9 (K #[P y x v] 40);let⟨a3,a7,q⟩:=aU ab (K #[υ X,P J 0 0,P J 0 0,G 0,G 0,G 0,G 0,I,I,G 0,I] 132);have j:=e.aE.t (q.aE.m e.aE.z);have ag:=j.ke (b.aE.ke c.at_);have ah:=j.ke b.at_;have L:=Ga (c.aE.t (Lh (b.aE.t (j.m b.aE.z)) c.aE.z));have N:=Ga (GB c.aE.z (GB b.aE.z e.aE.z));have a8:=q.at_;have a2:=cJ 0 ag;have aj:=cJ 2 ah;have a0:(f==1)=X:=by simp[ae]
 have a1:(f==6)=X:=by simp[af]
 go_enter func61,ntmps61;go_wp2_with (first|(rw[Y])|(rw[a5])|(rw[a6])|(rw[a7])|(apply ia Ei a8;intro a4 F));apply qG Ei F.at_;exact⟨rfl,F.aE _ _ N.o L.o⟩
def UM (j ai al ak aa aj an T N M V U u sl:C)(ao am at_ b Z ag:QE)(L ah b0 ae:QV JM)(H ac o y bm bc ab Y:D)(p:QE)(w:ν)(a1:j≠1)(a2:j≠6)(d6:0<o)(b5:∃g v,ah=δ ⟨g,v,J⟩/\o<=y/\w ⟨g,v,J⟩=p):
 τ γ 61 #[Γ #[j,ai,al,ak,aa,ao,am,aj,P L H ac,an,at_],Γ #[T,N,υ ψ,M,V,U,u,b,Z,sl,P ah o y,ag],P b0 bm bc,P ae ab Y] w λb3 d4=>b3=χ #[Γ #[υ X,P J 0 0,P J 0 0,M,V,U,u,b,Z,sl,p],υ ψ]/\ρ w w d4:=by
 obtain⟨g,v,rfl,d8,a3⟩:=b5;let⟨k,b6,s⟩:=aU w (K #[j,ai,al,ak,aa,ao,am,aj,P L H ac,an,at_] 39);let⟨c2,b7,e⟩:=aU k (K #[G T,G N,υ ψ,G M,G V,G U,G u,O b,O Z,G sl,P (δ ⟨g,v,J⟩) o y,O ag] 35);let⟨c3,b9,i⟩:=aU c2 (K #[P ae ab Y] 40);let⟨q,c0,n⟩:=aU c3 (K #[υ X,P J 0 0,P J 0 0,G 0,G 0,G 0,G 0,I,I,G 0,I] 132);have h:=i.aE.t (n.aE.m i.aE.z);have a5:=h.ke (e.aE.ke s.at_);have r:=h.ke e.at_;have t:=F (s.aE.t (Lh (e.aE.t (h.m e.aE.z)) s.aE.z));have a9:=F (GB s.aE.z (GB e.aE.z i.aE.z));have m:=n.at_;have d9:=cJ 0 a5;have e0:=cJ 2 r;have a0:=cJ 10 r;have l:=t.o.ce a3;have b4:q.rangeAt k 3 [G M,G V,G U,G u,O b,O Z,G sl]:=λap e8 a=>by
  rw[QH r];match ap,a with
  |0,a=>simpa using a
  |1,a=>simpa using a
  |2,a=>simpa using a
  |3,a=>simpa using a
  |4,a=>simpa using a
  |5,a=>simpa using a
  |6,a=>simpa using a
  |ap+7,a=>simp at a
 have e5:(j==1)=X:=by simp[a1]
 have e6:(j==6)=X:=by simp[a2]
 have e7:(0:C)<(o:C):=om;let⟨e9,c7,d⟩:=aU q (K #[υ X,P J 0 0,P J 0 0,G 0,G 0,G 0,G 0,I,I,G 0,I] 132);have R:=d.aE.ce l;have b2:=d.aE.ce a0;have c8:=d.aE.ke m;have x:=F (W (t.o.t (d.aE.m t.o.z)) (W d.at_ (W (aw m) (W (bH R) (aw r)))));have d2:=d.at_;have a8:=QC (g≠q) (IM (bH l));go_enter func61,ntmps61;go_wp2_with (first|(rw[b6])|(rw[b7])|(rw[b9])|(rw[c0])|(rw[c7])|(apply Xj A 32 _ A k 3 A _ _ b4 KI A Qz)|(apply ia Ei d2;intro a6 f;have c6:=BZ f b2 (IM x.2.2.2.2);have e1:=BZ f R a8.o;have e2:=cJ 10 f.at_;have e4:=aI f.at_;have c:=aF (j:=10) (O p) f.at_;generalize a4:a6.setCell (q,10) (O p)=aq at c;have d3:aq.heap[(q:D)]?=K #[υ X,P J 0 0,P J 0 0,M,V,U,u,b,Z,sl,p] 132:=c.at_;have d1:=(c.old _ (IM x.2.2.1)).t ((f.old _ (IM x.2.2.1)).t c8);have a7:=F (c.aE _ _ t.o.z (f.aE _ _ t.o.z x.1)))|(rw[a4])|(apply oc Ei d3)|(apply ia Ei d1;intro w8 af));apply qG Ei af.at_;exact⟨A,af.aE _ _ a9.o a7.o⟩
end Gt
namespace Gt
open Fd (bh)
variable {w w':ν}{B g s:Nat}{S:Gs}
def agd {u:Q Le}{z:E Le}{f:Le}{j:Act}{w:L}{t:Exit->Act->L->Prop}{o:QV JM}{A:D}(O:f.guard=J)(s K:Kg)(V:f.op=.call {callee:=.builtin .append,args:=#[s,K],argTypes:=#[33,33]})(X:j.eval s=P J 0 0)(Z:j.eval K=P o 0 A)(M:Ji N u t z (j.put f.dst (P J 0 0)) w):Ji N u t (f::z) j w:=by
 obtain⟨a,U,-⟩:=Xv tQ;have W:(Builtin.append_ #[33,33] f.type #[P J 0 0,P o 0 A]).run N w=Je (P J 0 0) w:=by
  cases o<;>simp[Builtin.append_,Xo Jv,sizeOf,typeInfo,U,Builtin.lenOf,Builtin.firstCells,loadCells,loadCellsFrom,storeCells]
 refine Xt O λr k=>?_;unfold Ld;simp[Xb,V,resolve,invoke,builtin,X,Z,W,Ω];exact k _ _ M
def ub (f:QV JM)(j:D)(w:L):Y N 60 #[P J 0 0,P f 0 j] w λa w'=>a=P J 0 0/\w'=w:=by
 go_enter func60,ntmps60;go_wp2_with (at_builtin;refine agd A _ _ A A A ?_);go_ret;exact⟨A,A⟩
def OL (t:QV JM)(u z:D)(j:E QE)(w:L)(e:w.ownsRow z 9 1 (P t j.length u) j.length (j.map O))(M:j.length<=1):
 Y N 60 #[P J 0 0,P t j.length u] w λa w'=>(∃b c,a=P b j.length c/\w'.ownsRow w 9 1 (P b j.length c) j.length (j.map O)/\(j=[]->b=J/\c=0))/\T w w w':=by
 by_cases K:j=[]
 .subst K;go_call ub t u w as a w' ⟨rfl,rfl⟩;exact⟨⟨J,0,A,QN,λ_=>⟨A,A⟩⟩,QG⟩
 go_call iN (P J 0 0) _ w z 0 j.length [] (j.map O) w QN e (λq l=>by obtain⟨U,_,rfl⟩:=GL.1 l;rfl) H d as a w' ⟨⟨v',rfl,f⟩,o⟩;rw[GU,Ho] at f;obtain⟨b,c,rfl⟩:=aR f;exact⟨⟨b,c,A,f,λe=>absurd e K⟩,o.cE d (λm a=>by cases a)⟩
def OM (w:L)(f:cw w B g S):Y N 62 #[bh g] w λb w'=>b=G S.aY/\w'=w:=by
 obtain⟨-,-,-,-,-,-,-,j⟩:=f.aV;go_enter func62,ntmps62;go_wp2;go_ret;exact⟨A,A⟩
def YU {w:L}{f:D}{d U P O M J A z u t o v0 v1 v2 v3 v4 v5 v6 v7 v8 v9 v10:π}{j:Λ}(C:w.heap[f]?=K #[d,U,P,O,M,J,A,z,u,t,o] j (0,0)):bd w (((((((((((w.setCell f v0).setCell (f,1) v1).setCell (f,2) v2).setCell (f,3) v3).setCell (f,4) v4).setCell (f,5) v5).setCell (f,6) v6).setCell (f,7) v7).setCell (f,8) v8).setCell (f,9) v9).setCell (f,10) v10) f (K #[v0,v1,v2,v3,v4,v5,v6,v7,v8,v9,v10] j (0,0)):=by
 have V:bd w (w.setCell f v0) f (K #[v0,U,P,O,M,J,A,z,u,t,o] j (0,0)):=aF (j:=0) v0 C;have W:bd w ((w.setCell f v0).setCell (f,1) v1) f (K #[v0,v1,P,O,M,J,A,z,u,t,o] j (0,0)):=V.aJ (aF (j:=1) v1 V.at_);have X:bd w (((w.setCell f v0).setCell (f,1) v1).setCell (f,2) v2) f (K #[v0,v1,v2,O,M,J,A,z,u,t,o] j (0,0)):=W.aJ (aF (j:=2) v2 W.at_);have Z:bd w ((((w.setCell f v0).setCell (f,1) v1).setCell (f,2) v2).setCell (f,3) v3) f (K #[v0,v1,v2,v3,M,J,A,z,u,t,o] j (0,0)):=X.aJ (aF (j:=3) v3 X.at_);have a:bd w (((((w.setCell f v0).setCell (f,1) v1).setCell (f,2) v2).setCell (f,3) v3).setCell (f,4) v4) f (K #[v0,v1,v2,v3,v4,J,A,z,u,t,o] j (0,0)):=Z.aJ (aF (j:=4) v4 Z.at_);have b:bd w ((((((w.setCell f v0).setCell (f,1) v1).setCell (f,2) v2).setCell (f,3) v3).setCell (f,4) v4).setCell (f,5) v5) f (K #[v0,v1,v2,v3,v4,v5,A,z,u,t,o] j (0,0)):=a.aJ (aF (j:=5) v5 a.at_);have v:bd w (((((((w.setCell f v0).setCell (f,1) v1).setCell (f,2) v2).setCell (f,3) v3).setCell (f,4) v4).setCell (f,5) v5).setCell (f,6) v6) f (K #[v0,v1,v2,v3,v4,v5,v6,z,u,t,o] j (0,0)):=b.aJ (aF (j:=6) v6 b.at_);have x:bd w ((((((((w.setCell f v0).setCell (f,1) v1).setCell (f,2) v2).setCell (f,3) v3).setCell (f,4) v4).setCell (f,5) v5).setCell (f,6) v6).setCell (f,7) v7) f (K #[v0,v1,v2,v3,v4,v5,v6,v7,u,t,o] j (0,0)):=v.aJ (aF (j:=7) v7 v.at_);have y:bd w (((((((((w.setCell f v0).setCell (f,1) v1).setCell (f,2) v2).setCell (f,3) v3).setCell (f,4) v4).setCell (f,5) v5).setCell (f,6) v6).setCell (f,7) v7).setCell (f,8) v8) f (K #[v0,v1,v2,v3,v4,v5,v6,v7,v8,t,o] j (0,0)):=x.aJ (aF (j:=8) v8 x.at_);have c:bd w ((((((((((w.setCell f v0).setCell (f,1) v1).setCell (f,2) v2).setCell (f,3) v3).setCell (f,4) v4).setCell (f,5) v5).setCell (f,6) v6).setCell (f,7) v7).setCell (f,8) v8).setCell (f,9) v9) f (K #[v0,v1,v2,v3,v4,v5,v6,v7,v8,v9,o] j (0,0)):=y.aJ (aF (j:=9) v9 y.at_);have e:bd w (((((((((((w.setCell f v0).setCell (f,1) v1).setCell (f,2) v2).setCell (f,3) v3).setCell (f,4) v4).setCell (f,5) v5).setCell (f,6) v6).setCell (f,7) v7).setCell (f,8) v8).setCell (f,9) v9).setCell (f,10) v10) f (K #[v0,v1,v2,v3,v4,v5,v6,v7,v8,v9,v10] j (0,0)):=c.aJ (aF (j:=10) v10 c.at_);exact e
end Gt
namespace Gt
open Fd (bh)
variable {w w' w2 W W':ν}{B g s r b:Nat}{S z S2:Gs}{x x':St}{P E F:List Int}{t:ByteArray}{V:Bool->Prop}
structure TQ (w:L)(B g:D)(Oq:C)(i:D)(S:Gs)(wr:L):Prop where
 aO:cw wr B g S
 od:bD S [] [] []
 G:S.G<=i
 aY:S.aY<=1000*(i:C)
 Oq:S.md.aN=Oq
 gi:T w w wr
def cw.dn (f:cw w B g S)(j:Fz B [136,84,373,149,158,178,154,101,192,185,518,9] [S.m,S.q,S.p.r,S.p.m,S.p.k] w w'):T B w w':=j.dn (λx c=>by
 have o:=f.ok.lo;have u:=f.cl.dK;have A:=f.ok.b
 simp only[GF,Hv,Xf] at c
 rcases c with rfl|rfl|rfl|rfl|rfl<;>omega) f.lt
def TQ.fb {d:C}{o:D}{wr w2:L}(f:TQ w B g d o S wr)(u:w.heap.size<=B)(A:cw w2 B g z)(J:Fz B [136,84,373,149,158,178,154,101,192,185,518,9] [S.m,S.q,S.p.r,S.p.m,S.p.k] wr w2)(j:Ux S z):TQ w B g d (o+1) z w2:=
 ⟨A,j.od f.od,by have:=f.G;have:=j.G;omega,by have:=f.aY;have:=j.c1;push_cast;omega,j.Oq.t f.Oq,f.gi.t ((f.aO.dn J).m u)⟩
def bD.over (o:bD S [] [] [])(j:∀a∈S.T.ls,S.aY<a.dl)(hd:∀a∈S.T.ls,a.dl<=S.aY):S.T.ls=[]:=by
 cases f:S.T.ls with
 |nil=>rfl
 |cons a i=>have u:=j a (by rw[f];simp);have A:=hd a (by rw[f];simp);omega
def bD.jn (o:bD S [] [] [])(M:S.T.ls=[])(id:C):(id=0\/aT S.QL (il id)=J)/\aT S.FL (il id)=J/\Md.bN S.md []:=by
 refine⟨?_,?_,by have:=o.aZ;rwa [M] at this⟩
 .cases K:aT S.QL (il id) with
  |none=>exact j A
  |some a=>
   left;rcases o.ql (il id) (GL.2 ⟨_,cx K,A⟩) with O|⟨X,f,_⟩|⟨U,u,_⟩
   .exact jc O
   .rw[M] at f;cases f
   cases u
 cases K:aT S.FL (il id) with
 |none=>rfl
 |some a=>
  rcases o.fl (il id) (GL.2 ⟨_,cx K,A⟩) with⟨X,f,_⟩|⟨U,u,_⟩
  .rw[M] at f;cases f
  cases u
def UN:Ac:=⟨6,Fm.dz,ο J 0 0,1000,⟨#[]⟩⟩
def FN (w:L)(B g:D)(S:Gs)(j:He)(w':L):Prop:=∃z f,j=Γ f/\f.size=12/\(f.all (·.oneCell')=U/\f[0]?=G 0)/\cw w' B g z/\ρ B w w'/\bD z [] [] []/\z.T.ls=[]/\z.md.aN=S.md.aN
def Yk (w:L)(a:cw w B g S)(o:bD S [] [] [])(h:S.aY+1000<=1073741824):Y N 7 #[bh g,UN.cs] w (FN w B g S):=by
 refine(BQ 31 UN (λz x' _=>x'.e=0/\z.T.ls=[]/\z.md.aN=S.md.aN/\bD z [] [] []) w a dc A (enters_of Pn Qz A) (λ_ _ _ _ a _ _=>a) (λW s l b=>(BP UN W l dc).m ?_)).m ?_
 .rintro q w' ⟨rfl,⟨k,-⟩|⟨-,-,z,x',r,v,R,n,j,y,i,u,I⟩⟩
  .exact absurd ⟨by decide,by decide,h⟩ k
  have f:=i o;have j:z.aY=S.aY+1000:=j;refine⟨A,z,x',r,y,v,f.over (λc d=>(u c d).1) (λc d=>?_),n,f⟩;have:=o.dl c (u c d).2;omega
 rintro q w' ⟨z,x',T,rfl,H,J,K,O,U,X,Z⟩;obtain⟨m,p,rfl⟩:=aR J;exact⟨z,_,A,A,⟨vP x' m _ p,by show M (G x'.e)=_;rw[O]⟩,H,a.dn K,Z,U,X⟩
end Gt
namespace Gt
open Fd (bh)
variable {w w':ν}{B g s:Nat}{S:Gs}
def c9:Cf:=⟨0,9,0,0,0,0,0⟩
def agi:pX 23 7:=⟨⟨_,A,Pk⟩,by kernel_rfl⟩
def t69:pX 69 5:=⟨⟨_,A,underlying69⟩,by kernel_rfl⟩
def ael:hD 66 35 12:=.of (z:=t (x0.cs (P J 0 0))) (bytes:=136) underlying66 e r A r
def aem:hD 67 132 11:=.of (z:=t #[υ X,P J 0 0,P J 0 0,G 0,G 0,G 0,G 0,I,I,G 0,I]) (bytes:=144) underlying67 e r A r
def FO:E Ac:=[ac 0 Fm.A1,ac 3 Fm.dz,ac 2 Fm.dz]
def sq (f S:Gs)(K:D)(j o:π)(wr:L):Prop:=match K with
 |0=>S=f/\j=P J 0 0/\o=P J 0 0
 |1=>S={f with U:=[Fm.TA]}/\j=P J 0 0/\o=P J 0 0
 |2=>(∃t,S={f with U:=[],QL:=[(il 0,t)],G:=f.G+1}/\jY wr t [Fm.A1])/\j=P J 0 0/\o=P J 0 0
 |_=>(∃u A,j=P u 1 A)/\∃z,wr.ownsRow z 9 1 o 1 [O Fm.RB]
def TS (t:L)(tb B g:D)(z:Gs)(u:D)(wr:L):Prop:=∃S j f o A,T t t wr/\cw wr B g S/\wr.heap[tb]?=K #[j,f,o,P J 0 0,G 0] 69 (0,0)/\wr.ownsRow B 35 12 j u A/\sq z S u f o wr
def cw.aM {z:D}{A:Q π}{t:Λ}{u:D×D}(j:cw w B g S)(M:Fz B [136,84,373,149,158,178,154,101,192,185,518,9] [S.m,S.q,S.p.r,S.p.m,S.p.k] w w')(f:w.heap[z]?=K A t u)(J:t∉[136,84,373,149,158,178,154,101,192,185,518,9]):w'.heap[z]?=K A t u:=by
 refine Fz.aM M f J ?_;have o:=j.qy;simp only[GF,Hv,Xf,not_or];exact⟨λa=>j.dy.cS.bx _ _ _ (a▸f),λa=>j.oz.bx _ _ _ (a▸f),λa=>o S.p.r R _ _ _ (a▸f),λa=>o S.p.m R _ _ _ (a▸f),λa=>o S.p.k R _ _ _ (a▸f)⟩
def DoS (j:L)(B g:D)(o:Gs)(f:D)(u:He)(w':L):Prop:=∃(c:Gs) (a:St) (e:π),u=t (a.cs e)/\cw w' B g c/\w'.ownsRow B 9 1 e a.cN.length (a.cN.map O)/\(∃S:Gs,cw j B g S/\Fz B [136,84,373,149,158,178,154,101,192,185,518,9] [S.m,S.q,S.p.r,S.p.m,S.p.k] j w')/\a.got=⟨#[]⟩/\
 ((f<2/\a.cN=[]/\a.YM=X/\sq o c (f+1) (P J 0 0) (P J 0 0) w')\/(f=2/\a.cN=[Fm.RB]/\a.YM=U))
def sq.nil {t S:Gs}{f:D}{j o:π}{wr:L}(a:sq t S f j o wr)(u:f<3):j=P J 0 0/\o=P J 0 0:=by
 match f,u,a with
 |0,_,a=>exact a.2
 |1,_,a=>exact a.2
 |2,_,a=>exact a.2
def sq.fz {j S:Gs}{f:D}{o t:π}(a:sq j S f o t w)(u:f<3)(z:Fz B [35,69] [] w w'):sq j S f o t w':=by
 match f,u,a with
 |0,_,a=>exact a
 |1,_,a=>exact a
 |2,_,a=>
  let⟨⟨m,b,h⟩,i⟩:=a;exact⟨⟨m,b,h.aG λc k=>z.jJ (λp l=>by cases l) k R⟩,i⟩
def UO {f:Gs}{B g a:D}{h C:π}{X:Ac}{t wr:L}(b:FO[a]?=M X)(d:a<3)(c:sq f S a h C wr)(k:cw wr B g S)(Z:T wr wr t)(U:bD f [] [] [])(hF:rF f R0)(G:f.U=[])(v:f.QL=[]/\f.os=[])(I:f.G=0):
 Y N 7 #[bh g,X.cs] t (DoS t B g f a):=by
 have u:=k.aE Z;match a,d,b,c with
 |0,_,b,c=>
  cases b;obtain⟨rfl,-,-⟩:=c;apply(aga t u G).m;rintro e w' ⟨W,y,P,z,J,K,O,rfl,rfl⟩;exact⟨_,_,P,z,J,K,⟨_,u,O⟩,A,o ⟨H,A,A,A,A,A⟩⟩
 |1,_,b,c=>
  cases b;obtain⟨rfl,-,-⟩:=c;apply(agb t u A v.2 v.1 (H:f.G+1<=51)).m;rintro e w' ⟨W,y,P,z,J,K,O,⟨x,rfl,V⟩,rfl⟩;exact⟨_,_,P,z,J,K,⟨_,u,O⟩,A,o ⟨H,A,A,⟨x,A,V⟩,A,A⟩⟩
 |2,_,b,c=>
  cases b;obtain⟨⟨x,rfl,V⟩,-,-⟩:=c;apply(agc t u A (V.aG λg l=>Z.b g l.lt) ⟨U.aZ,λa d=>o (sU d),U.fl,U.dl⟩ (H:f.G+1+1<=51) ⟨hF.next,hF.aZ,hF.ls,hF.op,hF.most,hF.oZ⟩).m;rintro e w' ⟨W,y,P,z,J,K,O,i,E,F⟩;exact⟨_,_,P,z,J,K,⟨_,u,O⟩,F,j ⟨A,i,E⟩⟩
def agj (y8:∀(g8:Cf) w,eI w->g8.cg<=9223372036854775807->2<=(w:D)->τ γ 5 #[g8.cs] w λb w'=>zs w g8 b w')(c8 j0:D)(w:ν)(m4:eI w)(a3:2<=(w:D))(C0:3<=j0)(s3:∀c x,FO[c]?=M x->w.rangeAt c8 (c*11) x.cs.toList):
 τ γ 19 #[Γ c9.cs,P (M ⟨c8,0,J⟩) 3 j0] w λb w'=>(∃u0 l4 u1 c1 k7 c,b=ι (χ #[Γ #[P u0 3 l4,P u1 1 c1,k7,P J 0 0,Z u c],Z u 0])/\bS w' k7 [Fm.RB])/\T w w w':=by
 let⟨f9,j7,e6⟩:=aU w (K c9.cs 23);let⟨ai,z1,e7⟩:=aU f9 (K #[P J 0 0,P J 0 0,P J 0 0,P J 0 0,Z u 0] 69);have h3:=e6.aE.t (e7.aE.m e6.aE.z);have n6:=F (y8 c9 ai (m4.aE h3) r (GB a3 h3.z));have k0:=Below.ke e7.aE e6.at_;have y:=F (W e7.at_ (W h3 (W e6.aE.z (aw e7.at_))));have w7:=F (λa (i:T w w a) c x (p:FO[c]?=M x)=>(show a.rangeAt c8 (c*11) x.cs.toList from λa6 k6 j6=>Below.ce i (s3 c x p a6 k6 j6)));have D8:=F m4;show τ γ 19 #[Γ #[Z u 0,Z u 9,Z u 0,Z u 0,Z u 0,Z u 0,Z u 0],P (M ⟨c8,0,J⟩) 3 j0] w _;have j7:w.alloc (K #[Z u 0,Z u 9,Z u 0,Z u 0,Z u 0,Z u 0,Z u 0] 23)=f9:=j7;have k0:ai.heap[(w:D)]?=M (K #[Z u 0,Z u 9,Z u 0,Z u 0,Z u 0,Z u 0,Z u 0] 23 (0,0)):=k0;go_enter func19,ntmps19;go_wp2_with (first|(rw[j7])|(rw[z1])|(apply oc agi k0));apply n6.o.m;rintro b t ⟨i9,⟨x6,_⟩|⟨-,g,f,rfl,f1,o5,f2,f3,o7,y1,d1,o9,p0,y7,j4⟩⟩
 .exact absurd x6 r
 let⟨y0,z2,f8⟩:=aU t (K #[P J 0 0,P J 0 0,P J 0 0,P J 0 0,Z u 0] 69);have H0:=F (W f2 (W f3 (W o7 (W d1 (W o9 (W p0 j4))))));have o6:rF f R0:=⟨by rw[f3],λD7 p3=>by rw[f3] at p3;rw[GA.1 p3];decide,d1.1,d1.2.1,by rw[d1.2.2];decide,by rw[j4,YS]⟩;have x1:=F o6;have x5:Φ (TS ai (t:D) f.p.b g f 0 y0):=F ⟨f,_,_,_,[],i9.t (f8.aE.m i9.z),f1.aE f8.aE,f8.at_,GM _ _ _ _,rfl,rfl,rfl⟩;have q:=F (W o5 f1.lt);have B6:((0:C) !=0)=X:=r;clear f8 f2 f3 o7 y1 d1 o9 p0 y7 j4 f1 o5 n6 i9 o6;go_wp2_with (rw[z2]);go_loopw [26] (λiv wr=>∃c:D,c<=3/\iv=Z u c/\Φ (TS ai (t:D) f.p.b g f c wr)) (λiv _=>3-(QI iv).toNat);case atStart=>exact⟨0,H,rfl,x5⟩
 case round=>
  obtain⟨c,C4,rfl,n7⟩:=hrel;by_cases y3:c=3
  .subst y3;obtain⟨S,r2,A8,A9,p8,a8,a9,aj,e2,⟨A2,A3,rfl⟩,C8,f4⟩:=n7.o;obtain⟨g9,h0,rfl⟩:=aR e2;obtain⟨A6,A7,rfl⟩:=aR f4;have p4:=Below.ke a8 y.1;have Y:=aF (j:=4) (Z u S.aY) aj;let⟨g0,f5⟩:∃g0,wr.setCell ⟨(t:D),4,J⟩ (Z u S.aY)=g0:=⟨_,rfl⟩;rw[f5] at Y;have p6:(f9:D)<(t:D):=GP y.2.2.2 (GB q.1 q.2);have p5:=(Y.old (f9:D) (IM p6)).t p4;have c4:=cJ 4 aj;have B9:=aI aj;have k1:g0.heap[(t:D)]?=M (K #[P g9 3 h0,P A2 1 A3,P A6 1 A7,P J 0 0,S.aY] 69 (0,0)):=Y.at_;have w9:=F (OM wr a9);have i5:=F (W (Y.aE (w:D) w (GB y.2.2.1 (Nat.le_of_lt p6)) (y.2.1.t (a8.m y.2.1.z))) (aK f4 λL b=>Y.old L (λn=>by subst n;let⟨v,e⟩:=Fd.cH f4 b;have:=aj.s.t e;simp at this)));have C7:¬((3:D):C)<3:=H;clear a8 a9 aj e2 f4 p4 Y;go_wp2_with fail;apply w9.o.m;rintro b w' ⟨rfl,rfl⟩;go_wp2_with (first|(rw[f5])|(apply oc t69 k1)|(apply ia t69 p5;intro r3 b2));apply qG t69 b2.at_;exact⟨⟨_,_,_,_,_,_,rfl,da (xs:=[Fm.RB]) (aK i5.2 λL b=>b2.old L (λn=>by subst n;let⟨v,e⟩:=Fd.cH i5.2 b;have:=p5.s.t e;simp at this))⟩,b2.aE (w:D) w y.2.2.1 i5.1⟩
  have d2:c<3:=H;let⟨x,h⟩:∃x,FO[c]?=M x:=⟨_,Gf d2⟩;let⟨S,r2,A8,A9,p8,a8,a9,aj,e2,m3⟩:=n7.o;have s9:=w7.o wr (y.2.1.t (a8.m y.2.1.z)) c x h;have C2:(0:C)<=(c:C):=H;have C3:(c:C)<3:=H;have D0:u.wrap ((c:C)+1)=(c:C)+1:=GD _ H;let⟨g0,f5,Y⟩:=aU wr (K #[Z u 0,Z u 0,Z u 0,Z u 0,Z u 0,I,I,Z u 0,P J 0 0,Z u 0,I] 39);have k1:=Y.at_;have d4:=F (λa (i:T wr wr a)=>FM a (a9.aE i));have am:=F (W a8 (W a9 (W aj (W e2 m3))));have x2:=F Y.aE;have y9:x.cs.all (·.oneCell')=ψ:=by
   match c,d2,h with
   |0,_,h=>cases h;simp[ac,Ac.cs,φ]
   |1,_,h=>cases h;simp[ac,Ac.cs,φ]
   |2,_,h=>cases h;simp[ac,Ac.cs,φ]
  have x7:x.cs.size=11:=rfl;have r7:=F (λa (i:T wr wr a)=>UO h d2 m3 a9 i H0.1 x1.o H0.2.2.2.2.2.1.1 H0.2.2.2.2.1.2 H0.2.2.1);go_wp2_with (first|(apply Xj rfl 39 _ rfl c8 (c*11) rfl x.cs.toList _ s9 Pj rfl t39.aH)|(rw[f5])|(refine ia t39 k1 ?_ (h:=y9);intro r3 b2;have l2:=b2.aE _ _ (Gb _) x2.o;have z6:=b2.at_;have r9:=F (d4.o r3 l2);have n4:=F l2)|((with_reducible apply r9.o.m);rintro b B0 ⟨⟨E1,D2,B4,rfl⟩,l3⟩;have n1:=Below.ke l3 z6;have c0:=F (n4.o.t (l3.m n4.o.z));have r8:=F (r7.o B0 c0.o))|(refine oc t39 n1 ?_ (i:=x7)));apply r8.o.m;rintro b w8 ⟨k8,y5,k7,rfl,s6,m8,⟨E0,e1,e5⟩,s8,s7⟩;have m5:=e1.aM e5 (Below.ke c0.o am.2.2.1) r;have w0:=e1.aM e5 n1 r;have l8:w8.ownsRow f.p.b 35 12 r2 c p8:=aK (aQ am.2.2.2.1 c0.o) λgk b=>by
   let⟨v,e⟩:=Fd.cH (aQ am.2.2.2.1 c0.o) b;rw[e1.aM e5 e r,e]
  have s5:T ai ai w8:=(am.1.t (c0.o.m am.1.z)).t ((e1.dn e5).m q.1);obtain⟨ak,al,rfl⟩:=aR m8;obtain⟨rfl,rfl⟩:=am.2.2.2.2.nil d2;obtain⟨g9,h0,rfl⟩:=aR l8;let⟨D5,t8,n2⟩:=aU w8 (K #[Z u 0,Z u 0,υ X,Z u 0,Z u 0,Z u 0,Z u 0,I,I,Z u 0,P J 0 0,I] 35);have w1:=n2.at_;have j:=F (W s6 (W m8 (W s8 (W s7 (W l8 (W m5 (W w0 (W s5 n2.aE))))))));have z9:=aw m5;let⟨k5,k4,ae,⟨g2,g5,g4,aa,g7,g6,g3⟩,d,r5⟩:=y5;simp only[St.cs];have h9:=vP ⟨k5,k4,ae,⟨g2,g5,g4,aa,g7,g6,g3⟩,d,r5⟩ ak (d:D) al;simp only[St.cs] at h9;go_upto_region 10 with(first|(rw[t8])|(refine ia YQ w1 ?_ (h:=h9);intro n3 i3;have m9:=i3.at_;have i0:=(i3.old (t:D) (IM z9)).t (Below.ke j.2.2.2.2.2.2.2.2 j.2.2.2.2.2.1);have l4:=cJ 0 i0;have u7:=aI i0;have b9:=F (i3.aE (w8:D) w8 (Gb _) j.2.2.2.2.2.2.2.2)));have b4:=F (aQ j.2.2.2.2.1 b9.o);have x9:f.p.b<=(n3:D):=GB j.1.lt b9.o.z;have x3:=F h9;have n8:=F i0;go_upto_region 11 with(first|(apply oc YQ m9)|(at_builtin;refine aP ael b4.o x9 ?_ (A:=λk6 j6=>JA.1 x3.o k6 (sU j6));intro D3 i4 l7 l6;obtain⟨r0,r1,rfl⟩:=aR l7;have i1:=l6.aM n8.o (λb=>by let⟨v,e⟩:=Fd.cH b4.o b;rw[n8.o] at e;simp at e);have u4:=cJ 0 i1;have k9:=aI i1;have f0:=F i1;have m:=F (W l7 l6)));have ah:=aF (j:=0) (P r0 (c+1) r1) f0.o;let⟨d8,t7⟩:∃d8,i4.setCell ⟨(t:D),0,J⟩ (P r0 (c+1) r1)=d8:=⟨_,rfl⟩;rw[t7] at ah ⊢;have t9:=m.2.aM m9 (λb=>oA (bG j.2.2.2.2.1 b).2);have n0:=(ah.old (w8:D) H).t t9;have C9:(t:D)<(wr:D):=aw am.2.2.1;have q10:=Below.ke b9.o j.2.2.2.2.2.2.1;have q12:=(ah.old (wr:D) H).t (m.2.aM q10 (λn=>by let⟨u6,a3⟩:=Fd.cH b4.o n;rw[q10] at a3;simp at a3));have l9:=aQ j.2.1 b9.o;have m0:i4.ownsRow f.p.b 9 1 (P ak (d:D) al) (d:D) (d.map β):=aK l9 λgk b=>by
   let⟨v,e⟩:=Fd.cH l9 b;exact(m.2.aM e (λn=>by let⟨u6,a3⟩:=Fd.cH b4.o n;rw[e] at a3;simp at a3)).t e.s
  have m1:d8.ownsRow f.p.b 9 1 (P ak (d:D) al) (d:D) (d.map β):=aK m0 λgk b=>ah.old gk (λn=>by subst n;let⟨v,e⟩:=Fd.cH m0 b;have:=f0.o.s.t e;simp at this);have z3:(d:D)<=1:=by
   rcases j.2.2.2.1 with⟨_,p,_⟩|⟨_,p,_⟩
   .have p:d=[]:=p;rw[p];simp
   have p:d=[Fm.RB]:=p;rw[p];simp
  have k9:Fz f.p.b [35,69] [] n3 i4:=⟨m.2.os,m.2.cb,m.2.aW,m.2.aH,λL z0=>by
   by_cases g1:(P g9 c h0).ownBlock=M L
   .let⟨v,e⟩:=Fd.cH b4.o g1
    exact Θ (Ξ ⟨_,35,_,e,sm,(bG b4.o g1).1⟩)
   exact Ξ (m.2.aG L z0 g1)⟩
  have t4:=aK m.1 λgk b=>ah.old gk (λn=>by subst n;let⟨v,e⟩:=Fd.cH m.1 b;have:=f0.o.s.t e;simp at this);have h2:=F (W ((Fz.aE b9.o f.p.b [35,69] []).aJ (k9.aJ (Fz.cV ah f0.o sm q.2 []))) t4);have s2:=F (OL ak al f.p.b d d8 m1 z3);have c2:=cJ 2 ah.at_;have ag:=cJ 10 n0;have b7:=F (W ah.at_ (W n0 (W m1 q12)));go_wp2_with fail;apply s2.o.m;rintro b w4 ⟨⟨f6,f7,rfl,h8,t0⟩,N⟩;have R:=Below.ke N b7.1;have B3:=cJ 2 R;have B7:=aI R;have b0:=aF (j:=2) (P f6 (d:D) f7) R;let⟨k,p1⟩:∃k,w4.setCell ⟨(t:D),2,J⟩ (P f6 (d:D) f7)=k:=⟨_,rfl⟩;have i2:=(aF (j:=2) (P f6 (d:D) f7) R).old (w8:D) H|>.t (Below.ke N b7.2.1)
  have q14:=(aF (j:=2) (P f6 (d:D) f7) R).old (wr:D) H|>.t (Below.ke N b7.2.2.2)
  rw[p1] at b0 i2 q14;have h4:=h2.1.aJ ((Fz.aE N f.p.b [35,69] []).aJ (Fz.cV b0 R sm q.2 []));have l0:T f.p.b w8 k:=h4.dn nF j.1.lt;have w6:=F (aK (aQ b7.2.2.1 N) λgk b=>b0.old gk (λn=>by subst n;let⟨v,e⟩:=Fd.cH (aQ b7.2.2.1 N) b;have:=R.s.t e;simp at this));have ab:=F (W (j.1.fz h4 (λy4 j8=>by cases j8) (j.1.sk.at l0 (oB q.1 y.2.1.z)) sm sm) (W (j.2.2.2.2.2.2.2.1.t (l0.m q.1)) (aK (aQ h2.2 N) λgk b=>b0.old gk (λn=>by subst n;let⟨v,e⟩:=Fd.cH (aQ h2.2 N) b;have:=R.s.t e;simp at this))));have n5:=F (W h4 (aK (aQ h8 (Ge _ _)) λgk b=>b0.old gk (λn=>by subst n;let⟨v,e⟩:=Fd.cH h8 b;have:=R.s.t e;simp at this)));obtain rfl:r5=⟨#[]⟩:=j.2.2.1;have B5:=cJ 11 i2;have e9:=F (W b0.at_ (W i2 (W h8 (W N t0))));go_upto_region 14 with(rw[p1]);have x8:∃b6 r6,x=ac b6 r6/\b6≠1/\b6≠6:=by
   match c,d2,h with
   |0,_,h=>cases h;exact⟨_,_,rfl,r,r⟩
   |1,_,h=>cases h;exact⟨_,_,rfl,r,r⟩
   |2,_,h=>cases h;exact⟨_,_,rfl,r,r⟩
  obtain⟨b6,⟨o1,bs,o2,o0,o4,o3,bl⟩,rfl,h6,h7⟩:=x8;simp only[ac,Ac.cs] at q14;have d4:=F (λa (i:T k k a)=>FM a (ab.1.aE i));have O:=F (λa (i:T k k a)=>W (dA (Below.ke i q14)) (dA (Below.ke i e9.2.1)));let⟨ao,a0,d5,a5,a2,d7,a1,ag,h1⟩:∃(ao a0 d5 a5 a2:C) (d7 a1 ag:QE),Φ (∀(c7 j3:QV JM) (bm bc j2 j1:D) a,T k k a->τ γ 61 #[Γ #[Z u b6,o1,bs,o2,o0,o4,o3,bl,P J 0 0,Z u 0,I],Γ #[k5,k4,ae,g2,g5,g4,aa,g7,g6,g3,P ak (d:D) al,I],P c7 bm bc,P j3 j2 j1] a λb w'=>b=ι (χ #[Γ #[υ X,P J 0 0,P J 0 0,ao,a0,d5,a5,d7,a1,a2,ag],υ ae])/\T a a w'):=by
   rcases j.2.2.2.1 with⟨-,-,p,-⟩|⟨-,u9,p⟩
   .obtain rfl:ae=X:=p;exact⟨_,_,_,_,_,_,_,_,F λc7 j3 bm bc j2 j1 a i=>Yi _ _ _ _ _ _ _ _ _ _ _ _ _ _ _ _ _ _ _ _ _ _ _ _ _ _ _ _ _ _ _ _ a h6 h7⟩
   obtain rfl:ae=ψ:=p;obtain rfl:d=[Fm.RB]:=u9;have j5:∀a,T k k a->∃g o8,ak=M ⟨g,o8,J⟩/\([Fm.RB]:E QE).length<=al/\a.cell? ⟨g,o8,J⟩=M (β Fm.RB):=λa i=>by
    rcases(aQ w6.o i).2 with⟨p,_⟩|⟨u8,D6,v,p,-,f2,y6,-,f1,j5⟩
    .simp at p
    simp only[Gy] at p;obtain⟨rfl,-,rfl⟩:=p;refine⟨u8,0,rfl,y6,?_⟩;rw[Xe _ _ _ _ _ _ f2];have:(v.toList.take ([Fm.RB].length*1))[0]?=M (β Fm.RB):=j5▸rfl;simpa using this
   exact⟨_,_,_,_,_,_,_,_,F λc7 j3 bm bc j2 j1 a i=>UM _ _ _ _ _ _ _ _ _ _ _ _ _ _ _ _ _ _ _ _ _ _ _ _ _ _ _ _ _ _ _ _ Fm.RB a h6 h7 Nat.zero_lt_one (j5 a i)⟩
  have d9:T k k k.drew:=(Ge _ _).d;have e0:T k k (k.alloc (K #[υ X,P J 0 0,P J 0 0,Z u 0,Z u 0,Z u 0,Z u 0,I,I,Z u 0,I] 132)).drew:=((Ge _ _).a (Gb _) _).d;have w2:=O.o _ d9;have w3:=O.o _ e0;have D9:=F (W h6 h7);go_cut [13,14] (λu3 c7 r4=>∃L:D,u3=bh L/\c7=υ ae/\Φ (r4.heap[L]?=M (K #[υ X,P J 0 0,P J 0 0,ao,a0,d5,a5,d7,a1,a2,ag] 132 (0,0))/\T k k r4))
  case first=>
   go_region_held3 (λw'=>(∀a6,w'.cell? ⟨(wr:D),a6,J⟩=(#[Z u b6,o1,bs,o2,o0,o4,o3,bl,P J 0 0,Z u 0,I]:Q π)[a6]?)/\∀a6,w'.cell? ⟨(w8:D),a6,J⟩=(#[k5,k4,ae,g2,g5,g4,aa,g7,g6,g3,P ak (d:D) al,I]:Q π)[a6]?) (first|(with_reducible exact w2)|(with_reducible exact w3)|(with_reducible exact p9)|(with_reducible exact A4)|(with_reducible exact k2)|(with_reducible exact A5)|(with_reducible exact k3)|go_keep) (first|(go_at_call 59;(with_reducible apply(d4.o _ d9).m);rintro b a4 ⟨⟨u2,A0,u5,rfl⟩,d6⟩;have U:=F (d9.t (d6.m d9.z));have p9:=O.o a4 U.o;have e8:=F (U.o.t ((bo a4 (K #[υ X,P J 0 0,P J 0 0,Z u 0,Z u 0,Z u 0,Z u 0,I,I,Z u 0,I] 132)).aE.m U.o.z));have A4:=O.o _ e8.o)|(go_at_call 59;(with_reducible apply(d4.o _ e0).m);rintro b a4 ⟨⟨u2,A0,u5,rfl⟩,d6⟩;have U:=F (e0.t (d6.m e0.z));have p9:=O.o a4 U.o;have i8:=F (Below.ke d6 (show(k.alloc (K #[υ X,P J 0 0,P J 0 0,Z u 0,Z u 0,Z u 0,Z u 0,I,I,Z u 0,I] 132)).drew.heap[(k:D)]?=M (K #[υ X,P J 0 0,P J 0 0,Z u 0,Z u 0,Z u 0,Z u 0,I,I,Z u 0,I] 132) from Gc k (K #[υ X,P J 0 0,P J 0 0,Z u 0,Z u 0,Z u 0,Z u 0,I,I,Z u 0,I] 132))))|(go_at_call 61;(with_reducible apply(h1.o _ _ _ _ _ _ _ e8.o).m);rintro b G ⟨rfl,o⟩;have V:=F (e8.o.t (o.m e8.o.z));have k2:=O.o G V.o;have af:=YU (v0:=υ X) (v1:=P J 0 0) (v2:=P J 0 0) (v3:=Z u ao) (v4:=Z u a0) (v5:=Z u d5) (v6:=Z u a5) (v7:=β d7) (v8:=β a1) (v9:=Z u a2) (v10:=β ag) (Below.ke o (Gc a4 (K #[υ X,P J 0 0,P J 0 0,Z u 0,Z u 0,Z u 0,Z u 0,I,I,Z u 0,I] 132)));have b3:=F (af.aE (k:D) k U.o.z V.o);have k3:=O.o _ b3.o;have i7:=F af.at_;have z8:=dA (Below.ke o (Gc a4 (K #[υ X,P J 0 0,P J 0 0,Z u 0,Z u 0,Z u 0,Z u 0,I,I,Z u 0,I] 132)));have B1:=aI (Below.ke o (Gc a4 (K #[υ X,P J 0 0,P J 0 0,Z u 0,Z u 0,Z u 0,Z u 0,I,I,Z u 0,I] 132))))|(go_at_call 61;(with_reducible apply(h1.o _ _ _ _ _ _ _ U.o).m);rintro b G ⟨rfl,o⟩;have V:=F (U.o.t (o.m U.o.z));have k2:=O.o G V.o;have af:=YU (v0:=υ X) (v1:=P J 0 0) (v2:=P J 0 0) (v3:=Z u ao) (v4:=Z u a0) (v5:=Z u d5) (v6:=Z u a5) (v7:=β d7) (v8:=β a1) (v9:=Z u a2) (v10:=β ag) (Below.ke o i8.o);have z8:=dA (Below.ke o i8.o);have B1:=aI (Below.ke o i8.o);have b3:=F (af.aE (k:D) k (Gb _) V.o);have k3:=O.o _ b3.o;have i7:=F af.at_)|(go_at_call 61;(with_reducible apply(h1.o _ _ _ _ _ _ _ U.o).m);rintro b G ⟨rfl,o⟩;have V:=F (U.o.t (o.m U.o.z));have k2:=O.o G V.o;have w5:=F (V.o.t ((bo G (K #[υ X,P J 0 0,P J 0 0,Z u 0,Z u 0,Z u 0,Z u 0,I,I,Z u 0,I] 132)).aE.m V.o.z));have A5:=O.o _ w5.o;have b3:=F (V.o.t ((bo G (K #[υ X,P J 0 0,P J 0 0,ao,a0,d5,a5,d7,a1,a2,ag] 132)).aE.m V.o.z));have k3:=O.o _ b3.o;have i7:=F (Gc G (K #[υ X,P J 0 0,P J 0 0,ao,a0,d5,a5,d7,a1,a2,ag] 132))));all_goals
    go_wp2_with fail;go_meet;exact⟨_,rfl,rfl,F ⟨i7.o,b3.o⟩⟩
  case rest=>
   obtain⟨L,rfl,rfl,b5⟩:=hcut;have a7:=b5.2;rcases j.2.2.2.1 with⟨C5,z4,j9,t6⟩|⟨y2,z5,j9⟩
   .obtain rfl:d=[]:=z4;obtain rfl:ae=X:=j9;obtain⟨rfl,rfl⟩:=e9.2.2.2.2 rfl;have i6:Φ (TS ai (t:D) f.p.b g f (c+1) wc):=F ⟨k8,_,_,_,_,ab.2.1.t (a7.m ab.2.1.z),ab.1.aE a7,Below.ke a7 e9.1,aQ ab.2.2 a7,t6.fz H (n5.1.then a7)⟩;go_wp2;go_roundw;case rel=>exact⟨c+1,H,gN,i6⟩
    case measure=>simp[QI];omega
   obtain rfl:d=[Fm.RB]:=z5;obtain rfl:ae=ψ:=j9;subst y2;have m6:=Below.ke a7 e9.1;have c1:=cJ 1 m6;have z7:=b5.1;have x4:=F m6;go_wp2_with (first|(apply oc Ei z7)|(at_builtin;apply aP aem (GM wc (wc:D) 132 11) (Gb _);intro D4 G t5 t3;obtain⟨n9,p7,rfl⟩:=aR t5;have o:=t3.cE (Gb _) nF;have e4:=Below.ke o x4.o;have B2:=cJ 1 e4;have B8:=aI e4;have af:=aF (j:=1) (P n9 1 p7) e4;let⟨d3,p2⟩:∃d3,G.setCell ⟨(t:D),1,J⟩ (P n9 1 p7)=d3:=⟨_,rfl⟩;rw[p2] at af;have l:=F (W af (W o e4)))|(rw[p2]));have h5:=ab.1.aE b5.2;have l5:Fz f.p.b [35,69] [] wc d3:=(Fz.aE l.2.1 _ _ _).aJ (Fz.cV l.1 l.2.2 sm q.2 []);have l1:T f.p.b wc d3:=l5.dn nF h5.lt;have m2:=aQ (aQ ab.2.2 b5.2) l.2.1;have m7:=aQ (aQ n5.2 b5.2) l.2.1;have i6:Φ (TS ai (t:D) f.p.b g f 3 d3):=F ⟨k8,_,_,_,_,(ab.2.1.t (b5.2.m ab.2.1.z)).t (l1.m q.1),h5.fz l5 (λy4 j8=>by cases j8) (h5.sk.at l1 (oB q.1 y.2.1.z)) sm sm,l.1.at_,aK m2 λgk b=>l.1.old gk (λn=>by subst n;let⟨v,e⟩:=Fd.cH m2 b;have:=l.2.2.s.t e;simp at this),⟨_,_,rfl⟩,_,aK m7 λgk b=>l.1.old gk (λn=>by subst n;let⟨v,e⟩:=Fd.cH m7 b;have:=l.2.2.s.t e;simp at this)⟩;go_roundw;case rel=>exact⟨3,H,gN,i6⟩
   case measure=>simp[QI]
end Gt
namespace Gt
open Fd (bh)
variable {w w' w2 W W':ν}{B g s r b:Nat}{S S' S2:Gs}{x x':St}{P E F:List Int}{t:ByteArray}{V:Bool->Prop}
def UP {f:Md.dY}(j:Md.Ok f)(z:Md.bN f []):(((f.vs:D):D):C)=f.next-max 0 (f.next-f.aN)/\1<=(f.vs:D)/\∀(c:D) x,f.vs[c]?=M x->x.aG=max 0 (f.next-f.aN)+(c:C):=by
 have u:=Md.ab5 j z;have O:=j.w1;have K:=j.n1;have J:(f.vs:D)=(f.next-max 0 (f.next-f.aN)).toNat:=by
  have:=Xl List.length u;simpa using this
 refine⟨H,H,λc x h=>?_⟩;have o:=Xl (λa:List C=>a[c]?) u;simp only[Ip,h,JR] at o;have A:=(Gg.1 h).1;rw[Pp H] at o;simpa using o
def t23:pX 23 7:=⟨⟨_,A,Pk⟩,by kernel_rfl⟩
def nz.aE {j:π}{f:List Ac}(K:nz w j f)(b:T w w w'):nz w' j f:=by
 obtain⟨u,o,rfl,U⟩:=K;refine⟨u,o,A,λn x v=>?_⟩;obtain⟨⟨g,c,J,X,Z⟩,z,M,O⟩:=U n x v;exact⟨⟨g,c,J,X,λm y a=>b.ce (Z m y a)⟩,z,M.aE b,O⟩
def Eh.aE {x:Ac}(f:Eh w x)(b:T w w w'):Eh w' x:=by
 obtain⟨⟨o,j,u⟩,z⟩:=f;exact⟨⟨o,j.aE b,u⟩,z⟩
theorem Cd (g5:∀w,eI w->τ γ 4 #[] w λd w'=>d=υ ψ/\ρ w w w')(i2:∀(a:Cf) w,eI w->a.cg<=9223372036854775807->2<=(w:D)->τ γ 5 #[Γ a.cs] w λd w'=>zs w a d w')
 (a:Cf) (M:List Ac) (K:C) (b6:π) (w:ν) (e4:eI w) (j5:2<=(w:D)) (j1:nz w b6 M) (h7:(M:D)<=9223372036854775807) (i7:a.cg<=9223372036854775807) (i9: -9223372036854775808<=K/\K<=9223372036854775807) (h5:∀x∈M,(-9223372036854775808<=x.bq/\x.bq<=9223372036854775807)/\-9223372036854775808<=x.n/\x.n<=9223372036854775807):
 τ γ 3 #[Γ a.cs,b6,ϑ K] w λd w'=>d=υ ψ/\ρ w w w':=by
 have a5:=bo w (θ a.cs 23);let⟨a6,a0⟩:∃a6,w.alloc (θ a.cs 23)=a6:=⟨_,A⟩;rw[a0] at a5;have f1:=Ga (g5 a6 (e4.aE a5.aE));have H1:=Ga (κ a5.at_ a5.aE);have o:=Ga (κ e4 (κ j5 (κ j1 (κ h7 (κ i7 (κ i9 (κ h5 i2)))))));clear a5 e4 j5 j1 h7 i7 i9 h5 i2 g5;go_enter func3,ntmps3;go_wp2_with fail;go_call f1.o as d w2 ⟨rfl,b4⟩;have a1:=Below.ke b4 H1.1;have b9:=Ga b4;have i:=Ga (H1.2.t (b4.m H1.2.z));have c8:=Ga (o.2.2.2.2.2.2.2 a w2 (o.1.aE i.o) o.2.2.2.2.1 (GB o.2.1 i.o.z));clear b4 f1 a0;go_wp2_with (apply oc t23 a1);go_call c8.o as d b0 ⟨G,⟨q,n,rfl,m2⟩|⟨q,g,S,rfl,g6,g1,h0,i0,g4,p,-⟩⟩
 .have a4:=Below.ke G a1;have k:=Ga (i.o.t (G.m i.o.z));have R:=Ga (FH b6 M b0 (o.2.2.1.aE k.o) o.2.2.2.1);have n6:=Ga q;have c1:b0 ((w:D),1)=a.cg:=cR a4 A;clear G c8 a1 m2;go_wp2_with fail;go_call R.o as d w4 ⟨⟨Y,rfl,z⟩,rfl⟩;clear z R;cases Y with
  |false=>
   go_wp2;go_ret;exact⟨A,k.o⟩
  |true=>
   go_wp2;go_ret;exact⟨A,k.o⟩
 have a4:=Below.ke G a1;have k:=Ga (i.o.t (G.m i.o.z));have R:=Ga (FH b6 M b0 (o.2.2.1.aE k.o) o.2.2.2.1);have a8:=Ga (GB b9.o.z g1);have d1:=QC (TQ a6 S.p.b g (min (max a.aN 1) 8) 0 S b0) ⟨g6,h0,Iu g4,by rw[p];simp,by rw[i0],b9.o.t (G.m b9.o.z)⟩;have c1:b0 ((w:D),1)=a.cg:=cR a4 A;have o8:¬a.cg<1:=om;generalize S.p.b=B at d1 a8;have n7:=Ga a4;clear G c8 a1 g6 g1 h0 i0 g4 p q a4;go_wp2_with fail;go_call R.o as d w4 ⟨⟨Y,rfl,z⟩,rfl⟩;have k2:=Ga z;clear z R;cases Y with
 |false=>
  go_wp2;go_ret;exact⟨A,k.o⟩
 |true=>
  let⟨o0,g8⟩:=k2.o A;have k3:=Ga g8;obtain⟨n4,ac,rfl,i8⟩:=o.2.2.1;have k7:=Ga i8;clear g8 i8 c1;go_wp2;go_loopw [11] (λiv wr=>∃J:D,J<=(M:D)/\iv=ϑ J/\Φ (∃S,TQ a6 B g (min (max a.aN 1) 8) J S wr)) (λiv _=>(M:D)-(QI iv).toNat);case atStart=>exact⟨0,om,A,Ga ⟨S,d1.o⟩⟩
  case round=>
   obtain⟨J,l6,rfl,f4⟩:=hrel;let⟨S1,i4⟩:=f4.o;have O:=Ga i4;clear i4 f4 d1;by_cases h4:J<(M:D)
   .let⟨x,b3⟩:∃x,M[J]?=δ x:=⟨_,Gf h4⟩;obtain⟨⟨f8,j7,rfl,af,q⟩,e8,e1,-⟩:=k7.o J x b3;have m3:wr.rangeAt f8 (j7+J*11) x.cs.toList:=λj8 n3 l8=>Below.ce O.o.gi (Below.ce H1.2 (q j8 n3 l8));let⟨⟨n9,g7,p⟩,m6,l9,m0⟩:=k3.o x (Gl b3);have m4:(e8:D)<=45:=by
     let⟨_,_,l2,_⟩:=e1.bZ;let⟨_,_,f7,_⟩:=g7.bZ;rw[l2] at f7;simp[Gy] at f7;omega
    let⟨h1,h2,h3⟩:=o.2.2.2.2.2.2.1 x (Gl b3);have k5:=QC (τ γ 7 #[bh g,Γ x.cs.toList.toArray] wr λd w'=>BT wr B g S1 d w') (abd x e8 wr O.o.aO O.o.od h1 ⟨h2,h3⟩ (oe.of e1 (H1.2.t (O.o.gi.m H1.2.z)) (GB H1.2.z a8.o)) om ⟨om,om,om⟩ (oA O.o.G));have o5:(J:C)<((M:D):C):=om;have o4:(0:C)<=(J:C):=om;have l5:u.wrap ((J:C)+1)=(J:C)+1:=QQ om;clear b3 af q e1 p g7 m4 m6 l9 m0 h1 h2 h3;go_wp2_with (first|(apply Xj A 39 _ A f8 (j7+J*11) A x.cs.toList _ m3 Pj A t39.aH)|((with_reducible apply k5.o.m);rintro d v ⟨U,l1,rfl,b2,ae,j6,i6⟩;have j:=Ga (O.o.fb a8.o ae j6 i6);clear b2 ae j6 i6));go_roundw;case rel=>exact⟨J+1,om,sm,Ga ⟨U,j.o⟩⟩
    case measure=>simp[QI];omega
   have l7:¬((J:C)<((M:D):C)):=om;have f5:=QC (τ γ 7 #[bh g,Γ #[ϑ 6,ϑ 0,ϑ 0,ϑ 0,ϑ 0,β ⟨#[]⟩,β ⟨#[]⟩,ϑ 0,ο ζ 0 0,ϑ 1000,β ⟨#[]⟩]] wr λd w'=>FN wr B g S1 d w') (Yk wr O.o.aO O.o.od (oA O.o.aY));clear l6 h4;go_upto_region 13 with(first|((with_reducible apply f5.o.m);rintro d v ⟨U,l1,rfl,b2,⟨i3,f9⟩,ae,f6,g9,h9,j2⟩;have j:=Ga (κ ae (κ (O.o.gi.t (f6.m a8.o)) (κ g9 (κ h9 (j2.t O.o.Oq)))));clear ae f6 g9 h9 j2)|(apply EL YQ rfl _ _ rfl rfl rfl b2 i3 rfl (Gc v _);intro e7 e6));have d8:ρ v v e7:=e6.aE (v:D) v QD ((Ge _ v).a QD _);have a7:=Ga (κ (j.1.aE d8) (j.2.1.t (d8.m j.2.1.z)));have l3:e7 v=ϑ 0:=cR e6.at_ f9;have j9:=Ga (BU e7 a7.1);have m:=Ga (j.2.2.1.jn j.2.2.2.1 K);have d2:=Ga (UP j.1.cl.ok m.2.2);clear e6 d8 f9 b2 i3 f5;go_upto_region 14 with((with_reducible go_call j9.o as d e9 ⟨⟨n2,rfl,e0⟩,b5⟩);obtain⟨T,bc,rfl⟩:=aR e0;have l4:=Below.ce b5 l3;have f2:=Ga e0;have N:=Ga (κ (a7.o.1.aE b5) (a7.o.2.t (b5.m a7.o.2.z)));clear e0 b5);let⟨c,L⟩:∃c,(U.md.vs:D)=c+1:=⟨(U.md.vs:D)-1,oA d2.2.1⟩;obtain⟨ab,rfl,o1,d9⟩:∃ab,T=δ ⟨ab,0,ζ⟩/\c+1<=bc/\∀e,e<c+1->e9 ⟨ab,e,ζ⟩=ϑ (max 0 (U.md.next-U.md.aN)+(e:C)):=by
    rcases fy (enc:=b1) (λ_=>rfl) f2.o with⟨_,d⟩|⟨ab,n5,d,o2,_,_,p⟩
    .rw[d] at L;simp at L
    simp only[Gy] at d;refine⟨ab,d.1,oA d.2.2,λe af=>?_⟩;let⟨b7,j4⟩:∃b7,U.md.vs[e]?=δ b7:=⟨_,Gf om⟩;have g0:=p e b7 0 j4 Nat.zero_lt_one;rw[Ny,JC] at g0;rw[g0,<-d2.2.2 e b7 j4];rfl
   have e2:=d2.1;have j3:=j.2.2.2.2;have a0:=j.1.cl.ok.w1;have i1:=j.1.cl.ok.n1;have a9:=j.1.cl.ok.n2;rw[L] at e2;have k0:=Ga d9;have c7:=Ga (κ L (κ e2 (κ j3 (κ a0 (κ i1 a9)))));generalize g3:max 0 (U.md.next-U.md.aN)=f at *;rw[L];have l0:=d9 c om;have p3:((c:C)+1==0)=σ:=QB;have p4:u.wrap (c:C)=c:=QQ om;have p6:(0:C)<=(c:C):=om;have p7:(c:C)<(c:C)+1:=om;have p8:(c:C)+1-1=c:=om;have f3:=Ga g3;clear d9 e2 j3 a0 i1 a9 L g3 f2 l7;go_upto_region 17 with fail;have n1:=Below.ke N.2 H1.1;have k9:e9 ((w:D),0)=a.aN:=cR n1 A;have o9:0<=f/\f<=1048576:=oB c7.o f3.o;have o7:(c:C)<=1048576:=oA c7.o;have g2:max 0 (f+(c:C)-min (max a.aN 1) 8+1)=f:=oB c7.o f3.o;have u1:u.wrap (f+(c:C)-min (max a.aN 1) 8)=f+(c:C)-min (max a.aN 1) 8:=QQ om;have u2:u.wrap (f+(c:C)-min (max a.aN 1) 8+1)=f+(c:C)-min (max a.aN 1) 8+1:=QQ om;have k1:=Ga g2;clear g2;go_upto_region 18 with fail;rw[k1.o];clear u1 u2 l0 k9 l4;go_wp2;go_loopw [16] (λe5 wr=>∃e:D,e<=c+1/\e5=ϑ e/\wr=e9) (λe5 _=>c+1-(QI e5).toNat);case atStart=>exact⟨0,om,A,A⟩
   case round=>
    obtain⟨e,af,rfl,n0⟩:=hrel;obtain rfl:=n0;by_cases h6:e<c+1
    .have n8:=k0.o e h6;have m1:(e:C)<(c:C)+1:=om;have o6:(0:C)<=(e:C):=om;have l5:u.wrap ((e:C)+1)=(e:C)+1:=QQ om;have o3:u.wrap (f+(e:C))=f+(e:C):=QQ om;clear af;go_wp2;go_roundw;case rel=>exact⟨e+1,om,sm,tV⟩
     case measure=>simp[QI];omega
    have m1:¬((e:C)<(c:C)+1):=om;clear af h6;go_wp2_with fail;have k4:=Ga (oC wr N.1);have h8:(U.T.ls:D)=0:=j.2.2.2.1▸rfl;go_call k4.o as d w8 ⟨⟨p5,rfl,j0⟩,b8⟩;obtain⟨p9,r0,rfl⟩:=aR j0;have l:=Ga (κ (N.1.aE b8) (N.2.t (b8.m N.2.z)));clear j0 b8;rw[h8];clear h8;by_cases ag:K=0
    .have m5:(K==0)=ψ:=sU ag;have h:=l;have d4:=Ga (qD K w8 l.1 o.2.2.2.2.2.1);clear ag;go_wp2_with fail;go_call d4.o as d f0 ⟨⟨m7,rfl,a2⟩,H⟩;cases a2 m.2.1;have Z:=Ga (κ (h.1.aE H) (h.2.t (H.m h.2.z)));have c0:=Ga (qE K f0 Z.1 o.2.2.2.2.2.1);clear H a2;go_wp2_with fail;go_call c0.o as d wc ⟨⟨Y,rfl,z⟩,I⟩;cases z m.2.1;have y:=Ga (κ (Z.1.aE I) (Z.2.t (I.m Z.2.z)));have d3:=Ga (sp wc y.1);clear I z;go_wp2_with fail;go_call d3.o as d wd ⟨⟨m8,rfl,a3⟩,X⟩;have a9:=(a3 j.2.2.2.1).2;have d6:=Ga (y.2.t (X.m y.2.z));clear X a3;have q1:u.wrap (f+((c:C)+1))=f+((c:C)+1):=QQ om;have q2:u.wrap (f+((c:C)+1)-1)=f+(c:C):=(QQ om).t om;go_wp2;go_ret;exact⟨A,H1.2.t (d6.o.m H1.2.z)⟩
    have m5:(K==0)=σ:=sU ag;have k6:=Ga (Eg K w8 l.1 o.2.2.2.2.2.1);have k8:=Ga ag;clear ag;go_wp2_with fail;go_call k6.o as d m9 ⟨⟨p0,p2,p1,rfl,i5⟩,T⟩;cases i5 (m.1.resolve_left k8.o);have h:=Ga (κ (l.1.aE T) (l.2.t (T.m l.2.z)));have d4:=Ga (qD K m9 h.1 o.2.2.2.2.2.1);clear T i5;go_wp2_with fail;go_call d4.o as d f0 ⟨⟨m7,rfl,a2⟩,H⟩;cases a2 m.2.1;have Z:=Ga (κ (h.1.aE H) (h.2.t (H.m h.2.z)));have c0:=Ga (qE K f0 Z.1 o.2.2.2.2.2.1);clear H a2;go_wp2_with fail;go_call c0.o as d wc ⟨⟨Y,rfl,z⟩,I⟩;cases z m.2.1;have y:=Ga (κ (Z.1.aE I) (Z.2.t (I.m Z.2.z)));have d3:=Ga (sp wc y.1);clear I z;go_wp2_with fail;go_call d3.o as d wd ⟨⟨m8,rfl,a3⟩,X⟩;have a9:=(a3 j.2.2.2.1).2;have d6:=Ga (y.2.t (X.m y.2.z));clear X a3;have q1:u.wrap (f+((c:C)+1))=f+((c:C)+1):=QQ om;have q2:u.wrap (f+((c:C)+1)-1)=f+(c:C):=(QQ om).t om;go_wp2;go_ret;exact⟨A,H1.2.t (d6.o.m H1.2.z)⟩
end Gt
def jW.aE {A z:C}{u:Pl}{t:Md.dY}{j:E (IA×S)}{c:Cc.Ca}(f:jW g A z u t n j c s)(o:T s s l):jW g A z u t n j c l:=
 ⟨f.ch.aE o,f.md,f.cg,f.iY,f.oZ,f.xR,f.one,by obtain⟨P,O,M,K,J⟩:=f.WE;exact⟨P,O,M,K,J.aE o⟩⟩
def ago (f:L):jv (f.alloc (K #[O K1,O V1,z X] 56)) (P f 1 1) [C1]:=
 .cT (base:=f) ⟨A,j ⟨f,1,_,A,d,Gc _ _,by simp,by decide,A,A⟩⟩
def v1l:V1.toList=[118]:=by rw[Lib.toList_data];rfl
def OO (z:ν)(q:eI z):τ γ 4 #[] z λb d3=>b=υ ψ/\ρ z z d3:=by
 have ak:2<=z.heap.size:=q.kO.1;have aj:=F (Bv 2 50 1 z q dc);have j:=F (κ q ak);clear q ak;go_enter func4,ntmps4;go_wp2_with fail;go_call aj.o as b b4 (⟨r,-⟩|⟨-,b1,p,md,R,L,e1,a3,rfl⟩)
 .omega
 obtain⟨f5,am,h⟩:=aU b4 (K #[β ⟨#[107]⟩,β ⟨#[118]⟩,υ σ] 56);have n:=b1.t (h.aE.m b1.z);have S:=F (agn (a3.aE h.aE) (j.1.aE n) j.2 n.z (am▸ago b4));have a8:=F n;clear a3 b1 h n aj;go_wp2_with (rw[am]);go_call S.o as b d8 ⟨rfl,Z,a4⟩;have m:=F (a8.o.t Z);have ah:=F (a4 d8 QG);clear Z a4 S;go_wp2_with fail;go_call ah.o as b w4 ⟨rfl,a0⟩;have k:=F (m.o.t (a0.m m.o.z));have e:=F (Wi.UI w4 (j.1.aE k.o).dm);clear a0 ah;generalize e9:Wi.S1=S1 at e ⊢;go_wp2_with fail;go_call e.o as b w5 ⟨⟨v,rfl,f⟩,a1⟩;obtain⟨c7,c8,c0,rfl,-,-⟩:=Wi.rK f;have O:=F (k.o.t (a1.m k.o.z));obtain⟨f6,ao,i⟩:=aU w5 (K #[G 0,I,I,I,P J 0 0] 60);have ab:=QC (∀x,ρ w5 w5 x->_) λx a6=>UJ▸Wi.abr c7 c8 c0 x (j.1.aE (O.o.t (a6.m O.o.z))) (f.hQ a6);have a2:=i.at_;have ag:=F i.aE;clear f a1 i e;go_wp2_with (first|(rw[ao])|(refine EL Wi.UW A _ _ A A A A (by simp[φ]) A a2 ?_;intro d1 w;have a5:=w.at_;have g:=w.aE w5 w5 QD ag.o;have H:=F (O.o.t (g.m O.o.z));have ae:=F (ab.o d1 g);clear w g)|(refine zw Wi.UW A _ A A A a5 ?_));go_call ae.o as b w8 ⟨⟨v,rfl,e8,rfl,u,c1⟩,b8⟩;have N:=F (H.o.t (b8.m H.o.z));clear b8 ae ab a5 a2 ag ao;obtain⟨d2,b7,M⟩:=aU w8 (K #[G 0,G 0,G 0,G 1,G (-1),I,I,G 0,P J 0 0,G 0,I,G 3,G 0,G 0,G 0,G 0,I,I,G 0,P J 0 0,G 0,I,G 2,G 0,G 0,G 0,G 0,I,I,G 0,P J 0 0,G 0,I] 39);have U:=F (N.o.t (M.aE.m N.o.z));have ai:=F (Gt.agj Gt.BX w8 3 d2 (j.1.aE U.o) (GB j.2 U.o.z) QD (λc d4 r a f7 al=>by
  have f2:c<3:=(Gg.1 r).1
  rw[QH M.at_]
  rcases(by omega:c=0\/c=1\/c=2) with rfl|rfl|rfl<;>cases r<;>(have f1:a<11:=(Gg.1 al).1)<;>(rcases(by omega:a=0\/a=1\/a=2\/a=3\/a=4\/a=5\/a=6\/a=7\/a=8\/a=9\/a=10) with rfl|rfl|rfl|rfl|rfl|rfl|rfl|rfl|rfl|rfl|rfl)<;>exact al))
 have u:=M.aE.ce u;have c1:=M.aE.ce c1;clear M;go_wp2_with fail;go_call ai.o as b d ⟨⟨V,b2,X,b3,v,b0,rfl,f⟩,o⟩;obtain⟨d6,e0,d9,rfl,-,-⟩:=Wi.rK f;have l:=F (U.o.t (o.m U.o.z));have u:=o.ce u;have c1:=o.ce c1;clear ai o b7;obtain⟨f3,b6,s⟩:=aU d (K #[P J 0 0,P J 0 0,P J 0 0,P J 0 0,G 0] 69);have b9:=s.at_;have af:=F (κ s.aE f);have a9:=F (κ u c1);clear s f u c1;have f0:=v1l;go_wp2_with (first|(rw[b6])|(refine EL Gt.t69 A _ _ A A A A (by simp[φ]) A b9 ?_;intro a7 t;have d0:=cJ 0 t.at_;have e2:=cJ 1 t.at_;have e4:=cJ 2 t.at_;have e5:=cJ 3 t.at_;have e6:=cJ 4 t.at_;have W:ρ d d a7:=t.aE _ _ QD af.1;have e7:=W.ce a9.2;have y:=F (l.o.t (W.m l.o.z));have T:=F (Fm.ds V X J 3 b2 1 b3 0 0 b0 _ a7 (j.1.aE y.o).dm (af.2.hQ W));clear t W));go_call T.o as b f4 ⟨rfl,Y⟩;have b5:=F (y.o.t (Y.m y.o.z));clear Y T;go_wp2;go_ret;exact⟨A,b5.o⟩
namespace Gt
def zv (A:Cf)(o:E Ac)(j:C)(J:S)(f:L)(V:eI f)(X:2<=f.heap.size)(W:nz f J o)(M:o.length<=9223372036854775807)(O:A.cg<=9223372036854775807)(P: -9223372036854775808<=j/\j<=9223372036854775807)(K:∀u∈o,(-9223372036854775808<=u.bq/\u.bq<=9223372036854775807)/\-9223372036854775808<=u.n/\u.n<=9223372036854775807):
 Y N 3 #[t A.cs,J,G j] f λg a=>g=z U/\T f f a:=
 Cd OO BX A o j J f V X W M O P K
end Gt
namespace TopQuiet
theorem abw (J:Os)(a6:J.Started)(Y:Type)(z:Λ×π->Y):
 ReturnsInHanded {} Tryz.checked J 3 .any (λc a=>(Rows.topQuietSpec.pre z N Tryz.f3 [] σ c a/\laidMetH N BW c)/\sizedMet z N Tryz.f3 (OpenSpec.ofChange Rows.topQuietSpec) σ c a)
  (Rows.topQuietSpec.post z N Tryz.f3 σ U σ σ):=by
 refine returnsInHanded_of_change_and (C:=Tryz.checked) (X:=λc _=>laidMetH N BW c) (λ_ _ _ ai l=>l.of_heap ai) Uz a6 e Tryz.func3
  (ChangeSpec.witness_shaped (enc:=z) (C:=Tryz.checked) (os:=J) (X:=λc _=>laidMetH N BW c) σ (World.doorLaid N 21 J) #[t #[Z u 0,Z u 0,Z u 0,Z u 0,Z u 0,Z u 0,Z u 0],P ζ 0 0,Z u 0] 8 A (World.shaped_of_RefB e e) e e e (UA J _)) ?_
 intro j a7 a S c0 b3 n G _ _ ab _;have K:∀(w:D) F H,Tryz.f3.params[w]?=δ F->a[w]?=δ H->Value.okWide N j .any a7 F H:=n;have af:=G;obtain⟨b0,e0,g,ae,rfl,d1,d3⟩:=G;have d:DataW.TrodAll z N j 0 (λ_=>U) U Tryz.f3.params.toList a.toList S b0:=g;rw[Tryz.params3] at d K;obtain⟨s,d6,d0,b6,a1,q0,c8,rfl,rfl,V,a3⟩:=trodAll_cons d;obtain⟨I,d8,b4,b7,a2,q1,rfl,rfl,rfl,W,a4⟩:=trodAll_cons a3;obtain⟨i,d9,b5,b9,d4,q2,rfl,rfl,rfl,T,a5⟩:=trodAll_cons a4;obtain⟨rfl,rfl,rfl⟩:=trodAll_nil a5;obtain rfl:a=#[s,I,i]:=by cases a;simp_all
 obtain⟨rfl,rfl⟩:=trodVars_none ae;obtain⟨f,rfl,al⟩:∃f:Gt.Cf,s=t f.cs/\f.cg<=9223372036854775807:=by
  have m:=K 0 23 s A A;simp only[Value.okWide,Pk] at m;obtain⟨a8,rfl,-,-⟩:=m;obtain⟨a9,p⟩:=V;obtain⟨f,L,ak⟩:=UB p;exact⟨f,Xl t (PV.1 (show a8.toList=f.cs.toList from L)),ak⟩
 obtain⟨x,M,y,rfl⟩:=okWide_slice Tryz.underlying24 (K 1 24 I A A);obtain⟨R,rfl,rfl,rfl,v⟩:=open_int Hu (K 2 3 i A A) T;have am:∀b∈a1,b.block<j.heap.size:=by obtain⟨r,q⟩:=V;exact DataW.trod_lt r _ _ _ q
 have a0:∀b∈a2,b.block<j.heap.size:=by obtain⟨r,q⟩:=W;exact DataW.trod_lt r _ _ _ q
 obtain⟨o,c7,d2,ag,aj⟩:∃o:E Gt.Ac,o.length=M/\M<=9223372036854775807/\Gt.nz j (P x M y) o/\∀O∈o,(-9223372036854775808<=O.bq/\O.bq<=9223372036854775807)/\-9223372036854775808<=O.n/\O.n<=9223372036854775807:=by
  obtain⟨a9,p⟩:=W;exact OH p
 have h:=XY ab;clear g n;refine(Gt.zv f o R (P x M y) j h h.kO.1 ag om al (Yc v) aj).m λL b2 ⟨ah,k⟩=>?_;subst ah;exact⟨_,A,_,_,_,[],_,[],af,trodAll_mk1 (shut_bool Nw _),(trodAll_cons_mk (Below.trod BV e (XG e) V k am) (trodAll_cons_mk (Below.trod BV e (XG e) W k a0) (trodAll_cons_mk (shut_int Hu v) trodAll_mk0))),A,k.frame _,λl=>by cases l⟩
def Ek:Rows.TopQuietSaid:=
 OpenClaim.holds_of_wide 3 Tryz.f3 A A A A A A A ⟨A,A,A,A,A⟩ A A A A A e Tryz.func3 Ze
  (XG e) (by unfold Func.isWrapper;rw[QT (of_decide_eq_false e)];exact⟨A,A⟩)
  (λd b a c _=>abw d b a c)
theorem proved:Rows.TopQuietCardSaid:=
 Claim7.holds_tied_plain_at .later [] [.handle,.data] U (U, "b2ea5dded6934601dc57b3dbf39a5000ae908d381c37264d31cd6ac9392df8e9") U
  Ek (λ_ a=>by cases a) c1 (λ_ a=>by cases a) topQuiet_row_tie A ⟨A,A⟩ c2 A
  (λh d e g=>by
   obtain rfl:h=3:=Gm (e.s.t c5)
   obtain rfl:d=Tryz.f3:=Gm (g.s.t Tryz.func3)
   exact⟨c3,λi b c=>by
    rw[Tryz.params3] at c
    have f:b∈[23,24,3]:=by
     have:=Array.mem_of_getElem? c
     simp at this
     simp[this]
    exact(show Tryz.pinned.checked.prog.wantsStandIn b=X by simpa using LN.1 c6 b f)⟩)
  c4
end TopQuiet
end Go.Proofs.YtajnhfklchlahaaGreatDoor
