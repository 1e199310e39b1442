import Derived.Test.YtajnhfklchlahaaGreatDoorMAI
set_option linter.all false
set_option maxHeartbeats 6400000
set_option maxRecDepth 100000
namespace Go.Proofs.YtajnhfklchlahaaGreatDoor
open Go.Proofs.Tryz Go.RowKit Go.Shelf
open Bool renaming false->σ,false->X,true->ψ,true->U
open Go.IntKind renaming i64->u,u8->Ix
open Go.Obj renaming cells->θ,cells->K,deferred->Kc,loop->IK,map->Lz
open Go.RowKit renaming Below->ρ,Below->T,Hid->Φ,intOf->QI
open Go renaming Value->π,World->ν,Value->S,World->L,Calls->τ,Ending->He,Calls->Y,Lit->IA,maxLen->Ie,TypeId->Λ,wpList->Ji,Boxed->LP,callFunc->Xa,LoopState->Xh,run_takeDeferred->Xq,callsIn_wide->XC,callsIn_of_wp_marks->XD,underlying->XF,Oper->Le,Operand->Kg,execOp->Xb,wpListIn->Xn,Program->Xp,Addr->JM,binOp->Xc,run_underlying->Xo
open Go.Value renaming agg->Γ,int->ε,ownBlock->Ψ,pointer->ξ,string->β,agg->t,int->Z,pointer->V,string->O,oneCell'->φ,slice->ο,tuple->χ,slice->P,tuple->f,bool->υ,bool->z,func->Hl,iface->Δ,map->KD,nilIface->ω
open Option renaming none->ζ,some->δ,none->J,some->M
open Or renaming inl->Ξ,inr->Θ,inl->o,inr->j
open _root_ renaming rfl->A,ByteArray->B,Int->C,Nat->D,List->E,ByteArray->QE,Array->Q,UInt8->QO,Option->QV,and_true->QW,or_false->Xf,False->QZ
open YtajnhfklchlahaaGreatDoor renaming Ga->F,ϑ->G,om->H,eS->I,QD->d,Qz->e,dc->r,QC->y,sm->R
open Go.Ending renaming returned->ι
open Go.Proofs.Tryz renaming prog->γ,prog->N
open And renaming intro->κ,intro->W
open Go.Result renaming ok->Je,andThen->Ω
open UInt8 renaming ofNat->Ka
open Go.LoopState renaming ready->NG
open Go.World renaming setCell->PZ
open Go.Fn renaming func->Ic
variable {w q a i:Nat}{g s l:ν}{k:ByteArray}{n:List (IA×π)}{h:Array π}{m:π}{b:List π}{p:Λ}
namespace Cu
def TL:hD 531 543 3:=.of (z:=t #[I,I,I]) (bytes:=48) underlying531 e r A r
structure Td where
 bA:QE
 cm:QE
 qF:QE
def e3 (f:Td):E S:=[O f.bA,O f.cm,O f.qF]
def Td.Ok (j:D)(f:Td):Prop:=f.bA.size<=20*(j+1)/\f.cm.size<=80/\f.qF.size<=1000000
def Td.Ok.cz {o j:D}{t:Td}(f:t.Ok o)(u:o<=j):t.Ok j:=⟨by have:=f.1;omega,f.2⟩
structure cu (w:L)(B b s:D)(fr:QE)(td:E Td)(k:D):Prop where
 bO:∃v,w.heap[b]?=K #[V s,O fr,v,G (k:C)] 535/\w.ownsRow B 543 3 v td.length (td.flatMap e3)
 dK:B<=b/\s<B
 aH:B<=w.heap.size
 ok:∀x∈td,x.Ok k
 rz:k<=400
variable {w w':ν}{B b s:Nat}{fr:ByteArray}{td:List Td}{k:Nat}
def cu.aE (f:cu w B b s fr td k)(c:T w w w'):cu w' B b s fr td k:=by
 obtain⟨t,o,j⟩:=f.bO;exact⟨⟨t,c.ke o,aK j λg a=>c.b g (bG j a).2⟩,f.dK,GB f.aH c.z,f.ok,f.rz⟩
def cu.aV (o:cu w B b s fr td k):∃j,w b=V s/\w (b,1)=fr/\w (b,2)=M j/\w (b,3)=(k:C)/\(∀d,w.frozen? ⟨b,d,J⟩=X)/\w.ownsRow B 543 3 j td.length (td.flatMap e3):=by
 obtain⟨j,f,t⟩:=o.bO;exact⟨j,cR f A,cR f A,cR f A,cR f A,λd=>aI f d,t⟩
def cu.mP {t:L}{U v':S}{td':E Td}(u:cu w B b s fr td k)(y:w (b,2)=U)(f:aL (λe=>U.ownBlock=M e) w t)(x:t.ownsRow B 543 3 v' td'.length (td'.flatMap e3))(n:∀i∈td',i.Ok k):
 cu (t.setCell (b,2) v') B b s fr td' k/\Fz B [535,543] [] w (t.setCell (b,2) v'):=by
 obtain⟨P,z,Z⟩:=u.bO;obtain rfl:P=U:=by rw[QH z] at y;simpa using y
 have m:P.ownBlock≠M b:=λa=>by
  rcases Z.2 with⟨rfl,_⟩|⟨e,W,X,rfl,_,c,_⟩
  .cases a
  simp only[Ψ,Gd] at a;subst a;rw[z] at c;simp at c
 have d:t.heap[b]?=K #[V s,O fr,P,G (k:C)] 535:=(f.aG b (aw z) m).t z;have A:=aF (j:=2) v' d;have F:v'.ownBlock≠M b:=λa=>by
  rcases x.2 with⟨rfl,_⟩|⟨e,W,X,rfl,_,c,_⟩
  .cases a
  simp only[Ψ,Gd] at a;subst a;rw[d] at c;simp at c
 refine⟨⟨⟨v',A.at_,aK x λe c=>A.old e (λa=>F (a▸c))⟩,u.dK,?_,n,u.rz⟩,f.os,f.cb,f.aW,GB f.aH (Iu A.aH.s),λl h=>?_⟩
 .have p:=u.aH;have H:=A.aH;have I:=f.aH;omega
 by_cases v:l=b
 .subst v;exact Θ (o ⟨_,_,_,z,by simp,u.dK.1⟩)
 by_cases J:P.ownBlock=M l
 .rcases Z.2 with⟨rfl,_⟩|⟨e,W,X,rfl,g,c,_⟩
  .cases J
  simp only[Ψ,Gd] at J;subst J;exact Θ (o ⟨_,_,_,c,by simp,g⟩)
 exact o ((A.old l v).t (f.aG l h J))
end Cu
namespace Cu
def eA (j:g.ownsRow w q a m i b):∃t o f,m=P t o f:=by
 rcases j.2 with⟨rfl,_⟩|⟨J,z,u,rfl,_⟩<;>exact⟨_,_,_,A⟩
def vC (O:L)(B u M:D)(A:QE)(z:E Td)(J K:D)(t:He)(o:L):Prop:=t=f #[]/\(∃j,cu o B u M A j J/\j.length<=z.length+K)/\Fz B [535,543] [] O o
def cu.fk {j:E Td}(t:cu g w q a k j i)(o:T g g s)(u:D):vC g w q a k j i u (ι (f #[])) s:=⟨A,⟨j,t.aE o,by omega⟩,.aE o _ _ _⟩
def cu.YL {z:E Td}(K:cu g w q a k z i)(o:g (q,2)=m)(P:aL (λc=>m.ownBlock=M c) g s):s (q,2)=m/\∀b,s.frozen? ⟨q,b,J⟩=X:=by
 obtain⟨t,f,O⟩:=K.bO;obtain rfl:t=m:=by rw[QH f] at o;simpa using o
 have U:t.ownBlock≠M q:=λe=>by
  rcases O.2 with⟨rfl,_⟩|⟨c,V,B,rfl,_,u,_⟩
  .cases e
  simp only[Ψ,Gd] at e;subst e;rw[f] at u;simp at u
 have j:=(P.aG q (aw f) U).t f;exact⟨cR j A,λb=>aI j b⟩
def xF (B u P:D)(M:QE)(o:E Td)(K:D)(j U:QE)(f:ν)(z:cu f B u P M o K)(b:(⟨j,U,⟨#[]⟩⟩:Td).Ok K)(N:(o:D)<=100000):
 τ γ 355 #[ξ u,j,U] f (vC f B u P M o K 1):=by
 let⟨S,c,c1,n,e,r,a⟩:=z.aV;have m:=z.rz;have g:=F (Nib.px j f (oU b.1));have X:=F z;have k:=F b;have O:=QC (∀i,ρ f f i->vC f B u P M o K 1 (ι (χ #[])) i) λi d=>z.fk d 1;go_enter func355,ntmps355;go_wp2_with fail
 .exact QS (O.o _ QG)
 .exact QS (O.o _ QG)
 go_call g.o as t L ⟨rfl,b1⟩;let⟨l,h⟩:∃l,Nib.gm j.data.toList=l:=⟨_,A⟩;let⟨p,H⟩:∃p,Nib.bK (Nib.pw j.data.toList)=p:=⟨_,A⟩;rw[h,H];have W:=F b1;have J:=F (X.o.aE b1);let⟨Y,c,I,w,e,r,a⟩:=J.o.aV;have y:=F a;cases l with
 |false=>
  go_wp2;first|go_end0|apply QS
  exact O.o _ W.o
 |true=>
  go_wp2_with (at_builtin;apply aP TL y.o J.o.aH;intro T a0 V x;obtain⟨s,R,v,rfl⟩:=eA V;let⟨q,r⟩:=J.o.YL w x;have Z:=F (J.o.mP (td':=o++[⟨j,U,⟨#[]⟩⟩]) w x (by simpa[e3] using V) (λG b=>(GO.1 b).elim (X.o.ok G) (λb=>by cases GA.1 b;exact k.o))));first|go_end0|apply QS
  exact⟨A,⟨_,Z.1,sm⟩,(Fz.aE W.o _ _ _).aJ Z.2⟩
def xG (B t M:D)(o:QE)(e:E Td)(K:D)(c l:QE)(j:ν)(u:cu j B t M o e K)(d:(⟨c,⟨#[]⟩,l⟩:Td).Ok K)(X:(e:D)<=100000):
 Y N 356 #[ξ t,c,l] j (vC j B t M o e K 1):=by
 let⟨R,I,c1,q,G,m,n⟩:=u.aV;have W:=u.rz;have h:=Ga u;have U:=Ga d;have i:=Ga n;have P:=y (∀a,ρ j j a->vC j B t M o e K 1 (ι (f #[])) a) λa x=>u.fk x 1;have O:=y (Y N 222 #[o,c] j λk g=>k=z (Lib.hasPrefix o.data.toList c.data.toList)/\j=g) ((Any.strings_HasPrefix Tryz.lays99 o c j).m λk g ⟨v,w⟩=>⟨v,w.s⟩);generalize Z:Lib.hasPrefix o.data.toList c.data.toList=V at O;go_enter func356,ntmps356;cases V<;>go_wp2_with (first|((with_reducible go_call O.o as k J ⟨rfl,F⟩);subst F)|(at_builtin;apply aP TL i.o h.o.aH;intro S T s r;obtain⟨H,Q,L,rfl⟩:=eA s;let⟨p,m⟩:=h.o.YL q r;have b:=Ga (h.o.mP (td':=e++[⟨c,⟨#[]⟩,l⟩]) q r (by simpa[e3] using s) (λC d=>(GO.1 d).elim (h.o.ok C) (λd=>by cases GA.1 d;exact U.o)))));all_goals first|go_end0|apply QS
 all_goals first|exact P.o _ QG|exact⟨A,⟨_,b.1,sm⟩,b.2⟩
def WG (A:He):Prop:=∃o j u,ct o j/\A=f #[t o,z u]/\(u=U->hU j/\∀J,(j.r J).size<=1000000)
def Oi (B T b Y:D)(ab:C)(q:E (IA×π))(b2:QE)(b0:E Td)(k:D)(K:QE)(f:ν)(x:eI f)(w:bp f b Y ab q)(v:cu f B T b b2 b0 k)(U:K.size<=1000000):
 τ γ 360 #[ξ T,β K] f λm b4=>WG m/\ρ f f b4:=by
 let⟨R,r,a⟩:=aU f (θ zc 281);have b1:=a.aE;have N:ej R (f:D) bE:=a.at_;have ae:=F r;have n:=F (gL K R H);have ag:=F (v.aE b1);have a0:=F (w.aE b1);have a2:=F (x.aE b1);have h:=F b1;clear r a v w x b1;go_enter func360,ntmps360;go_wp2_with fail;rw[show(θ #[ϑ 0,I,I,I,I,I,I,I,I,I,I,I,I,I,I,I,I,I,I] 281)=θ zc 281 from rfl,ae.o];go_call n.o as m x0 ⟨a3,i⟩;have M:=F (h.o.t (i.m h.o.z));have ah:=F (ag.o.aE i);have a1:=F (a0.o.aE i);have L:=F (a2.o.aE i);have X:ej x0 (f:D) bE:=i.ke N;let⟨d2,c8,_⟩:=ah.o.aV;clear n i N;rcases a3 with rfl|⟨b3,a8,rfl⟩
 .have p:=F (fH K (λ_=>fN (K.size+1) K H U) x0 L.o.dm);go_wp2_with fail;go_call p.o as m e ⟨a4,g⟩;have O:=F (M.o.t (g.m M.o.z));have P:ej e (f:D) bE:=g.ke X;clear p g X;rcases a4 with⟨z,t,hd,J,_,s,a6,rfl⟩|rfl
  .have o:=QC (ct z t/\hU t/\∀k,(t.r k).size<=1000000) ⟨hd,J,λk=>oA (s k)⟩;clear hd J s a6;go_wp2_with (apply tS o.1 P;intro V j);refine tR j.at_ ?_ (h:=o.1.aH);exact⟨⟨z,t,ψ,o.1,rfl,λ_=>o.2⟩,j.aE _ _ d O.o⟩
  go_wp2_with (apply tS cA P;intro V j);apply tR j.at_;exact⟨⟨zc,bE,σ,cA,rfl,nF⟩,j.aE _ _ d O.o⟩
 have G:=F (hV b Y ab q b3 x0 a1.o (by unfold Ie;omega));clear a8;go_wp2_with fail;go_call G.o as m e ⟨u,Z⟩;have Z:=Z.s;subst Z;clear G;rcases u with⟨_,rfl⟩|⟨b9,b5,d1,c7,_,c,rfl⟩
 .go_wp2_with (apply tS cA X;intro V j);apply tR j.at_;exact⟨⟨zc,bE,σ,cA,rfl,nF⟩,j.aE _ _ d M.o⟩
 have l:=F (mS b5 c.aH x0 L.o.dm);have c0:=c.aH;clear c;go_wp2_with fail;go_call l.o as m e ⟨u,g⟩;have O:=F (M.o.t (g.m M.o.z));have P:ej e (f:D) bE:=g.ke X;have a7:(f:D)<(e:D):=aw P;obtain⟨z,t,W,hd,rfl,J⟩:∃z t W,ct z t/\m=χ #[Γ z,ϑ W]/\((W==0)=ψ->hU t/\∀k,(t.r k).size<=1000000):=by
  rcases u with⟨z,t,hd,J,U,y⟩|y
  .refine⟨z,t,0,hd,y,λ_=>⟨J,λk=>?_⟩⟩;rcases U with⟨_,rfl⟩|⟨_,U⟩
   .exact QK
   have:=U k;omega
  exact⟨zc,bE,2,cA,y,λv=>by simp at v⟩
 have o:=F (κ hd J);generalize b7:(W==0)=b6 at o;clear hd J u g l;go_wp2_with (first|(apply tS o.1 (Gc e _);intro V j;have a9:ej V (f:D) bE:=(j.old _ H).t ((GC e _ _ a7).t P);have a5:=j.at_;have af:=QC (ρ f f V) (j.aE _ _ H (O.o.a O.o.z _));clear j)|(refine tL a5 ?_ (f:=o.1.aH))|(apply tS o.1 a9;intro d3 S));refine tR S.at_ ?_ (h:=o.1.aH);exact⟨⟨z,t,b6,o.1,rfl,o.2⟩,S.aE _ _ d af.o⟩
def WH {m:D}{u:S}(O:g.ownsRow w q a u i b)(o:m<=i)(e:0<i):∃c f,u=P (M ⟨c,0,J⟩) i f/\i<=f/\g.ownsRow w q a (P (M ⟨c,0,J⟩) m f) m (b.take (m*a)):=by
 obtain⟨U,⟨rfl,v⟩|⟨c,t,K,rfl,W,Z,X,V,z,d⟩⟩:=O
 .omega
 refine⟨c,t,A,X,?_,j ⟨c,t,K,A,W,Z,H,V,z,?_⟩⟩
 .have:=JY a o;rw[GR,U];omega
 rw[<-d,Nq,Nh (JY a o)]
def vC.up {f j:E Td}{t o:D}{u:He}(A:vC s w q a k j i o u l)(z:Fz w [535,543] [] g s)(J:(j:D)+o<=(f:D)+t):vC g w q a k f i t u l:=let⟨c,⟨r,p,e⟩,b⟩:=A;⟨c,⟨r,p,H⟩,z.aJ b⟩
theorem sL (B o J:D)(z:QE)(M:E Td)(t:D)(n:Q π)(j:Nd)(X:QE)(f:ν)(a:cu f B o J z M t)(hd:ct n j)(u:hU j)(i:∀h,(j.r h).size<=1000000)(a8:X.size+12<=20*(t+1))(S:M.length<=90000):
 τ γ 352 #[ξ o,Γ n,β X] f λm a1=>vC f B o J z M t 17 m a1:=by
 have a9:=hd.aH;obtain⟨P,r,c⟩:=aU f (K n 281);obtain rfl:=hd.eq;have b1:=c.aE;have W:ej P f.heap.size j:=c.at_;have s:=a.aE b1;have a4:=a.rz;have a5:=u.bA;have R:=u.bL;have Y:P f=j.bq:=cR W A;have c1:P (f,1)=j.bA:=cR W A;have q:P (f,2)=j.bL:=cR W A;have ag:P (f,3)=(j.r 0):=cR W A;have x:=F r;have w:=F s;have ae:=F i;have ak:=i 0;have af:=F W;have v:=y (Fz B [535,543] [] f P) (.aE b1 _ _ _);have aj:=F c.aH;have d:=y (∀b h l m p,Fz B [535,543] [] f l->b.length+h<=M.length+17->vC l B o J z b t h m p->vC f B o J z M t 17 m p) λb h l m p a0 S a=>a.up a0 S;have ai:=u.bq;clear a s i W b1 c r hd u;rcases ai with u|u|u|u
 all_goals rw[u] at Y;clear u
 .go_enter func352,Qn;go_wp2_with (rw[x.o]);refine QS ?_;exact d.o _ 0 _ _ _ v.o H (w.o.fk QG 0)
 .have U:=F (xF B o J z M t (X++j.bA) j.bL P w.o ⟨by simp only[aA];omega,R,QK⟩ H);go_enter func352,Qn;go_wp2_with (first|(rw[x.o])|((with_reducible refine U.o.m ?_);rintro m V ⟨rfl,a⟩));refine QS ?_;exact d.o _ 1 _ _ _ v.o H ⟨A,a⟩
 .have U:=F (xG B o J z M t (X++j.bA) (j.r 0) P w.o ⟨by simp only[aA];omega,QK,ak⟩ H);go_enter func352,Qn;go_wp2_with (first|(rw[x.o])|((with_reducible refine U.o.m ?_);rintro m V ⟨rfl,a⟩));refine QS ?_;exact d.o _ 1 _ _ _ v.o H ⟨A,a⟩
 go_enter func352,Qn;go_wp2_with (rw[x.o]);clear Y c1 q ag;go_loopw [6] (λiv wr=>∃(h:D) (b:E Td),h<=16/\iv=ϑ ((h:C)-1)/\b.length+h<=M.length+16/\Φ (cu wr B o J z b t/\Fz B [535,543] [] f wr/\ej wr f.heap.size j/\f.heap.size<wr.heap.size)) (λiv _=>(QI iv+1).toNat);case atStart=>exact⟨16,M,by omega,A,by omega,F ⟨w.o,v.o,af.o,by rw[aj.o];omega⟩⟩
 case round=>
  obtain⟨h,b,a6,rfl,a7,O⟩:=hrel;have q:wr (f,2)=j.bL:=cR O.2.2.1 A;cases h with
  |zero=>
   have U:=F (xF B o J z b t X j.bL wr O.1 ⟨by simp only;omega,R,QK⟩ H);go_wp2_with (first|((with_reducible refine U.o.m ?_);rintro m V ⟨rfl,a⟩));refine QS ?_;exact d.o _ 1 _ _ _ O.2.1 H ⟨A,a⟩
  |succ e=>
   rw[show((e+1:D):C)-1=(e:C) by omega];have b2:(e:C)<16:=H;have b3:(0:C)<=(e:C):=H;have c1:wr (f,3+e)=(j.r e):=by rw[QH O.2.2.1];exact(jN j).qF e H
   have a3:=O.2.2.2;have u1:Ix.wrap (e:C)=(e:C):=Nj _ H;have N:=rL wr.drew e H;have ah:(convert 288 9 (ο (wr.heap.size,0) 1 1)).run γ (wr.alloc (K #[Z Ix (e:C)] 5)).drew=Je (β (tx [Ka e])) (wr.alloc (K #[Z Ix (e:C)] 5)).drew:=N;obtain⟨t1,k⟩:∃t1,t1=tx [Ka e]:=⟨_,A⟩;rw[<-k] at ah;have b0:t1.size<=1:=by rw[k];exact QD
   have I:=((Ge wr.heap.size wr).a QD (K #[Z Ix (e:C)] 5)).d;have U:=F (xG B o J z b t (X++t1) (j.r e) _ (O.1.aE I) ⟨by simp only[aA];omega,QK,ae.o e⟩ H);have G:=F I;clear N k I;go_upto_region 10 with fail;go_region_with ((with_reducible refine U.o.m ?_);rintro m V ⟨rfl,a⟩)
   all_goals
    obtain⟨⟨T,L,a2⟩,g⟩:=a;have ab:=y (cu V B o J z T t/\Fz B [535,543] [] f V/\ej V f.heap.size j/\f.heap.size<V.heap.size) ⟨L,O.2.1.aJ ((Fz.aE G.o _ _ _).aJ g),g.aM (Below.ke G.o O.2.2.1) sm sm,by have:=g.aH;have:=G.o.z;omega⟩;clear L g;go_wp2;go_roundw;case rel=>exact⟨e,T,by omega,by go_num,by omega,ab⟩
    case measure=>simp[QI]
end Cu
namespace Cu
variable {w w':ν}{B b s:Nat}{y:ByteArray}{z:List Td}{k:Nat}
def cu.EV (f:cu w B b s y z k)(O:k<400):cu (w.setCell (b,3) (G ((k:C)+1))) B b s y z (k+1)/\Fz B [535,543] [] w (w.setCell (b,3) (G ((k:C)+1))):=by
 obtain⟨A,o,t⟩:=f.bO;have j:=aF (j:=3) (G ((k:C)+1)) o;refine⟨⟨⟨A,j.at_,aK t λh e=>j.old h λi=>?_⟩,f.dK,by rw[j.aH];exact f.aH,λn l=>(f.ok n l).cz H,by omega⟩,Fz.cV j o R f.dK.1 _⟩;subst i;rcases t.2 with⟨rfl,_⟩|⟨M,J,K,rfl,_,u,_⟩
 .cases e
 simp only[Ψ,Gd] at e;subst e;rw[o] at u;simp at u
def aar (z:E Td):(z.flatMap e3:D)=(z:D)*3:=by
 induction z with
 |nil=>rfl
 |cons d c a=>rw[GV,Gk,a,Gx];show 3+_=_;omega
def cu.cf {j:Td}(O:cu w B b s y (z++[j]) k):∃f o,w (b,2)=P (M ⟨f,0,J⟩) (z.length+1) o/\z.length+1<=o/\f<w.heap.size/\w ⟨f,z.length*3,J⟩=j.bA/\w ⟨f,z.length*3+1,J⟩=j.cm/\w ⟨f,z.length*3+2,J⟩=j.qF:=by
 obtain⟨q,Z,c1,A,X,p,W⟩:=O.aV;rcases fy (enc:=e3) (λ_=>rfl) W with⟨_,U⟩|⟨f,o,rfl,K,_,V,t⟩
 .simp at U
 rw[Gk] at A K;have u:(z++[j])[z.length]?=j:=R;exact⟨f,o,A,K,V,t _ _ 0 u H,t _ _ 1 u H,t _ _ 2 u H⟩
def cu.FP {J:Td}{t j:D}(o:cu w B b s y (z++[J]) k)(u:w (b,2)=P t (z.length+1) j):
 cu (w.setCell (b,2) (P t z.length j)) B b s y z k/\Fz B [535,543] [] w (w.setCell (b,2) (P t z.length j)):=by
 obtain⟨U,_,_,f,_,_,A⟩:=o.aV;obtain⟨M,K,rfl,O,hcut⟩:=WH A (m:=z.length) R R;rw[u] at f;simp only[Gd,Gy,GS] at f;obtain⟨⟨rfl,_⟩,_,rfl⟩:=f;rw[Hj,List.take_left' (aar z)] at hcut;exact o.mP u (aL.bQ _ _) hcut λi h=>o.ok i (Jq _ h)
def cu.aas {O:Td}{o j:D}(u:cu w B b s y (z++[O]) k)(U:k<400)(M:w (b,2)=P o ((z:D)+1) j):
 ∃t f,w.setCell (b,3) (G ((k:C)+1))=t/\t.setCell (b,2) (P o (z:D) j)=f/\w (b,3)=(k:C)/\w.frozen? (b,3)=X/\
  t (b,2)=P o ((z:D)+1) j/\t.frozen? (b,2)=X/\cu f B b s y z (k+1)/\Fz B [535,543] [] w f/\∀a,a≠b->f.heap[a]?=w.heap[a]?:=by
 let⟨e,l,d⟩:=u.bO;let⟨_,_,_,_,p,c,_⟩:=u.aV;have J:=aF (j:=3) (G ((k:C)+1)) l;have K:(w.setCell (b,3) (G ((k:C)+1))) (b,2)=P o ((z:D)+1) j:=by
  rw[QH l] at M;rw[QH J.at_];simpa using M
 let⟨v,x⟩:=u.EV U;let⟨q,r⟩:=v.FP K;exact⟨_,_,A,A,p,c 3,K,aI J.at_ 2,q,x.aJ r,λa m=>(QJ m).t (J.old a m)⟩
def WI (w:L)(B b s:D)(y:QE)(j:He)(w':L):Prop:=∃f z k,j=υ f/\cu w' B b s y z k/\z.length<=17*k/\(f=U->z≠[])/\Fz B [535,543] [] w w'
def DM (B b s a0:D)(a1:C)(L:E (IA×π))(y:QE)(z:E Td)(k:D)(w:ν)(ab:eI w)(a7:2<=B)(ae:bp w s a0 a1 L)(m:cu w B b s y z k)(T:(z:D)<=17*k):
 τ γ 359 #[ξ b] w (WI w B b s y):=by
 have X:=F m;have a5:=F ab;have a4:=F ae;have a2:=F T;clear m ab ae T;go_enter func359,ntmps359;go_wp2;go_loopw [3] (λ_ wr=>∃z k,Φ (cu wr B b s y z k/\(z:D)<=17*k/\Fz B [535,543] [] w wr)) (λ_ wr=>400-(QI ((wr (b,3)).getD undef)).toNat)
 .exact⟨z,k,F ⟨X.o,a2.o,Fz.bQ _ _ _ _⟩⟩
 obtain⟨z,k,c⟩:=hrel;have d6:=c.1.rz;let⟨e5,_,_,n,l,_,x⟩:=c.1.aV;have b0:=F l;rcases LK z with rfl|⟨u,j,ag⟩
 .rcases fy (enc:=e3) (λ_=>rfl) x with⟨rfl,-⟩|⟨d1,c8,rfl,-⟩
  all_goals
   clear x;go_wp2;go_ret;exact⟨σ,[],k,rfl,c.1,c.2.1,nF,c.2.2⟩
 rw[LL] at ag;subst ag;clear n l x;let⟨d1,c8,n,d4,e0,x0,c0,c7⟩:=c.1.cf;have M:=c.1.ok j sm;have b4:(u:D)+1<=17*k:=sU c.2.1;let⟨_,_,_,_,l,aj,_⟩:=c.1.aV;have d3:b<(wr:D):=bH l;have e2:((u:D):C)<=80000:=H;by_cases J:j.cm.size=0
 .have b9:=cj J;have a6:=F M;by_cases b2:k<400
  .have e4:(k:C)<400:=H;have Z:=F (Oi B b s a0 a1 L y (u++[j]) k j.qF (wr.alloc (K #[O j.bA,O j.cm,O j.qF] 543)) (a5.o.at ((c.2.2.then ((Ge _ wr).a QD _)).dn sm X.o.aH) a7) (a4.o.fz (c.2.2.then ((Ge _ wr).a QD _)) (λ_ m=>by cases m) sm sm sm sm) (c.1.aE ((Ge _ wr).a QD _)) M.2.2);clear M J b4;go_wp2_with fail;go_call Z.o as z f ⟨⟨cs,d,ok,hd,rfl,R⟩,t⟩;have V:ρ wr wr f:=((Ge _ wr).a QD _).t (t.m sm);have P:f.heap[(wr:D)]?=K #[O j.bA,O j.cm,O j.qF] 543:=t.ke (Gc wr _);have o:=F (W V (W P (W hd R)));have b6:=hd.aH;have b5:(wr:D)<(f:D):=aw P;have a8:=F n;clear Z t V P R x0 c0 c7 n l aj;cases ok with
   |false=>
    go_wp2_with (refine tS o.2.2.1 (Gc f _) ?_;intro p i);go_ret;have h:ρ wr wr p:=i.aE _ _ H (o.1.a o.1.z _);exact⟨σ,u++[j],k,rfl,c.1.aE h,c.2.1,nF,c.2.2.then h⟩
   |true=>
    have a3:=F (λp (i:bd (f.alloc (K zc 281)) p (f:D) (K cs 281))=>by
     have h:ρ wr wr p:=i.aE _ _ H (o.1.a o.1.z _)
     have a:=(i.old (wr:D) H).t ((GC f _ _ b5).t o.2.1)
     exact(W h (W a ((c.1.aE h).aas b2 (h.ce a8.o)))))
    go_wp2_with (first|(refine tS o.2.2.1 (Gc f _) ?_;intro p i;have ah:=i.at_;let⟨h,a,e6,e,c2,c3,l,d2,n,c6,S,G,v⟩:=a3.o p i;have b7:e.heap[(f:D)]?=K cs 281:=(v _ H).t ah;have x0:e ((wr:D),0)=j.bA:=(cR ((v _ H).t a) rfl);have U:=F (W h (W S G));clear h a S G v i ah)|(refine tL b7 ?_ (f:=b6)));have e1:=a6.1;have q:=F (sL B b s y u (k+1) cs d j.bA e U.2.1 o.2.2.1 (o.2.2.2 trivial).1 (o.2.2.2 trivial).2 H H);go_call q.o as z d9 ⟨rfl,⟨Y,A,d8⟩,N⟩;have I:=F (W A ((c.2.2.then U.1).aJ (U.2.2.aJ N)));have b3:(Y:D)<=17*(k+1):=oP c.2.1;let⟨_,_,_,_,r,_,_⟩:=A.aV;have a9:=F r;clear A N r q;go_wp2;go_roundw
    .exact⟨Y,k+1,F ⟨I.1,b3,I.2⟩⟩
    rw[a9.o,b0.o];simp[QI];omega
  cases(H:k=400);clear M J;let⟨ai,af⟩:=c.1.mP (td':=[]) n (aL.bQ _ _) QN nF;have t:=(Ge (wr.setCell (b,2) (ο ζ 0 0):D) (wr.setCell (b,2) (ο ζ 0 0))).a QD (K #[O j.bA,O j.cm,O j.qF] 543);have g:=F (W (ai.aE t) ((c.2.2.aJ af).then t));clear t ai af;go_wp2;go_ret;exact⟨σ,[],400,rfl,g.1,sm,nF,g.2⟩
 have b9:=cp (H:0<j.cm.size);clear l aj J;go_wp2;go_ret;exact⟨ψ,u++[j],k,rfl,c.1.aE ((Ge _ wr).a QD _),c.2.1,(λ_ m=>by simp at m),c.2.2.then ((Ge _ wr).a QD _)⟩
end Cu
namespace Cu
variable {w w':ν}{B b s:Nat}{fr:ByteArray}{z:List Td}{k:Nat}
def BA:∀a:E QO,(Nib.dQ a:D)<=(a:D)
 |[]=>d
 |[_]=>by simp[Nib.dQ]
 |_::_::a=>by have:=BA a;simp[Nib.dQ,Gx];omega
def TM (f:QE):(Nib.bK (Nib.pw f.data.toList)).size<=f.size:=by
 have t:(Nib.pw f.data.toList:D)<=(f.data.toList:D):=by
  unfold Nib.pw;split
  .exact BA _
  exact QK
 have j:(Nib.bK (Nib.pw f.data.toList)).size=(Nib.pw f.data.toList:D):=A;have o:f.size=(f.data.toList:D):=A;omega
def cu.fz {A:D}{j:E Λ}{t:E D}(f:cu w B b s fr z k)(o:Fz A j t w w')(u:cM w t)(J:535∉j)(K:543∉j):cu w' B b s fr z k:=by
 let⟨p,h,i⟩:=f.bO;refine⟨⟨p,o.aM h J (λa=>u _ a _ _ _ h),aK i λr d=>?_⟩,f.dK,GB f.aH o.aH,f.ok,f.rz⟩;rcases i.2 with⟨rfl,_⟩|⟨U,O,P,rfl,_,M,_⟩
 .cases d
 simp only[Ψ,Gd] at d;subst d;exact o.jJ u ⟨_,_,M⟩ K
def TN {t:Td}(w:L)(j:cu w B b s fr (z++[t]) k)(u:(z:D)<=100000):
 Y N 358 #[V b] w λa w'=>a=f #[]/\cu w' B b s fr z k/\Fz B [535,543] [] w w':=by
 let⟨h,c,e,i,_,_,_,_⟩:=j.cf;let⟨_,_,_,_,_,d,_⟩:=j.aV;have o:=F (j.FP e);have J:(z:D)<=c:=H;have K:((z:D):C)+1<=(c:C):=H;have M:((z:D):C)<=100000:=H;go_enter func358,ntmps358;go_region;exact⟨A,f #[],by first|kernel_rfl|rfl|(simp[results];done),A,o.1.aE (QG.sI 1),o.2.then (QG.sI 1)⟩
def afm (w:L)(B b s:D)(fr:QE)(j:He)(w':L):Prop:=∃(a d:QE) (c:Bool) (z:E Td) (k:D),j=f #[t #[a,d],υ c]/\a.size<=8020/\d.size<=80/\cu w' B b s fr z k/\z.length<=17*k/\(c=U->z≠[])/\Fz B [535,543] [] w w'
def TO (B b s Z:D)(h:C)(W:E (IA×π))(fr:QE)(z:E Td)(k:D)(w:ν)(S:eI w)(ae:2<=B)(G:bp w s Z h W)(c:cu w B b s fr z k)(ag:(z:D)<=17*k):
 τ γ 357 #[ξ b] w (afm w B b s fr):=by
 have b1:ρ w w (w.alloc (K #[I,I] 73)):=(Ge _ w).a QD _;have a0:=F c.aH;have Y:=F (DM B b s Z h W fr z k _ (S.aE b1) ae (G.aE b1) (c.aE b1) ag);go_enter func357,ntmps357;go_wp2_with fail;go_call Y.o as o a ⟨r,N,u,rfl,e,n,p,j⟩;have a3:=e.rz;have O:a.heap[(w:D)]?=K #[I,I] 73:=j.aM (Gc w _) R R;have v:=QC (Fz B [535,543] [] w a) ((Fz.aE b1 _ _ _).aJ j);cases r with
 |false=>
  have T:=F e;go_wp2_with (apply ia Sv O;intro t P);apply qG Sv P.at_;exact⟨⟨#[]⟩,⟨#[]⟩,σ,N,u,A,QK,QK,T.o.fz (Fz.cV (B:=0) (T:=[73]) P O R QK []) (λ_ c=>by cases c) R R,n,nF,v.o.ek P QD⟩
 |true=>
  rcases LK N with ab|⟨X,f,U⟩
  .exact absurd ab (p A)
  rw[LL] at U;subst U;let⟨a9,a8,L,a2,a4,x0,aj,ai⟩:=e.cf;let⟨g,q,_⟩:=e.ok f R;have a5:((X:D):C)<=80000:=by simp at n;omega
  have a1:b<a:=bH L;have y:=F (κ e n);have g:f.bA.size<=20*(u+1):=g;have q:f.cm.size<=80:=q;go_upto_region 3 with fail;go_region;generalize H:(a.alloc (K #[f.bA,f.cm,f.qF] 543)).drew=t;have J:ρ a a t:=H▸((Ge _ a).a QD _).d;have l:t.heap[(a:D)]?=K #[f.bA,f.cm,f.qF] 543:=H▸Gc a _;have ak:=cJ 0 l;have m:=F (Nib.px f.bA t om);have af:=TM f.bA;go_wp2_with fail;go_call m.o as o w4 ⟨rfl,i⟩;have a7:=cJ 1 (i.ke l);have V:=i.ke (J.ke O);have x:=F (J.t (i.m J.z));generalize Nib.bK (Nib.pw f.bA.data.toList)=ah at af ⊢;generalize Nib.gm f.bA.data.toList=a6;go_wp2_with (apply ia Sv V;intro b0 M);apply qG Sv M.at_;exact⟨ah,f.cm,ψ,X++[f],u,A,om,q,(y.1.aE x.o).fz (Fz.cV (B:=0) (T:=[73]) M V R QK []) (λ_ c=>by cases c) R R,y.2,(λ_=>R),(v.o.then x.o).ek M QD⟩
end Cu
namespace Cu
def afn (K:L)(B o J:D)(A:QE)(u:He)(j:L):Prop:=∃(a d:QE) (i:Bool) (b:E Td) (c:D),u=f #[t #[a,d],z i]/\a.size<=8020/\d.size<=80/\cu j B o J A b c/\b.length<=17*c/\Fz B [535,543] [] K j
def kr (f:L):cM f []:=λ_ a=>by cases a
def BB (B O P g:D)(c:Int)(x:E (IA×π))(U:QE)(Z:E Td)(X:D)(o:ν)(h:eI o)(n:2<=B)(a1:bp o P g c x)(Y:cu o B O P U Z X)(N:(Z:D)<=17*X):
 τ γ 353 #[ξ O] o (afn o B O P U):=by
 have b1:ρ o o (o.alloc (K #[eS,eS] 73)):=(Ge _ o).a d _;have T:=F (TO B O P g c x U Z X _ (h.aE b1) n (a1.aE b1) (Y.aE b1) N);go_enter func353,ntmps353;go_wp2_with fail;go_call T.o as i a ⟨e,val,ok,I,l,rfl,v,C,t,G,y,j⟩;have V:a.heap[(o:D)]?=K #[eS,eS] 73:=j.aM (Gc o _) R R;have a4:=aw V;have b:=QC (Fz B [535,543] [] o a) ((Fz.aE b1 _ _ _).aJ j);have W:=F t;have m:=F y;have M:ρ a a (a.alloc (K #[e,val] 73)):=(Ge _ a).a d _;cases ok with
 |false=>
  have r:=M.ke V;go_wp2_with (apply ia Sv r;intro a0 z);apply qG Sv z.at_;exact⟨e,val,σ,I,l,A,v,C,(W.o.aE M).fz (Fz.cV (B:=0) (T:=[73]) z r R QK []) (kr _) R R,G,(b.o.then M).ek z d⟩
 |true=>
  rcases LK I with L|⟨w,a5,q⟩
  .exact absurd L (m.o A)
  rw[LL] at q;subst q;have p:(w:D)<=17*l:=by simp at G;omega
  have a3:=W.o.rz;have S:=F (TN _ (W.o.aE M) om);go_wp2_with fail;go_call S.o as i J ⟨rfl,u,f⟩;have s:=f.aM (M.ke V) R R;have c4:=f.aM (Gc a (K #[e,val] 73)) R R;have H:=F u;have k:=F ((b.o.then M).aJ f);have d0:=cJ 0 c4;have a2:=cJ 1 c4;go_wp2_with (apply ia Sv s;intro a0 z);apply qG Sv z.at_;exact⟨e,val,ψ,w,l,A,v,C,H.o.fz (Fz.cV (B:=0) (T:=[73]) z s R QK []) (kr _) R R,p,k.o.ek z d⟩
def WJ (A:L)(z:D)(j:He)(K:L):Prop:=j=f #[V J,G 4]\/
 ∃o u t,j=f #[V (M ⟨o,0,J⟩),G 0]/\cu K A.heap.size o z u t 1/\t.length<=17
theorem TP (j I:D)(k:C)(G:E (IA×π))(P u:B)(f:ν)(b:eI f)(Z:bp f j I k G)(a6:P.size<=1000000)(a5:u.size<=1000000):
 τ γ 339 #[ξ j,O P,O u] f λe L=>WJ f j e L/\ρ f f L:=by
 have N:=F (hV j I k G P f Z (by unfold Ie;omega));have r:j<(f:D):=bH Z.aV.1;have S:=F b;clear b;go_enter func339,ntmps339;go_wp2_with fail;apply N.o.m;rintro e M ⟨W,a⟩;have a:=a.s;subst a;rcases W with⟨-,rfl⟩|⟨b2,a4,b0,a8,-,X,rfl⟩
 .go_wp2;go_ret2;exact⟨Ξ A,QG⟩
 have n:=F (mS a4 X.aH f S.o.dm);have a7:=X.aH;clear X N Z;go_wp2_with fail;apply n.o.m;rintro e M ⟨W,o⟩;rcases W with⟨H,a1,hd,p,y,rfl⟩|rfl
 .have q:=F (λa0=>Nib.ga u a0 om);have h:=hd.aH;have J:=F (κ hd (κ p y));have U:=F o;clear hd p y o n;go_wp2_with (first|(refine ia fC (Gc M _) ?_ (c:=h) (h:=fu J.o.1);intro i t;have Y:=t.at_;have l:=QC (ρ f f i) (t.aE _ _ U.o.z (U.o.a U.o.z _));clear t)|((with_reducible apply(q.o _).m);rintro e v ⟨rfl,V⟩;have d:=Below.ke V Y;have z:=F (l.o.t (V.m l.o.z));clear V));generalize Nib.bK (Nib.cU u.data.toList)=K;let⟨w,c,g⟩:=aU v (θ #[ξ j,O K,ο ζ 0 0,ϑ 1] 535);rw[c];have x:cu w (f:D) (v:D) j K [] 1:=⟨⟨ο ζ 0 0,g.at_,QN⟩,⟨z.o.z,r⟩,GB z.o.z g.aE.z,nF,om⟩;have ae:=Below.ke g.aE d;have m:=F (z.o.t (g.aE.m z.o.z));have R:=F (sL (f:D) (v:D) j K [] 1 H a1 ⟨#[]⟩ w.drew (x.aE (Below.sI QG 1)) J.1 J.2.1 (λa2=>by
   rcases J.2.2 with⟨_,rfl⟩|⟨_,a3⟩
   .exact QK
   have:=a3 a2;omega) dc sm)
  clear c g x d;go_still_tail 4,Qz;refine gy A 281 _ A (M:D) A 281 H (0,0) _ ae Jn A (h▸hT) ?_;apply wpStill_nil;change Ji _ _ _ _ _ w.drew;go_wp2_with ((with_reducible apply R.o.m);rintro e a9 ⟨rfl,⟨ag,s,af⟩,T⟩);go_ret2;have ab:=T.dn sm (GB m.o.z QD);exact⟨Θ ⟨_,K,ag,A,s,sU af⟩,m.o.d.t ab⟩
 go_wp2_with (refine ia fC (Gc M _) ?_ (h:=Qz);intro i t);go_ret2;exact⟨Ξ A,t.aE _ _ o.z (o.a o.z _)⟩
end Cu
section
attribute [local go_sem] Jo
namespace Cu
def Oj (B z t J:D)(K:C)(u:E (IA×S))(A:QE)(f:L):Prop:=eI f/\bp f t J K u/\∃j o,cu f B z t A j o/\j.length<=17*o
structure aat (B b s m:D)(room:C)(L:E (IA×S))(fr:QE)(n l N:D)(μ:ν->D)(own:ν->D->Prop)(J:D->ν->Prop)(Jx:ν->Prop):Prop where
 mu:∀j W,J j W->μ W=j
 BC:∀j W,J j W->Oj B b s m room L fr W
 next:∀j W W',J j W->Fz B [535,543] [] W W'->Oj B b s m room L fr W'->J j W'/\∀k,own W' k->own W k
 old:∀j W k,J j W->own W k->k<W.heap.size
 tell:∀j W key val,J j W->ByteArray.size key<=8020->ByteArray.size val<=80->YieldAt Fence.wide (n-1) γ l #[O key,O val] W λe W'=>
  (e=z U/\J (j+1) W'/\j+1<=N/\∀k xs,W.heap[k]?=K xs 73->¬own W k->W'.heap[k]?=W.heap[k]?)\/(e=z X/\Jx W')
theorem WK (B z Z U:D)(X:C)(M:E (IA×π))(P:QE)(a1 b4 t:D)(H:L->D)(a0:L->D->Prop)(o:D->L->Prop)(a3:L->Prop)(f:aat B z Z U X M P a1 b4 t H a0 o a3)(c3:1<=a1)(v:2<=B)(u:L)(q:o 0 u):
 CallsIn Fence.wide a1 γ 340 #[ξ z,Hl (.yield b4) #[] #[]] u λn a5=>(∃e8,n=ι e8)/\((∃h,o h a5)\/a3 a5):=by
 let⟨a,e,G,l,i,d⟩:=f.BC 0 u q;have m:=F (BB B z Z U X M P G l u a v e i d);clear a e i d;refine callsIn_of_wp func340 A tV ?_ A;simp only[ntmps340,GZ,Gx,Hy,Nat.reduceAdd,Nat.reduceSub,Im,Il,IF,Iq,Ho,Hz];gi_wp2_with (refine⟨tV,?_⟩;apply(callsIn_wide.2 m.o).m;rintro n j ⟨b,c,s,e2,d4,rfl,ah,ak,a6,e0,Y⟩);have H1:=QC (o 0 (j.alloc (K #[O b,O c] 73))/\¬a0 (j.alloc (K #[O b,O c] 73)) j.heap.size) (by
  have ab:=Y.then ((Ge _ j).a QD (K #[O b,O c] 73))
  let⟨a,e,G,l,i,d⟩:=f.BC 0 u q
  let⟨r,y⟩:=f.next _ _ _ q ab ⟨a.at (ab.dn R i.aH) v,e.fz ab (kr _) R R R R,e2,d4,a6.aE ((Ge _ j).a QD _),e0⟩
  exact⟨r,λaj=>oB (f.old _ _ _ q (y _ aj)) Y.aH⟩)
 have K1:=Gc j (K #[O b,O c] 73);clear m a6 Y;gi_loopw [4,5] (λc8 e4 wr=>∃(h g:D) (b c:QE) (s:Bool),c8=ξ g/\e4=υ s/\h<=t/\b.size<=8020/\c.size<=80/\Φ (o h wr/\¬a0 wr g)/\wr.heap[g]?=K #[O b,O c] 73) (λ_ _ wr=>t+1-H wr)
 case atStart=>exact⟨0,_,b,c,s,A,A,QK,ah,ak,H1,K1⟩
 case round=>
  obtain⟨h,g,b,c,s,rfl,rfl,f4,ah,ak,V,w⟩:=hrel;cases s with
  |false=>
   gi_wp2;go_end0;exact⟨⟨_,A⟩,Ξ ⟨h,V.1⟩⟩
  |true=>
   have d0:wr g=b:=cR w A;have c7:wr (g,1)=c:=cR w A;have T:=F w;clear w;gi_wp2;let⟨f3,f5,e9,f0,b2,a8⟩:=f.tell h wr b c V.1 ah ak;rw[b2];refine⟨λ_=>c3,a8.mono ?_⟩;clear b2 a8;rintro n J (⟨rfl,af,ag,a9⟩|⟨rfl,b0⟩)
   .have N:=T.o;rw[<-a9 g _ T.o V.2] at N;let⟨a,e,G,l,i,d⟩:=f.BC _ _ af;let⟨e7,e3,k⟩:=aU J (K #[O b,O c] 73);have m:=F (BB B z Z U X M P G l e7 (a.aE k.aE) v (e.aE k.aE) (i.aE k.aE) d);have I:=F (W af ag);have b6:=F e3;have a4:=F (W k.aE k.at_);have f1:J g=b:=cR N A;have f2:J (g,1)=c:=cR N A;clear a e i d af a9 N e3 k T d0 c7;gi_wp2_with (first|(rw[b6.o])|(refine⟨tV,?_⟩;apply(callsIn_wide.2 m.o).m;rintro n f6 ⟨d9,e6,e1,e5,d6,rfl,d2,c6,a7,b3,ae⟩;have ai:=ae.aM a4.2 R R;have S:=F (W a7 (W b3 ae));clear a7 b3 ae)|(apply xj Sv A _ _ A A A A (by simp[φ]) A ai;intro a2 x));let⟨a,e,_,_,d1,_⟩:=f.BC _ _ I.1;have p:Fz B [535,543] [] J a2:=((Fz.aE a4.1 _ _ _).aJ S.2.2).ek x QD;have b5:Oj B z Z U X M P a2:=⟨a.at (p.dn R d1.aH) v,e.fz p (kr _) R R R R,e5,d6,S.1.fz (Fz.cV (B:=0) (T:=[73]) x ai R QK []) (kr _) R R,S.2.1⟩;let⟨r,y⟩:=f.next _ _ _ I.1 p b5;have d3:=f.mu _ _ V.1;have c2:=f.mu _ _ r;have b7:=F (W r λaj=>NH _ (f.old _ _ _ I.1 (y (J:D) aj)));have ag:=I.2;have d8:=x.at_;have b9:=QC (t+1-H a2<t+1-H wr) om;clear a e p b5 r y d3 c2 x ai;go_roundw;case rel=>exact⟨h+1,_,d9,e6,e1,A,A,ag,d2,c6,b7,d8⟩
    case measure=>exact b9.o
   have c0:=F b0;clear b0;gi_wp2;exact QS ⟨⟨_,A⟩,Θ c0.o⟩
end Cu
end
section
attribute [local go_sem] Jo
def nm (W:ν)(u:E (D×Λ×S)):Prop:=∀t∈u,W.heap[t.1]?=K #[t.2.2] t.2.1
def nm.fz {B:D}{u:E Λ}{z:E D}{W l:ν}{t:E (D×Λ×S)}(A:nm W t)(M:Fz B u z W l)(J:cM W z)(K:∀a∈t,a.2.1∉u):nm l t:=λa c=>M.aM (A a c) (K a c) λn=>J _ n _ _ _ (A a c)
def nm.aE {W l:ν}{t:E (D×Λ×S)}(u:nm W t)(b:T W W l):nm l t:=λe c=>b.ke (u e c)
def nm.of {W l:ν}{t:E (D×Λ×S)}(u:nm W t)(b:∀a∈t,l.heap[a.1]?=W.heap[a.1]?):nm l t:=λa d=>(b a d).t (u a d)
def nm.iY {W:ν}{A:E (D×Λ×S)}(t:nm W A)(u:Λ)(z:S):nm (W.alloc (K #[z] u)) ((W,u,z)::A):=λg a=>by
 rcases GF.1 a with rfl|a
 .exact Gc W _
 exact(QP (aw (t g a))).t (t g a)
def jk {W:ν}{t:D}{x y z K b u:S}(P:nm W [(t,63,K),(t+1,4,b),(t+1+1,27,u)]):
 ∃l,((W.setCell t x).setCell ⟨t+1,0,J⟩ y).setCell ⟨t+1+1,0,J⟩ z=l/\nm l [(t,63,x),(t+1,4,y),(t+1+1,27,z)]/\(∀c,c≠t->c≠t+1->c≠t+1+1->l.heap[c]?=W.heap[c]?)/\l.heap.size=W.heap.size/\∀B q,B<=t->T B q W->T B q l:=by
 have X:LP W t 63 K:=P (t,63,K) R;have V:LP W (t+1) 4 b:=P (t+1,4,b) R;have Z:LP W (t+1+1) 27 u:=P (t+1+1,27,u) R;have M:∀c,c≠t->(W.setCell t x).heap[c]?=W.heap[c]?:=λc d=>QJ d;have O:∀c,c≠t+1->((W.setCell t x).setCell ⟨t+1,0,J⟩ y).heap[c]?=(W.setCell t x).heap[c]?:=λc d=>QJ d;have U:∀c,c≠t+1+1->(((W.setCell t x).setCell ⟨t+1,0,J⟩ y).setCell ⟨t+1+1,0,J⟩ z).heap[c]?=((W.setCell t x).setCell ⟨t+1,0,J⟩ y).heap[c]?:=λc d=>QJ d;refine⟨_,A,λI r=>?_,λc g a C=>(U c C).t ((O c a).t (M c g)),by simp[PZ],λB q G e=>((e.s G _).s uo _).s uo _⟩;simp only[GF,Hv,Xf] at r;rcases r with rfl|rfl|rfl
 .exact(U _ H).t ((O _ H).t (X.set x))
 .exact(U _ H).t (Boxed.set (v:=b) y ((M _ H).t V))
 exact Boxed.set (v:=u) z ((O _ H).t ((M _ H).t Z))
def nm.jk {W:ν}{t:D}{u b z:S}(A:nm W [(t,63,u),(t+1,4,b),(t+1+1,27,z)]):W t=u/\W.frozen? t=X/\W ⟨t+1,0,J⟩=b/\W.frozen? ⟨t+1,0,J⟩=X/\W ⟨t+1+1,0,J⟩=z/\W.frozen? ⟨t+1+1,0,J⟩=X:=
 have O:LP W t 63 u:=A (t,63,u) R;have K:LP W (t+1) 4 b:=A (t+1,4,b) R;have M:LP W (t+1+1) 27 z:=A (t+1+1,27,z) R
 ⟨O.cell,O.frozen,K.cell,K.frozen,M.cell,M.frozen⟩
def je {z:Func}{P U X:Tmp}(c:z.results=#[.cell P 63,.cell U 4,.cell X 27]){u:Q S}{w:ν}{t:D}{Z r a:S}(A:u.getD P undef=V t)(O:u.getD U undef=V (M ⟨t+1,0,J⟩))(K:u.getD X undef=V (M ⟨t+1+1,0,J⟩))
 (v:nm w [(t,63,Z),(t+1,4,r),(t+1+1,27,a)]):(results z u).run N w=Je (χ #[Z,r,a]) w:=by
 let⟨y,_,x,_,d,_⟩:=v.jk;simp only[Kd] at A O K;simp only[results,c];simp[IE,Ω,A,O,K,asAddr,loadVar,isAgg,XF,underlying63,Nw,KJ,y,x,d]
namespace Cu
structure OS (w:ν)(B b s m:D)(room:C)(L:E (IA×S))(f o:QE)(mw:C)(i:D)(Lp:Xh->QV Code->Loop)(j:D)(W:ν):Prop where
 rA:W.heap[i+2]?=IK (Lp NG J)
 Oe:W.heap[i+1]?=Kc (M [])
 fT:nm W [(w.heap.size,9,O o),(w.heap.size+1,3,G mw)]
 vm:nm W [(w.heap.size+1+1,63,P J 0 0),(w.heap.size+1+1+1,4,z X),(w.heap.size+1+1+1+1,27,G 0)]
 jJ:∃(v:S) (es:E dh),W.heap[i]?=K #[v] 63/\W.ownsRow (i+3) 73 2 v es.length (es.flatMap λe=>[O e.1,O e.2])/\es.length=j/\∀x∈es,ByteArray.size x.1<=8020/\ByteArray.size x.2<=80
 mw:(j:C)<=mw
 gi:T w w W
 aH:i+3<=W.heap.size
 BC:Oj B b s m room L f W
def BD (i:D)(W:ν)(u:D):Prop:=∃t,W.heap[i]?=K #[t] 63/\t.ownBlock=u
def aau (i:D)(W:ν):D:=match W.heap[i]? with
 |some (K a _ _)=>match a[0]? with
  |some (P _ c _)=>c
  |_=>0
 |_=>0
def RgX (w:ν)(i:D)(Lp:Xh->QV Code->Loop)(W:ν):Prop:=W.heap[i+1]?=Kc (M [])/\T w w W/\i+3<=W.heap.size/\∃(c:S) (a:E dh),W.ownsRow (i+3) 73 2 c a.length (a.flatMap λd=>[O d.1,O d.2])/\a.length<=8/\(∀t∈a,ByteArray.size t.1<=8020/\ByteArray.size t.2<=80)/\
 ((W.heap[i+2]?=IK (Lp .done (M .ret))/\nm W [(w.heap.size+1+1,63,c),(w.heap.size+1+1+1,4,z U),(w.heap.size+1+1+1+1,27,G 0)])\/
  (W.heap[i+2]?=IK (Lp .done (M (.exit 0)))/\W.heap[i]?=K #[c] 63/\nm W [(w.heap.size+1+1,63,P J 0 0),(w.heap.size+1+1+1,4,z X),(w.heap.size+1+1+1+1,27,G 0)]))
def sY {w:ν}{J K O t:D}{u:S}{U:E S}(M:w.ownsRow J K O u t U):∃z g,u=P z t g:=by
 rcases M.2 with⟨rfl,rfl⟩|⟨X,V,Z,rfl,_⟩<;>exact⟨_,_,A⟩
section
variable {w W l:ν}{B b s m i j:Nat}{room mw:Int}{L:List (IA×π)}{f o:ByteArray}{Lp:LoopState->Option Code->Loop}
def OS.mu (t:OS w B b s m room L f o mw i Lp j W):aau i W=j:=by
 let⟨n,k,c,e,d,_⟩:=t.jJ;obtain⟨u,z,rfl⟩:=sY e;rw[aau,c];simpa using d
def OS.old (u:OS w B b s m room L f o mw i Lp j W){t:D}(z:BD i W t):t<(W:D):=by
 let⟨p,n,e,g,_⟩:=u.jJ;let⟨q,a,k⟩:=z;rw[e] at a;simp only[Gd,Hq,IU,GN,QW] at a;subst a;exact(bG g k).2
def OS.next (t:OS w B b s m room L f o mw i Lp j W)(U:w.heap.size<=B)(c:Fz B [535,543] [] W l)(K:Oj B b s m room L f l):OS w B b s m room L f o mw i Lp j l/\∀g,BD i l g->BD i W g:=by
 obtain⟨J,M,u,z,O,P⟩:=t.jJ;have A:=c.aM u R R;obtain⟨-,-,_,_,V,-⟩:=t.BC;refine⟨⟨?_,?_,t.fT.fz c (kr _) R,t.vm.fz c (kr _) R,⟨J,M,A,?_,O,P⟩,t.mw,?_,GB t.aH c.aH,K⟩,λg ⟨a,h,n⟩=>?_⟩
 .rw[c.dC (aw t.rA) R (λk y c d=>by rw[t.rA] at d;cases d)];exact t.rA
 .rw[c.dC (aw t.Oe) R (λk y c d=>by rw[t.Oe] at d;cases d)];exact t.Oe
 .exact aK z λG e=>c.jJ (kr _) (by
   rcases z.2 with⟨rfl,_⟩|⟨I,Z,H,rfl,_,X,_⟩
   .cases e
   simp only[Ψ,Gd] at e
   subst e;exact⟨_,_,X⟩) R
 .have:=c.dn R V.aH;exact t.gi.t (this.m U)
 rw[A] at h;exact⟨a,u.t h,n⟩
def BE {t:ν}{U:S}{u:E dh}(e:t.heap[i+2]?=IK (Lp .busy J))(c:t.heap[i+1]?=Kc (M []))(Z:nm t [((w:D)+1+1,63,P J 0 0),((w:D)+1+1+1,4,z X),((w:D)+1+1+1+1,27,G 0)])
 (C:T w w t) (g:i+3<=(t:D)) (a:t.heap[i]?=K #[U] 63) (V:t.ownsRow (i+3) 73 2 U (u:D) (u.flatMap λk=>[O k.1,O k.2])) (v:(u:D)<=8) (r:∀h∈u,ByteArray.size h.1<=8020/\ByteArray.size h.2<=80) (F:(w:D)+5<=i):
 RgX w i Lp (t.putObj (i+2) (IK (Lp .done (M (.exit 0))))):=by
 have A:∀d,d≠i+2->(t.putObj (i+2) (IK (Lp .done (M (.exit 0))))).heap[d]?=t.heap[d]?:=λd y=>Gu y;exact⟨(A _ H).t c,bP C H _,by rwa[IH],U,u,aK V λq x=>A q (oA (bG V x).1),v,r,Θ ⟨Ht (aw e),(A _ H).t a,Z.of λh n=>A _ (by simp at n;rcases n with rfl|rfl|rfl<;>simp only<;>omega)⟩⟩
def WL {t:ν}{A:S}{u:E dh}(y:t.heap[i+2]?=IK (Lp .busy J))(N:t.heap[i+1]?=Kc (M []))(Q:nm t [((w:D)+1+1,63,P J 0 0),((w:D)+1+1+1,4,υ X),((w:D)+1+1+1+1,27,G 0)])
 (a:T w w t) (R:i+3<=(t:D)) (V:t.ownsRow (i+3) 73 2 A (u:D) (u.flatMap λp=>[O p.1,O p.2])) (I:(u:D)<=8) (k:∀n∈u,ByteArray.size n.1<=8020/\ByteArray.size n.2<=80) (Y:(w:D)+5<=i):
 ∃c,((t.setCell ⟨(w:D)+1+1,0,J⟩ A).setCell ⟨(w:D)+1+1+1,0,J⟩ (υ U)).setCell ⟨(w:D)+1+1+1+1,0,J⟩ (G 0)=c/\c.heap[i+2]?=IK (Lp .busy J)/\RgX w i Lp (c.putObj (i+2) (IK (Lp .done (M .ret)))):=by
 let⟨c,q,C,h,d,g⟩:=jk (x:=A) (y:=υ U) (z:=G 0) Q;have K:∀e,e≠i+2->(c.putObj (i+2) (IK (Lp .done (M .ret)))).heap[e]?=c.heap[e]?:=λe x=>Gu x;have Z:=(h (i+2) H H H).t y;exact⟨c,q,Z,(K _ H).t ((h _ H H H).t N),bP (g _ _ H a) H _,by rwa[IH,d],A,u,aK V λF v=>by
  have:=(bG V v).1
  exact(K F H).t (h _ H H H),I,k,Ξ ⟨Ht (aw Z),C.of λn r=>K _ (by simp at r;rcases r with rfl|rfl|rfl<;>simp only<;>omega)⟩⟩
def OS.fb {V u:ν}{K z:π}{P:E dh}{n F:QE}(t:OS w B b s m room L f o mw i Lp j W)(U:V=W.putObj (i+2) (IK (Lp .busy J)))(p:W.heap[i]?=θ #[K] 63)(q:W.ownsRow (i+3) 73 2 K P.length (P.flatMap λc=>[O c.1,O c.2]))(ah:P.length=j)(ai:∀r∈P,ByteArray.size r.1<=8020/\ByteArray.size r.2<=80)
 (b9:P.length≠mw) (S:u.ownsRow (i+3) 73 2 z (P.length+1) ((P.flatMap λc=>[O c.1,O c.2])++(#[n,F]:Q π).toList)) (A:aL (λh=>K.ownBlock=M h) V u) (g:n.size<=8020) (a3:F.size<=80) (b6:w.heap.size+5<=i) (a4:2<=w.heap.size) (a6:u.heap[i]?=θ #[K] 63):
 (u.setCell i z).heap[i+2]?=IK (Lp .busy J)/\OS w B b s m room L f o mw i Lp (j+1) ((u.setCell i z).putObj (i+2) (IK (Lp NG J)))/\j+1<=mw.toNat/\
  ∀a ag,W.heap[a]?=θ ag 73->¬BD i W a->((u.setCell i z).putObj (i+2) (IK (Lp NG J))).heap[a]?=W.heap[a]?:=by
 have c0:V.heap.size=W.heap.size:=by rw[U,IH]
 have b2:∀a,a≠i+2->V.heap[a]?=W.heap[a]?:=λa g=>by rw[U];exact Gu g
 have ab:V.heap[i+2]?=IK (Lp .busy J):=by rw[U];exact Ht (aw t.rA)
 have k:∀h,K.ownBlock=M h->i+3<=h:=λh x=>(bG q x).1;have y:∀h,z.ownBlock=M h->i+3<=h:=λh x=>(bG S x).1;have N:LP u i 63 K:=a6;have ae:(u.setCell i z).heap[i+2]?=IK (Lp .busy J):=(QJ R).t ((A.aG _ (aw ab) (λc=>by have:=k _ c;omega)).t ab);have e:∀a,a<W.heap.size->a≠i+2->a≠i->K.ownBlock≠M a->((u.setCell i z).putObj (i+2) (IK (Lp NG J))).heap[a]?=W.heap[a]?:=λa c7 Y a2 a5=>
  (Gu Y).t ((QJ a2).t ((A.aG a H a5).t (b2 a Y)))
 have T:W<=((u.setCell i z).putObj (i+2) (IK (Lp NG J))).heap.size:=by
  rw[IH];have:=A.aH;simp[PZ];omega
 have X:Fz w [63,73] [i+2] W ((u.setCell i z).putObj (i+2) (IK (Lp NG J))):=by
  refine⟨by rw[U] at A;exact A.os,by rw[U] at A;exact A.cb,by rw[U] at A;exact A.aW,T,λa g=>?_⟩;by_cases I:a=i+2
  .exact Θ (Θ (by simp[I]))
  by_cases e3:a=i
  .subst e3;exact Θ (Ξ ⟨_,_,_,p,by simp,by omega⟩)
  by_cases Z:K.ownBlock=M a
  .rcases q.2 with⟨rfl,_⟩|⟨h,c8,b3,rfl,b5,aj,_⟩
   .cases Z
   simp only[Ψ,Gd] at Z;subst Z;exact Θ (Ξ ⟨_,_,_,aj,by simp,by omega⟩)
  exact Ξ (e a g I e3 Z)
 have v:cM W [i+2]:=λr d d1 d3 f c=>by
  obtain rfl:=GA.1 d;rw[t.rA] at c;cases c
 obtain⟨a7,af,b0,a,a8,a9⟩:=t.BC;have b7:=aw t.rA;have a0:=t.aH;refine⟨ae,⟨Ht (aw ae),(e _ H H H (λc=>by have:=k _ c;omega)).t t.Oe,t.fT.of λr d=>?_,t.vm.of λr d=>?_,⟨z,P++[(n,F)],(Gu H).t (N.set z),?_,by simp[ah],λr d=>?_⟩,?_,?_,GB a0 T,a7.at (X.dn QB (by have:=t.gi.z;omega)) a4,af.fz X v (λak=>?_) R R R,b0,a,a8.fz X v R R,a9⟩,?_,λa ag g a1=>?_⟩
 .have G:=aw (t.fT r d);simp only[GF,Hv,Xf] at d;rcases d with rfl|rfl<;>exact e _ G uo uo (λc=>by have:=k _ c;simp only at this;omega)
 .have G:=aw (t.vm r d);simp only[GF,Hv,Xf] at d;rcases d with rfl|rfl|rfl<;>exact e _ G uo uo (λc=>by have:=k _ c;simp only at this;omega)
 .rw[Gk,Hj];exact aK S λh x=>(Gu (by have:=y _ x;omega)).t (QJ (by have:=y _ x;simp only;omega))
 .rcases GO.1 d with d|d
  .exact ai r d
  obtain rfl:=GA.1 d;exact⟨g,a3⟩
 .have:=t.mw;omega
 .exact t.gi.t (X.dn QB (by have:=t.gi.z;omega))
 .obtain rfl:=GA.1 ak;obtain⟨b4,d2,c⟩:=af.cS.gb;rw[t.rA] at c;cases c
 .have:=t.mw;omega
 exact e a (aw g) (λc=>by rw[c,t.rA] at g;cases g) (λc=>by rw[c,p] at g;simp at g) (λc=>a1 ⟨K,p,c⟩)
end
def vD (K:He)(O:ν):Prop:=∃A t M u,K=χ #[A,z M,G u]/\dF O A t/\t.length<=8/\(∀J∈t,ByteArray.size J.1<=8020/\ByteArray.size J.2<=80)/\0<=u/\u<=12
def TR {w W:ν}{i:D}{e:S}{a:E dh}{p:Bool}(t:Q S)(Z:t.getD 10 undef=V (M ⟨(w:D)+1+1,0,J⟩))(P:t.getD 11 undef=V (M ⟨(w:D)+1+1+1,0,J⟩))(U:t.getD 12 undef=V (M ⟨(w:D)+1+1+1+1,0,J⟩))
 (r:nm W [((w:D)+1+1,63,e),((w:D)+1+1+1,4,z p),((w:D)+1+1+1+1,27,G 0)]) (k:W.ownsRow (i+3) 73 2 e (a:D) (a.flatMap λh=>[O h.1,O h.2])) (b:T w w W) (x:(a:D)<=8) (X:∀g∈a,ByteArray.size g.1<=8020/\ByteArray.size g.2<=80) (v:(w:D)+5<=i):
 ∃K,(results Tryz.f301 t).run N (W.putObj (i+1) (Kc J))=Je K (W.putObj (i+1) (Kc J))/\vD (ι K) (W.putObj (i+1) (Kc J))/\T w w (W.putObj (i+1) (Kc J)):=by
 have u:∀d,d≠i+1->(W.putObj (i+1) (Kc J)).heap[d]?=W.heap[d]?:=λd c=>Gu c;refine⟨_,je A Z P U (r.of λg n=>u _ (by simp at n;rcases n with rfl|rfl|rfl<;>simp only<;>omega)),⟨e,a,p,0,A,.cT (aK k λq y=>u q (oA (bG k y).1)),x,X,H,H⟩,bP b H _⟩
def xH (s m:D)(room:C)(L:E (IA×π))(f3 f o:QE)(mw:C)(w:ν)(d8:eI w)(d6:bp w s m room L)(d4:f3.size<=1000000)(j2:f.size<=1000000)(l5:o.size<=1000000):
 τ γ 301 #[ξ s,f3,f,o,mw] w λp i3=>vD p i3/\ρ w w i3:=by
 let⟨r,a4⟩:∃r,r=((((w.alloc (θ #[o] 9)).alloc (θ #[mw] 3)).alloc (θ #[P J 0 0] 63)).alloc (θ #[υ X] 4)).alloc (θ #[G 0] 27):=⟨_,A⟩;have h7:(r:D)=(w:D)+5:=by rw[a4];simp
 have b4:ρ w w r:=by rw[a4];go_grown
 have i5:=F (TP s m room L f3 f r (d8.aE b4) (d6.aE b4) d4 j2);have c8:=F (κ d8 d6);clear d8 d6;apply(XC (n:=9)).1;refine XD func301 A tV ?_ A;simp only[ntmps301,GZ,Gx,Hy,Nat.reduceAdd,Nat.reduceSub,Im,Il,IF,Iq,Ho,Hz];have k:=(((((show nm w [] from λ_ c=>by cases c).iY 9 (O o)).iY 3 (G mw)).iY 63 (P J 0 0)).iY 4 (υ X)).iY 27 (G 0);rw[<-a4] at k;simp only[GG] at k;have g3:nm r [((w:D)+1+1,63,P J 0 0),((w:D)+1+1+1,4,υ X),((w:D)+1+1+1+1,27,G 0)]:=λq g=>k q (by
  simp only[GF,Hv,Xf] at g
  rcases g with rfl|rfl|rfl<;>simp)
 have g2:nm r [((w:D),9,O o),((w:D)+1,3,G mw)]:=λq g=>k q (by
  simp only[GF,Hv,Xf] at g
  rcases g with rfl|rfl<;>simp)
 clear k;have Z:=F (κ g3 (κ g2 (κ b4 h7)));clear g3 g2 h7 b4;rcases(by omega:mw<1\/8<mw\/(1<=mw/\mw<=8)) with g7|g7|g7
 rotate_right;all_goals
  gi_wp2_with (first|(rw[<-a4])|(refine⟨tV,?_⟩;apply(callsIn_wide.2 i5.o).m;rintro p a ⟨i9,ai⟩;have u:=F (κ (Z.1.aE ai) (κ (Z.2.1.aE ai) (κ (Z.2.2.1.t (ai.m Z.2.2.1.z)) ai.z)));let⟨c1,d1,f7,d2,f8,d3⟩:=u.1.jk;have c4:a w=o:=LA (u.2.1 ((w:D),9,O o) sm);have c5:a.cell? ⟨w+1,0,J⟩=G mw:=LA (u.2.1 ((w:D)+1,3,G mw) sm);rcases i9 with rfl|⟨b,e6,f0,rfl,g5,b6⟩));try
   let⟨l,c2,R,ae,a9,S⟩:=jk (x:=P J 0 0) (y:=υ X) (z:=G 4) u.1;rw[c2];exact⟨_,je A A A A R,⟨_,[],X,4,A,⟨Ξ ⟨J,0,A,A⟩,iZ.none _ _ _ _⟩,sm,nF,H,H⟩,S _ _ H u.2.2.1⟩
 rotate_left;all_goals
  try
   let⟨l,c2,R,ae,a9,S⟩:=jk (x:=P J 0 0) (y:=υ X) (z:=G 1) u.1;rw[c2];exact⟨_,je A A A A R,⟨_,[],X,1,A,⟨Ξ ⟨J,0,A,A⟩,iZ.none _ _ _ _⟩,sm,nF,H,H⟩,S _ _ H u.2.2.1⟩
 have j8:2<=(w:D):=c8.1.kO.1;have j1:∀f5 (w:ν),(Xa 340 f5).run γ w=Je (.enter 340 f5) w:=enters_of func340 Qz A;let⟨af,g1,N⟩:=aU a (θ #[P J 0 0] 63);have e9:=N.aH;rw[g1];have k7:=F ai;have l4:=u.2.2.2;have l6:(r:D)<=(w:D)+5:=Iu Z.2.2.2;have l7:w+5<=(r:D):=Iu Z.2.2.2.s;have V:Φ (nm af [(w,9,O o),(w+1,3,G mw)]/\nm af [(w+1+1,63,P J 0 0),(w+1+1+1,4,υ X),(w+1+1+1+1,27,G 0)]/\ρ w w af/\af.heap[(a:D)]?=θ #[P J 0 0] 63/\Oj r b s m room L e6 af):=
  F ⟨u.2.1.aE N.aE,u.1.aE N.aE,u.2.2.1.t (N.aE.m u.2.2.1.z),N.at_,by
   have f6:=u.2.2.1.t (N.aE.m u.2.2.1.z)
   exact⟨c8.1.aE f6,c8.2.aE f6,f0,1,g5.aE N.aE,H⟩⟩
 clear g1 N g5 b6 c1 d1 f7 d2 f8 d3 c4 c5 ai a4;apply Co A dc (gf:=340) (fa:=#[ξ b]) (lb:=#[]) A trivial j1;intro q0 Lp w8 b6 k0 b8 j0 g4 j6;rw[e9] at b6 k0 g4;subst b6;have i8:2<=(r:D):=H;apply(WK r b s m room L e6 8 (a+1+1) mw.toNat (aau a) (BD a) (OS w r b s m room L e6 o mw (a:D) Lp) (RgX w (a:D) Lp) ⟨λj W c=>c.mu,λj W c=>c.BC,λj W l c k3 d4=>c.next H k3 d4,λj W e c=>c.old,?tell⟩ dc i8 w8 ?h0).m;case h0=>
  have M:ρ af af w8:=e9▸e9▸b8;exact⟨j0,g4,V.1.aE M,V.2.1.aE M,⟨_,[],Below.ke M V.2.2.2.1,QN,A,nF⟩,H,V.2.2.1.t (M.m V.2.2.1.z),H,by
   let⟨R,ae,f0,e,a9,S⟩:=V.2.2.2.2
   exact⟨R.aE M,ae.aE M,f0,e,a9.aE M,S⟩⟩
 case tell=>
  intro j W j9 k4 c j3 j7;refine j6.oj _ _ _ _ A c.rA λn Y=>?_;have h:∀e,e≠(a:D)+2->n.heap[e]?=W.heap[e]?:=λe c3=>Y▸Gu c3;have e5:n.heap[(a:D)+2]?=IK (Lp .busy J):=Y▸Ht (aw c.rA);have e2:=(h _ H).t c.Oe;have a7:nm n [((w:D),9,O o),((w:D)+1,3,G mw)]:=c.fT.of λq g=>h _ (by simp at g;rcases g with rfl|rfl<;>simp only<;>omega);have b9:nm n [((w:D)+1+1,63,P J 0 0),((w:D)+1+1+1,4,υ X),((w:D)+1+1+1+1,27,G 0)]:=c.vm.of λq g=>h _ (by simp at g;rcases g with rfl|rfl|rfl<;>simp only<;>omega);have e4:ρ w w n:=Y▸bP c.gi H _;have c0:(a:D)+3<=(n:D):=by rw[Y,IH];exact c.aH
  let⟨v,d,ah,T,b5,a5⟩:=c.jJ;have c7:=(h _ H).t ah;have a8:n.ownsRow ((a:D)+3) 73 2 v (d:D) (d.flatMap λp=>[O p.1,O p.2]):=aK T λb0 ab=>h b0 (oA (bG T ab).1);obtain⟨ak,a0,rfl⟩:=sY a8;have l3:=c.mw;have t:=F (κ e5 (κ e2 (κ a7 (κ b9 (κ e4 (κ c7 a8))))));have ag:=F (κ b5 (κ a5 (κ c h)));have c6:(d:D)<=8:=H;have k6:n w=o:=LA (a7 ((w:D),9,O o) sm);have c1:n ⟨w+1,0,J⟩=G mw:=LA (a7 ((w:D)+1,3,G mw) sm);have i6:n a=P ak (d:D) a0:=LA c7;let⟨l1,d1,a1,d2,a3,d3⟩:=b9.jk;by_cases U:(d:D)=mw
  .have k5:(((d:D):C)==mw)=ψ:=sU U;clear c ah T b5 a5 e5 e2 a7 b9 e4 c7 a8 h Y U;gi_wp2
   .exact⟨t.1,Θ ⟨A,BE t.1 t.2.1 t.2.2.2.1 t.2.2.2.2.1 c0 t.2.2.2.2.2.1 t.2.2.2.2.2.2 c6 ag.2.1 H⟩⟩
   let⟨k8,i7,e7,e8⟩:=WL t.1 t.2.1 t.2.2.2.1 t.2.2.2.2.1 c0 t.2.2.2.2.2.2 c6 ag.2.1 H;rw[i7];exact⟨e7,Θ ⟨A,e8⟩⟩
  have k5:(((d:D):C)==mw)=X:=sU U;have b3:=F (κ Y (κ ah (κ T U)));have j5:¬(P ak (d:D) a0).ownBlock=a:=λp=>oA (bG a8 p).1;clear c ah T b5 a5 e5 e2 a7 b9 e4 c7 a8 h Y U;gi_wp2_with (gi_at_builtin;apply CR ue A _ _ A A t.2.2.2.2.2.2 A #[j9,k4] A QA H c0;intro m0 k1 g9 g8;obtain⟨k9,c9,rfl⟩:=sY g9;have e1:=g8.aM t.2.2.2.2.2.1 j5;have l0:k1 a=P ak (d:D) a0:=LA e1;have l2:=Boxed.frozen e1)
  .exact⟨t.1,Θ ⟨A,BE t.1 t.2.1 t.2.2.2.1 t.2.2.2.2.1 c0 t.2.2.2.2.2.1 t.2.2.2.2.2.2 c6 ag.2.1 H⟩⟩
  let⟨e7,e8⟩:=OS.fb ag.2.2.1 b3.1 b3.2.1 b3.2.2.1 ag.1 ag.2.1 b3.2.2.2 g9 g8 j3 j7 H j8 e1;exact⟨e7,Ξ ⟨A,e8⟩⟩
 rintro p K ⟨h1,a6⟩;refine⟨h1,?_⟩;clear h1;have a6:∃(v:π) (d:E dh) (I:QV Code),K.heap[(a:D)+1+1]?=IK (Lp (if I.isNone then NG else .done) I)/\K.heap[(a:D)+1]?=Kc (δ [])/\ρ w w K/\K.ownsRow (a+3) 73 2 v (d:D) (d.flatMap λp=>[O p.1,O p.2])/\(d:D)<=8/\(∀q∈d,ByteArray.size q.1<=8020/\ByteArray.size q.2<=80)/\
  ((I=δ .ret/\nm K [(w+1+1,63,v),(w+1+1+1,4,υ ψ),(w+1+1+1+1,27,G 0)])\/
   ((I=J\/I=δ (.exit 0))/\K.heap[(a:D)]?=θ #[v] 63/\nm K [(w+1+1,63,P J 0 0),((w:D)+1+1+1,4,υ X),((w:D)+1+1+1+1,27,G 0)])):=by
  rcases a6 with⟨j,aj⟩|⟨h8,h9,l9,v,d,i0,i1,i2,⟨f1,f2⟩|⟨f1,f2,k2⟩⟩
  .let⟨v,d,ah,T,b5,a5⟩:=aj.jJ;exact⟨v,d,J,aj.rA,aj.Oe,aj.gi,T,oA aj.mw,a5,Θ ⟨Ξ A,ah,aj.vm⟩⟩
  .exact⟨v,d,δ .ret,f1,h8,h9,i0,i1,i2,Ξ ⟨A,f2⟩⟩
  exact⟨v,d,δ (.exit 0),f1,h8,h9,i0,i1,i2,Θ ⟨Θ A,f2,k2⟩⟩
 let⟨v,d,I,h2,h3,h4,e0,h5,h6,a6⟩:=a6;refine⟨I,h2,?_⟩;generalize d9:K.putObj ((a:D)+1+1) (IK (Lp .exhausted I))=b2;have h:∀e,e≠(a:D)+2->b2.heap[e]?=K.heap[e]?:=λe c3=>d9▸Gu c3;have a1:=(h _ H).t h3;have a3:ρ w w b2:=d9▸bP h4 H _;have y:b2.ownsRow ((a:D)+3) 73 2 v (d:D) (d.flatMap λp=>[O p.1,O p.2]):=aK e0 λb0 ab=>h b0 (oA (bG e0 ab).1);have b7:∀{f4:E (D×Λ×π)},(∀q∈f4,q.1<(a:D))->nm K f4->nm b2 f4:=λg c=>c.of λq j4=>h _ (oA (g q j4));obtain⟨ak,a0,rfl⟩:=sY y;clear d9 h2 h3 h4 e0;rcases a6 with⟨rfl,k⟩|⟨U,g6,k⟩
 .have a2:=F (b7 (λq g=>by simp at g;rcases g with rfl|rfl|rfl<;>simp only<;>omega) k);have x:=F (κ a1 (κ a3 y));clear k b7 h a1 a3 y;simp only[mq];gi_wp2;exact⟨sm,Ξ ⟨_,_,A,Xq x.1,TR _ A A A a2.o x.2.2 x.2.1 h5 h6 H⟩⟩
 have a2:=b7 (λq g=>by simp at g;rcases g with rfl|rfl|rfl<;>simp only<;>omega) k;let⟨c1,d1,f7,d2,f8,d3⟩:=a2.jk;have i6:b2 a=P ak (d:D) a0:=LA ((h _ H).t g6);let⟨l8,g0,R,ae,a9,S⟩:=jk (x:=P ak (d:D) a0) (y:=υ X) (z:=G 0) a2;have f9:=(ae _ H H H).t a1;have x:=F (κ f9 (κ (S _ _ H a3) (κ R (aK y λb0 ab=>ae b0 (oA (bG y ab).1) (oA (bG y ab).1) (oA (bG y ab).1)))));have i4:=F g0;clear k b7 h a1 a3 y f9 R ae a9 S g6 g0 a2;rcases U with rfl|rfl
 all_goals
  simp only[mq];gi_wp2;rw[i4.o];exact⟨sm,Ξ ⟨_,_,A,Xq x.1,TR _ A A A x.2.2.1 x.2.2.2 x.2.1 h5 h6 H⟩⟩
end Cu
end
def WM:pX 107 4:=⟨⟨_,A,Lk⟩,jw⟩
def dF.bZ {f:E dh}(j:dF g m f):∃b a,m=P b f.length a:=by
 rcases j.1 with⟨b,a,rfl,rfl⟩|⟨o,t,a,rfl,_⟩<;>exact⟨_,_,A⟩
theorem DN (j:Pl)(c:Md.dY)(b J:E (IA×π))(I:Cc.Ca)(d:D)(z y:C)(M V:B)(a:ν)(v:eI a)(K:bt a j c b J I d)(ab: -9223372036854775808<=z/\z<=9223372036854775807)(T:M.size<=1000000)(af:V.size<=1000000):
 τ γ 245 #[ξ j.c,G z,β M,β V,G y] a λe i=>Cu.vD e i/\ρ a a i:=by
 have g:=F (lY j c b J I d z a K ab);have O:=F K;have q:=F v;clear K v;go_enter func245,ntmps245;go_wp2_with fail;apply g.o.m;rintro e n ⟨r,b1⟩;clear g;rcases r with⟨b0,w,Y,ag,k,S,rfl⟩|⟨ae,rfl⟩
 .let⟨⟨a2,a8,a3,l⟩,⟨a1,a5,a4,s⟩⟩:=O.o.fL w;rw[l,s];have f:=F b1;have p:=F k;clear w Y k S l s b1;go_wp2_with (first|(apply ia WM (Gc n _);intro X u;have o:=QC (ρ a a X) (u.aE _ _ f.o.z (f.o.a f.o.z _));have c4:=(O.o.aE o.o).c4;clear u)|((with_reducible apply(ku 4 _).m);rintro e Z ⟨rfl,U⟩;subst U));have h:=F (Cu.xH j.s j.m j.cg J ag M V y X (q.o.aE o.o) (O.o.aE o.o).cO (oA p.o) T af);apply h.o.m;rintro e Z ⟨⟨a9,ah,aj,ai,rfl,P,m,x,N,R⟩,H⟩;obtain⟨a6,a7,rfl⟩:=P.bZ;have t:=F (W P (W m (W x (o.o.t (H.m o.o.z)))));clear h P m x H;go_wp2;go_ret3;exact⟨⟨_,ah,aj,ai,A,t.1,t.2.1,t.2.2.1,N,R⟩,t.2.2.2⟩
 have f:=F b1;clear ae b1;have L:=QC (∀a,τ γ 50 #[Δ 27 (G 4),Δ 27 (G 4)] a λa0 i=>a0=υ ψ/\a=i) (λa=>hG 4 4 a);go_wp2_with (first|(apply ia WM (Gc n _);intro X u)|((with_reducible apply(L.o _).m);rintro e Z ⟨rfl,U⟩;subst U));go_ret3;exact⟨⟨_,[],σ,4,A,⟨Ξ ⟨ζ,0,A,A⟩,iZ.none _ _ _ _⟩,sm,nF,om,om⟩,u.aE _ _ f.o.z (f.o.a f.o.z _)⟩
namespace Sp
structure Gh where
 U:E (IA×S)
 lv:E B
 fs:E dh
 nv:S
 fv:S
def ef (f:dh):E S:=[O f.1,O f.2]
def wcs (fr z:B)(s u:D)(g:Gh)(k:D):Q S:=#[O fr,O z,Hl (Ic 101) #[V s] #[],KD (M u),g.nv,G (k:C),g.fv]
structure ea (y:L)(b u s:D)(fr z:B)(g:Gh)(k:D)(w:L):Prop where
 bO:w.heap[b]?=K (wcs fr z s u g k) 236
 og:w.ownsRow y.heap.size 9 1 g.nv g.lv.length (g.lv.map O)
 nn:w.ownsRow y.heap.size 73 2 g.fv g.fs.length (g.fs.flatMap ef)
 cS:bj N w 9 u g.U
 qi:∀p∈g.U,∃k n,p=(kl k,G n)
 dK:y.heap.size<=b/\y.heap.size<=u
 dn:T y y w
 ep:∀x∈g.lv,x.size<=1000000
 dZ:g.fs.length<=k/\g.lv.length<=500/\g.U.length<=500/\k<=400
def WN (b:D)(w:L)(j:D):Prop:=∃f,w.heap[b]?=K f 236/\(f.getD 4 undef).ownBlock=j
def wt (b:D)(w w':L):Prop:=∀f j,w.heap[f]?=K #[O j] 9->¬WN b w f->w'.heap[f]?=w.heap[f]?/\¬WN b w' f
variable {y w w1 w':ν}{b u s:Nat}{fr z:ByteArray}{g g':Gh}{k:Nat}
def wt.aJ (o:wt b w w1)(t:wt b w1 w'):wt b w w':=λd e a m=>by
 obtain⟨f,A⟩:=o d e a m;obtain⟨j,J⟩:=t d e (f.t a) A;exact⟨j.t f,J⟩
def wt.aE (f:T w w w')(j:b<w.heap.size):wt b w w':=λi l c e=>⟨f.b i (aw c),λ⟨d,a,h⟩=>e ⟨d,(f.b b j).s.t a,h⟩⟩
def ea.lt (f:ea y b u s fr z g k w):b<(w:D):=aw f.bO
def ea.ad2 (f:ea y b u s fr z g k w){j:D}:WN b w j↔g.nv.ownBlock=j:=
 ⟨λ⟨c,a,e⟩=>by
  rw[f.bO] at a
  simp only[Gd,Hq,QW] at a
  obtain⟨rfl,_⟩:=a
  exact e,λa=>⟨_,f.bO,a⟩⟩
def ea.aE (f:ea y b u s fr z g k w)(c:T w w w'):ea y b u s fr z g k w':=
 ⟨c.ke f.bO,aQ f.og c,aQ f.nn c,f.cS.aM (c.b _ f.cS.lt),f.qi,f.dK,f.dn.t (c.m f.dn.z),f.ep,f.dZ⟩
def dw {o t M J:D}{O:S}{Z:E S}{j:D}(P:w.ownsRow o t M O J Z)(f:O.ownBlock=j):∃A,w.heap[j]?=K A t/\J*M<=A.size/\o<=j:=by
 rcases P.2 with⟨rfl,_⟩|⟨g,r,a,rfl,V,X,W,v,U,_⟩
 .cases f
 simp only[Ψ,Gd] at f;subst f;exact⟨_,X,U▸JY _ W,V⟩
def ea.fz {B:D}{j:E Λ}{t:E D}(f:ea y b u s fr z g k w)(o:Fz B j t w w')(A:cM w t)(P:u∉t)(J:236∉j)(K:9∉j)(M:73∉j)(O:T y y w'):ea y b u s fr z g k w':=
 ⟨o.aM f.bO J (λq=>A _ q _ _ _ f.bO),aK f.og λm i=>by
  let⟨c,a,_⟩:=dw f.og i
  exact o.jJ A ⟨_,_,a⟩ K,aK f.nn λm i=>by
  let⟨c,a,_⟩:=dw f.nn i
  exact o.jJ A ⟨_,_,a⟩ M,o.hW f.cS P,f.qi,f.dK,O,f.ep,f.dZ⟩
end Sp
namespace Sp
variable {y w W w':ν}{b u s:Nat}{x z:ByteArray}{g g':Gh}{k:Nat}
def gP (y:L)(b u s:D)(x z:B)(g:Gh)(w:L)(g':Gh)(f:D)(w':L):Prop:=ea y b u s x z g' f w'/\Fz y.heap.size [236,9,73] [u] w w'/\(g.lv≠[]->wt b w w'/\g'.lv≠[])
def ea.gb (f:ea y b u s x z g k w):∀j o x,w.heap[u]?≠M (K j o x):=f.cS.bx
def ea.ne (f:ea y b u s x z g k w):u≠b:=λa=>f.gb (wcs x z s u g k) 236 (0,0) (a▸a▸f.bO)
def ea.afp (f:ea y b u s x z g k w):cM w [u]:=λd c=>by
 obtain rfl:=GA.1 c;exact f.gb
def ea.qt (j:ea y b u s x z g k w)(f:T w w w'):gP y b u s x z g w g k w':=⟨j.aE f,.aE f _ _ _,λd=>⟨wt.aE f j.lt,d⟩⟩
def gP.aJ {j o:Gh}{M A:D}{J K:L}(t:gP y b u s x z g w j M J)(f:gP y b u s x z j J o A K):gP y b u s x z g w o A K:=
 ⟨f.1,t.2.1.aJ f.2.1,λa=>by
  obtain⟨U,O⟩:=t.2.2 a
  obtain⟨V,P⟩:=f.2.2 O
  exact⟨U.aJ V,P⟩⟩
def ea.aT (a:ea y b u s x z g k w)(O:k<400):gP y b u s x z g w g (k+1) (w.setCell (b,5) (G ((k:C)+1))):=by
 have f:=aF (j:=5) (G ((k:C)+1)) a.bO;have m:Fz y [236,9,73] [u] w (w.setCell (b,5) (G ((k:C)+1))):=Fz.cV f a.bO R a.dK.1 _;have o:∀{K d A l:D} {t:S} {J:E S},d≠236->w.ownsRow K d A t l J->∀c,t.ownBlock=M c->c≠b:=λF n c e d=>by
  obtain⟨q,j,_⟩:=dw n e;rw[d,a.bO] at j;simp only[Gd,Hq] at j;exact F j.2.1.s
 refine⟨⟨f.at_,aK a.og λc e=>f.old c (o r a.og c e),aK a.nn λc e=>f.old c (o r a.nn c e),a.cS.aM (f.old u a.ne),a.qi,a.dK,m.dn (by simp[a.dK.2]) a.dn.z|>a.dn.t,a.ep,by have:=a.dZ;omega⟩,m,λh=>⟨λc H d l=>?_,h⟩⟩;have e:c≠b:=λp=>by rw[p,a.bO] at d;simp at d
 refine⟨f.old c e,λ⟨q,i,v⟩=>l ⟨_,a.bO,?_⟩⟩;rw[f.at_] at i;simp only[Gd,Hq,QW] at i;obtain⟨rfl,_⟩:=i;simpa[wcs] using v
def ea.dD {f:E (IA×S)}(a:ea y b u s x z g k w)(Z:w.mapTurned w' u)(X:bj N w' 9 u f)(p:∀r∈f,∃k h,r=(kl k,G h))(C:(f:D)<=500):gP y b u s x z g w {g with U:=f} k w':=by
 have e:aL (· =u) w w':=aL.dD (aL.bQ _ w) Z λ_=>rfl;have n:Fz y [236,9,73] [u] w w':=⟨e.os,e.cb,e.aW,e.aH,λd l=>by
  by_cases c:d=u
  .exact j (j (by simp[c]))
  exact o (e.aG d l c)⟩
 have t:∀{i:Q S} {U:Λ} {O:D×D} {d:D},w.heap[d]?=K i U O->w'.heap[d]?=w.heap[d]?:=fun{i U O d} c=>e.aG d (aw c) λq=>a.gb _ _ _ (q▸c);have M:∀{J c P h:D} {V:S} {A:E S},w.ownsRow J c P V h A->w'.ownsRow J c P V h A:=λe=>aK e λd l=>by
  let⟨i,I,_⟩:=dw e l;exact t I
 exact⟨⟨(t a.bO).t a.bO,M a.og,M a.nn,X,p,a.dK,n.dn (by simp[a.dK.2]) a.dn.z|>a.dn.t,a.ep,by have:=a.dZ;exact⟨this.1,this.2.1,C,this.2.2.2⟩⟩,n,λm=>⟨λd v c h=>⟨t c,λ⟨i,L,H⟩=>h ⟨i,(t a.bO).s.t L,H⟩⟩,m⟩⟩
def ea.mP {A v':S}{J d X j:D}{F:E S}(t:ea y b u s x z g k w)(O:J=9\/J=73)(P:w.ownsRow y.heap.size J d A X F)(c:aL (λa=>A.ownBlock=M a) w W):
 Fz y.heap.size [236,9,73] [u] w (W.setCell (b,j) v')/\(∀a,a<w.heap.size->a≠b->A.ownBlock≠M a->(W.setCell (b,j) v').heap[a]?=w.heap[a]?)/\W.heap[b]?=w.heap[b]?:=by
 have K:W.heap[b]?=w.heap[b]?:=c.aG b t.lt λh=>by
  obtain⟨r,f,_⟩:=dw P h;rw[t.bO] at f;simp only[Gd,Hq] at f;rcases O with rfl|rfl<;>simp at f
 have V:=aF (j:=j) v' (K.t t.bO);have U:∀a,a<w.heap.size->a≠b->A.ownBlock≠M a->(W.setCell (b,j) v').heap[a]?=w.heap[a]?:=λa l e v=>(V.old a e).t (c.aG a l v);refine⟨⟨c.os,c.cb,c.aW,GB c.aH (Iu V.aH.s),λa l=>?_⟩,U,K⟩;by_cases h:a=b
 .subst h;exact Θ (o ⟨_,_,_,t.bO,by simp,t.dK.1⟩)
 by_cases f:A.ownBlock=M a
 .obtain⟨r,e3,_,Z⟩:=dw P f;exact Θ (o ⟨_,_,_,e3,by rcases O with rfl|rfl<;>simp,Z⟩)
 exact o (U a l h f)
def ea.ad3 {j:S}{t:B}(a:ea y b u s x z g k w)(X:aL (λI=>g.nv.ownBlock=M I) w W)(J:W.ownsRow y 9 1 j (g.lv.length+1) (g.lv.map O++(#[t]:Q S).toList))(L:t.size<=1000000)(N:g.lv.length<500):
 gP y b u s x z g w {g with lv:=g.lv++[t],nv:=j} k (W.setCell (b,4) j):=by
 obtain⟨n,K,U⟩:=a.mP (j:=4) (v':=j) (o A) a.og X;have P:=aF (j:=4) j (U.t a.bO);have H:∀c,j.ownBlock=M c->c≠b:=λc h d=>by
  obtain⟨m,f,_⟩:=dw J h;rw[d,U,a.bO] at f;simp at f
 refine⟨⟨P.at_,?_,aK a.nn λc h=>?_,a.cS.aM (K u a.cS.lt a.ne λd=>?_),a.qi,a.dK,n.dn (by simp[a.dK.2]) a.dn.z|>a.dn.t,λv l=>?_,by have:=a.dZ;simp;omega⟩,n,λG=>⟨λc v d r=>?_,by simp⟩⟩
 .simp only[Gk,KR,Io];exact aK J λc h=>P.old c (H c h)
 .obtain⟨m,f,_⟩:=dw a.nn h;refine K c (aw f) (λd=>by rw[d,a.bO] at f;simp at f) λd=>?_;obtain⟨F,e,_⟩:=dw a.og d;rw[f] at e;simp at e
 .obtain⟨m,f,_⟩:=dw a.og d;exact a.gb _ _ _ f
 .rcases GO.1 l with l|l
  .exact a.ep v l
  rwa[GA.1 l]
 have h:c≠b:=λe=>by rw[e,a.bO] at d;simp at d
 have V:g.nv.ownBlock≠M c:=λe=>r (a.ad2.2 e);refine⟨K c (aw d) h V,λ⟨m,i,p⟩=>?_⟩;rw[P.at_] at i;simp only[Gd,Hq,QW] at i;obtain⟨rfl,_⟩:=i;have Z:j.ownBlock=M c:=by simpa[wcs] using p
 obtain⟨m,f,e,_⟩:=dw J Z;rw[X.aG c (aw d) V,d] at f;simp only[Gd,Hq] at f;obtain⟨rfl,_⟩:=f;have:g.lv.length≠0:=λq=>G (GH q);have e3:(g.lv.length+1)*1<=1:=e;omega
def ea.jl {o:S}{t:dh}(a:ea y b u s x z g k w)(V:aL (λm=>g.fv.ownBlock=M m) w W)(i:W.ownsRow y 73 2 o (g.fs.length+1) (g.fs.flatMap ef++(#[t.1,t.2]:Q S).toList))(X:g.fs.length<k):
 gP y b u s x z g w {g with fs:=g.fs++[t],fv:=o} k (W.setCell (b,6) o):=by
 obtain⟨q,J,O⟩:=a.mP (j:=6) (v':=o) (Θ A) a.nn V;have K:=aF (j:=6) o (O.t a.bO);have P:∀d,o.ownBlock=M d->d≠b:=λd e c=>by
  obtain⟨l,f,_⟩:=dw i e;rw[c,O,a.bO] at f;simp at f
 refine⟨⟨K.at_,aK a.og λd e=>?_,?_,a.cS.aM (J u a.cS.lt a.ne λc=>?_),a.qi,a.dK,q.dn (by simp[a.dK.2]) a.dn.z|>a.dn.t,a.ep,by have:=a.dZ;simp;omega⟩,q,λG=>⟨λd I c p=>?_,G⟩⟩
 .obtain⟨l,f,_⟩:=dw a.og e;refine J d (aw f) (λc=>by rw[c,a.bO] at f;simp at f) λc=>?_;obtain⟨U,h,_⟩:=dw a.nn c;rw[f] at h;simp at h
 .simp only[Gk,KR,Hj];exact aK (by simpa[ef] using i) λd e=>K.old d (P d e)
 .obtain⟨l,f,_⟩:=dw a.nn c;exact a.gb _ _ _ f
 have e:d≠b:=λh=>by rw[h,a.bO] at c;simp at c
 refine⟨J d (aw c) e λh=>?_,λ⟨l,n,F⟩=>p ⟨_,a.bO,?_⟩⟩
 .obtain⟨U,e3,_⟩:=dw a.nn h;rw[c] at e3;simp at e3
 rw[K.at_] at n;simp only[Gd,Hq,QW] at n;obtain⟨rfl,_⟩:=n;simpa[wcs] using F
end Sp
namespace Sp
def aav (f:S):Prop:=f=ω\/∃j,f=Δ 232 (V (M j))
def ad4 (O:L)(J Z X:D)(P M:B)(o:Gh)(V:D)(W:Prop)(p:L)(K:He)(q:L):Prop:=∃A u z j,ct A u/\K=f #[t A,z]/\aav z/\(z=ω->hU u/\(∀U,(u.r U).size<=1000000)/\(W->j.lv≠[]\/o.U≠[]))/\
 gP O J Z X P M o p j V q/\j.lv.length<=o.lv.length+1/\j.U.length<=o.U.length+1/\j.fs=o.fs
def ea.aV {o:B}{f:Gh}(t:ea g w q a k o f i s):s w=k/\s (w,1)=o/\s (w,2)=Hl (Ic 101) #[V a] #[]/\s (w,3)=KD (M q)/\s (w,4)=f.nv/\s (w,5)=(i:C)/\s (w,6)=f.fv/\∀d,s.frozen? ⟨w,d,J⟩=X:=by
 have j:=t.bO;refine⟨?_,?_,?_,?_,?_,?_,?_,λd=>aI j d⟩<;>(rw[QH j];rfl)
def ea.aaw {u:B}{f:Gh}{t:B}(j:ea g w q a k u f i s)(z:aL (λr=>f.nv.ownBlock=M r) s l)(U:l.ownsRow g 9 1 m ((f.lv:D)+1) (f.lv.map O++(#[t]:Q S).toList))(V:t.size<=1000000)(P:(f.lv:D)<500):
 ∃J,l.setCell (w,4) m=J/\l (w,4)=f.nv/\l.frozen? (w,4)=X/\gP g w q a k u f s {f with lv:=f.lv++[t],nv:=m} i J:=have K:=(j.mP (j:=4) (v':=m) (o A) j.og z).2.2.t j.bO;⟨_,A,cR K A,aI K 4,j.ad3 z U V P⟩
def ea.aax {t:B}{o:Gh}{x:dh}(f:ea g w q a k t o i s)(u:aL (λp=>o.fv.ownBlock=M p) s l)(K:l.ownsRow g 73 2 m ((o.fs:D)+1) (o.fs.flatMap ef++(#[x.1,x.2]:Q S).toList))(O:(o.fs:D)<i):
 ∃J,l.setCell (w,6) m=J/\l (w,6)=o.fv/\l.frozen? (w,6)=X/\gP g w q a k t o s {o with fs:=o.fs++[x],fv:=m} i J:=have z:=(f.mP (j:=6) (v':=m) (Θ A) f.nn u).2.2.t f.bO;⟨_,A,cR z A,aI z 6,f.jl u K O⟩
def gP.aM {A j w':L}{t V U:D}{J u:B}{M W:Gh}{r a:D}(X:gP A t V U J u M j W a w')(s:ea A t V U J u M r j){O:D}{z:Q S}{f:Λ}{P:D×D}(o:j.heap[O]?=K z f P)(Z:f∉[236,9,73]):w'.heap[O]?=K z f P:=X.2.1.aM o Z λp=>s.afp _ p _ _ _ o
def gP.ek {o:L}{z:B}{t M:Gh}{P:D}(b:gP g w q a k z t s M P l)(A:ea g w q a k z t i s){u:D}{X:Q S}(f:bd l o u (K h p))(n:l.heap[u]?=K X p)(O:s.heap.size<=u)(j:p∉[236,9,73]):gP g w q a k z t s M P o:=by
 have J:Fz g [p] [] l o:=Fz.cV f n R (GB A.dn.z O) _;simp only[GF,Hv,Xf,not_or] at j;have m:o.heap[w]?=l.heap[w]?:=f.old w λG=>by have:=A.lt;omega
 refine⟨b.1.fz J (λ_ b=>by cases b) R (by simpa using λG=>j.1 G.s) (by simpa using λG=>j.2.1 G.s) (by simpa using λG=>j.2.2 G.s) (b.1.dn.t (J.dn R b.1.dn.z)),b.2.1.ek f O,λd=>?_⟩;obtain⟨W,U⟩:=b.2.2 d;refine⟨λc e G y=>?_,U⟩;obtain⟨Z,V⟩:=W c e G y;exact⟨(f.old c λr=>by have:=aw G;omega).t Z,λ⟨h,E,F⟩=>V ⟨h,m.s.t E,F⟩⟩
def vE (t:∀b∈n,∃j f,b=(kl j,G f))(o:B)(f:C):∀b∈(kl o,G f)::be (kl o) n,∃j f,b=(kl j,G f):=λb c=>by
 rcases GF.1 c with rfl|c
 .exact⟨_,_,A⟩
 exact t b (GX.1 c).1
def pF (q:ν)(ah c7 v b9:D)(c0:C)(a3:E (IA×π))(b6 b4:B)(j:Gh)(b7:D)(a:B)(b:ν)(e2:eI q)(e1:bp q v b9 c0 a3)(a6:ea q ah c7 v b6 b4 j b7 b)(f6:a.size<=1000000)(V:(j.lv:D)<500/\(j.U:D)<500):
 τ γ 182 #[ξ ah,O a] b (ad4 q ah c7 v b6 b4 j b7 True b):=by
 let⟨ai,d2,h⟩:=aU b (K zc 281);have c8:=F d2;have T:=a6.aE h.aE;have d1:=F (hV v b9 c0 a3 a ai (e1.aE T.dn) (by unfold Ie;omega));let⟨a2,c1,a0,N,c4,c5,a1,a4⟩:=T.aV;have e8:∀a9 (b:ν),(Xa 101 a9).run γ b=Je (.enter 101 a9) b:=enters_of func101 Qz A;go_enter func182,ntmps182;go_wp2_with (rw[show(K #[ϑ 0,I,I,I,I,I,I,I,I,I,I,I,I,I,I,I,I,I,I] 281)=K zc 281 from A,c8.o]);go_call d1.o as y o ⟨a5,af⟩;have af:=af.s;subst af;have u:=F a6;have e9:=F h;have S:=h.at_;have b1:=h.aE;have d6:=aw S;rcases a5 with⟨-,rfl⟩|⟨f1,e6,g2,f8,-,a7,rfl⟩
 .have G:=b1.a b1.z (K #[O ⟨#[110,111,116,32,116,104,101,114,101,58]⟩,O a] 410);have X:=(GC ai (K #[O ⟨#[110,111,116,32,116,104,101,114,101,58]⟩,O a] 410) _ d6).t S;go_wp2_with (refine ia fC X ?_ (h:=Qz);intro f9 c6);apply qG fC c6.at_;exact⟨zc,bE,_,j,cA,A,Θ ⟨_,A⟩,nF,u.o.qt (c6.aE _ _ QD G),H,H,A⟩
 have d3:=F (mS e6 a7.aH ai (e2.aE T.dn).dm);have e4:=a7.aH;go_wp2_with fail;go_call d3.o as y o ⟨a5,G⟩;have P:=F (b1.t (G.m b1.z));have X:=G.ke S;have b2:=aw X;rcases a5 with⟨L,c,hd,c3,d4,rfl⟩|rfl
 .have z:=hd.aH;have t:=QC (ct L c/\hU c/\∀aj,(c.r aj).size<=1000000) ⟨hd,c3,λaj=>by
   rcases d4 with⟨_,rfl⟩|⟨_,a⟩
   .exact QK
   have:=a aj;omega⟩
  let⟨p,b3,d8⟩:∃p,(aT j.U (kl a)).getD (ϑ 0)=ϑ p/\(p≠0->j.U≠[]):=by
   cases V:aT j.U (kl a) with
   |none=>exact⟨0,A,λa=>absurd A a⟩
   |some g3=>
    let⟨f7,p,y⟩:=u.o.qi _ (cx V);simp only[Hf] at y;exact⟨p,y.2▸rfl,λ_ y=>by rw[y] at V;cases V⟩
  have d9:=F d8;have k:a.size<=Ie:=by unfold Ie;omega
  have b0:(j.U:D)<Ie:=by unfold Ie;omega
  have l:=F (λg (e:bd (o.alloc (K zc 281)) g o (K L 281))=>by
   have m:ρ b b g:=e.aE _ _ P.o.z (P.o.a P.o.z _)
   have n:=(e.old b H).t ((GC o _ _ b2).t X)
   have s:=u.o.aE m
   exact W m (W n (W s (W s.aV s.cS))))
  by_cases i:p=0
  .have e7:(p==0)=ψ:=by simp[i]
   clear i;go_wp2_with (first|(refine ia fC (Gc o _) ?_ (c:=z) (h:=fu t.1);intro g e;have Y:=e.at_;let⟨m,n,s,⟨a2,c1,a0,N,c4,c5,a1,a4⟩,x⟩:=l.o g e;have f:=F (W m (W n (W Y s))))|(at_lookup;apply wL dH GY (lj _) x (dW k);rw[b3])|(at_builtin;apply aP hO f.2.2.2.og f.2.2.2.dn.z;intro g4 g0 a8 c2;obtain⟨f0,f2,rfl⟩:=aR a8;let⟨g1,f4,f3,f5,d⟩:=f.2.2.2.aaw c2 a8 e4 V.1;let⟨_,_,_,N,_⟩:=d.1.aV;have x:=d.1.cS;have U:=F (W d (W (d.aM f.2.2.2 f.2.1 dc) (d.aM f.2.2.2 f.2.2.1 dc))))|(at_mapUpdate;apply wS dH GY x b0 (dW k);intro w8 R w;have M:=U.1.1.dD w R (vE u.o.qi a _) (oS (bB (kl a) j.U));have Z:=M.aM U.1.1 U.2.1 dc;have ag:=M.aM U.1.1 U.2.2 dc;have ab:=F M)|(refine oc fC ag ?_ (i:=z))|(refine ia fC Z ?_ (c:=z) (h:=fu t.1);intro b5 J));refine qG fC J.at_ ?_ (j:=z);have e0:=bB (kl a) j.U;exact⟨L,c,_,_,t.1,A,Ξ A,(λ_=>⟨t.2.1,t.2.2,λ_=>Ξ sm⟩),(((u.o.qt f.1).aJ U.1).aJ ab.o).ek u.o J Z QD dc,sm,QB,A⟩
  have e7:(p==0)=σ:=by simp[i]
  go_wp2_with (first|(refine ia fC (Gc o _) ?_ (c:=z) (h:=fu t.1);intro g e;have Y:=e.at_;let⟨m,n,s,⟨a2,c1,a0,N,c4,c5,a1,a4⟩,x⟩:=l.o g e;have f:=F (W m (W n (W Y s))))|(at_lookup;apply wL dH GY (lj _) x (dW k);rw[b3])|(at_mapUpdate;apply wS dH GY x b0 (dW k);intro w8 R w;have M:=f.2.2.2.dD w R (vE u.o.qi a _) (oS (bB (kl a) j.U));have Z:=M.aM f.2.2.2 f.2.1 dc;have ag:=M.aM f.2.2.2 f.2.2.1 dc;have ab:=F M)|(refine oc fC ag ?_ (i:=z))|(refine ia fC Z ?_ (c:=z) (h:=fu t.1);intro b5 J));refine qG fC J.at_ ?_ (j:=z);have e0:=bB (kl a) j.U;exact⟨L,c,_,_,t.1,A,Ξ A,(λ_=>⟨t.2.1,t.2.2,λ_=>Θ (d9.o i)⟩),((u.o.qt f.1).aJ ab.o).ek u.o J Z QD dc,sm,QB,A⟩
 have l:=F (λg (e:bd (o.alloc (K zc 281)) g o (K zc 281))=>by
  have m:ρ b b g:=e.aE _ _ P.o.z (P.o.a P.o.z _)
  have n:=(e.old b H).t ((GC o _ _ b2).t X)
  have ae:=m.a m.z (K #[O ⟨#[110,111,32,110,111,100,101,58]⟩,O a] 410)
  exact W ae ((GC g (K #[O ⟨#[110,111,32,110,111,100,101,58]⟩,O a] 410) _ (aw n)).t n))
 go_wp2_with (first|(refine ia fC (Gc o _) ?_ (h:=Qz);intro g e;let⟨ae,e5⟩:=l.o g e)|(refine ia fC e5 ?_ (h:=Qz);intro b5 J));apply qG fC J.at_;exact⟨zc,bE,_,j,cA,A,Θ ⟨_,A⟩,nF,u.o.qt (J.aE _ _ QD ae),H,H,A⟩
def DO (P:ν)(U L W ab:Nat)(ae:C)(R:List (IA×π))(b Z:B)(u:Gh)(d:Nat)(o:B)(t:ν)(l:eI P)(b2:bp P W ab ae R)(m:ea P U L W b Z u d t)(c0:o.size<=1000000)(c7:(u.lv:Nat)<500/\(u.U:Nat)<500):
 τ γ 232 #[ξ U,o] t (ad4 P U L W b Z u d QZ t):=by
 let⟨d3,a2,N⟩:=aU t (K zc 281);have b6:=F a2;have a5:=m.aE N.aE;have a1:=F (fH o (λ_=>fN (o.size+1) o H c0) d3 (l.aE a5.dn).dm);have M:=F m;have c2:=aw N.at_;have x:=F N;have p:=F (κ l b2);go_enter func232,ntmps232;go_wp2_with (rw[show(K #[ϑ 0,eS,eS,eS,eS,eS,eS,eS,eS,eS,eS,eS,eS,eS,eS,eS,eS,eS,eS] 281)=K zc 281 from A,b6.o]);go_call a1.o as y q ⟨a7,D⟩;have w:=F (x.o.aE.t (D.m x.o.aE.z));have r:=D.ke x.o.at_;have c8:=aw r;have T:=QC (∀k,∀a,bd (q.alloc (K zc 281)) a q (K k 281)->ρ t t a/\a.heap[(t:Nat)]?=K zc 281) λk a g=>
  ⟨g.aE _ _ w.o.z (w.o.a w.o.z _),(g.old t H).t ((GC q _ _ c8).t r)⟩
 rcases a7 with⟨k,J,hd,e,-,a8,-,rfl⟩|rfl
 .have z:=hd.aH;have f:=QC (ct k J/\hU J/\∀c,(J.r c).size<=1000000) ⟨hd,e,λc=>oA (a8 c)⟩;go_wp2_with (first|(refine ia fC (Gc q _) ?_ (c:=z) (h:=fu f.1);intro a g;have d2:=g.at_;let⟨h,i⟩:=T.o _ a g)|(refine oc fC d2 ?_ (i:=z))|(refine ia fC i ?_ (c:=z) (h:=fu f.1);intro Y j));refine qG fC j.at_ ?_ (j:=z);exact⟨k,J,_,u,f.1,A,Ξ A,(λ_=>⟨f.2.1,f.2.2,λG=>G.elim⟩),M.o.qt (j.aE _ _ QD h),H,H,A⟩
 have a0:=F (λa9=>gL o a9 H);go_wp2_with (refine ia fC (Gc q _) ?_ (h:=Qz);intro a g;let⟨h,i⟩:=T.o _ a g;have S:=F h);go_call a0.o _ as y w5 ⟨a6,E⟩;have V:=F (S.o.t (E.m S.o.z));have X:=E.ke i;rcases a6 with rfl|⟨d4,c3,rfl⟩
 .have b9:=V.o.a V.o.z (K #[O ⟨#[110,111,32,114,101,102,58]⟩,O o] 410);have d1:=(GC w5 (K #[O ⟨#[110,111,32,114,101,102,58]⟩,O o] 410) _ (aw X)).t X;go_wp2_with (refine ia fC d1 ?_ (h:=Qz);intro Y j);apply qG fC j.at_;exact⟨zc,bE,_,u,cA,A,Θ ⟨_,A⟩,nF,M.o.qt (j.aE _ _ QD b9),H,H,A⟩
 have n:=M.o.aE V.o;have a3:=F (pF P U L W ab ae R b Z u d d4 w5 p.1 p.2 n H c7);have b7:=F n;go_wp2_with fail;go_call a3.o as y c6 ⟨k,J,v,a4,hd,rfl,b0,e,I,b3,b4,b5⟩;have s:=I.aM b7.o X dc;have z:=hd.aH;have f:=F (κ hd (κ e I));rcases b0 with rfl|⟨d6,rfl⟩
 all_goals
  go_wp2_with (refine ia fC s ?_ (c:=z) (h:=fu f.1);intro Y j);refine qG fC j.at_ ?_ (j:=z);exact⟨k,J,_,a4,f.1,A,(by first|exact Ξ rfl|exact Θ ⟨_,A⟩),(by first|exact λ_=>⟨(f.2.1 trivial).1,(f.2.1 trivial).2.1,λG=>G.elim⟩|exact nF),((M.o.qt V.o).aJ f.2.2).ek M.o j s QD dc,b3,b4,b5⟩
def DP (f:He):Prop:=∃j,f=z j
def xI (b f e:B)(j:L)(P:b.size<=1000000)(V:f.size<=1000000)(U:e.size<=1000000):Y N 284 #[Γ #[b,f],O e] j λa h=>DP a/\T j j h:=by
 let⟨q,p,l⟩:=aU j (K #[b,f] 124);have J:=F p;have o:=F l.aE;have n:=l.at_;have c1:=cJ 1 n;have M:=F (Nib.ga f q H);go_enter func284,ntmps284;go_wp2_with (first|(rw[J.o])|((with_reducible go_call M.o as a m ⟨rfl,d⟩);have c:=F (o.o.t (d.m o.o.z));have G:m j=b:=(cR (d.ke n) A);generalize Nib.bK (Nib.cU f.data.toList)=W;have s:=F (Nib.ga b m H))|((with_reducible go_call s.o as a g ⟨rfl,i⟩);have r:=F (c.o.t (i.m c.o.z));generalize Nib.bK (Nib.cU b.data.toList)=k;have v:=y (Y N 222 #[k,e] g λa h=>a=υ (Lib.hasPrefix k.data.toList e.data.toList)/\g=h) ((Any.strings_HasPrefix Tryz.lays99 k e g).m λa h ⟨x,w⟩=>⟨x,w.s⟩))|((with_reducible go_call v.o as a w4 ⟨rfl,u⟩);subst u));all_goals
  go_ret;exact⟨⟨_,A⟩,by first|exact c.o|exact r.o⟩
def WO (j f W:B)(o:L)(X:j.size<=1000000)(Z:f.size<=1000000):Y N 229 #[Γ #[j,f],O W] o λa s=>DP a/\T o o s:=by
 let⟨m,l,h⟩:=aU o (K #[j,f] 124);have P:=F l;have z:=F h.aE;have J:=h.at_;have y:=cJ 0 J;have U:=F (Nib.ga j m H);go_enter func229,ntmps229;go_wp2_with (first|(rw[P.o])|((with_reducible go_call U.o as a k ⟨rfl,c⟩);have u:=F (z.o.t (c.m z.o.z));have c1:k (o,1)=f:=(cR (c.ke J) A);generalize Nib.bK (Nib.cU j.data.toList)=w;have V:=F (Nib.ga f k H))|((with_reducible go_call V.o as a t ⟨rfl,g⟩);have M:=F (u.o.t (g.m u.o.z));generalize Nib.bK (Nib.cU f.data.toList)=x));all_goals
  go_ret;exact⟨⟨_,A⟩,by first|exact u.o|exact M.o⟩
def DQ (j u:D)(o:Q S)(t:B)(f:L):Y N 231 #[V j,o,t] f λe a=>e=Hl (Ic 283) #[] #[V (M ⟨f+1,0,J⟩),V (M ⟨(f:D)+1+1,0,J⟩),V f]/\((f.alloc (K #[V j] 229)).alloc (K o 281)).alloc (K #[t] 9)=a:=by
 have rS:=rS;go_enter func231,ntmps231;go_wp2_with fail;go_ret;exact⟨A,A⟩
end Sp
section
attribute [local go_sem] Jo
def qu {A:Fence}{f:Xp}{W:Q Le}{X:E Le}{u:Le}{z:Act}{P:Exit->Act->L->Prop}(a:u.guard=J)(o:Λ)(Z:Kg)(O:u.op=.load o Z)
 (K off:D) (n:z.eval Z=V (K,off)) (j:E S) (M:TypeDesc) (r:g.rangeAt K off j) (v:f.underlying o=M) (hd:M.isRow=U) (b:(f.info? o).map (·.size)=(j:D))
 (p:Xn A w f W P X (z.put u.dst (t j.toArray)) g):Xn A w f W P (u::X) z g:=by
 refine wpListIn_plain a λy q=>?_;unfold Oper.wpIn;refine⟨by simp[Oper.about,O],?_⟩;rw[Oper.semAt_plain A _ _ (by rw[O];intro x s;cases s)];simp only[Xb,O,n,Instr.loadAt,Instr.sureAddr,IE,Kb,Kv,run_loadVar_mid g K off o j M r v hd b];exact q _ _ p
def Ol (f:Nd):∃j:E S,(j:D)=16/\(∀d:D,d<16->∀b,(Instr.index 279 (Γ j.toArray) (G (d:C))).run N b=Je (O (f.r d)) b)/\∀b c,ej b c f->b.rangeAt c 3 j:=by
 refine⟨[O (f.r 0),O (f.r 1),O (f.r 2),O (f.r 3),O (f.r 4),O (f.r 5),O (f.r 6),O (f.r 7),O (f.r 8),O (f.r 9),O (f.r 10),O (f.r 11),O (f.r 12),O (f.r 13),O (f.r 14),O (f.r 15)],A,λd k b=>jM f.r k b,λb c e a l i=>?_⟩;have o:a<16:=(Gg.1 i).1;have u:=Au f.r o;rw[<-IQ] at u;cases Gm (u.s.t i);show b ⟨c,3+a,J⟩=_;rw[QH e];exact(jN f).qF a o
namespace Sp
structure wu (b gw gn gp:D)(d:Nd)(path:B)(W:L):Prop where
 w:W.heap[gw]?=K #[V b] 229
 n:ej W gn d
 p:W.heap[gp]?=K #[path] 9
 no:¬WN b W gp
 lt:b<W.heap.size
def wu.aE {j:Nd}(f:wu w q a i j k g)(c:T g g s):wu w q a i j k s:=
 have o:=wt.aE c f.lt i k f.p f.no
 ⟨c.ke f.w,c.ke f.n,o.1.t f.p,o.2,GP f.lt c.z⟩
def wu.aay {j:D}{A:Nd}(o:wu q a i j A k s)(P:∀f t h,s.heap[w]?≠M (K f t h))(u:Fz g [236,9,73] [w] s l)(U:wt q s l):wu q a i j A k l:=
 have z:∀{J f t h},s.heap[J]?=K f t h->J∉[w]:=λm b=>by rw[GA.1 b] at m;exact P _ _ _ m
 have O:=U j k o.p o.no
 ⟨u.aM o.w R (z o.w),u.aM o.n R (z o.n),O.1.t o.p,O.2,GP o.lt u.aH⟩
structure WQ (w0:L)(b u:D)(fr pJ:B)(n l:D)(d:Nd)(path:B)(J Jx:L->Prop):Prop where
 aE:∀W W',J W->T W W W'->J W'
 eu:∀W,J W->W b=O fr/\W (b,1)=pJ/\∀cs t fr,W.heap[u]?≠M (K cs t fr)
 tell:∀W q ref,J W->ByteArray.size q<=path.size+13->ByteArray.size ref<=1000000->YieldAt Fence.wide (n-1) N l #[O q,O ref] W λe W'=>
  (e=z U/\J W'/\Fz w0.heap.size [236,9,73] [u] W W'/\wt b W W')\/(e=z X/\Jx W')
theorem TT (c2:L)(Z c7 d J y:D)(x W:B)(S a2:D)(f:Nd)(t:B)(X Y:L->Prop)(K:WQ c2 Z c7 x W S a2 f t X Y)(ag:1<=S)(af:x.size<=1000000)(aj:W.size<=1000000)(d3:t.size<=100000)(hd:hU f)(ae:∀c0,(f.r c0).size<=1000000)(h:L)(v:wu Z d J y f t h)(b3:X h):
 CallsIn Fence.wide S γ 283 #[Hl (.yield a2) #[] #[],V J,V y,V d] h λb ab=>(∃c8,b=ι c8)/\(X ab\/Y ab):=by
 let⟨a6,b4,G,ai⟩:=Ol f;have ah:=ai h J v.n;have a3:=F G;have a4:=F v;have a5:=F ae;have c6:=hd.bA;clear ai G v ae hd;refine callsIn_of_wp func283 A tV ?_ A;simp only[ntmps283,GZ,Gx,Hy,Nat.reduceAdd,Nat.reduceSub,Im,Il,IF,Iq,Ho,Hz];gi_wp2_with (apply qu A 279 _ A J 3 A a6 _ ah underlying279 A (b4▸EZ));clear ah;gi_loopw [10] (λiv wr=>∃j:D,j<=16/\iv=ϑ j/\Φ (X wr/\wu Z d J y f t wr)) (λiv _=>16-(QI iv).toNat)
 case atStart=>exact⟨0,H,A,F ⟨b3,a4.o⟩⟩
 case round=>
  obtain⟨j,d2,rfl,u⟩:=hrel;by_cases b6:j<16
  .have G:=a3.o j b6;have d8:(j:C)<16:=H;have d6:(0:C)<=(j:C):=H;have N:=a5.o j;let⟨r,l⟩:∃r,r=f.r j:=⟨_,A⟩;rw[<-l] at G N;clear l;by_cases w:r.size=0
   .have b7:=cj w;clear w;gi_wp2;go_roundw;case rel=>exact⟨j+1,H,gN,u⟩
    case measure=>simp[QI];omega
   have b7:=cp (H:0<r.size);clear w;have a1:wr y=t:=cR u.2.p A;have c1:wr (J,1)=f.bA:=cR u.2.n A;have m:wr J=f.bq:=cR u.2.n A;have q:wr d=V Z:=cR u.2.w A;let⟨c4,c5,_⟩:=K.eu wr u.1;have T:=QC (∀g,ρ wr wr g->X g/\wu Z d J y f t g) λg a=>⟨K.aE _ _ u.1 a,u.2.aE a⟩;let⟨i,n,e,s⟩:∃(i:L) (n:B),Φ (τ γ 284 #[Γ #[β x,β W],β n] i λb d1=>DP b/\ρ i i d1)/\Φ (n.size<=t.size+13/\ρ wr wr i/\(f.bq≠3->i=wr/\n=t++f.bA)/\(f.bq=3->i=wr.alloc (θ #[ε Ix (j:C)] 5)/\n=t++f.bA++tx [Ka j])):=by
    by_cases o:f.bq=3
    .exact⟨_,_,F (xI x W (t++f.bA++tx [Ka j]) _ af aj (by simp only[aA,dP,KR];omega)),F ⟨by simp only[aA,dP,KR];omega,(Ge _ wr).a QD _,λp=>absurd o p,λ_=>⟨A,A⟩⟩⟩
    exact⟨_,_,F (xI x W (t++f.bA) wr af aj (by simp only[aA];omega)),F ⟨by simp only[aA];omega,QG,λ_=>⟨A,A⟩,λp=>absurd p o⟩⟩
   have o:(f.bq=3/\i=wr.alloc (θ #[ε Ix (j:C)] 5)/\n=t++f.bA++tx [Ka j])\/(f.bq≠3/\i=wr/\n=t++f.bA):=by
    by_cases o:f.bq=3
    .exact Ξ ⟨o,s.2.2.2 o⟩
    exact Θ ⟨o,s.2.2.1 o⟩
   have u1:Ix.wrap (j:C)=(j:C):=Nj _ H;have b5:=rL wr j H;generalize a0:tx [Ka j]=t1 at o b5;have d4:t1.size<=1:=a0▸QD;clear a0;rcases o with⟨o,a9,b0⟩|⟨o,rfl,rfl⟩
   .rw[o] at m;subst a9;subst b0;have d9:=bH q;have e0:=u.2.lt;clear o;gi_wp2_with fail;refine⟨tV,?_⟩;apply(callsIn_wide.2 e.o).m;rintro b g ⟨⟨R,rfl⟩,a⟩;have z:=F (T.o g (s.2.1.t (a.m s.2.1.z)));clear a e a1 c1 m q c4 c5;cases R with
    |false=>
     gi_wp2;refine⟨λ_ p=>(by cases p),?_⟩;gi_wp2;go_roundw;case rel=>exact⟨j+1,H,gN,z⟩
     case measure=>simp[QI];omega
    |true=>
     gi_wp2;let⟨b2,b9,a7,a8,c,l⟩:=K.tell g _ r z.1 s.1 N;rw[c];refine⟨λ_=>ag,l.mono ?_⟩;clear c l;rintro b c3 (⟨rfl,M,O,P⟩|⟨rfl,U⟩)
     .have I:=F (κ M (z.2.aay (K.eu _ z.1).2.2 O P));clear M O P;gi_wp2;go_roundw;case rel=>exact⟨j+1,H,gN,I⟩
      case measure=>simp[QI];omega
     have k:=F U;clear U;gi_wp2;exact QS ⟨⟨_,A⟩,Θ k.o⟩
   have e1:(f.bq==3)=σ:=by simp[o]
   clear o;gi_wp2_with fail;refine⟨tV,?_⟩;apply(callsIn_wide.2 e.o).m;rintro b g ⟨⟨R,rfl⟩,a⟩;have z:=F (T.o g a);clear a e a1 c1 m q c4 c5;cases R with
   |false=>
    gi_wp2;refine⟨λ_ p=>(by cases p),?_⟩;gi_wp2;go_roundw;case rel=>exact⟨j+1,H,gN,z⟩
    case measure=>simp[QI];omega
   |true=>
    gi_wp2;let⟨b2,b9,a7,a8,c,l⟩:=K.tell g _ r z.1 s.1 N;rw[c];refine⟨λ_=>ag,l.mono ?_⟩;clear c l;rintro b c3 (⟨rfl,M,O,P⟩|⟨rfl,U⟩)
    .have I:=F (κ M (z.2.aay (K.eu _ z.1).2.2 O P));clear M O P;gi_wp2;go_roundw;case rel=>exact⟨j+1,H,gN,I⟩
     case measure=>simp[QI];omega
    have k:=F U;clear U;gi_wp2;exact QS ⟨⟨_,A⟩,Θ k.o⟩
  gi_wp2;go_end0;exact⟨⟨_,A⟩,Ξ u.1⟩
end Sp
end
def Fz.TU {B:D}{A:E Λ}{J:E D}{W j:L}{l:D}{o M:Obj}(K:W.heap[l]?=o)(f:Fz B A J (W.putObj l M) j):Fz B A J W (j.putObj l o):=by
 have V:=aw K;have O:=f.aH;rw[IH] at O;refine⟨f.os,f.cb,f.aW,by rwa[IH],λk p=>?_⟩;by_cases t:k=l
 .subst t;exact Ξ ((Ht H).t K.s)
 have P:(W.putObj l M).heap[k]?=W.heap[k]?:=Gu t;have U:(j.putObj l o).heap[k]?=j.heap[k]?:=Gu t;rw[U,<-P];exact f.aG k (by rwa[IH])
namespace Sp
def NC (o:Obj):Prop:=(∀f J A,o≠K f J A)/\∀j t,o≠Lz j t
def iF (x:Loop):NC (IK x):=⟨(λ_ _ _ a=>by cases a),λ_ _ a=>by cases a⟩
def zg (x:QV (E Deferred)):NC (Kc x):=⟨(λ_ _ _ a=>by cases a),λ_ _ a=>by cases a⟩
variable {w0 w W W':ν}{b u s l k k':Nat}{fr z:ByteArray}{g g':Gh}{o x:Obj}
def wt.lQ (t:W.heap[l]?=x)(i:NC x)(f:b≠l)(o:Obj):wt b W (W.putObj l o):=λj p a n=>
 ⟨Gu (λc=>by rw[c,t] at a;exact i.1 _ _ _ (Gm a)),λ⟨d,e,h⟩=>n ⟨d,(Gu f).s.t e,h⟩⟩
def wt.TU {f:L}{t P:Obj}(K:W.heap[l]?=x)(M:NC x)(J:f.heap[l]?=t)(O:NC t)(j:b≠l)(A:wt b (W.putObj l P) f):wt b W (f.putObj l o):=(wt.lQ K M j _).aJ (A.aJ (wt.lQ J O j _))
def ea.lQ (f:ea w0 b u s fr z g k W)(P:W.heap[l]?=x)(V:NC x)(F:w0.heap.size<=l)(o:Obj):ea w0 b u s fr z g k (W.putObj l o):=by
 have U:∀{j:D} {t:Q S} {J:Λ} {X:D×D},W.heap[j]?=K t J X->(W.putObj l o).heap[j]?=W.heap[j]?:=fun{j t J X} c=>Gu λd=>by rw[d,P] at c;exact V.1 _ _ _ (Gm c)
 have i:∀{O c Z A:D} {v:S} {M:E S},W.ownsRow O c Z v A M->(W.putObj l o).ownsRow O c Z v A M:=λp=>aK p λj e=>by
  obtain⟨t,a,_⟩:=dw p e;exact U a
 refine⟨(U f.bO).t f.bO,i f.og,i f.nn,f.cS.aM (Gu λc=>?_),f.qi,f.dK,bP f.dn F o,f.ep,f.dZ⟩;obtain⟨G,A,d⟩:=f.cS.gb;rw[c,P] at d;exact V.2 _ _ (Gm d)
def ea.nel (f:ea w0 b u s fr z g k W)(j:W.heap[l]?=x)(t:NC x):b≠l:=λa=>by
 have:=f.bO;rw[a,j] at this;exact t.1 _ _ _ (Gm this)
def gP.lQ (f:gP w0 b u s fr z g w g' k' W)(t:W.heap[l]?=x)(A:NC x)(i:w.heap.size<=l)(K:w0.heap.size<=w.heap.size)(o:Obj):gP w0 b u s fr z g w g' k' (W.putObj l o):=
 ⟨f.1.lQ t A H o,⟨f.2.1.os,f.2.1.cb,f.2.1.aW,by rw[IH];exact f.2.1.aH,λj h=>by
  have J:(W.putObj l o).heap[j]?=W.heap[j]?:=Gu H
  rw[J];exact f.2.1.aG j h⟩,λe=>⟨(f.2.2 e).1.aJ (wt.lQ t A (f.1.nel t A) o),(f.2.2 e).2⟩⟩
def gP.obj (A:gP w0 b u s fr z g w g' k' W)(J:ea w0 b u s fr z g k w){t:D}(f:w.heap[t]?=o)(j:NC o):W.heap[t]?=o:=by
 rw[A.2.1.dC (aw f) (λh=>?_) (λc q p a=>?_)]
 .exact f
 .rw[GA.1 h] at f;obtain⟨K,M,a⟩:=J.cS.gb;rw[f] at a;exact j.2 _ _ (Gm a)
 rw[f] at a;exact absurd (Gm a) (j.1 _ _ _)
end Sp
section
attribute [local go_sem] Jo
namespace Sp
def afq (j:L)(b u s:D)(i y:B)(g:Gh)(k:D)(w:L)(K:He)(M:L):Prop:=∃J z A,K=ι J/\aav J/\k<=A/\gP j b u s i y g w z A M/\z.lv≠[]/\z.lv.length<=A+1/\z.U.length<=A+1/\(J=ω->z.lv.length<=A/\z.U.length<=A)
def DR (j:L)(b u s:D)(i y:B)(k:D):Prop:=∀(g:Gh) (c:Q S) (a:Nd) (h:B) (w:L),ea j b u s i y g k w->g.lv≠[]->g.lv.length<=k+1->g.U.length<=k+1->ct c a->hU a->(∀z,(a.r z).size<=1000000)->h.size<=20*k->
 Y N 183 #[V b,c,h] w (afq j b u s i y g k w)
def np {z:Func}{K:Tmp}(P:z.results=#[.cell K 110]){J:Q S}{w:L}{a:JM}{x:S}(A:J.getD K undef=V (M a))(O:w a=x):(results z J).run N w=Je x w:=by
 simp only[Kd] at A;simp only[results,P];simp[IE,Ω,A,asAddr,loadVar,isAgg,XF,IW,O]
def zh (j:L)(b u s:D)(i y:B)(g:Gh)(k:D)(w:L)(A:Nd)(J:D)(W:L):Prop:=∃z,gP j b u s i y g w z (k+1) W/\z.lv=g.lv/\z.U=g.U/\z.fs.length<=J/\W.heap[w.heap.size]?=K #[V b] 229/\ej W (w.heap.size+1) A/\W.heap[w.heap.size+1+1]?=K #[ω] 110
def zh.aE {j w W J:L}{b u s:D}{i y:B}{g:Gh}{k V:D}{A:Nd}(P:zh j b u s i y g k w A V W)(z:T W W J):zh j b u s i y g k w A (k+1) J:=by
 obtain⟨X,c,Z,K,q,M,U,O⟩:=P;exact⟨X,c.aJ (c.1.qt z),Z,K,c.1.dZ.1,z.ke M,z.ke U,z.ke O⟩
def zh.TV {j w W A:L}{b u s:D}{i y:B}{g:Gh}{k J:D}{K:Nd}(V:zh j b u s i y g k w K J W)(z:T W W A):zh j b u s i y g k w K J A:=by
 obtain⟨Z,M,a,O,x,X,P,U⟩:=V;exact⟨Z,M.aJ (M.1.qt z),a,O,x,z.ke X,z.ke P,z.ke U⟩
def qw (A:JM)(w:L):(Xc .neq 110 (Δ 232 (V (M A))) ω).run N w=Je (z U) w:=by
 have J:∀a:D,(Op.equalIn (a+1) 110 (Δ 232 (V (M A))) ω).run N w=Je X w:=λa=>by simp[Op.equalIn,Xo IW]
 simp only[Xc];simp[Op.equal,Op.maxDepth,J 9999]
structure TJ (j:L)(b u s:D)(i y:B)(g:Gh)(k:D)(w:L)(l:D)(Lp:Xh->QV Code->Loop)(W:L):Prop where
 rA:W.heap[l]?=IK (Lp NG J)
 Oe:W.heap[l-1]?=Kc (M [])
 jA:W.heap[w.heap.size]?=K #[V b] 229
 OQ:W.heap[w.heap.size+1+1]?=K #[ω] 110
 aay:∃o e,gP j b u s i y g w o e W/\k<e/\o.lv.length<=e/\o.U.length<=e/\o.lv≠[]
def TX (j:L)(b u s:D)(i y:B)(g:Gh)(k:D)(w:L)(l:D)(Lp:Xh->QV Code->Loop)(W:L):Prop:=W.heap[l]?=IK (Lp .done (M .ret))/\W.heap[l-1]?=Kc (M [])/\∃z o e,W.heap[w.heap.size+1+1]?=K #[Δ 232 (V (M z))] 110/\gP j b u s i y g w o e W/\k<e/\o.lv.length<=e+1/\o.U.length<=e+1/\o.lv≠[]
section
variable {j w W r f:ν}{b u s l k e d:Nat}{i y:ByteArray}{g o t:Gh}{Lp:LoopState->Option Code->Loop}
def TJ.ad5 (K:TJ j b u s i y g k w l Lp W)(P:r=W.putObj l (IK (Lp .busy J)))(A:gP j b u s i y g w o e r)(z:gP j b u s i y o r t d f)(c:o.lv≠[])(G:k<d)(m:t.lv.length<=d)(I:t.U.length<=d)(v:w.heap.size+4<=l)(n:j.heap.size<=w.heap.size):
 f.heap[l]?=IK (Lp .busy J)/\TJ j b u s i y g k w l Lp (f.putObj l (IK (Lp NG J)))/\Fz j [236,9,73] [u] W (f.putObj l (IK (Lp NG J)))/\wt b W (f.putObj l (IK (Lp NG J))):=by
 have U:∀a,a≠l->r.heap[a]?=W.heap[a]?:=λa p=>by rw[P];exact Gu p
 have Z:r.heap[l]?=IK (Lp .busy J):=by rw[P];exact Ht (aw K.rA)
 have M:=z.obj A.1 Z (iF _);have q:=z.obj A.1 ((U (l-1) H).t K.Oe) (zg _);have F:=z.aM A.1 ((U _ H).t K.jA) dc;have L:=z.aM A.1 ((U _ H).t K.OQ) dc;have O:∀a,a≠l->(f.putObj l (IK (Lp NG J))).heap[a]?=f.heap[a]?:=λa p=>Gu p;have X:=z.2.1;have V:=(z.2.2 c).1;have h:=A.1.nel Z (iF _);rw[P] at X V;exact⟨M,⟨Ht (aw M),(O _ H).t q,(O _ H).t F,(O _ H).t L,t,d,(A.aJ z).lQ M (iF _) H n _,G,m,I,(z.2.2 c).2⟩,Fz.TU K.rA X,wt.TU K.rA (iF _) M (iF _) h V⟩
def TX.of {c:JM}{A:L}{q:Q S}(x:TJ j b u s i y g k w l Lp W)(v:r=W.putObj l (IK (Lp .busy J)))(U:gP j b u s i y g w o e r)(O:gP j b u s i y o r t d f)(h:o.lv≠[])(n:k<d)(I:t.lv.length<=d+1)(F:t.U.length<=d+1)(Y:w.heap.size+4<=l)(T:j.heap.size<=w.heap.size)
 (P:bd f A (w.heap.size+1+1) (K #[Δ 232 (V (M c))] 110)) (R:f.heap[w.heap.size+1+1]?=K q 110) (m:ea j b u s i y g k w):
 A.heap[l]?=IK (Lp .busy J)/\TX j b u s i y g k w l Lp (A.putObj l (IK (Lp .done (M .ret)))):=by
 have N:∀a,a≠l->r.heap[a]?=W.heap[a]?:=λa p=>by rw[v];exact Gu p
 have G:r.heap[l]?=IK (Lp .busy J):=by rw[v];exact Ht (aw x.rA)
 have X:=(P.old l H).t (O.obj U.1 G (iF _));have z:=(P.old (l-1) H).t (O.obj U.1 ((N (l-1) H).t x.Oe) (zg _));have Z:∀a,a≠l->(A.putObj l (IK (Lp .done (M .ret)))).heap[a]?=A.heap[a]?:=λa p=>Gu p;exact⟨X,Ht (aw X),(Z _ H).t z,c,t,d,(Z _ H).t P.at_,((U.aJ O).ek m P R H dc).lQ X (iF _) H T _,n,I,F,(O.2.2 h).2⟩
end
def zi (j:ν)(b u s l7:D)(l8:C)(h8:E (IA×π))(i y:B)(n8:eI j)(n7:bp j s l7 l8 h8)(j9:i.size<=1000000)(e4:y.size<=1000000)(k:D)(o2:∀k7,k<k7->DR j b u s i y k7):DR j b u s i y k:=by
 intro g b4 O x w a e2 n4 n5 hd g1 k5 q2;obtain rfl:=hd.eq;have r7:=g1.bA;obtain⟨X,e3⟩:∃X,X=((w.alloc (K #[V b] 229)).alloc (K (nc O) 281)).alloc (K #[ω] 110):=⟨_,A⟩;have p0:X.heap.size=w.heap.size+3:=by rw[e3];simp
 have b5:ρ w w X:=by rw[e3];go_grown
 have x0:X.heap[w.heap.size]?=K #[V b] 229:=by
  rw[e3];exact(QP QB).t ((QP sm).t (Gc w _))
 have h6:ej X (w.heap.size+1) O:=by
  rw[e3];have:=Gc (w.alloc (K #[V b] 229)) (K (nc O) 281);rw[GG] at this;exact(QP sm).t this
 have a6:X.heap[w.heap.size+1+1]?=K #[ω] 110:=by
  rw[e3];have:=Gc ((w.alloc (K #[V b] 229)).alloc (K (nc O) 281)) (K #[ω] 110);rwa [GG,GG] at this
 have d2:=a.aE b5;obtain⟨-,-,-,-,-,c5,-,p5⟩:=d2.aV;have d0:X w=V b:=cR x0 A;have f3:=F e3.s;have r6:=a.dZ.2.2.2;refine(XC (n:=9)).1 ?_;refine XD func183 A trivial ?_ A;simp only[ntmps183,GZ,Gx,Hy,Nat.reduceAdd,Nat.reduceSub,Im,Il,IF,Iq,Ho,Hz];refine wpIn_wide.2 ?_;by_cases n0:k<400
 .have q5:(k:C)<400:=H;have d9:=(a.qt b5).aJ (d2.aT n0);obtain⟨z,v⟩:∃z,X.setCell (b,5) (ϑ ((k:C)+1))=z:=⟨_,A⟩;rw[v] at d9;have e1:∀{d6:D} {b4:Q π} {f0:Λ},X.heap[d6]?=K b4 f0->f0≠236->z.heap[d6]?=K b4 f0:=fun{d6 b4 f0} ag e4=>by
   rw[<-v];exact(QJ (λm=>by simp only at m;subst m;rw[d2.bO] at ag;simp only[Gd,Hq] at ag;exact e4 ag.2.1.s)).t ag
  have h7:=e1 x0 dc;have e9:ej z (w.heap.size+1) O:=e1 h6 dc;have h2:z ⟨w+1,1,J⟩=O.bA:=cR e9 A;have e8:z ⟨w+1,2,J⟩=O.bL:=cR e9 A;have h1:z w=V b:=cR h7 A;have ae:=QC (zh j b u s i y g k w O k z) ⟨g,d9,A,A,a.dZ.1,h7,e9,e1 a6 dc⟩;obtain⟨f1,c1,-,-,-,-,-,-⟩:=d9.1.aV;have q:=F (κ a e2);have i5:=F (κ k5 g1);have r5:(x++O.bA).size<=20*k+12:=by rw[aA];omega
  clear d9 e1 h7 e9 x0 h6 a6 a d2 b5 e3 e2 k5 g1 hd;rcases(by omega:O.bL.size=0\/0<O.bL.size) with d1|d1
  rotate_left;focus
   have p2:=cp d1;clear d1;have l9:=F (WO i y (x++O.bA) z j9 e4);go_upto_region 9 with(first|rw[f3.o]|((with_reducible refine l9.o.m ?_);rintro m z ⟨⟨g4,rfl⟩,j2⟩;have ae:=F (ae.o.TV j2);clear j2;have m0:=F (Nib.px (x++O.bA) z H))|((with_reducible refine m0.o.m ?_);rintro m z ⟨rfl,b6⟩;have ae:=F (ae.o.TV b6);clear b6;generalize Nib.bK (Nib.pw (x++O.bA).data.toList)=o4;generalize Nib.gm (x++O.bA).data.toList=o3));focus
    obtain⟨h,P,a9,b0,r4,T,ah,b2⟩:=ae.o;have f2:=F P.1;have m2:=QC (∀o W,gP j b u s i y h z o (k+1) W->o.lv=h.lv->o.U=h.U->zh j b u s i y g k w O (k+1) W) λo W a a3 m6=>⟨o,P.aJ a,a3.t a9,m6.t b0,a.1.dZ.1,a.aM P.1 T dc,a.aM P.1 ah dc,a.aM P.1 b2 dc⟩;obtain⟨-,-,-,-,-,-,m4,-⟩:=P.1.aV;have e8:z ⟨w+1,2,J⟩=O.bL:=cR ah A;have h1:z w=V b:=cR T A;have n1:h.fs.length<k+1:=H;have o7:¬h.fv.ownBlock=w.heap.size:=λm=>by
     obtain⟨b4,a3,-⟩:=dw P.1.nn m;rw[T] at a3;simp at a3
    have p6:¬h.fv.ownBlock=M (w.heap.size+1):=λm=>by
     obtain⟨b4,a3,-⟩:=dw P.1.nn m;rw[ah] at a3;simp at a3
    have g9:=bH h1;have c2:=bH e8;have h0:=bH m4;clear P a9 b0 T ah b2 h2 f1 c1;obtain rfl:o3=ψ:=by assumption
    go_cut [] from 15 to 63 (λp3=>Φ (zh j b u s i y g k w O (k+1) p3))
    case first=>
     refine wpIn_wide.1 (tt (n:=9) (wpIn_wide.2 ?_));go_region_law (refine nL ue A _ _ rf rf (by exact f2.o.nn) rf _ rf (by simp[φ]) H (by exact f2.o.dn.z) ?_;intro s5 p k4 k2;obtain⟨p8,p9,rfl⟩:=aR k4;obtain⟨a5,r1,p4,r3,o1⟩:=f2.o.aax (x:=(o4,O.bL)) k2 k4 n1;have l2:=k2.dN h1 o7)
     all_goals
      simp only[ic];go_wp2_with fail;go_meet;exact F (m2.o _ _ o1 A A)
    have ae:=hcut
    rename ν=>z
    go_upto_region 9 with fail
  rotate_right;focus
   have p2:=cj d1;clear d1;go_upto_region 9 with(first|rw[f3.o])
  all_goals
   have c6:=F (ae.o.aE QG);clear ae;obtain⟨h,P,a9,b0,-,T,ah,b2⟩:=c6.o;have l2:z w=V b:=cR T A;have i0:=F (DQ b 0 (nc O) x z);have j6:z.heap[w.heap.size+1]?=K (nc O) 281:=ah;clear P a9 b0 T ah b2 h;go_wp2_with (refine zw fC A _ A A (jN O).aH j6 ?_);refine i0.o.m ?_;rintro m p ⟨rfl,a8⟩;clear i0;have l3:p.heap.size=z.heap.size+3:=by rw[<-a8];simp
   have b6:ρ z z p:=by rw[<-a8];go_grown
   have l4:p.heap[z.heap.size]?=K #[V b] 229:=by
    rw[<-a8];exact(QP QB).t ((QP sm).t (Gc z _))
   have l5:ej p (z.heap.size+1) O:=by
    rw[<-a8];have:=Gc (z.alloc (K #[V b] 229)) (K (nc O) 281);rw[GG] at this;exact(QP sm).t this
   have l6:p.heap[z.heap.size+1+1]?=K #[x] 9:=by
    rw[<-a8];have:=Gc ((z.alloc (K #[V b] 229)).alloc (K (nc O) 281)) (K #[x] 9);rwa [GG,GG] at this
   have af:=F (κ l3 (κ b6 (κ l4 (κ l5 l6))));have m8:∀h9 (w:ν),(Xa 283 h9).run γ w=Je (.enter 283 h9) w:=enters_of func283 Qz A;clear a8 l3 b6 l4 l5 l6 j6 l2;go_wp2;refine wpIn_wide.1 (gl (n:=9) A dc (gf:=283) (lb:=#[V (M ⟨z.heap.size+1,0,J⟩),V (M ⟨z.heap.size+1+1,0,J⟩),V (z.heap.size,0)]) A trivial m8 ?_);intro l Lp a5 g2 p1 b7 f9 j7 k6;have j8:a5.heap[l-1]?=Kc (M []):=by rw[g2];exact j7
   have i4:=QC (l-1=p.heap.size/\l=p.heap.size+1) ⟨by omega,g2⟩;have s2:z.heap.size+4<=l:=by have:=af.1;omega
   have s3:l<a5.heap.size:=aw f9;have a7:ρ z z a5:=af.2.1.t (b7.m af.2.1.z);have ai:j.heap.size<=w.heap.size:=q.1.dn.z;have q4:w.heap.size<=z.heap.size:=by obtain⟨h,P,-⟩:=c6.o;exact P.2.1.aH
   have i9:TJ j b u s i y g k w l Lp a5:=by
    obtain⟨h,P,a9,b0,-,T,ah,b2⟩:=c6.o;exact⟨f9,j8,Below.ke a7 T,Below.ke a7 b2,h,k+1,P.aJ (P.1.qt a7),by omega,by rw[a9];omega,by rw[b0];omega,(P.2.2 q.2).2⟩
   have j0:wu b z.heap.size (z.heap.size+1) (z.heap.size+1+1) O x a5:=by
    obtain⟨h,P,-⟩:=c6.o;refine⟨Below.ke b7 af.2.2.1,Below.ke b7 af.2.2.2.1,Below.ke b7 af.2.2.2.2,λn3=>?_,GP P.1.lt a7.z⟩;have:=(bG P.1.og ((P.1.aE a7).ad2.1 n3)).2;omega
   have i3:=F (κ i9 j0);have m1:=F k6;clear i9 j0 k6 f9 j7 j8 p1 b7 g2 a7;refine(TT j b u z.heap.size (z.heap.size+1) (z.heap.size+1+1) i y 8 l O x (TJ j b u s i y g k w l Lp) (TX j b u s i y g k w l Lp) ⟨?below,?ends,?tell⟩ dc j9 e4 H i5.2 i5.1 a5 i3.2 i3.1).m ?_;case below=>
    rintro W p7 ⟨Z,I,a4,G,o,e,q9,d3⟩ c7;exact⟨Below.ke c7 Z,Below.ke c7 I,Below.ke c7 a4,Below.ke c7 G,o,e,q9.aJ (q9.1.qt c7),d3⟩
   case ends=>
    rintro W ⟨Z,I,a4,G,o,e,q9,d3⟩;obtain⟨f1,c1,-⟩:=q9.1.aV;exact⟨f1,c1,q9.1.gb⟩
   case tell=>
    intro W d6 o9 f8 q3 n6;obtain⟨Z,I,a4,G,o,e,q9,d3,g7,g8,aj⟩:=id f8;have f4:=F f8;refine m1.o.oj _ _ _ _ A Z λr c0=>?_;have f5:=F c0;have h2:r.heap[l]?=IK (Lp .busy J):=by rw[c0];exact Ht (aw Z)
    have e0:∀c,c≠l->r.heap[c]?=W.heap[c]?:=λc c8=>by rw[c0];exact Gu c8
    have e6:gP j b u s i y g w o e r:=by rw[c0];exact q9.lQ Z (iF _) H ai _
    have h3:=(e0 _ H).t a4;have l1:=(e0 _ H).t G;have e8:=(e0 (l-1) H).t I;have r9:=e6.1.dZ.2.2.2;have S:=F (κ e6 aj);have i7:=F (κ h3 l1);have i1:=F (DO j b u s l7 l8 h8 i y o e o9 r n8 n7 e6.1 n6 H);have f6:r w=V b:=cR h3 A;clear c0 h2 e8 h3 l1 e0 e6 Z I a4 G q9 aj f8;gi_wp2_with fail;refine⟨trivial,?_⟩;refine(JK _ (callsIn_wide.2 i1.o)).m ?_;rintro m w8 ⟨j3,m5,q8,m7,g0,rfl,o0,k3,e5,o5,o6,q6⟩;have g3:=g0.aH;have R:=F (κ g0 (κ k3 (κ e5 (κ o5 o6))));have i6:=F (λL (a0:bd (w8.alloc (K zc 281)) L w8.heap.size (K j3 281))=>by
     have m3:ρ w8 w8 L:=a0.aE _ _ QD ((Ge _ w8).a QD _)
     have Y:=e5.aJ (e5.1.qt m3)
     exact κ Y (κ (Y.aM S.1.1 i7.1 dc) (Y.aM S.1.1 i7.2 dc)))
    have q1:=fg;have q0:=qw;clear g0 k3 e5 i1 f6;rcases o0 with rfl|⟨d4,rfl⟩
    .gi_wp2_with (first|(refine xj fC A _ _ A A A g3 (fu R.1) A (Gc w8 _) ?_;intro L a0;have k8:=a0.at_;obtain⟨Y,e3,v⟩:=i6.o L a0;have f6:L w=V b:=(cR e3 A);have ab:=F (κ Y v);clear Y e3 v a0)|(refine EM fC A _ A A g3 k8 ?_));have k1:=(R.2.2.1.2.2 S.2).2;have f7:=R.2.1 trivial;have k9:=R.2.2.2.1;have l0:=R.2.2.2.2;have i2:=F (o2 e H m7 j3 m5 d6 L ab.1.1 k1 H H R.1 f7.1 f7.2.1 H);clear k1 f7 k9 l0 k8 f6;refine⟨trivial,?_⟩;refine(JK _ (callsIn_wide.2 i2.o)).m ?_;rintro m f ⟨q7,t,d,rfl,n9,r8,g5,k0,g9,c2,h0⟩;clear i2;have b9:=g5.aM ab.1.1 ab.2 dc;have i8:=F (ab.1.aJ g5);have d8:=F (κ k0 (κ g9 (κ c2 h0)));clear g5 k0 g9 c2 h0;rcases n9 with rfl|⟨d4,rfl⟩
     .clear b9;gi_wp2;obtain⟨c3,U,o8,n⟩:=f4.o.ad5 f5.o S.1 i8.o S.2 H (d8.2.2.2 trivial).1 (d8.2.2.2 trivial).2 H ai;exact⟨c3,Ξ ⟨A,U,o8,n⟩⟩
     have j4:f ⟨w.heap.size+1+1,0,J⟩=ω:=cR b9 A;have j5:f.frozen? ⟨w.heap.size+1+1,0,J⟩=σ:=aI b9 0;gi_wp2;obtain⟨c3,U⟩:=TX.of f4.o f5.o S.1 i8.o S.2 H d8.2.1 d8.2.2.1 H ai (aF (j:=0) (Δ 232 (V (M d4))) b9) b9 q.1;exact⟨c3,Θ ⟨A,U⟩⟩
    gi_wp2_with (first|(refine xj fC A _ _ A A A g3 (fu R.1) A (Gc w8 _) ?_;intro L a0;obtain⟨Y,v⟩:=i6.o L a0;have j4:L ⟨w.heap.size+1+1,0,J⟩=ω:=(cR v.2 A);have j5:L.frozen? ⟨w.heap.size+1+1,0,J⟩=σ:=aI v.2 0;have ab:=F (κ Y v.2);clear Y v a0));have k9:=R.2.2.2.1;have l0:=R.2.2.2.2;obtain⟨c3,U⟩:=TX.of f4.o f5.o S.1 ab.1 S.2 H H H H ai (aF (j:=0) (Δ 232 (V (M d4))) ab.2) ab.2 q.1;exact⟨c3,Θ ⟨A,U⟩⟩
   rintro m b3 ⟨g4,m9⟩;refine⟨g4,?_⟩;clear g4;rcases m9 with⟨Z,I,a4,G,o,e,q9,d3,g7,g8,aj⟩|⟨Z,I,d4,o,e,G,q9,d3,g7,g8,aj⟩
   .refine⟨J,Z,?_⟩;have a2:∀c,c≠l->(b3.putObj l (IK (Lp .exhausted J))).heap[c]?=b3.heap[c]?:=λc c8=>Gu c8;have n:=(a2 _ H).t G;have U:=(a2 (l-1) H).t I;have a1:=q9.lQ Z (iF _) H ai (IK (Lp .exhausted J));rw[i4.1] at U;generalize b3.putObj l (IK (Lp .exhausted J))=h5 at n U a1;have e7:=aF (j:=0) ω n;have j4:h5 ⟨w.heap.size+1+1,0,J⟩=ω:=cR n A;have j5:h5.frozen? ⟨w.heap.size+1+1,0,J⟩=σ:=aI n 0;have n2:z.heap.size+3<=p.heap.size:=Iu af.1.s;have h4:=(e7.old p.heap.size H).t U;have N:=F (κ h4 (κ e7.at_ (κ ((a1.ek q.1 e7 n H dc).lQ h4 (zg _) H ai (Kc J)) aj)));clear e7 h4 a1 U n Z I a4 G q9 aj a2;simp only[mq];go_wp2;refine⟨by simp,Ξ ⟨_,_,A,Xq N.1,?_⟩⟩;refine⟨_,np (a:=⟨w.heap.size+1+1,0,J⟩) (x:=ω) A A ?_,_,o,e,A,Ξ A,by omega,N.2.2.1,N.2.2.2,by omega,by omega,λ_=>⟨g7,g8⟩⟩;rw[fY _ uo,QH N.2.1];rfl
   refine⟨M .ret,Z,?_⟩;have a2:∀c,c≠l->(b3.putObj l (IK (Lp .exhausted (M .ret)))).heap[c]?=b3.heap[c]?:=λc c8=>Gu c8;have n:=(a2 _ H).t G;have U:=(a2 (l-1) H).t I;have a1:=q9.lQ Z (iF _) H ai (IK (Lp .exhausted (M .ret)));rw[i4.1] at U;generalize b3.putObj l (IK (Lp .exhausted (M .ret)))=h5 at n U a1;have n2:z.heap.size+3<=p.heap.size:=Iu af.1.s;have N:=F (κ U (κ n (κ (a1.lQ U (zg _) H ai (Kc J)) aj)));clear a1 U n Z I G q9 aj a2;simp only[mq];refine wpIn_wide.2 ?_;go_wp2;refine⟨by simp,Ξ ⟨_,_,A,Xq N.1,?_⟩⟩;refine⟨_,np (a:=⟨w.heap.size+1+1,0,J⟩) (x:=Δ 232 (V (M d4))) A A ?_,_,o,e,A,Θ ⟨_,A⟩,by omega,N.2.2.1,N.2.2.2,by omega,by omega,λag=>by cases ag⟩;rw[fY _ uo,QH N.2.1];rfl
 obtain rfl:k=400:=H;have q:=F (κ a (κ b5 (κ a6 e2)));have r2:X.frozen? ⟨w.heap.size+1+1,0,J⟩=σ:=aI a6 0;have r0:X ⟨w.heap.size+1+1,0,J⟩=ω:=cR a6 A;have c2:w.heap.size+1+1<X.heap.size:=aw a6;clear a d2 b5 e3 x0 h6 a6 p0 e2;go_wp2_with (rw[f3.o]);have g6:=aF (j:=0) (Δ 232 (V (X.heap.size,0))) q.2.2.1;have j1:=g6.aE w.heap.size w H q.2.1;refine⟨_,np (a:=⟨w.heap.size+1+1,0,J⟩) (x:=Δ 232 (V (X.heap.size,0))) A A ?_,_,g,400,A,Θ ⟨_,A⟩,QD,q.1.qt (j1.a j1.z _),q.2.2.2,n4,n5,λag=>by cases ag⟩;rw[QR _ (by rw[g6.aH];exact c2),QH g6.at_];rfl
def sj (j:L)(b u s A:D)(J:C)(z:E (IA×S))(i y:B)(P:eI j)(M:bp j s A J z)(K:i.size<=1000000)(O:y.size<=1000000):∀h k,401-k<=h->DR j b u s i y k
 |0,k,x=>λg m p F w a=>absurd a.dZ.2.2.2 H
 |h+1,k,x=>zi j b u s A J z i y P M K O k λc n=>sj j b u s A J z i y P M K O h c H
end Sp
end
namespace Sp
def WR (U:L)(O:D)(z u:B)(t:He)(W:L):Prop:=∃j P o A K,t=f #[V (M ⟨j,0,J⟩),o]/\aav o/\ea U j P O z u A K W
def TW (u r:D)(y:C)(q:List (IA×π))(e o j:B)(f:ν)(p:eI f)(w:bp f u r y q)(a5:o.size<=1000000)(a7:j.size<=1000000)(a6:e.size<=1000000):
 τ N 113 #[O e,Γ #[O o,O j],Hl (Ic 101) #[ξ u] #[]] f (WR f u o j):=by
 have ae:=@run_makeMap N;have a1:2<=(f:D):=p.kO.1;let⟨m,e3⟩:∃m,((f.alloc (θ #[O o,O j] 124)).alloc (Lz #[] 0)).alloc (θ #[O o,O j,Hl (Ic 101) #[ξ u] #[],KD (δ ((f:D)+1)),P J 0 0,ϑ 0,P J 0 0] 236)=m:=⟨_,A⟩;have a8:(m:D)=(f:D)+3:=by rw[<-e3];simp
 have i:ρ f f m:=by rw[<-e3];go_grown
 have c:ea f ((f:D)+1+1) ((f:D)+1) u o j ⟨[],[],[],P J 0 0,P J 0 0⟩ 0 m:=by
  refine⟨?_,QN,QN,?_,nF,⟨H,H⟩,i,nF,sm⟩
  .rw[<-e3];have:=Gc ((f.alloc (θ #[O o,O j] 124)).alloc (Lz #[] 0)) (θ #[O o,O j,Hl (Ic 101) #[ξ u] #[],KD (δ ((f:D)+1)),P J 0 0,ϑ 0,P J 0 0] 236);rwa [GG,GG] at this
  have:=bj.pk (f.alloc (θ #[O o,O j] 124)) N 9;rw[GG] at this;exact this.aM (e3▸QP sm)
 have h:=F (pF f _ _ u r y q o j _ 0 e m p w c a6 sm);have ab:=F c;have L:=F e3;have Y:=F (sj f ((f:D)+1+1) ((f:D)+1) u r y q o j p w a5 a7 401 0 H);clear c i e3 a8 p w;go_enter func113,ntmps113;go_wp2_with (rw[L.o]);go_call h.o as l w4 ⟨cs,d,v,g,hd,rfl,R,z,t,X,Z,V⟩;have x:=hd.aH;have M:=F (W hd (W z (W t (W X Z))));have I:=F (λb (a:bd (w4.alloc (θ zc 281)) b (w4:D) (θ cs 281 (0,0)))=>by
  have a3:ρ w4 w4 b:=a.aE _ _ QD ((Ge _ w4).a QD _)
  exact t.1.aE a3)
 have a0:=fg;have af:=qw;clear hd z t X Z V h;rcases R with rfl|⟨a9,rfl⟩
 .go_wp2_with (first|(apply EL fC A _ _ A A A x (fu M.1) A (Gc w4 _);intro b a;have n:=a.at_;have s:=F (I.o b a);clear a)|(apply zw fC A _ A A x n));have z:=M.2.1 trivial;have X:=M.2.2.2.1;have Z:=M.2.2.2.2;have k:=(z.2.2 trivial).resolve_right (λa4=>a4 A);have G:=F (Y.o g cs d ⟨#[]⟩ b s.o k (sU X) (sU Z) M.1 z.1 z.2.1 QK);clear z X Z k n;go_call G.o as l a2 ⟨v10,K,U,rfl,S,-,E,-,-,-,-⟩;have T:=F E.1;clear E G;rcases S with rfl|⟨a9,rfl⟩
  all_goals
   go_wp2;go_ret2;exact⟨_,_,_,K,U,A,(by first|exact Ξ rfl|exact Θ ⟨_,A⟩),T.o⟩
 go_wp2_with (apply EL fC A _ _ A A A x (fu M.1) A (Gc w4 _);intro b a;have s:=F (I.o b a);clear a);go_ret2;exact⟨_,_,_,g,0,A,Θ ⟨_,A⟩,s.o⟩
def xJ (u:He)(z:L):Prop:=∃o t j,u=f #[o,G j]/\bS z o t/\t.length<=500/\0<=j/\j<=12
def nr (z:L)(j:C)(t:0<=j)(u:j<=12):xJ (ι (f #[P J 0 0,j])) z:=⟨_,[],j,A,o ⟨J,0,A,A⟩,R,t,u⟩
theorem DS (U v:D)(m:C)(l:E (IA×π))(M o t:B)(f:ν)(Z:eI f)(X:bp f U v m l)(ag:o.size<=1000000)(ak:t.size<=1000000)(aj:M.size<=1000000):
 τ γ 341 #[V U,O M,Γ #[O o,O t]] f λa g=>xJ a g/\ρ f f g:=by
 let⟨d,s,c⟩:=aU f (K #[O o,O t] 124);have S:=F s;have u:=F c.aE;have ab:d f=o:=cR c.at_ A;have c1:d ((f:D),1)=t:=cR c.at_ A;have q:=F (hV U v m l M d (X.aE c.aE) (by unfold Ie;omega));have I:=F (TW U v m l M o t d (Z.aE c.aE) (X.aE c.aE) ag ak aj);have Y:=F (Z.aE c.aE);clear Z X s c;go_enter func341,ntmps341;go_wp2_with (rw[S.o]);apply q.o.m;rintro a a7 ⟨ai,i⟩;have i:=i.s;subst i;clear q;rcases ai with⟨-,rfl⟩|⟨a2,b2,a6,a5,-,-,rfl⟩
 .go_wp2;go_ret2;exact⟨nr _ 4 H H,u.o⟩
 go_wp2_with fail
 .go_ret2;exact⟨nr _ 1 H H,u.o⟩
 apply I.o.m;rintro a j ⟨a8,b0,W,a0,a9,rfl,R,k⟩;have w:=F k;have p:=QC (∀e,gJ j e (K #[V J] 232)->τ γ 54 #[W,Δ 233 (V j)] e λa g=>((W=ω/\a=υ σ)\/a=υ ψ)/\ρ j j g) λe b=>by
  rcases R with rfl|⟨P,rfl⟩
  .exact(As.RY _ e).m λa g ⟨x,y⟩=>⟨Ξ ⟨A,x⟩,y▸b.aE⟩
  exact(As.VK P j (V J) e ((Y.o.aE k.dn).aE b.aE).dm (cR b.at_ A) (aI b.at_ 0)).m λa g ⟨x,a1,h,y⟩=>⟨Θ x,y▸(b.aE.t (h.m b.aE.z)).s QD _⟩
 let⟨e,L,b⟩:=aU j (K #[V J] 232);have G:=F (p.o e b);have T:=F L;clear p L b k I ab c1;have al:W=ω\/∃P,W=Δ 232 (V (δ P)):=R;rcases al with rfl|⟨P,rfl⟩
 all_goals
  go_wp2_with fail;rw[T.o];apply G.o.m;rintro a a1 ⟨af,h⟩;have n:=F (u.o.t ((w.o.dn.t (h.m w.o.dn.z)).m u.o.z));have z:=w.o.aE h;have c4:=z.aV.2.2.2.2.1;have r:=F z.og;have ah:=z.dZ.2.1;clear h z G;let⟨a3,a4,N⟩:=aR r.o;rw[N] at c4;rcases af with⟨ae,rfl⟩|rfl
  .first|(cases ae;done)|(go_wp2;go_ret2;exact⟨⟨_,a0.lv,0,A,da (N▸r.o),ah,H,H⟩,n.o⟩)
  go_wp2;go_ret2;exact⟨nr _ 4 H H,n.o⟩
end Sp
def zj (j:He):Prop:=∃(b:B) (d:Bool) (a:C),j=f #[b,d,a]/\b.size<=65536/\0<=a/\a<=12
def nu (j:C)(o:0<=j)(t:j<=12):zj (ι (f #[I,z X,G j])):=⟨_,_,j,A,QK,o,t⟩
def sF (f:Pl)(a2:Md.dY)(ab l:E (IA×π))(ah:Cc.Ca)(T:D)(x ak:Int)(V P:B)(b:ν)(b3:eI b)(L:bt b f a2 ab l ah T)(d2: -9223372036854775808<=x/\x<=9223372036854775807)(aj:V.size<=1000000)(K:P.size<=1000000):
 τ γ 302 #[ξ f.c,x,V,P,ak] b λh I=>zj h/\ρ b b I:=by
 have a3:=F (lY f a2 ab l ah T x b L d2);have X:=F L;have ag:=F b3;go_enter func302,ntmps302;go_wp2_with fail;go_call a3.o as h b9 ⟨c6,b1⟩;rcases c6 with⟨f7,y,e4,i,e0,e1,rfl⟩|⟨e2,rfl⟩
 .let⟨⟨d,e,e6,b2⟩,⟨e5,f5,e8,a9⟩⟩:=X.o.fL y;rw[b2,a9];have o:=F b1;have Y:=QC (i.size<=1000000) H;go_wp2_with (first|(apply ia WM (Gc b9 _);intro G m;have u:=QC (ρ b b G) (m.aE _ _ o.o.z (o.o.a o.o.z _));have c4:=(X.o.aE u.o).c4)|((with_reducible go_call ku 4 _ as h C ⟨rfl,J⟩);subst J));all_goals
   try
    go_ret3;exact⟨nu 1 H H,u.o⟩
  have a7:=F (Cu.xH f.s f.m f.cg l i V P ak G (ag.o.aE u.o) (X.o.aE u.o).cO Y.o aj K);go_call a7.o as h C ⟨⟨v,es,more,k,rfl,q,b0,M,a4,a5⟩,Z⟩;have W:=F (u.o.t (Z.m u.o.z));by_cases R:k=0
  .subst R;have f6:((0:Int) !=0)=σ:=dc;have af:=F (X.o.aE W.o);have c3:=F (ag.o.aE W.o);have c4:=af.o.c4;have w:=F (fun(s:B) (c8:s.size<=1000000)=>Sp.DS f.s f.m f.cg l i V s C c3.o af.o.cO aj c8 Y.o);have d1:(more=σ/\∃d a,v=ο d (es:D) a)\/(∃d a,v=ο d 0 a)\/∃(g r a:D) (e:D) (c:B),v=ο (g,r) (e+1) a/\e<8/\e+1<=a/\c.size<=8020/\C (g,r+e*2)=c:=by
    cases more with
    |false=>exact Ξ ⟨A,q.bZ⟩
    |true=>
     rcases q.1 with⟨d,a,rfl,_⟩|⟨g,r,a,rfl,c0,c7⟩
     .exact j (Ξ ⟨d,a,A⟩)
     rcases LK es with rfl|⟨ai,c,y⟩
     .exact j (Ξ ⟨_,a,A⟩)
     rw[LL] at y;subst y;refine j (j ⟨g,r,a,(ai:D),c.1,sm,by simp at b0;omega,sU c0,(M c sm).1,(c7 (ai:D) c sm).1⟩)
   rcases d1 with⟨rfl,d,a,rfl⟩|⟨d,a,rfl⟩|⟨g,r,a,e,c,rfl,f0,f1,f2,e9⟩
   rotate_left;focus
    have t:=F (w.o P K);cases more
   rotate_left 2;focus
    have f3:(e:Int)+1<=(a:Int):=H;have f4:(e:Int)<8:=H;cases more;focus
     have t:=F (w.o P K)
    rotate_left;focus
     have t:=F (w.o c H)
   rotate_left 2;focus
    have t:=F (w.o P K)
   all_goals
    go_wp2_with fail;go_call t.o as h w4 ⟨⟨v4,xs,O,rfl,z,e7,b6,b7⟩,a0⟩;have n:=F (W.o.t (a0.m W.o.z));let⟨d4,d6,d3,_⟩:=z.bZ;subst d3;by_cases N:O=0
    .subst N;have a8:=F (λs=>qk 1 i V s _ xs w4 z H);go_wp2_with fail;go_call a8.o _ as h w5 ⟨a6,a1⟩;have ae:=F (n.o.t (a1.m n.o.z));obtain⟨d9,p,rfl,K,b4,b5⟩:=a6.big;by_cases S:p=0
     .subst S;go_wp2;go_ret3;exact⟨⟨d9,_,0,A,K,H,H⟩,ae.o⟩
     have c2:(p !=0)=U:=by simp[S]
     go_wp2;go_ret3;exact⟨nu p b4 b5,ae.o⟩
    have c2:(O !=0)=U:=by simp[N]
    go_wp2;go_ret3;exact⟨nu O b6 b7,n.o⟩
  have c2:(k !=0)=U:=by simp[R]
  obtain⟨d4,d6,rfl⟩:=q.bZ;go_wp2;go_ret3;exact⟨nu k a4 a5,W.o⟩
 have o:=F b1;have t:=QC (∀b,τ γ 50 #[Δ 27 (ϑ 4),Δ 27 (ϑ 4)] b λd8 I=>d8=υ U/\b=I) (λb=>hG 4 4 b);go_wp2_with (first|(apply ia WM (Gc b9 _);intro G m)|((with_reducible go_call t.o _ as h C ⟨rfl,J⟩);subst J));go_ret3;exact⟨nu 4 H H,m.aE _ _ o.o.z (o.o.a o.o.z _)⟩
end Go.Proofs.YtajnhfklchlahaaGreatDoor
