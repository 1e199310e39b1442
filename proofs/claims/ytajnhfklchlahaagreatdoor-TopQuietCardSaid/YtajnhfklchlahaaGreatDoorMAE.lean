import Derived.Test.YtajnhfklchlahaaGreatDoorMAA
import Derived.Handy
set_option linter.all false
set_option maxHeartbeats 4000000
set_option maxRecDepth 100000
namespace Go.Proofs.YtajnhfklchlahaaGreatDoor
open Go.Proofs.Tryz Go.RowKit Go.Extern.Stop Go.Stop Go.Extern
open Bool renaming false->σ,false->X,true->U
open Go renaming Addr->JM,Calls->τ,Ending->He,TypeId->Λ,Value->π,World->ν,Calls->Y,Value->S,World->L,binOp->Xc,run_underlying->Xo,underlying->XF
open Go.Extern.ReflectliteType renaming relation->JN,typeOf->Ko
open Go.Extern.ReflectliteValue renaming elem->NN,isNil->Pc,method->JF,parts->KP,unpack->PA,valueError->Ih
open Go.Instr renaming typeAssert->Kf
open Go.IntKind renaming u64->If,u8->Ix,i64->u
open Go.Obj renaming cells->θ,cells->K
open Go.Proofs.Tryz renaming prog->γ,prog->N
open Go.Result renaming andThen->Ω,ok->Je
open Go.RowKit renaming Below->T
open Go.Value renaming agg->Γ,iface->Δ,nilIface->ω,tuple->χ,agg->t,bool->z,int->Z,pointer->V,tuple->f
open Option renaming some->δ,none->J,some->M
open _root_ renaming rfl->A,Int->C,Nat->D,List->E
open YtajnhfklchlahaaGreatDoor renaming Ga->F,ϑ->G,sm->R,QD->d,Qz->e,om->H,eS->I,dc->r,QC->y
variable {w q a i:Nat}{g s l:ν}{c:Int}
namespace As
def RY (j:S)(f:L):Y N 54 #[ω,j] f λb d=>b=z X/\d=f:=by
 go_enter Qe,PL;go_wp2;go_ret;exact⟨A,A⟩
def rlm (o:Sem S)(f:Λ->JM->D->D->Sem S)(j:S):
 JF o f #[j]=(do match<-KP j with|none=>o|some (b,e,a)=>f b e a (a%32)):=rfl
def rls (e f:π):ReflectliteValue.set #[e,f]=(do
 let(δ (a,d,h),δ (b,g,_)):=(<-KP e,<-KP f)
  |unsupported (.noEntry "extern/(internal/reflectlite.Value).Set.zeroValue")
 if h/ReflectliteValue.flagAddr%2==0 then unsupported (.noEntry "extern/(internal/reflectlite.Value).Set.unaddressable")
 let c<-loadVar b g
 if<-Rtype.directlyAssignable a b then storeVar a d c
 else if<-Rtype.implements a b then
  if(<-Rtype.kind b)==20 then
   match c with
   |ω=>unsupported (.noEntry "extern/reflectlite: a nil value of one interface type handed on as a value of another")
   |_=>storeVar a d c
  else storeVar a d (Δ b c)
 else panicString ("reflectlite.Set: value of type " ++(<-Rtype.spelt b)++ " is not assignable to type " ++(<-Rtype.spelt a))
 pure (χ #[])):=rfl
def wU (j:S)(f:L):(Ko #[Δ 458 j]).run N f=Je (Δ 311 (t #[V (M ⟨3,458,J⟩)])) f:=e
def VF (t:S)(o:Λ)(j:L):(Kf (Δ 458 t) o 326 U).run N j=Je (f #[ω,z X]) j:=run_typeAssert_lacksB NZ e e t o j
def An (j:S)(f:L):(Ko #[Δ 27 j]).run N f=Je (Δ 311 (t #[V (M ⟨3,27,J⟩)])) f:=e
def HR (j:S)(f:L):(Ko #[Δ 232 j]).run N f=Je (Δ 311 (t #[V (M ⟨3,232,J⟩)])) f:=e
def HS (j:S)(f:L):(Ko #[Δ 419 j]).run N f=Je (Δ 311 (t #[V (M ⟨3,419,J⟩)])) f:=e
def VG (t:S)(o:Λ)(j:L):(Kf (Δ 419 t) o 326 U).run N j=Je (f #[ω,z X]) j:=run_typeAssert_lacksB NZ e e t o j
def CN (j:JM)(f:L):(PA (Δ 458 (V (M j)))).run N f
 =Je (t #[V (M ⟨3,458,J⟩),V f,Z If 150]) (f.alloc (K #[V (M j)] 458)):=e
def RZ (f:JM)(j:L):(KP (t #[V (M ⟨3,458,J⟩),V (M f),Z If 150])).run N j=Je (M (458,f,150)) j:=e
def wV (j:C)(f:L):(PA (Δ 27 (G j))).run N f
 =Je (t #[V (M ⟨3,27,J⟩),V f,Z If 130]) (f.alloc (K #[G j] 27)):=e
def VH (f:JM)(j:L):(KP (t #[V (M ⟨3,27,J⟩),V (M f),Z If 130])).run N j=Je (M (27,f,130)) j:=e
def CO (j:JM)(f:L):(PA (Δ 232 (V (M j)))).run N f
 =Je (t #[V (M ⟨3,232,J⟩),V f,Z If 150]) (f.alloc (K #[V (M j)] 232)):=e
def Sa (f:JM)(j:L):(KP (t #[V (M ⟨3,232,J⟩),V (M f),Z If 150])).run N j=Je (M (232,f,150)) j:=e
def HT (j:S)(t:Λ)(o:L):(Kf (Δ 458 j) t 316 U).run N o=Je (f #[Δ 458 j,z U]) o:=run_typeAssert_hasB LY e j t o
def CP (f:S)(j:L):(Go.method 674 458 f "Unwrap").run N j=Je (407,f) j:=e
def HU (j:S)(t:Λ)(o:L):(Kf (Δ 419 j) t 316 U).run N o=Je (f #[Δ 419 j,z U]) o:=run_typeAssert_hasB LY e j t o
def CQ (f:S)(j:L):(Go.method 674 419 f "Unwrap").run N j=Je (401,f) j:=e
def rT (j:S)(f:L):(Xc .eql 110 (Δ 458 j) ω).run N f=Je (z X) f:=by
 have o:∀b:D,(Op.equalIn (b+1) 110 (Δ 458 j) ω).run N f=Je X f:=λb=>by simp[Op.equalIn,Xo IW]
 simp only[Xc];simp[Op.equal,Op.maxDepth,o 9999]
structure TF (T E:D)(K F:C)(f:D):Prop where
 v:∀t w,(PA (Δ T (V (M t)))).run N w=Je (Γ #[V (M ⟨3,T,J⟩),V w,Z If 150]) (w.alloc (θ #[V (M t)] T))
 t:∀a w,(ReflectliteValue.methodAny (Ih "reflectlite.Value.Type" 0) (λt _ _ _=>ReflectliteType.toType t) #[Γ #[V (M ⟨3,T,J⟩),V (M a),Z If 150]]).run N w=Je (Δ 311 (Γ #[V (M ⟨3,T,J⟩)])) w
 k:∀w,((ReflectliteType.abiMethod λt=>Functor.map (λa:D=>Z Ix (a:C)) (Rtype.kind t)) #[V (M ⟨3,T,J⟩)]).run N w=Je (Z Ix 22) w
 e:∀w,((ReflectliteType.abiMethod λt=>Functor.map (λa:D=>Z Ix (a:C)) (Rtype.kind t)) #[V (M ⟨3,E,J⟩)]).run N w=Je (Z Ix K) w
 l:∀w,(ReflectliteType.method ReflectliteType.elem #[Γ #[V (M ⟨3,T,J⟩)]]).run N w=Je (Δ 311 (Γ #[V (M ⟨3,E,J⟩)])) w
 p:∀a w,(KP (Γ #[V (M ⟨3,T,J⟩),V (M a),Z If 150])).run N w=Je (M (T,a,150)) w
 o:∀w,(Rtype.elem? T).run N w=Je (M E) w
 m:∀p w,(ReflectliteValue.mk E p ReflectliteValue.flagAddr).run N w=Je (Γ #[V (M ⟨3,E,J⟩),V (M p),Z If F]) w
 q:∀a w,(KP (Γ #[V (M ⟨3,E,J⟩),V (M a),Z If F])).run N w=Je (M (E,a,f)) w
 u:N.underlying T=M (.pointer E)
def tZ:TF 119 27 2 386 386:=⟨λ_ _=>e,λ_ _=>e,λ_=>e,λ_=>e,λ_=>e,λ_ _=>e,λ_=>e,λ_ _=>e,λ_ _=>e,underlying119⟩
def Ey:TF 462 461 20 404 404:=⟨λ_ _=>e,λ_ _=>e,λ_=>e,λ_=>e,λ_=>e,λ_ _=>e,λ_=>e,λ_ _=>e,λ_ _=>e,underlying462⟩
def Ez:TF 233 232 22 406 406:=⟨λ_ _=>e,λ_ _=>e,λ_=>e,λ_=>e,λ_=>e,λ_ _=>e,λ_=>e,λ_ _=>e,λ_ _=>e,underlying233⟩
def TF.nil {K:C}(j:TF w q c K a)(A P:JM)(f:L)(O:f A=V (M P)):
 (JF (Ih "reflectlite.Value.IsNil" 0) Pc #[Γ #[V (M ⟨3,w,J⟩),V (M A),Z If 150]]).run N f=Je (z X) f:=by
 rw[rlm];simp only[IE,j.p,Ω];simp[Pc,loadVar,isAgg,XF,j.u,O,Ω]
def TF.el {z:C}(j:TF w q c z a)(A K:JM)(f:L)(O:f A=V (M K)):
 (JF (Ih "reflectlite.Value.Elem" 0) NN #[Γ #[V (M ⟨3,w,J⟩),V (M A),Z If 150]]).run N f
  =Je (Γ #[V (M ⟨3,q,J⟩),V (M K),Z If z]) f:=by
 rw[rlm];simp only[IE,j.p,Ω];simp[NN,loadVar,isAgg,XF,j.u,O,Ω,j.o,j.m]
def acw:(∀f j,(Go.method 674 311 (t #[f]) "Kind").run N j=Je (375,f) j)/\(∀f j,(Go.method 674 311 (t #[f]) "Elem").run N j=Je (387,t #[f]) j)/\(∀f j,(Go.method 674 311 (t #[f]) "Implements").run N j=Je (388,t #[f]) j)/\∀f j,(Go.method 674 311 (t #[f]) "AssignableTo").run N j=Je (385,t #[f]) j:=⟨λ_ _=>e,λ_ _=>e,λ_ _=>e,λ_ _=>e⟩
def ot (f:L):(JN "Implements" ReflectliteType.implements_ #[t #[V (M ⟨3,27,J⟩)],Δ 311 (t #[V (M ⟨3,110,J⟩)])]).run N f=Je (z U) f:=e
def wg (f:L):(JN "Implements" ReflectliteType.implements_ #[t #[V (M ⟨3,232,J⟩)],Δ 311 (t #[V (M ⟨3,110,J⟩)])]).run N f=Je (z U) f:=e
def qW (f:L):(JN "AssignableTo" ReflectliteType.assignableTo #[t #[V (M ⟨3,458,J⟩)],Δ 311 (t #[V (M ⟨3,27,J⟩)])]).run N f=Je (z X) f:=e
def qX (f:L):(JN "AssignableTo" ReflectliteType.assignableTo #[t #[V (M ⟨3,419,J⟩)],Δ 311 (t #[V (M ⟨3,27,J⟩)])]).run N f=Je (z X) f:=e
def mn (f:L):(JN "AssignableTo" ReflectliteType.assignableTo #[t #[V (M ⟨3,27,J⟩)],Δ 311 (t #[V (M ⟨3,27,J⟩)])]).run N f=Je (z U) f:=e
def pG (f:L):(JN "AssignableTo" ReflectliteType.assignableTo #[t #[V (M ⟨3,458,J⟩)],Δ 311 (t #[V (M ⟨3,461,J⟩)])]).run N f=Je (z U) f:=e
def pH (f:L):(JN "AssignableTo" ReflectliteType.assignableTo #[t #[V (M ⟨3,232,J⟩)],Δ 311 (t #[V (M ⟨3,232,J⟩)])]).run N f=Je (z U) f:=e
def HV (f:L):(Rtype.directlyAssignable 27 27).run N f=Je U f:=e
def Sb (o u:JM)(z:C)(P:S)(j:L)(A:j u=z)(O:j o=P)(K:j.frozen? o=X):
 (ReflectliteValue.set #[t #[V (M ⟨3,27,J⟩),V (M o),Z If 386],t #[V (M ⟨3,27,J⟩),V (M u),Z If 130]]).run N j
  =Je (f #[]) (j.setCell o (G z)):=by
 rw[rls];simp only[IE,tZ.q,VH,Ω];simp[ReflectliteValue.flagAddr,loadVar,isAgg,XF,KJ,KJ,A,Ω,HV,storeVar,Value.cells,storeCells,Addr.add];rw[run_store N j o _ _ rf];simp[O,K]
def HW (f:L):(Rtype.directlyAssignable 461 458).run N f=Je X f:=e
def VI (f:L):(Rtype.implements 461 458).run N f=Je U f:=e
def Sc (f:L):(Rtype.kind 458).run N f=Je 22 f:=e
def ZA (o u:JM)(z:JM)(P:S)(j:L)(A:j u=V (M z))(O:j o=P)(K:j.frozen? o=X):
 (ReflectliteValue.set #[t #[V (M ⟨3,461,J⟩),V (M o),Z If 404],t #[V (M ⟨3,458,J⟩),V (M u),Z If 150]]).run N j
  =Je (f #[]) (j.setCell o (Δ 458 (V (M z)))):=by
 rw[rls];simp only[IE,Ey.q,RZ,Ω];simp[ReflectliteValue.flagAddr,loadVar,isAgg,XF,underlying458,KJ,A,Ω,HW,VI,Sc,storeVar,Value.cells,storeCells,Addr.add];rw[run_store N j o _ _ rf];simp[O,K]
def HX (f:L):(Rtype.directlyAssignable 232 232).run N f=Je U f:=e
def ZB (o u:JM)(z:JM)(P:S)(j:L)(A:j u=V (M z))(O:j o=P)(K:j.frozen? o=X):
 (ReflectliteValue.set #[t #[V (M ⟨3,232,J⟩),V (M o),Z If 406],t #[V (M ⟨3,232,J⟩),V (M u),Z If 150]]).run N j
  =Je (f #[]) (j.setCell o (V (M z))):=by
 rw[rls];simp only[IE,Ez.q,Sa,Ω];simp[ReflectliteValue.flagAddr,loadVar,isAgg,XF,underlying232,KJ,A,Ω,HX,storeVar,Value.cells,storeCells,Addr.add];rw[run_store N j o _ _ rf];simp[O,K]
def cC (f:L):Prop:=f ⟨0,0,J⟩=Δ 311 (t #[V (M ⟨3,110,J⟩)])
def cC.aE (c:cC g)(f:T g g s):cC s:=f.ce c
def Hit (j:L)(t:JM)(u:S)(o:He)(A:L):Prop:=o=z U/\∃f,T j j f/\A=f.setCell t u
def VJ:=And.intro acw (And.intro (@run_callFunc_extern N 105 _ (λb=>PA (b.getD 0 (f #[]))) func105 e e e e) (And.intro (@run_callFunc_extern N 106 _ (ReflectliteValue.methodAny (Ih "reflectlite.Value.Type" 0) (λa _ _ _=>ReflectliteType.toType a)) func106 e e e e) (And.intro (@run_callFunc_extern N 107 _ (JF (Ih "reflectlite.Value.IsNil" 0) Pc) func107 e e e e) (And.intro (@run_callFunc_extern N 375 _ (ReflectliteType.abiMethod λa=>do pure (Z Ix (<-Rtype.kind a))) func375 e e e e) (And.intro (@run_callFunc_extern N 387 _ (ReflectliteType.method ReflectliteType.elem) func387 e e e e) (And.intro (@run_callFunc_extern N 388 _ (JN "Implements" ReflectliteType.implements_) func388 e e e e) (And.intro (@run_callFunc_extern N 99 _ Ko NI e e e e) (And.intro (@run_callFunc_extern N 385 _ (JN "AssignableTo" ReflectliteType.assignableTo) func385 e e e e) (And.intro (@run_callFunc_extern N 178 _ (JF (Ih "reflectlite.Value.Elem" 0) NN) func178 e e e e) (@run_callFunc_extern N 179 _ ReflectliteValue.set func179 e e e e))))))))))
def cC.Vp (j:cC g)(o:JM)(f:D):((g.alloc (K #[V (M o)] f)).alloc (K #[V (M ⟨3,f,J⟩),V g,Z If 150] 216)) ⟨0,0,J⟩=Δ 311 (t #[V (M ⟨3,110,J⟩)]):=by
 rwa[QR ⟨0,0,J⟩ R,QR ⟨0,0,J⟩ (bH j)]
def HY (o:JM)(f:JM)(z:S)(j:L)(t:cC j)(O:j f=z)(m:j.frozen? f=X):
 Y N 54 #[Δ 458 (V (M o)),Δ 462 (V (M f))] j (Hit j f (Δ 458 (V (M o)))):=by
 obtain⟨⟨c,p,q,r⟩,s,d,e,v,w,x,y,g,P,U⟩:=VJ;obtain⟨a,F,G,H,I,-⟩:=Ey;have b:=CN;have k:=wU;have n:=pG;have i:=Ey.nil j f ((j.alloc (K #[V (M f)] 462)).alloc (K #[V (M ⟨3,462,J⟩),V j,Z If 150] 216)) R;have W:=t.Vp f 462;unfold cC at t;have u:f.block<j.heap.size:=bH O;have l:=Ey.el j f (((j.alloc (K #[V (M f)] 462)).alloc (K #[V (M ⟨3,462,J⟩),V j,Z If 150] 216)).alloc (K #[V (M ⟨3,462,J⟩),V j,Z If 150] 216)) (by rw[QR j QB];simp);have h:=ZA f ⟨j.heap.size+1+1+1,0,J⟩ o z ((((j.alloc (K #[V (M f)] 462)).alloc (K #[V (M ⟨3,462,J⟩),V j,Z If 150] 216)).alloc (K #[V (M ⟨3,462,J⟩),V j,Z If 150] 216)).alloc (K #[V (M o)] 458))
  (by rw[Nl _ _ _ _ R];rfl)
  (by rwa[QR f QB,QR f QB,QR f QB,QR f u])
  (by rwa[Hx _ _ f QB,Hx _ _ f QB,Hx _ _ f QB,Hx _ _ f (IM u)])
 go_enter Qe,PL;go_wp2;refine wp_loop_rounds 1 ?_;rw[rounds_succ];go_wp2;go_ret;exact⟨A,_,by go_grown,A⟩
def wh (t o:D)(u:C)(j:JM)(P:π)(f:ν)(z:cC f)(X:f j=P)(n:f.frozen? j=σ)(U:f (t,1)=Δ 458 (V o))(W:f (o,1)=Δ 27 (G u)):
 τ γ 54 #[Δ 458 (V t),Δ 119 (V (M j))] f (Hit f j (G u)):=by
 obtain⟨⟨a,b,c,d⟩,F,e,H,I,g,h,L,i,N,k⟩:=VJ;obtain⟨q,S,T,r,s,-⟩:=tZ;have aa:=wV;have a0:=ot;have a8:=wU;have w:=qW;have a2:=VF;have a6:=HT;have a9:=CP;have a7:=An;have v:=mn;have a3:=iC;have a5:=rT;have a1:=tZ.nil f j ((f.alloc (K #[V (M j)] 119)).alloc (K #[V (M ⟨3,119,J⟩),V f,Z If 150] 216)) R;have p:=z.Vp j 119;unfold cC at z;have O:j.block<f.heap.size:=bH X;have Y:=tZ.el f j (((f.alloc (K #[V (M j)] 119)).alloc (K #[V (M ⟨3,119,J⟩),V f,Z If 150] 216)).alloc (K #[V (M ⟨3,119,J⟩),V f,Z If 150] 216)) (by rw[QR f QB];simp);have a4:=Sb j ⟨f.heap.size+1+1+1,0,J⟩ u P ((((f.alloc (K #[V (M j)] 119)).alloc (K #[V (M ⟨3,119,J⟩),V f,Z If 150] 216)).alloc (K #[V (M ⟨3,119,J⟩),V f,Z If 150] 216)).alloc (K #[G u] 27))
  (by rw[Nl _ _ _ _ R];rfl)
  (by rwa[QR j QB,QR j QB,QR j QB,QR j O])
  (by rwa[Hx _ _ j QB,Hx _ _ j QB,Hx _ _ j QB,Hx _ _ j (IM O)])
 have l:t<f.heap.size:=bH U;have x:(((f.alloc (K #[V (M j)] 119)).alloc (K #[V (M ⟨3,119,J⟩),V f,Z If 150] 216)).alloc (K #[V (M ⟨3,119,J⟩),V f,Z If 150] 216)) (t,1)=Δ 458 (V o):=by
  rwa[QR ⟨t,1,J⟩ QB,QR ⟨t,1,J⟩ QB,QR ⟨t,1,J⟩ l]
 have m:o<f.heap.size:=bH W;have y:(((f.alloc (K #[V (M j)] 119)).alloc (K #[V (M ⟨3,119,J⟩),V f,Z If 150] 216)).alloc (K #[V (M ⟨3,119,J⟩),V f,Z If 150] 216)) (o,1)=Δ 27 (G u):=by
  rwa[QR ⟨o,1,J⟩ QB,QR ⟨o,1,J⟩ QB,QR ⟨o,1,J⟩ m]
 go_enter Qe,PL;go_wp2;refine wp_loop_rounds 3 ?_;rw[rounds_succ];go_wp2;rw[rounds_succ];go_wp2;rw[rounds_succ];go_wp2;go_ret;exact⟨A,_,by go_grown,A⟩
def ua (t:S)(o:C)(f:JM)(O:S)(j:ν)(u:cC j)(P:j f=O)(T:j.frozen? f=σ):
 τ γ 54 #[Δ 419 (Γ #[t,Δ 27 (G o)]),Δ 119 (V (M f))] j (Hit j f (G o)):=by
 obtain⟨⟨a1,a2,a3,a4⟩,U,W,X,a,F,b,I,c,d,L⟩:=VJ;obtain⟨N,g,h,i,k,-⟩:=tZ;have y:=wV;have a0:=ot;have r:=HS;have v:=qX;have n:=VG;have x:=HU;have w:=CQ;have s:=An;have Y:=mn;have m:=iC;have q:=rT;have l:=tZ.nil j f ((j.alloc (K #[V (M f)] 119)).alloc (K #[V (M ⟨3,119,J⟩),V j,Z If 150] 216)) R;have e:=u.Vp f 119;unfold cC at u;have z:f.block<j.heap.size:=bH P;have H:=tZ.el j f ((((j.alloc (K #[V (M f)] 119)).alloc (K #[V (M ⟨3,119,J⟩),V j,Z If 150] 216)).alloc (K #[V (M ⟨3,119,J⟩),V j,Z If 150] 216)).alloc (K #[t,Δ 27 (G o)] 419)) (by rw[QR j QB,QR j QB];simp);have p:=Sb f ⟨j.heap.size+1+1+1+1,0,J⟩ o O (((((j.alloc (K #[V (M f)] 119)).alloc (K #[V (M ⟨3,119,J⟩),V j,Z If 150] 216)).alloc (K #[V (M ⟨3,119,J⟩),V j,Z If 150] 216)).alloc (K #[t,Δ 27 (G o)] 419)).alloc (K #[G o] 27))
  (by rw[Nl _ _ _ _ R];rfl)
  (by rwa[QR f QB,QR f QB,QR f QB,QR f QB,QR f z])
  (by rwa[Hx _ _ f QB,Hx _ _ f QB,Hx _ _ f QB,Hx _ _ f QB,Hx _ _ f (IM z)])
 go_enter Qe,PL;go_wp2;refine wp_loop_rounds 2 ?_;rw[rounds_succ];go_wp2;rw[rounds_succ];go_wp2;go_ret;exact⟨A,_,by go_grown,A⟩
def VK (o:JM)(f:JM)(z:S)(j:L)(t:cC j)(O:j f=z)(m:j.frozen? f=X):
 Y N 54 #[Δ 232 (V (M o)),Δ 233 (V (M f))] j (Hit j f (V (M o))):=by
 obtain⟨⟨d,p,q,r⟩,s,e,g,v,w,x,y,T,P,U⟩:=VJ;obtain⟨a,F,G,H,I,-⟩:=Ez;have l:=CO;have b:=wg;have i:=HR;have n:=pH;have h:=Ez.nil j f ((j.alloc (K #[V (M f)] 233)).alloc (K #[V (M ⟨3,233,J⟩),V j,Z If 150] 216)) R;have W:=t.Vp f 233;unfold cC at t;have u:f.block<j.heap.size:=bH O;have k:=Ez.el j f (((j.alloc (K #[V (M f)] 233)).alloc (K #[V (M ⟨3,233,J⟩),V j,Z If 150] 216)).alloc (K #[V (M ⟨3,233,J⟩),V j,Z If 150] 216)) (by rw[QR j QB];simp);have c:=ZB f ⟨j.heap.size+1+1+1,0,J⟩ o z ((((j.alloc (K #[V (M f)] 233)).alloc (K #[V (M ⟨3,233,J⟩),V j,Z If 150] 216)).alloc (K #[V (M ⟨3,233,J⟩),V j,Z If 150] 216)).alloc (K #[V (M o)] 232))
  (by rw[Nl _ _ _ _ R];rfl)
  (by rwa[QR f QB,QR f QB,QR f QB,QR f u])
  (by rwa[Hx _ _ f QB,Hx _ _ f QB,Hx _ _ f QB,Hx _ _ f (IM u)])
 go_enter Qe,PL;go_wp2;refine wp_loop_rounds 1 ?_;rw[rounds_succ];go_wp2;go_ret;exact⟨A,_,by go_grown,A⟩
end As
end Go.Proofs.YtajnhfklchlahaaGreatDoor
