import Derived.Test.YtajnhfklchlahaaGreatDoorMAK
set_option linter.all false
set_option maxHeartbeats 3200000
set_option maxRecDepth 100000
namespace Go.Proofs.YtajnhfklchlahaaGreatDoor
open Go.Proofs.Tryz Go.RowKit Go.Shelf
open And renaming intro->κ,intro->W
open Bool renaming false->σ,true->ψ,false->X,true->U
open Go renaming Calls->τ,TypeId->Λ,Value->π,World->ν,Calls->Y,Value->S,World->L,bodyPost_ret->QM,Addr->JM,leaves_cons->XI,Lit->IA,maxLen->Ie
open Go.Ending renaming returned->ι
open Go.IntKind renaming i64->η,u64->If,i64->u
open Go.Obj renaming cells->θ,cells->K
open Go.Proofs.Tryz renaming prog->γ,prog->N
open Go.RowKit renaming Hid->Φ,Below->T,intOf->QI
open Go.Value renaming agg->Γ,bool->υ,oneCell'->φ,slice->ο,tuple->χ,agg->t,bool->z,int->Z,slice->P,string->O,tuple->f,func->Hl,pointer->ξ,pointer->V
open Option renaming none->ζ,some->δ,none->J,some->M
open Or renaming inl->Ξ,inr->Θ,inl->o,inr->j
open _root_ renaming rfl->A,ByteArray->B,Int->C,Nat->D,List->E,ByteArray->QE,and_true->QW,Option->QV,Array->Q
open YtajnhfklchlahaaGreatDoor renaming Ga->F,ϑ->G,om->H,eS->I,sm->R,QD->d,Qz->e,dc->r,QC->y
open Go.Result renaming ok->Je
open Go.Fn renaming func->Ic
variable {w q a i:Nat}{g s l:ν}{k:ByteArray}{n:List (IA×π)}{h:Array π}{m:π}{p:Λ}
namespace Wi
def UW:pX 60 5:=⟨⟨_,A,underlying60⟩,by kernel_rfl⟩
structure Ppr (s root key tx x0 x1 x2 x3 x4 y:QE):Prop where
 ss:s.size<=65536
 fP:∀p W,As.cC W->Y N 110 #[G p,s] W λe w'=>(∃v,e=ι v/\bS w' v [x0,x1,x2,x3,x4])/\T W W w'
 dg:∀W,Y N 111 #[x0] W λe w'=>e=f #[Z If 0,G 0]/\T W W w'
 i1:∀p W,Y N 112 #[G p,x1,z X] W λe w'=>e=O root/\T W W w'
 i2:∀p W,Y N 112 #[G p,x2,z X] W λe w'=>e=O key/\T W W w'
 i3:∀p W,Y N 112 #[G p,x3,z X] W λe w'=>e=I/\T W W w'
 it4:∀p W,As.cC W->Y N 110 #[G p,x4] W λe w'=>(∃v,e=ι v/\bS w' v [y])/\T W W w'
 iy:∀p W,Y N 112 #[G p,y,z X] W λe w'=>e=O tx/\T W W w'
 ok:sC 0 root key ⟨#[]⟩ [tx]
 txt:xx 0 root key ⟨#[]⟩ [tx]=s
def agf {w:L}{Z:S}{j t z K O:QE}(m:bS w Z [j,t,z,K,O]):∃a o k,Z=P (M ⟨a,o,J⟩) 5 k/\5<=k/\w ⟨a,o,J⟩=j/\w ⟨a,o+1,J⟩=t/\w ⟨a,o+2,J⟩=z/\w ⟨a,o+3,J⟩=K/\w ⟨a,o+4,J⟩=O:=by
 obtain⟨D,v,rfl,f⟩:=m.bZ;obtain⟨a,o,rfl,_,n⟩:=f 0 j A;obtain⟨E,y,U,_,p⟩:=f 1 t A;obtain⟨F,d,V,_,q⟩:=f 2 z A;obtain⟨G,c,e3,_,r⟩:=f 3 K A;obtain⟨x,C,X,b,s⟩:=f 4 O A;simp only[Gd,GS,QW] at U V e3 X;obtain⟨rfl,rfl⟩:=U;obtain⟨rfl,rfl⟩:=V;obtain⟨rfl,rfl⟩:=e3;obtain⟨rfl,rfl⟩:=X;exact⟨a,o,v,A,b,n,p,q,r,s⟩
section
variable {B:Nat}{w W u:ν}{o:Obj}
def stB (f:T B w W)(t:T W W u)(j:B<=W.heap.size):T B w u:=f.t (t.m j)
def stD (f:T B w W)(t:T W.drew W.drew u)(j:B<=W.heap.size):T B w u:=f.d.t (t.m j)
def stA (j:T B w W)(f:T (W.alloc o).heap.size (W.alloc o) u)(t:B<=W.heap.size):T B w u/\u.heap[W.heap.size]?=o:=⟨(j.a t _).t (f.m QB),f.ke (Gc W o)⟩
def agh (j:T B w W)(f:T (W.alloc o).drew.heap.size (W.alloc o).drew u)(t:B<=W.heap.size):T B w u/\u.heap[W.heap.size]?=o:=⟨(j.a t _).d.t (f.m (by show B<=(W.alloc o).heap.size;simp;omega)),f.ke (show(W.alloc o).drew.heap[W.heap.size]?=o from Gc W o)⟩
end
def aa8 {w:L}{f:D}{v x y c Z v0 v1 v2 v3 v4:S}{X:Λ}(j:w.heap[f]?=K #[v,x,y,c,Z] X):bd w (((((w.setCell f v0).setCell (f,1) v1).setCell (f,2) v2).setCell (f,3) v3).setCell (f,4) v4) f (K #[v0,v1,v2,v3,v4] X):=by
 have A:=aF (j:=0) v0 j;have J:=aF (j:=1) v1 A.at_;have M:=aF (j:=2) v2 J.at_;have O:=aF (j:=3) v3 M.at_;have b:=aF (j:=4) v4 O.at_;have t {w U V:L} {s P:Obj} (j:bd w U f s) (z:bd U V f P):bd w V f P:=⟨z.aH.t j.aH,z.at_,λq g=>(z.old q g).t (j.old q g),λB e a C=>z.aE B e a (j.aE B e a C)⟩;exact t (t (t (t A J) M) O) b
def rK {w:L}{j:S}{f:QE}(t:bS w j [f]):∃a o c,j=P (M ⟨a,o,J⟩) 1 c/\1<=c/\w ⟨a,o,J⟩=f:=by
 obtain⟨V,U,rfl,O⟩:=t.bZ;obtain⟨a,o,rfl,K,z⟩:=O 0 f A;exact⟨a,o,U,A,K,z⟩
def Lp (f:L)(J:D)(A z tx:QE)(wr:L):Prop:=∃j,bS wr j [tx]/\(∀t,j.ownBlock=M t->f.heap.size<=t)/\wr.heap[J]?=K #[G 0,A,z,I,j] 60/\T f f wr
def Lp.of {j u U:L}{f:D}{p X tx:QE}{t:S}(z:T j j u)(b:j.heap.size<=f)(Z:u.heap[f]?=K #[G 0,p,X,I,P J 0 0] 60)(A:U.ownsRow u 9 1 t 1 [O tx])(V:aL (λc=>(P J 0 0).ownBlock=M c) u U):Lp j f p X tx (U.setCell (f,4) t):=by
 have v:=V.aM Z (λs=>by cases s);have n:=aF (j:=4) t v;have y:=aw Z;have q:=z.t ((V.cE (B:=u) d (λx r=>by cases r)).m z.z);exact⟨t,da (base:=u) (xs:=[tx]) (aK A λc a=>QJ (by have:=(bG A a).1;show c≠f;omega)),λc a=>GB z.z (bG A a).1,n.at_,n.aE _ _ b q⟩
def bS.bO {w z:L}{t:S}{K:E QE}(f:bS w t K)(Z:z.heap.size=w.heap.size)(V:∀b,t.ownBlock=M b->z.heap[b]?=w.heap[b]?):bS z t K:=by
 rcases f with f|⟨J,o,O,rfl,P,X,U⟩
 .exact Ξ f
 exact j ⟨J,o,O,A,λl m k=>(GQ (w:=w) (V J A)).t (P l m k),by omega,U⟩
def YV {w:L}{f:D}{o:Obj}(_:w.heap[f]?=o):∃b,f=b:=⟨f,A⟩
def abn (w:L)(o:Obj):gJ w (w.alloc o) o:=by
 obtain⟨_,rfl,f⟩:=aU w o;exact f
def Yj {L t Z tx x0 l n H p f4:QE}(x:Ppr L t Z tx x0 l n H p f4)(w:ν)(R:As.cC w):
 τ γ 55 #[O L] w λe h=>(∃i,e=Γ #[G 0,O t,O Z,I,i]/\bS h i [tx]/\∀c,i.ownBlock=δ c->w.heap.size<=c)/\T w w h:=by
 have k:=F x;have d4:=F R;have ag:=F rJ;have d8:=QC (∀W i,bS W i [tx]->τ γ 52 #[Γ #[G 0,O t,O Z,I,i]] W λe h=>e=χ #[O L,G 0]/\T W W h) λW i v=>(qk 0 t Z ⟨#[]⟩ i [tx] W v sm).m λe h ⟨g,b0⟩=>⟨by
  rw[SU,x.txt] at g
  rcases g with g|g|g
  .exact absurd x.ok g.1
  .have:=x.ss;omega
  exact g.2.2,b0⟩
 have h7:(L.toList==L.toList)=ψ:=sm;have g3:(L.size:Int)<=65536:=by have:=x.ss;omega
 have X:((0:Int)==0)=ψ:=dc;have d2:(0:Int)<=1:=dc;obtain⟨e7,g4,a0⟩:=aU w (θ #[G 0,I,I,I,P J 0 0] 60);have b7:=F (x.fP (-1) e7 (R.aE a0.aE));have a4:=F (κ a0.at_ a0.aE);clear x R a0;go_enter func55,ntmps55;go_wp2_with ((with_reducible go_call ag.o _ _ as e a ⟨rfl,C⟩);subst C);go_call b7.o as e g6 ⟨⟨i,rfl,v⟩,y⟩;obtain⟨c,o,h6,rfl,g1,d3,c1,M,U,c4⟩:=agf v;have a5:=F (κ (y.ke a4.1) (a4.2.t (y.m a4.2.z)));have f8:((5:Int)==5)=ψ:=dc;clear v y b7;go_wp2_with ((with_reducible go_call ag.o _ _ as e a ⟨rfl,C⟩);subst C);go_call k.o.dg _ as e g7 ⟨rfl,r⟩;have d:=F (κ (r.ke a5.1) (a5.2.t (r.m a5.2.z)));have c1:=r.ce c1;have M:=r.ce M;have U:=r.ce U;have c4:=r.ce c4;clear r d3;go_upto_region 6 with((with_reducible go_call ag.o _ _ as e a ⟨rfl,C⟩);subst C);have b3:=F (fun(W:ν) (b0:T a a W)=>b0.ce c4);have K:T a a a:=QG;have ah:=Gb a.heap.size;have ae:=κ c1 (κ M (κ U c4));have b5:a.drew ⟨c,o+1,J⟩=l/\a.drew ⟨c,o+2,J⟩=n/\a.drew ⟨c,o+3,J⟩=H/\a.drew ⟨c,o+4,J⟩=p:=ae;have a2:=IX a _ c1;simp only at a2;have g9:η.wrap 0=0:=dc;go_region_held3 (λh=>h ⟨c,o+1,J⟩=l/\h ⟨c,o+2,J⟩=n/\h ⟨c,o+3,J⟩=H/\h ⟨c,o+4,J⟩=p) (first|with_reducible exact ae|with_reducible exact b5|go_keep) (first|(go_at_call 112;(with_reducible first|refine(k.o.i1 _ _).m ?_|refine(k.o.i2 _ _).m ?_|refine(k.o.i3 _ _).m ?_);rintro e u ⟨rfl,f⟩;obtain⟨c1,M,U,c4⟩:=(by assumption:World.cell? _ ⟨c,o+1,none⟩=some (.string l)/\World.cell? _ ⟨c,o+2,none⟩=some (.string n)/\World.cell? _ ⟨c,o+3,none⟩=some (.string H)/\World.cell? _ ⟨c,o+4,none⟩=some (.string p));have c1:=f.ce c1;have M:=f.ce M;have U:=f.ce U;have c4:=f.ce c4;have ae:=κ c1 (κ M (κ U c4));(first|((with_reducible first|(have b:=stA (by assumption) f (by assumption);have K:=b.1;have Y:=b.2)|(have b:=agh (by assumption) f (by assumption);have K:=b.1;have Y:=b.2)|(have Y:=f.ke (by assumption:(World.heap _)[_]?=some (.cells #[.int .i64 0,I,I,I,.slice none 0 0] 60));have K:=stB (by assumption) f (by assumption)));have X:=dA Y;have e8:=X 0;have d2:=X 1;have e9:=X 2;have f0:=X 3;have f1:=X 4;simp at e8 d2 e9 f0 f1;have h5:=aI Y;clear X)|((with_reducible first|have K:=stD (by assumption) f (by assumption)|have K:=stB (by assumption) f (by assumption));have a2:=IX _ _ c1;simp only at a2));have ah:=K.z;clear c1 M U c4 f));all_goals
  first
   |(have q:=abn u (θ #[G 0,O t,O Z,I,P J 0 0] 60);have z:=q.at_;have m:T a a _:=K.t (q.aE.m ah);have N:=ah;obtain⟨j,ab⟩:=YV z;generalize u.alloc _=W at m z ⊢;rw[ab] at z N ⊢)
   |(have q:=aa8 (v0:=G 0) (v1:=O t) (v2:=O Z) (v3:=I) (v4:=P J 0 0) Y;have z:=q.at_;obtain⟨j,ab⟩:=YV z;have N:a.heap.size<=j:=(by rw[<-ab];assumption);have m:T a a _:=q.aE _ _ (ab▸N) K;generalize (((((u.setCell _ _).setCell _ _).setCell _ _).setCell _ _).setCell _ _)=W at m z ⊢;rw[ab] at z ⊢)
  have s:=F (κ z (κ N m));have c4:=b3.o W m;clear z N m q K ah ae b5 a2 b3;have b9:=F (k.o.it4 4 W (d4.o.aE (d.2.t (s.2.2.m d.2.z))));go_wp2_with fail;go_call b9.o as e w5 ⟨⟨i,rfl,v⟩,a7⟩;obtain⟨g0,h2,h0,rfl,g2,d0⟩:=rK v;have b4:=QC (T a a w5) (s.2.2.t (a7.m s.2.2.z));have aj:=a7.ke s.1;have f7:w5 (j,4)=P J 0 0:=cR aj A;clear v a7 c4 b9;go_wp2;go_loopw [54,8] (λak _ wr=>(ak=G 0/\wr=w5)\/(ak=G 1/\Φ (Lp a j t Z tx wr))) (λak _ _=>1-(QI ak).toNat)
  .exact Ξ ⟨A,A⟩
  rcases hrel with⟨rfl,rfl⟩|⟨rfl,af⟩
  .go_wp2_with fail;have d9:=F aj;clear aj;refine wp_region_held_drew (S:=λ_=>True) Qz tV (λl=>?_);refine wpAnyH_take (i:=0) (v:=?_) rf Qz Qz Qz (by exact λ_ _ _ g=>g) ?_ l (wpAnyH_take (i:=2) (v:=?_) rf Qz Qz Qz (by exact λ_ _ _ g=>g) ?_ l ?_);all_goals try((with_reducible show YieldsIf _ _ _ _ _ _);refine Ξ ⟨by rfl,?_⟩;intro w u;(try dsimp only at u);go_simp;(try with_reducible rfl))
   refine wpAnyH_ready (rs:=[1,3]) Qz sm ?_;refine Hi rfl (λh n=>?_) (Hi rfl (λh n=>?_) Ia)
   all_goals
    go_simp;first|(with_reducible go_call k.o.iy _ _ as e u ⟨rfl,f⟩)|(have q0:=tV;refine n.out _ _ tV (λl=>?_);clear n h;refine wpAnyH_ready (rs:=[3]) Qz sm ?_;refine Hi rfl (λh n=>?_) Ia;go_simp;with_reducible go_call k.o.iy _ _ as e u ⟨rfl,f⟩)
    have V:=Below.ke (show T wr wr u from⟨f.os,f.tape,f.output,f.z,f.b⟩) d9.o;have a6:=F (κ (b4.o.t (Lh (show T wr wr u from⟨f.os,f.tape,f.output,f.z,f.b⟩) b4.o.z)) V);have u4:u (j,4)=P J 0 0:=cR V A;have u5:(u.alloc (θ #[O tx] 9)) (j,4)=P J 0 0:=cR ((QP (aw V)).t V) A;clear f V
    go_wp2_with fail;refine n.out _ _ tV (λl=>?_);clear n h
   all_goals
    first|(have:=q0;refine wpAnyH_ready (rs:=[4]) Qz sm ?_;refine Hi rfl (λh n=>?_) Ia;go_simp)|(refine wpAnyH_ready (rs:=[1,4]) Qz sm ?_;refine Hi rfl (λh n=>?_) (Hi rfl (λh n=>?_) Ia);(go_simp;refine n.out _ _ tV (λl=>?_);clear n h;refine wpAnyH_ready (rs:=[4]) Qz sm ?_;refine Hi rfl (λh n=>?_) Ia;go_simp);rotate_left;(go_simp;refine n.out _ _ tV (λl=>?_);clear n h;refine wpAnyH_ready (rs:=[1]) Qz sm ?_;refine Hi rfl (λh n=>?_) Ia;go_simp))
   all_goals
    refine n.out _ _ tV (λl=>?_);clear n h;refine wpAnyH_ready (rs:=[5]) Qz sm ?_;refine Hi rfl (λh n=>?_) Ia;refine gX hO A _ _ rf rf (GM u u.heap.size 9 1) rf #[O tx] rf (by simp[φ]) om QD ?_;intro f3 b2 a9 a8;obtain⟨d1,c0,rfl⟩:∃e6 e2,f3=P e6 (0+1) e2:=(by rcases a9.2 with⟨_,g⟩|⟨c,f5,f6,g,_⟩;cases g;exact⟨_,_,g⟩);have af:=F (Lp.of a6.o.1 s.o.2.1 a6.o.2 a9 a8);have S:=a8.aM a6.o.2 (λg=>by cases g);have u7:b2 (j,4)=P J 0 0:=cR S A;have f9:=aI S;clear S a9 a8;refine n.out _ _ tV (λl=>?_);clear n h;refine wpAnyH_take (i:=6) (v:=?_) rf Qz Qz Qz (by exact λ_ _ _ g=>g) ?_ l ?_
    all_goals try((with_reducible show YieldsIf _ _ _ _ _ _);refine Ξ ⟨by rfl,?_⟩;intro w u;(try dsimp only at u);go_simp;(try with_reducible rfl))
    refine wpAnyH_ready (rs:=[7]) Qz sm ?_;refine Hi rfl (λh n=>?_) Ia;go_simp;refine n.out _ _ tV (λl=>?_);clear n h;(try simp only[Act.put,Gi,Gw,Gn]);refine wpAnyH_done Qz ?_ _
    go_wp2;go_roundw
    .exact Θ ⟨A,af⟩
    simp[QI]
  obtain⟨h8,ai,c6,c8,y⟩:=af.o;obtain⟨c3,h3,h1,rfl,-,-⟩:=rK ai;have c6:=c6 c3 A;have g5:=aw d.1;have c7:w.heap.size<c3:=om;have d6:=F (d8.o wr _ ai);have a3:=F (κ (y.ke d.1) (d.2.t (y.m d.2.z)));have e0:=F ai;clear ai y af;go_wp2_with (first|(refine zw UW A _ A A A c8 ?_)|((with_reducible go_call d6.o as e w8 ⟨rfl,b8⟩);have e5:=b8.ke c8;have e1:=F (e0.o.hQ b8);have b6:=F (κ (b8.ke a3.o.1) (a3.o.2.t (b8.m a3.o.2.z)));clear b8)|((with_reducible go_call ag.o _ _ as e g8 ⟨rfl,C⟩);subst C)|(refine zw UW A _ A A A e5 ?_)|(refine EL UW A _ _ A A A A (by simp[φ]) A b6.o.1 ?_;intro h4 a1));refine QM (EN UW A A A a1.at_) A ?_;exact⟨⟨_,A,bS.bO e1.o a1.aH λf2 b=>a1.old f2 (by cases b;exact Nat.ne_of_gt c7),λc R=>by cases R;exact Nat.le_of_lt c7⟩,a1.aE _ _ QD b6.2⟩
end Wi
namespace Fm
def ds (J O U:QV JM)(X t Z c1 b V:D)(M:C)(W:π)(f:ν)(i:As.cC f)(m:bS f W [RB]):
 τ γ 20 #[Γ #[P J X t,P O Z c1,W,P U b V,M],G 0] f λr l=>r=G 1/\T f f l:=by
 obtain⟨n,e,a,rfl,L,g⟩:=Wi.rK m;let⟨k,x,c⟩:=aU f (θ #[P J X t,P O Z c1,P (n,e) 1 a,P U b V,G M] 69);have H:=cJ 2 c.at_;have v:=c.aE.ce g;have w:=F (OK k (i.aE c.aE));have u:=F c.aE;generalize RB=S at *;generalize R0=R at *;go_enter func20,ntmps20;go_wp2_with (rw[x]);go_loopw [5,13] (λs d wr=>(s=G 0/\d=G 0/\wr=k)\/(s=G 1/\d=G 1/\Φ (T f f wr))) (λ_ d _=>1-(QI d).toNat)
 .exact Ξ ⟨A,A,A⟩
 rcases hrel with⟨rfl,rfl,rfl⟩|⟨rfl,rfl,o⟩
 .go_wp2_with (first|((with_reducible go_call w.o as r h ⟨⟨K,rfl⟩,p⟩);let⟨N,y,b⟩:=aU h (θ #[G 0,G 0,G 0,G 0,I,P ζ 0 0,I,υ σ] 136))|(rw[y])|(apply ia wo b.at_;intro Y z;have q:=cJ 2 z.at_;have j:=F (u.o.t (p.m u.o.z));have o:=F (z.aE _ _ j.o.z (j.o.t (b.aE.m j.o.z)))));go_roundw
  .exact Θ ⟨A,A,o⟩
  simp[QI]
 go_wp2;go_ret;exact⟨A,o.o⟩
end Fm
namespace Wi
def Ej (j o:D)(f:L):CallsD N 53 #[V j,V o] .returning f λd e i=>(∃h,d=ι h)/\e=.returning/\i=f:=by
 refine callsD_of_wpS func53 A λc b a=>?_;apply wpS_seq;apply wpS_region;simp[wpOpsS,go_sem,recoverD,a,ntmps53,Exit.thenS];apply wpS_seq;apply wpS_seq;apply wpS_region;simp[wpOpsS,go_sem,recoverD,a,Exit.thenS];apply wpS_cond (t:=U) (by simp[Act.eval,Array.replicate]);simp only[if_true];refine wpS_of_wp (wp_ret ?_);cases c;simp_all[Exit.thenS,bodyPostS,results,Tryz.results53]
def wz {z:Func}{u j:Tmp}(O:z.results=#[.cell u 60,.cell j 27]){o:JM}{t:Q S}{P:D×D}(Z:t.size=5)(J:h.getD u undef=V w)(W:g.heap[w]?=K t p P)(A:h.getD j undef=V (M o))(a:g o=m):
 (results z h).run N g=Je (f #[t,m]) g:=by
 let⟨b,hd,s⟩:=UW.d;have X:h[u]?.getD undef=V w:=sU J;have U:h[j]?.getD undef=V (M o):=sU A;simp[results,O,X,U,asAddr,uC W hd s (Z▸UW.aH)];simp[go_sem,a]
theorem abq {M K tx:B}(X:∀a,As.cC a->Y N 55 #[O k] a λg e=>(∃b,g=Γ #[G 0,O M,O K,O ⟨#[]⟩,b]/\bS e b [tx]/\∀s,b.ownBlock=δ s->(a:D)<=s)/\T a a e)(a:ν)(U:As.cC a):
 Y N 17 #[O k] a λg e=>(∃b,g=χ #[Γ #[G 0,O M,O K,O ⟨#[]⟩,b],G 0]/\bS e b [tx])/\T a a e:=by
 let⟨m,p,d⟩:=aU a (θ #[G 0,O ⟨#[]⟩,O ⟨#[]⟩,O ⟨#[]⟩,ο ζ 0 0] 60);let⟨L,v,h⟩:=aU m (θ #[G 0] 27);have rS:∀(w:Fn) (first r:Q π) (a:ν),(Instr.makeFunc w first r).run N a=Je (Hl w first r) a:=λ_ _ _ _=>rfl;have Z:=F (X L (U.aE (d.aE.t (h.aE.m d.aE.z))));have n:=F (λy R a=>Ej y R a);have f:=F (W (Below.ke h.aE d.at_) (W h.at_ (W (d.aE.t (h.aE.m d.aE.z)) (aw d.at_))));clear d h X U;go_enter_defers func17,ntmps17;go_wp2_with (first|(rw[p])|(rw[v])|((with_reducible apply Z.o.m);rintro g a6 ⟨⟨b,rfl,z,V⟩,t⟩;obtain⟨u,a3,a2,rfl,-,-⟩:=rK z;have V:=V u A;have q:=Below.ke t f.o.1;have x:=Below.ke t f.o.2.1;have P:=F (W z t);clear z t)|(apply ia UW q;intro S j;have J:=(j.old _ (oA f.o.2.2.2)).t x;have c5:S m=G 0:=cR J A;have a1:=aI J));apply XI (f:=53) (args:=#[ξ ((a:D),0),ξ m]) sm sG;apply(n.o _ _ _).mono;rintro g a4 e ⟨⟨b,rfl⟩,rfl,rfl⟩;have a5:=f.2.2.2;have o:=aF (j:=0) (G 0) J;refine⟨_,wz A A A ((o.old _ H).t j.at_) A (cR o.at_ A),⟨_,A,?_⟩,o.aE _ _ H (j.aE _ _ QD (f.2.2.1.t (P.2.m f.2.2.1.z)))⟩;have I:=f.2.1;have a0:=aw I;have c:u≠(a:D):=H;have i:u≠(m:D):=H;exact bS.bO P.1 (o.aH.t j.aH) λa7 l=>by cases l;exact(o.old _ i).t (j.old _ c)
def abr (t z o:D)(a:ν)(H:eI a)(X:bS a (P (t,z) 1 o) [T1]):
 τ γ 18 #[Γ #[G 0,O (bn T1),O K1,I,P (t,z) 1 o]] a λd c=>(∃U,d=χ #[U,G 0]/\(∃b,U=P (δ ⟨b,0,J⟩) 1 1/\c ⟨b,0,J⟩=K1/\c ⟨b,1,J⟩=V1))/\T a a c:=by
 let⟨v,R,p⟩:=aU a (K #[G 0,O (bn T1),O K1,I,P (t,z) 1 o] 60);have k:sC 0 (bn T1) K1 ⟨#[]⟩ [T1]:=⟨Ξ ⟨A,A⟩,ec _,dc,dc,sm,by simp;decide⟩;have m:=F ((vj 0 (bn T1) K1 ⟨#[]⟩ _ [T1] v (X.hQ p.aE) sm).m (R':=λd c=>d=υ ψ/\T v v c) λd c ⟨⟨b,N,L⟩,q⟩=>⟨by rw[N,L.2 k],q⟩);have g:a (t,z)=T1:=by
  rcases X with⟨a1,o,w,V⟩|⟨b,ae,a2,w,V,_⟩
  .cases V
  cases w;exact V 0 T1 A
 have a6:=F (fun(y:ν) (b:T a a y)=>Pf.Yo t z o y (H.aE b) (b.ce g));have e:=F p.aE;have x:=p.at_;generalize bn T1=a7 at *;generalize K1=a4 at *;generalize V1=U at *;go_enter func18,ntmps18;go_wp2_with (first|(rw[R])|(apply oc UW x)|((with_reducible go_call m.o as d i ⟨rfl,l⟩);have j:=l.ke x;have W:=e.o.t (l.m e.o.z);have n:=F (a6.o i W);have f:=F W;have ag:=cJ 0 j;have c1:=cJ 1 j;have a8:=cJ 2 j;have c4:=cJ 4 j)|((with_reducible go_call n.o as d u ⟨rfl,h⟩);let⟨a3,S,r⟩:=aU u (K #[υ σ,I] 126))|(rw[S])|(apply ia Pf.zt r.at_;intro a5 M;have Y:=(M.old a (IM (GP (aw j) h.z))).t (r.aE.ke (h.ke j));have ab:=cJ 2 Y;have d0:=cJ 0 M.at_;have a9:=cJ 1 M.at_;have Z:=F (M.aE _ _ (f.o.t (h.m f.o.z)).z ((f.o.t (h.m f.o.z)).t (r.aE.m (f.o.t (h.m f.o.z)).z)));let⟨a0,af,s⟩:=aU a5 (K #[a4,O U] 73)));go_ret2;exact⟨⟨_,A,_,A,cR s.at_ A,cR s.at_ A⟩,Z.o.t (s.aE.m Z.o.z)⟩
def S1:B:=⟨#[235,128,160,82,213,32,9,195,71,163,161,45,15,192,87,29,101,74,217,2,57,37,48,225,217,156,67,253,55,34,240,5,31,4,93,107,128,198,133,196,130,32,107,118]⟩
def H1:B:=⟨#[160,82,213,32,9,195,71,163,161,45,15,192,87,29,101,74,217,2,57,37,48,225,217,156,67,253,55,34,240,5,31,4,93]⟩
def L1:B:=⟨#[198,133,196,130,32,107,118]⟩
def Y1:B:=⟨#[133,196,130,32,107,118]⟩
def zu:Ppr S1 R1 K1 T1 ⟨#[128]⟩ H1 K1 ⟨#[128]⟩ L1 Y1 where
 ss:=dc
 fP p W hg:=Cb p S1 (S1.extract 1 44) 1 43 _ W hg dc Qz rfl rfl dc Qz
 dg W:=(tv ⟨#[128]⟩ W dc).m λc w' ⟨a,b⟩=>⟨by rw[(Qz:Rl.FW ⟨#[128]⟩=δ 0)] at a;exact a,b⟩
 i1 p W:=ly p H1 R1 σ 1 32 W dc Qz rfl Qz
 i2 p W:=ly p K1 K1 σ 0 1 W dc Qz rfl Qz
 i3 p W:=ly p ⟨#[128]⟩ ⟨#[]⟩ σ 1 0 W dc Qz rfl Qz
 it4 p W hg:=Cb p L1 Y1 1 6 [Y1] W hg dc Qz rfl Qz dc Qz
 iy p W:=ly p Y1 T1 σ 1 5 W dc Qz rfl Qz
 ok:=⟨Ξ ⟨rfl,rfl⟩,dc,dc,dc,dc,dc⟩
 txt:=Qz
def UI (j:L)(o:As.cC j):Y N 17 #[S1] j λe c=>(∃b,e=f #[t #[G 0,R1,K1,I,b],G 0]/\bS c b [T1])/\T j j c:=
 abq (Yj zu) j o
end Wi
def ix.one {t o:B}(z:ix g n k t)(A:ix g n k o):t=o:=by
 obtain⟨K,_,_,J,⟨⟨_,_,u⟩,_⟩⟩:=z;obtain⟨M,_,_,j,⟨⟨_,_,f⟩,_⟩⟩:=A;rw[J] at j;cases j;rw[u] at f;simp only[Gd,Hq,IU,GN,IT] at f;exact f.1.1
def Yp (f:L)(W:Nat)(P:Q π)(t:E B->L->Prop)(J:lV f W P t)(s w:Nat)(i:C)(z:E (IA×π))(b:L)(m:eI f)(n:bp f s w i z)(e:ix f z (bn T1) T1)(y:t [] b):
 τ γ 175 #[ξ s,O (bn T1),O K1,Hl (Ic W) #[] P] b λg G=>g=χ #[V1,ϑ 0]/\t [T1] G:=by
 have af:=F (at_walk f W P t J s w i z (bn T1) (λd c x=>d=T1/\x=0/\ct c D1) [] b m n (by rw[ec];omega) (λd Y b n=>by
  cases Y.one e
  exact(UI b n.dm).m λg G ⟨⟨c,hd,T⟩,v⟩=>⟨⟨c,D1,0,hd,T,A,A,hd⟩,v⟩) y sm)
 have r:=F J;have q:=F e;have a2:=(J.gi _ _ y).z;have k:=F (λb=>Nib.ga K1 b dc);rw[abm] at k;have a5:(P1.toList==P1.toList)=U:=sm;have Z:=QC (D1.bq=1/\D1.bA=P1/\D1.bL=V1) ⟨A,A,A⟩;generalize bn T1=ah at *;generalize K1=a1 at *;generalize P1=H at *;generalize V1=ag at *;generalize D1=a8 at *;go_enter func175,ntmps175;go_wp2_with fail;go_call af.o as g a ⟨⟨c,V,ok,-,rfl,M⟩,D⟩;rcases M with⟨S,-⟩|⟨d,x,-,⟨rfl,rfl,hd⟩,rfl,l⟩
 .let⟨v,a7,a4,I,_⟩:=q.o;rw[S] at I;cases I
 have h:=Gc a (K zc 281);have p:=F (r.o.aM _ _ _ l ((Ge _ a).a QD (K zc 281)));have a3:=D.aH;have R:((0:C)==0)=U:=dc;rw[R];go_wp2_with (first|(apply tS hd h;intro ae u)|(with_reducible go_call k.o _ as g j ⟨rfl,o⟩));have u:bd (a.alloc (K zc 281)) ae a (K c 281):=u;have N:=F (r.o.aM _ _ _ (r.o.ew _ _ _ a _ _ p.o om h u) o);have X:=o.ke u.at_;have a6:j a=ϑ 1:=(cR X hd.bq).t (by rw[Z.1]);have c1:j (a,1)=H:=(cR X hd.bA).t (by rw[Z.2.1]);have a0:j (a,2)=ag:=(cR X hd.bL).t (by rw[Z.2.2]);go_loopw [11,12] (λa9 ab wr=>a9=υ U/\ab=O H/\wr=j) (λ_ _ _=>0)
 .exact⟨A,A,A⟩
 obtain⟨rfl,rfl,rfl⟩:=hrel;go_wp2;go_ret2;exact⟨A,N.o⟩
def aep (u U:D)(X:C)(o:E (IA×S))(j:L)(s:eI j)(r:bp j u U X o)(e:ix j o (bn T1) T1):
 Y N 102 #[V u,O (bn T1),O K1] j λi m=>(∃z,i=f #[z,G 0]/\bS m z [T1])/\T j j m:=by
 let⟨b,v,g⟩:=aU j (K #[P J 0 0] 33);have t:AT j j [] b:=⟨g.aE,d,_,g.at_,QN⟩;have Z:=F (Yp j 176 _ _ (sa j j d) u U X o b s r e t);generalize bn T1=k at *;generalize K1=y at *;generalize V1=z at *;go_enter func102,ntmps102;go_wp2_with fail;go_call Z.o as i q ⟨rfl,t⟩;let⟨c,_,l,p,a⟩:=t;obtain⟨w,x,rfl⟩:=aR a;have h:=cJ 0 p;have M:=F (W c (da a));go_wp2;go_ret2;exact⟨⟨_,A,M.2⟩,M.1⟩
def abt (J M:D)(P:C)(z:E (IA×S))(o:L)(q:eI o)(U:bp o J M P z)(X:ix o z (bn T1) T1):
 Y N 51 #[V J,O (bn T1),O K1] o λd a=>(∃i,d=f #[i,G 0]/\bS a i [T1])/\T o o a:=by
 have r:=F (hV J M P z (bn T1) o U (by rw[ec];unfold Ie;omega));have s:=F (aep J M P z o q U X);have v:=F X;generalize bn T1=x at *;generalize K1=e at *;go_enter func51,ntmps51;go_wp2_with fail;go_call r.o as d t ⟨p,K⟩;have K:=K.s;subst K;rcases p with⟨w,rfl⟩|⟨_,_,_,_,_,_,rfl⟩
 .let⟨y,c,b,n,_⟩:=v.o;rw[w] at n;cases n
 go_wp2_with ((with_reducible go_call s.o as d u ⟨⟨i,rfl,j⟩,g⟩);have Z:=F (W j g));go_ret2;exact⟨⟨_,A,Z.1⟩,Z.2⟩
def Yq (j:Pl)(P:Md.dY)(z o:E (IA×π))(x:Cc.Ca)(Z:D)(f:C)(b:ν)(M:eI b)(a:bt b j P z o x Z)(ae: -9223372036854775808<=f/\f<=9223372036854775807)(e:∃g∈P.vs,g.aG=f)(U:aT z (il f)=(bn T1))(V:ix b o (bn T1) T1):
 τ γ 16 #[ξ j.c,G f,O K1] b λd n=>d=χ #[O Wi.S1,G 0]/\T b b n:=by
 have H:=F (lY j P z o x Z f b a ae);have L:=F a;have a6:=F M;have p:=F (κ e U);have s:=F (λc (i:T b b c)=>abt j.s j.m j.cg o c (M.aE i) (a.aE i).cO (by
  let⟨S,ah,ag,r,Y⟩:=V
  exact⟨S,ah,ag,r,Y.aE i⟩))
 have w:=QC (∀c h,bS c h [T1]->τ γ 52 #[Γ #[G 0,O (bn T1),O K1,eS,h]] c λd n=>d=χ #[O Wi.S1,G 0]/\T c c n) λc h e=>(qk 0 (bn T1) K1 ⟨#[]⟩ h [T1] c e sm).m λd n ⟨a,i⟩=>⟨by
  rw[UJ,SU,Wi.zu.txt] at a
  rcases a with a|a|a
  .exact absurd Wi.zu.ok a.1
  .have:=Wi.zu.ss;omega
  exact a.2.2,i⟩
 have b4:¬(6:C)<(K1.size:C):=dc;have b0:((0:C) !=0)=σ:=dc;clear a M e U V;generalize bn T1=ai at *;generalize K1=a7 at *;generalize Wi.S1=a0 at *;go_enter func16,ntmps16;go_wp2_with fail;go_call H.o as d I ⟨r,b1⟩;clear H;rcases r with⟨g,l,v,b2,ab,J,rfl⟩|⟨af,rfl⟩
 .rw[p.2] at J;simp only[Gd,IT] at J;subst J;let⟨⟨a4,b3,a2,k⟩,⟨aj,a5,a3,q⟩⟩:=L.o.fL l;rw[k,q];have x0:=F b1;clear l v ab k q b1;go_wp2_with (first|(apply uT (Gc I _);intro X W;have t:=QC (T b b X) (W.aE _ _ x0.o.z (x0.o.a x0.o.z _));have c4:=(L.o.aE t.o).c4;clear W)|((with_reducible go_call ku 4 _ as d K ⟨rfl,a1⟩);subst a1));go_call s.o X t.o as d K ⟨⟨h,rfl,e⟩,u⟩;have R:=F (w.o K h e);have m:=F (t.o.t (u.m t.o.z));obtain⟨a8,a9,rfl,-⟩:=e.bZ;clear e u;go_wp2_with fail;go_call R.o as d w4 ⟨rfl,y⟩;have N:=F (m.o.t (y.m m.o.z));clear y;go_wp2;go_ret2;exact⟨rfl,N.o⟩
 let⟨g,l,v⟩:=p.1;exact absurd v (af g l)
def US {j:Md.dp}{f:E Md.dp}(o:eW [j] f):∃a,f=[a]/\a.aG=j.aG:=by
 match f,o.cB with
 |[a],_=>exact⟨a,A,(o.yQ 0 j a A A).1⟩
def Yr:bn ⟨#[128]⟩≠bn T1:=by
 rw[YS,UJ];intro f;revert f;decide
def UT {f:B}(o:(n:D)<=1)(c:aT n (kl k)=m)(t:k≠f):aT n (kl f)=J:=by
 match n,o,c with
 |[a],_,c=>
  by_cases j:a.1=kl f
  .have:aT [a] (kl k)=J:=by
    rw[(rfl:a=(a.1,a.2)),ck (λg=>t (hI (g.s.t j)))];rfl
   rw[this] at c;cases c
  rw[(rfl:a=(a.1,a.2)),ck j];rfl
def abv {U:Pl}{f:Md.dY}{W:E (IA×S)}{w:Cc.Ca}(j:jW g 2 50 U f n W w s):ad0 U f n W [C1] T1 C1 s:=by
 let⟨v,l,F,e,h⟩:=j.WE;have t:f=⟨2,1,[⟨0,0,P J 0 0,P J 0 0⟩]⟩:=j.md;have i:∀a c,f.vs.getLast?=M a->aT n (il a.aG)=O c->c=bn ⟨#[128]⟩:=by
  intro a c b d;rw[t] at b;obtain rfl:(⟨0,0,P J 0 0,P J 0 0⟩:Md.dp)=a:=Gm b;have d:aT n (il 0)=O c:=d;rw[j.oZ] at d;exact(Value.string.inj (Gm d)).s
 refine⟨?_,⟨λp m=>?_,R,by rw[t];decide⟩,λa c b d=>?_,⟨v,l,F,e,h⟩,?_⟩
 .rw[t];exact⟨_,A,J,0,A⟩
 .rw[GA.1 m];kernel_rfl
 .rw[i a c b d];refine⟨agm,abu,?_,?_⟩
  .have G:=j.one;have y:U.cg=50:=j.cg;rw[y];omega
  exact UT j.one e Yr
 intro I en u H Z x z;rw[t] at Z;obtain⟨a,rfl,b⟩:=US Z;have X:f.next=1:=by rw[t]
 have k:f.aN=2:=by rw[t]
 have r:∀V∈[a,⟨1,0,en,u⟩],V∈(Md.jb {f with vs:=[a]} en u).vs:=by
  intro V K;show V∈Md.cX (f.next+1) f.aN ([a]++[⟨f.next,0,en,u⟩]);rw[X,k];refine Md.nG _ _ _ _ K (o ?_);simp at K;have b:a.aG=0:=b;rcases K with rfl|rfl
  .rw[b];decide
  show(1:C)+1-2<=1;decide
 rcases GF.1 z with rfl|z
 .exact⟨⟨1,0,en,u⟩,r _ R,by rw[X]⟩
 refine⟨a,r _ R,?_⟩;have b:a.aG=0:=b;rw[b];exact j.xR x (GX.1 z).1
def agn {o:L}{u:Pl}{A:Md.dY}{J:E (IA×S)}{z:Cc.Ca}(j:jW g 2 50 u A n J z o)(O:eI o)(b:2<=(g:D))(U:(g:D)<=(o:D))(P:jv o m [C1]):
 Y N 15 #[V u.c,m] o λd a=>d=f #[G 1,G 0]/\T g o a/\
  ∀c,T a a c->Y N 16 #[V u.c,G 1,K1] c λd k=>d=f #[Wi.S1,G 0]/\T c c k:=by
 have M:A.next=1:=by rw[j.md]
 go_call vy True T1 C1 u A n J z 0 m [C1] o O (by rwa[j.iY]) j.ch (P.u _) R H (λ_=>abv j) as d a ⟨s,⟨md',R',L',h,F,l,_,rfl,t⟩|⟨hF,_⟩⟩
 .have K:T g o a:=j.iY▸s.dn (λa1 r=>by
   have:=j.ch.dK
   have:=j.iY
   simp at r
   rcases r with rfl|rfl<;>omega) (by rwa[j.iY])
  let⟨w,y⟩:=t trivial;rw[M] at w l;refine⟨by rw[M],K,λc i=>?_⟩;let⟨v,I,x⟩:=h.ok.cf;apply Yq u md' R' L' z 1 1 c ((O.at K b).aE i) (h.aE i) H ⟨v,Pd I,by rw[x,l];rfl⟩ w;let⟨p,e,a0,q,b⟩:=y;exact⟨p,e,a0,q,b.aE i⟩
 exact absurd trivial hF
end Go.Proofs.YtajnhfklchlahaaGreatDoor
