import Derived.Test.YtajnhfklchlahaaGreatDoorProg
import Derived.Lib.Hide
import Derived.WalkKit
import Derived.Deep.Draws
import Derived.Deep.RegionHeld
import Derived.RangeFuncBox
import Derived.RangeFuncCalls
set_option linter.all false
namespace Go.Proofs.YtajnhfklchlahaaGreatDoor
open Go.RowKit Tryz
theorem om {p:Prop}(h:p:=by omega):p:=h
theorem sm {p:Prop}(h:p:=by simp):p:=h
theorem Qz {p:Prop}(h:p:=by kernel_rfl):p:=h
theorem dc {p:Prop}(h:p:=by decide):p:=h
theorem QA {p:Prop}(h:p:=by simp[Value.oneCell']):p:=h
theorem QB {p:Prop}(h:p:=by simp;omega):p:=h
theorem rf {p:Prop}(h:p:=by rfl):p:=h
theorem mo {p:Prop}(h:p:=by unfold maxLen;omega):p:=h
theorem uo {p:Prop}(h:p:=by simp only;omega):p:=h
theorem gN {p:Prop}(h:p:=by go_num):p:=h
theorem eZ {p:Prop}(h:p:=by rw[ByteArray.size_extract];omega):p:=h
theorem sQ {p:Prop}(h:p:=by simp<;>omega):p:=h
theorem pO {p:Prop}(h:p:=by split<;>omega):p:=h
theorem sG {p:Prop}(h:p:=by simp[go_sem]):p:=h
theorem nF {p:Prop}(h:p:=by intros;contradiction):p:=h
theorem aS {p:Prop}(h:p:=by assumption):p:=h
theorem C6 (w:Nat){P:Nat->Prop}(h:P 0/\P 1/\P 2/\P 3/\P 4/\P 5/\P 6/\P 7/\P 8/\P 9/\P 10/\P 11/\P 12/\P 13/\P 14/\P 15)(d:w<16:=by omega):P w:=by
 obtain⟨a,b,c,e,f,g,i,j,k,l,m,n,o,p,q,r⟩:=h
 rcases(by omega:w=0\/w=1\/w=2\/w=3\/w=4\/w=5\/w=6\/w=7\/w=8\/w=9\/w=10\/w=11\/w=12\/w=13\/w=14\/w=15) with rfl|rfl|rfl|rfl|rfl|rfl|rfl|rfl|rfl|rfl|rfl|rfl|rfl|rfl|rfl|rfl<;>assumption
theorem tV:True:=⟨⟩
theorem oA {p q:Prop}(a:p)(h:p->q:=by intro;omega):q:=h a
theorem oS {p q:Prop}(a:p)(h:p->q:=by intro;simp;omega):q:=h a
theorem oU {p q:Prop}(a:p)(h:p->q:=by intro h;simp only at h;omega):q:=h a
theorem oP {p q:Prop}(a:p)(h:p->q:=by intro h;simp at h;omega):q:=h a
theorem oB {p q r:Prop}(a:p)(b:q)(h:p->q->r:=by intros;omega):r:=h a b
theorem sU {p q:Prop}(a:p)(h:p->q:=by intro h;simpa using h):q:=h a
instance:Coe World Nat:=⟨fun w=>w.heap.size⟩
instance:Coe Nat Addr:=⟨fun g=>⟨g,0,none⟩⟩
instance:Coe Nat (Option Addr):=⟨fun g=>some ⟨g,0,none⟩⟩
abbrev eS:Value:=.string ⟨#[]⟩
theorem cJ {w:World}{g:Nat}{cs:Array Value}{t:TypeId}{fr:Nat×Nat}{v:Value}(j:Nat)(b:w.heap[g]?=some (.cells cs t fr))(a:cs[j]?=some v:=by rfl):w.cell? ⟨g,j,none⟩=some v:=by rw[cell_of_row _ _ _ _ _ _ b];exact a
instance:Coe ByteArray Value:=⟨.string⟩
instance:Coe Bool Value:=⟨.bool⟩
instance:Coe Int Value:=⟨.int .i64⟩
instance:Coe Nat Value:=⟨fun n=>.int .i64 n⟩
instance:Coe (Array Value) Value:=⟨.agg⟩
inductive Tg(n:Nat)|t
def ϑ:Tg 0:=.t
def aw:=@lt_of_block
def ax:=@ByteArray.size_extract
def aA:=@ByteArray.size_append
instance:CoeFun (Tg 0) (fun _=>Int→Value):=⟨fun _=>.int .i64⟩
instance:CoeFun World (fun _=>Addr→Option Value):=⟨World.cell?⟩
instance:Coe Value Ending:=⟨.returned⟩
theorem QC(p:Prop)(h:p):Hid p:=Go.Lib.hid h
instance (a b:Nat):CoeDep (Nat×Nat) (a,b) Addr:=⟨⟨a,b,none⟩⟩
instance (w:World)(b:Nat):CoeDep (World×Nat) (w,b) Addr:=⟨⟨w.heap.size,b,none⟩⟩
instance (a b:Nat):CoeDep (Nat×Nat) (a,b) (Option Addr):=⟨some ⟨a,b,none⟩⟩
instance (w:World)(b:Nat):CoeDep (World×Nat) (w,b) (Option Addr):=⟨some ⟨w.heap.size,b,none⟩⟩
instance (priority:=low) {α}:CoeOut (List α) Nat:=⟨List.length⟩
instance (priority:=low) {α}:CoeOut (Array α) Nat:=⟨Array.size⟩
instance (priority:=low):CoeOut ByteArray Nat:=⟨ByteArray.size⟩
theorem QD{n:Nat}:n<=n:=Nat.le_refl _
def QG:=fun {B w}=>Below.refl B w
def QH:=fun {a b c d e f} h=>Go.cell_of_row a b c d e f h
def QJ:=fun {a b c d} h=>Below.heap_setCell a b c d h
def QK:=fun {n}=>Nat.zero_le n
def QN:=fun {a b c d}=>Go.World.ownsRow_nil a b c d
def QP:=fun {a b c} h=>Below.heap_alloc a b c h
def QQ:=fun {a} h=>Go.IntWalk.i64_in a h
def QR:=fun {a b} h i=>Go.World.cell?_alloc_lt a b h i
theorem QS{P:Program}{fn:Func}{R:Ending→World→Prop}{a:Act}{w:World}(h:R (.returned (.tuple #[])) w)(b:fn.results=#[]:=by rfl)(c:a.defers=[]:=by rfl):bodyPost P fn R Exit.ret a w:=bodyPost_ret (results_none b _ _ _) c h
def Ga:=@Lib.hid
def Gb:=@Nat.le_refl
def Gc:=@World.alloc_heap_new
def Gd:=@Option.some.injEq
def Ge:=@Below.refl
def Gf:=@List.getElem?_eq_getElem
def Gg:=@List.getElem?_eq_some_iff
def Gi:=@List.setIfInBounds_toArray
def Gk:=@List.length_append
def Gl:=@List.mem_of_getElem?
def Gm:=@Option.some.inj
def Gn:=@List.set_cons_succ
def Gp:=@Nat.zero_le
def Gq:=@Below.heap_setCell
def Gu:=@World.putObj_heap_other
def Gw:=@List.set_cons_zero
def Gx:=@List.length_cons
def Gy:=@Value.slice.injEq
def GA:=@List.mem_singleton
def GB:=@Nat.le_trans
def GC:=@Below.heap_alloc
def GD:=@IntWalk.i64_in
def GF:=@List.mem_cons
def GG:=@World.size_alloc
def GH:=@List.eq_nil_of_length_eq_zero
def GI:=@List.mem_iff_getElem?
def GK:=@List.mem_cons_of_mem
def GL:=@List.mem_map
def GM:=@World.ownsRow_nil
def GN:=@List.cons.injEq
def GO:=@List.mem_append
def GP:=@Nat.lt_of_lt_of_le
def GQ:=@World.cell?_of_block
def GR:=@List.length_take
def GS:=@Addr.mk.injEq
def GU:=@Nat.zero_add
def GV:=@List.flatMap_cons
def GW:=@List.take_succ_cons
def GX:=@List.mem_filter
def GY:=@underlying182
def GZ:=@List.size_toArray
def Hf:=@Prod.mk.injEq
def Hh:=@underlying179
def Hi:=@AllReadyH.cons
def Hj:=@List.flatMap_append
def Hk:=@List.mem_cons_self
def Hm:=@List.getElem?_cons_succ
def Ho:=@List.nil_append
def Hp:=@List.length_map
def Hq:=@Obj.cells.injEq
def Hr:=@List.take_of_length_le
def Ht:=@World.putObj_heap_same
def Hu:=@underlying3
def Hv:=@List.not_mem_nil
def Hw:=@List.take_zero
def Hx:=@World.frozen?_alloc_old
def Hy:=@List.length_nil
def Hz:=@List.cons_append
def Ia:=@AllReadyH.nil
def Ib:=@Nat.le_succ
def Ii:=@Ending.returned.injEq
def Ij:=@List.map_cons
def Il:=@Array.replicate_zero
def Im:=@Array.replicate_succ
def Io:=@List.map_append
def Ip:=@List.getElem?_map
def Iq:=@List.append_toArray
def Ir:=@List.getElem?_append_left
def Iu:=@Nat.le_of_eq
def Iy:=@List.take_length
def IB:=@Array.getElem?_eq_getElem
def IC:=@List.set_append_right
def ID:=@World.cell?_setCell_other
def IE:=@Sem.run_bind
def IF:=@List.push_toArray
def IH:=@World.putObj_size
def IL:=@List.getD_eq_getElem?_getD
def IM:=@Nat.ne_of_lt
def IP:=@List.getElem?_cons_zero
def IQ:=@Array.getElem?_toList
def IS:=@List.append_nil
def IT:=@Value.string.injEq
def IU:=@Array.mk.injEq
def IW:=@underlying110
def IX:=@World.new_ne
def IZ:=@List.take_append_drop
def Ja:=@List.take_append_of_le_length
def Jc:=@Bool.and_eq_true
def Jd:=@Option.map_eq_some_iff
def Jf:=@World.frozen?_of_block
def Jg:=@Addr.add_lit
def Jh:=@underlying9
def Jj:=@List.getElem?_append_right
def Jm:=@underlying288
def Jn:=@underlying281
def Jo:=@Oper.semAt_some
def Jp:=@DataW.trod_int
def Jq:=@List.mem_append_left
def Js:=@List.map_map
def Jt:=@List.getElem?_take
def Ju:=@WideShapes.bytes_inj
def Jv:=@underlying33
def Jw:=@List.mem_flatMap
def Jy:=@List.pairwise_map
def JA:=@Array.all_eq_true_iff_forall_mem
def JC:=@Nat.add_zero
def JD:=@List.length_drop
def JE:=@List.mem_or_eq_of_mem_set
def JG:=@Array.length_toList
abbrev JH:=@ntmps228
def JI:=@List.getElem?_take_of_lt
def JJ:=@WideAt.sameKey_eq
def JK:=@CallsIn.inRound
def JL:=@List.flatMap_nil
def JO:=@List.take_succ_eq_append_getElem
def JP:=@List.drop_eq_nil_of_le
abbrev JQ:=@func228
def JR:=@Option.map_some
def JS:=@List.nodup_cons
def JT:=@WideAt.sameKey_self
def JU:=@List.pairwise_iff_getElem
def JV:=@List.getElem?_drop
def JW:=@Option.isSome_iff_exists
def JX:=@underlying81
def JY:=@Nat.mul_le_mul_right
def JZ:=@List.mem_of_mem_take
def Kb:=@Sem.run_pure
def Kd:=@Array.getD_eq_getD_getElem?
def Ke:=@List.filter_cons
def Ki:=@UInt8.le_iff_toNat_le
def Kk:=@List.drop_eq_getElem_cons
def Kl:=@Array.getElem_modify_self
def Km:=@List.append_assoc
abbrev Kn:=@ntmps56
def Kp:=@BitVec.ofInt_natCast
abbrev Kr:=@ntmps268
def Kt:=@Value.agg.injEq
def Ku:=@Value.tuple.injEq
def Kv:=@Result.andThen_ok
def Kw:=@underlying379
def Kx:=@underlying158
def Ky:=@List.mem_map_of_mem
def Kz:=@List.map_congr_left
def KA:=@List.length_reverse
def KC:=@List.length_pos_iff
def KE:=@Value.pointer.injEq
def KG:=@Nat.lt_or_ge
def KH:=@List.getElem?_set_self
def KI:=@underlying32
def KJ:=@underlying27
abbrev KK:=@func56
abbrev KL:=@func268
def KM:=@List.length_set
abbrev KO:=@ntmps201
def KQ:=@UInt8.lt_iff_toNat_lt
def KR:=@List.length_singleton
def KS:=@List.length_filter_le
def KT:=@List.getElem?_toArray
def KU:=@List.getElem?_eq_none
def KV:=@List.cons_lt_cons_iff
def KX:=@List.take_add_one
def KY:=@List.foldl_append
def La:=@List.getElem?_set_ne
def Lb:=@List.getElem?_modify
def Lf:=@Nat.zero_mul
def Lg:=@List.perm_middle
def Lh:=@Below.mono
def Li:=@underlying293
def Lj:=@underlying150
def Lk:=@underlying107
abbrev Ll:=@func201
def Lm:=@List.mem_of_find?_eq_some
def Ln:=@List.getLast?_eq_some_iff
def Lo:=@List.getLast?_eq_getElem?
def Lq:=@List.replicate_succ
abbrev Lt:=@ntmps305
def Lu:=@UInt8.toNat_inj
def Lv:=@underlying95
def Lw:=@List.map_singleton
def Lx:=@Bool.false_eq_true
def Ly:=@Int.eq_ofNat_of_zero_le
def LA:=@Boxed.cell
def LB:=@List.getLast?_map
def LC:=@List.ext_getElem?
abbrev LF:=@func305
def LG:=@Array.getElem?_eq_none
def LI:=@List.mem_append_right
def LJ:=@List.length_replicate
def LK:=@List.eq_nil_or_concat
def LL:=@List.concat_eq_append
def LM:=@DataW.trod_string
def LN:=@List.all_eq_true
abbrev LO:=@ntmps111
def LQ:=@List.set_append_left
def LR:=@List.pairwise_append
def LS:=@List.mem_of_mem_drop
def LU:=@List.getElem?_of_mem
def LV:=@List.drop_append_of_le_length
def LW:=@Int.le_refl
def LX:=@underlying498
def LY:=@underlying316
def LZ:=@underlying140
def Nb:=@Value.bool.injEq
def Nc:=@Boxed.new
def Nf:=@UInt8.toNat_mod
def Ng:=@UInt8.toNat_div
def Nh:=@Nat.min_eq_left
def Nj:=@IntWalk.u8_in
def Nk:=@List.toList_toArray
def Nl:=@World.cell?_alloc_at
abbrev Nm:=@func111
def Nn:=@DataW.lit.injEq
def No:=@Nat.mul_le_mul
def Np:=@Nat.lt_of_le_of_lt
def Nq:=@List.take_take
def Nr:=@List.pairwise_cons
def Ns:=@List.lt_irrefl
def Nu:=@List.length_modify
def Nv:=@Addr.add_mid
def Nw:=@underlying4
def Nx:=@Classical.byContradiction
def Ny:=@Nat.mul_one
def Nz:=@Nat.mod_mod
def NA:=@List.Sublist.refl
abbrev ND:=@ntmps272
abbrev NF:=@ntmps242
def NH:=@Nat.lt_irrefl
abbrev NI:=@func99
def NJ:=@World.cell?_setCell_same'
def NK:=@List.getLast?_cons_cons
def NL:=@List.getElem_mem
def NO:=@DataW.trod_struct
def NP:=@Lit.int.injEq
def NQ:=@List.map_set
def NR:=@List.getElem?_dropLast
abbrev NS:=@ntmps70
abbrev NT:=@func272
abbrev NU:=@func242
def NV:=@List.foldl_cons
def NX:=@List.length_mergeSort
def NY:=@List.eraseIdx_sublist
def NZ:=@underlying326
def Pa:=@Bool.not_eq_eq_eq_not
def Pd:=@List.mem_of_getLast?
def Pe:=@List.count_cons_self
def Pg:=@Array.toList_extract
def Ph:=@underlying93
def Pj:=@underlying39
def Pk:=@underlying23
abbrev Pm:=@func70
abbrev Pn:=@func31
def Po:=@Maps.atKey_of_not_has
def Pp:=@List.getElem?_range
def Pq:=@List.filter_eq_self
abbrev Pr:=@ntmps413
def Ps:=@List.map_take
def Pu:=@List.map_drop
def Px:=@BigFrame.wpList_want
def Py:=@Nat.eq_zero_or_pos
def Pz:=@underlying5
def PB:=@BitVec.toNat_ofNat
def PF:=@UInt8.toNat_ofNat
def PG:=@Nat.sub_self
def PH:=@Nat.lt_trichotomy
def PI:=@List.map_nil
def PK:=@List.length_filter_eq_length_iff
abbrev PL:=@ntmps54
abbrev PM:=@func413
abbrev PN:=@func123
def PO:=@Bool.eq_false_iff
def PQ:=@List.eraseIdx_eq_take_drop_succ
def PS:=@Option.getD_some
def PT:=@List.map_toArray
def PU:=@List.any_eq_true
def PV:=@Array.toList_inj
def PW:=@Nat.add_mul
def Qa:=@List.find?_some
def Qb:=@List.filter_map
def Qc:=@Int.natCast_mul
abbrev Qe:=@func54
def Qf:=@DataW.held.injEq
def Qg:=@List.exists_cons_of_ne_nil
def Qh:=@Bool.not_false
def Qi:=@Array.getElem?_eq_some_iff
def Qj:=@Array.getElem?_append_left
def Qk:=@List.getElem?_eq_none_iff
def Ql:=@List.extract_eq_take_drop
abbrev Qn:=@ntmps352
abbrev Qo:=@ntmps300
abbrev Qp:=@ntmps273
abbrev Qq:=@ntmps266
abbrev Qr:=@ntmps259
abbrev Qt:=@ntmps258
abbrev Qu:=@ntmps209
abbrev Qv:=@ntmps208
abbrev Qw:=@ntmps198
abbrev Qx:=@ntmps160
def Qy:=@DataW.map.injEq
end Go.Proofs.YtajnhfklchlahaaGreatDoor
namespace Go
open RowKit
theorem RowKit.Hid.o {p:Prop}(h:Hid p):p:=h
def Calls.m:=@Calls.mono
def CallsIn.m:=@CallsIn.mono
namespace RowKit.Below
def z:=@size
def t:=@trans
def m:=@mono
def a:=@alloc
def b:=@block
def d:=@drew
def s:=@setCell
variable {w w':World}
theorem sI {B:Nat}{a b:World}(c:Below B a b)(n:Nat):Below B a (b.drewN n):=⟨c.os,c.tape,c.output,c.size,c.block⟩
theorem ke {k:Nat}{o:Obj}(e:Below w.heap.size w w')(d:w.heap[k]?=some o):w'.heap[k]?=some o:=(e.block k (lt_of_block d)).trans d
theorem ce {p:Addr}{v:Value}(e:Below w.heap.size w w')(d:w.cell? p=some v):w'.cell? p=some v:=(e.cell (block_lt_of_cell d)).trans d
end RowKit.Below
end Go
def Eq.t:=@Eq.trans
def Eq.s:=@Eq.symm
