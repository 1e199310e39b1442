import Derived.Shelf.Strings.Builder1
import Derived.Shelf.Strings.Builder2
import Derived.Shelf.Strings.OnBuilder
import Derived.Shelf.Small.Bits
import Derived.Shelf.Small.Wraps
import Derived.Shelf.Strings.BuilderF
import Derived.Shelf.Strings.BuilderK
import Derived.Shelf.Strings.Builder2Cap
import Derived.Shelf.Strconv.Itoa0
import Derived.Shelf.Sort.Plain
import Derived.Shelf.Strings.Prefix
import Derived.Shelf.Slices.Turned
import Derived.Shelf.Slices.Equal
import Derived.Ground.Names2Prog
import Derived.Shelf.Slices.SearchI
import Derived.Shelf.Slices.In.SortNone
import Derived.Shelf.Slices.Empties2
import Derived.Test.YtajnhfklchlahaaGreatDoorProg
import Derived.Shelf.SlIter.Nil
import Derived.Shelf.SortM.Plain
import Derived.Shelf.SortM.SortNone
import Derived.Ground.GgzProg
import Derived.Ground.SlgmProg
namespace Go.Proofs
open Go.RowKit Go.Maps Go.Sort Go.Shelf Tryz
def Tryz.lays156_ren:Go.Shelf.Ren:=⟨λ|156=>177|165=>223|166=>224|169=>225|240=>276|241=>277|276=>326|277=>327|n=>n,λ|31=>33|9=>9|3=>3|4=>4|0=>0|20=>20|72=>400|76=>401|70=>398|37=>288|75=>110|127=>456|164=>213|5=>5|80=>249|n=>n,λ|n=>n⟩
theorem Tryz.lays156:Go.Proofs.Lays.n156 Tryz.prog Tryz.lays156_ren:=by constructor<;>first|kernel_rfl|(intro;kernel_rfl)
theorem Tryz.Builder_Extra_156:Builder.Extra Tryz.prog Tryz.lays156_ren:={
 sizeBuilder:=by kernel_rfl
 liesBuilder:=by kernel_rfl,t5:=underlying5,a5:=isAgg5,z5:=sizeOf5,v5:=zeroValue5
 infoByte:=by kernel_rfl
 cellsByte:=by kernel_rfl
 sizeByte:=by kernel_rfl
 neB5:=by decide}
theorem Tryz.strings_Join_none (a:Option Addr)(c:Nat)(sep:ByteArray)(w:World):
 Calls Tryz.prog 177 #[.slice a 0 c,.string sep] w λe w'=>e=.returned (.string ⟨#[]⟩)/\w'=w:=Any.strings_Join_none Tryz.lays156 Tryz.Builder_Extra_156 a c sep w
theorem Tryz.strings_Join (bk o c:Nat)(xs:List ByteArray)(sep:ByteArray)(w:World)(hcells:∀(j:Nat) x,xs[j]?=some x->w.cell? ⟨bk,o+j,none⟩=some (.string x))(hbk:bk<w.heap.size)(hN:xs.length<=140737488355328)(hcap:xs.length<=c)(hlen:(Lib.join (xs.map (·.data.toList)) sep.data.toList).length<=140737488355328):
 Calls Tryz.prog 177 #[.slice (some ⟨bk,o,none⟩) xs.length c,.string sep] w λe w'=>e=.returned (.string ⟨(Lib.join (xs.map (·.data.toList)) sep.data.toList).toArray⟩)/\Below w.heap.size w w':=Any.strings_Join Tryz.lays156 Tryz.Builder_Extra_156 bk o c xs sep w hcells hbk hN hcap hlen
def Tryz.lays103_ren:Go.Shelf.Ren:=⟨λ|103=>285|210=>328|206=>275|n=>n,λ|9=>9|4=>4|24=>170|3=>3|n=>n,λ|n=>n⟩
theorem Tryz.lays103:Go.Proofs.Lays.n103 Tryz.prog Tryz.lays103_ren:=by constructor<;>first|kernel_rfl|(intro;kernel_rfl)
theorem Tryz.strings_CutPrefix (s p:ByteArray)(w:World):
 Calls Tryz.prog 285 #[.string s,.string p] w λe w'=>e=.returned (.tuple #[.string ⟨(Lib.trimPrefix s.data.toList p.data.toList).toArray⟩,.bool (Lib.hasPrefix s.data.toList p.data.toList)])/\w'=w:=Any.strings_CutPrefix Tryz.lays103 s p w
def Tryz.lays189_ren:Go.Shelf.Ren:=⟨λ|189=>196|125=>238|257=>237|128=>295|129=>296|294=>286|295=>287|296=>288|297=>289|298=>290|299=>291|216=>292|300=>293|301=>294|328=>329|329=>330|330=>331|331=>332|332=>333|215=>334|343=>349|n=>n,λ|28=>40|3=>3|46=>335|0=>0|51=>383|53=>212|4=>4|183=>468|182=>467|131=>228|5=>5|9=>9|218=>512|222=>245|228=>526|229=>527|n=>n,λ|n=>n⟩
theorem Tryz.lays189:Go.Proofs.Lays.n189 Tryz.prog Tryz.lays189_ren:=by constructor<;>first|kernel_rfl|(intro;kernel_rfl)
theorem Tryz.slices_Sort_int (blk off cap:Nat)(zs:List Int)(w:World)(hH:Holds (Value.int .i64) w blk off zs.toArray)(hblk:blk<w.heap.size)(hsz:zs.length<4611686018427387904):
 Calls Tryz.prog 196 #[.slice (some ⟨blk,off,none⟩) zs.length cap] w λe w'=>
  e=.returned (.tuple #[])/\∃n os,w'=grow (putRow (Value.int .i64) (Sort.ahead w n) blk off (zs.mergeSort λx y=>decide (x<=y)).toArray) os:=Any.slices_Sort_int Tryz.lays189 blk off cap zs w hH hblk hsz
def Tryz.lays99_ren:Go.Shelf.Ren:=⟨λ|99=>222|206=>275|n=>n,λ|9=>9|4=>4|3=>3|n=>n,λ|n=>n⟩
theorem Tryz.lays99:Go.Proofs.Lays.n99 Tryz.prog Tryz.lays99_ren:=by constructor<;>first|kernel_rfl|(intro;kernel_rfl)
theorem Tryz.strings_HasPrefix (s p:ByteArray)(w:World):
 Calls Tryz.prog 222 #[.string s,.string p] w λe w'=>e=.returned (.bool (Lib.hasPrefix s.data.toList p.data.toList))/\w'=w:=Any.strings_HasPrefix Tryz.lays99 s p w
def Tryz.keys170_ren:Go.Shelf.Ren:=⟨λ|7=>170|10=>217|n=>n,λ|23=>293|26=>9|3=>73|28=>296|0=>0|27=>295|33=>259|4=>4|n=>n,λ|n=>n⟩
theorem Tryz.keys170:Go.Proofs.SlLaysZ.n7 Tryz.prog Tryz.keys170_ren:=by
 constructor<;>first|kernel_rfl|(intro;kernel_rfl)|skip
 case f7=>exact⟨Tryz.f170.name,by decide,by kernel_rfl⟩
 case f10=>exact⟨Tryz.f217.name,by decide,by kernel_rfl⟩
def Tryz.sorted169_ren:Go.Shelf.Ren:=⟨λ|6=>169|8=>215|9=>216|11=>269|13=>238|12=>270|23=>295|24=>296|14=>311|15=>312|16=>313|17=>314|18=>315|19=>316|20=>317|21=>318|22=>319|25=>344|26=>330|27=>331|28=>345|29=>346|30=>347|31=>354|n=>n,λ|26=>9|28=>296|24=>33|0=>0|3=>3|37=>335|48=>383|50=>212|4=>4|40=>468|39=>467|45=>228|5=>5|9=>9|51=>512|55=>245|57=>526|58=>527|33=>259|n=>n,λ|n=>n⟩
theorem Tryz.sorted169:Go.Proofs.SlLaysZ.n6 Tryz.prog Tryz.sorted169_ren:=by
 constructor<;>first|kernel_rfl|(intro;kernel_rfl)|skip
 case f6=>exact⟨Tryz.f169.name,by decide,by kernel_rfl⟩
 case f8=>exact⟨Tryz.f215.name,by decide,by kernel_rfl⟩
 case f11=>exact⟨Tryz.f269.name,by decide,by kernel_rfl⟩
def Tryz.sort216_ren:Go.Shelf.Ren:=⟨λ|6=>216|8=>238|9=>270|19=>295|20=>296|21=>311|22=>312|23=>313|24=>314|25=>315|26=>316|27=>317|28=>318|29=>319|36=>344|31=>330|32=>331|37=>345|38=>346|39=>347|41=>354|n=>n,λ|27=>33|29=>9|3=>3|32=>335|26=>33|0=>0|44=>383|46=>212|4=>4|36=>468|35=>467|41=>228|5=>5|9=>9|53=>512|57=>245|63=>526|64=>527|n=>n,λ|n=>n⟩
theorem Tryz.sort216:Go.Proofs.SlLaysM.n6 Tryz.prog Tryz.sort216_ren:=by
 constructor<;>first|kernel_rfl|(intro;kernel_rfl)|skip
 case f6=>exact⟨Tryz.f216.name,by decide,by kernel_rfl⟩
 case f9=>exact⟨Tryz.f270.name,by decide,by kernel_rfl⟩
 case f21=>exact⟨Tryz.f311.name,by decide,by kernel_rfl⟩
 case f22=>exact⟨Tryz.f312.name,by decide,by kernel_rfl⟩
 case f23=>exact⟨Tryz.f313.name,by decide,by kernel_rfl⟩
 case f24=>exact⟨Tryz.f314.name,by decide,by kernel_rfl⟩
 case f25=>exact⟨Tryz.f315.name,by decide,by kernel_rfl⟩
 case f26=>exact⟨Tryz.f316.name,by decide,by kernel_rfl⟩
 case f27=>exact⟨Tryz.f317.name,by decide,by kernel_rfl⟩
 case f28=>exact⟨Tryz.f318.name,by decide,by kernel_rfl⟩
 case f29=>exact⟨Tryz.f319.name,by decide,by kernel_rfl⟩
 case f36=>exact⟨Tryz.f344.name,by decide,by kernel_rfl⟩
 case f37=>exact⟨Tryz.f345.name,by decide,by kernel_rfl⟩
 case f38=>exact⟨Tryz.f346.name,by decide,by kernel_rfl⟩
 case f39=>exact⟨Tryz.f347.name,by decide,by kernel_rfl⟩
 case f41=>exact⟨Tryz.f354.name,by decide,by kernel_rfl⟩
theorem Tryz.sorts169 (m:Nat):AnyZ.SortsIn Tryz.prog Tryz.sorted169_ren Fence.wide m:=
 ⟨λblk off cap ss W hH hblk hsz=>callsIn_wide.2 (AnyM.slices_Sort_string Tryz.sort216 blk off cap ss W hH hblk hsz),
  λp cap W=>callsIn_wide.2 (AnyM.slices_Sort_string_none Tryz.sort216 p cap W)⟩
theorem Tryz.maps_Keys_170 (mb:Option Nat)(W:World):CallsIn Fence.wide 5 Tryz.prog 170 #[.map mb] W λe w'=>e=.returned (.func (.func 217) #[] #[.pointer (some ⟨W.heap.size,0,none⟩)])/\w'=W.alloc (.cells #[.map mb] 293):=
 AnyZ.keys_in Tryz.keys170 Fence.wide 5 trivial rfl mb W
set_option maxHeartbeats 1000000 in
theorem Tryz.slices_Sorted_keys_169_170 {H:Type}(b nn:Nat)(D0:DataW H)(R:Value->Option (DataW H×List MemPlace))(w:World)(hown:w.ownsMap Tryz.prog 9 R b nn D0)(hmax:Maps.size D0<=maxLen)(hbytes:Maps.size D0*16<=140737488355328):
 CallsIn Fence.wide 5 Tryz.prog 169 #[.func (.func 217) #[] #[.pointer (some ⟨w.heap.size,0,none⟩)]] (w.alloc (.cells #[.map (some b)] 293)) λe w'=>∃(v:Value) (ss:List (List UInt8)),e=.returned v/\ss.Perm (strKeys D0)/\
  w'.ownsRow (w.alloc (.cells #[.map (some b)] 293)).heap.size 9 1 v ss.length ((ss.mergeSort (λx y=>decide (x<=y))).map encStr)/\(v=.slice none 0 0↔ss=[])/\Below (w.alloc (.cells #[.map (some b)] 293)).heap.size (w.alloc (.cells #[.map (some b)] 293)) w':=by
 have hbl:=hown.lt
 have hseq:SeqGives Fence.wide 2 Tryz.prog 217 #[.pointer (some ⟨w.heap.size,0,none⟩)] encStr (λss=>ss.Perm (strKeys D0)) (Maps.size D0) (w.alloc (.cells #[.map (some b)] 293)):=
  AnyZ.keys_gives (ρ:=Tryz.keys170_ren) {Tryz.keys170 with} Fence.wide _ trivial rfl (by omega) w.heap.size b nn D0 _ (by simp) (by simp) (by
   obtain⟨es,clock,hb,Ft,hs,hD⟩:=hown
   exact⟨es,clock,(Below.heap_alloc _ _ b hbl).trans hb,Ft,hs,hD⟩)
 exact AnyZ.sorted_in Tryz.sorted169 Fence.wide 5 trivial trivial trivial trivial rfl (by omega) (Tryz.sorts169 _) (enters_of Tryz.func216 (by kernel_rfl) rfl) 217 #[.pointer (some ⟨w.heap.size,0,none⟩)] trivial (enters_of Tryz.func217 (by kernel_rfl) rfl) _ _ hmax hbytes _ hseq
end Go.Proofs
