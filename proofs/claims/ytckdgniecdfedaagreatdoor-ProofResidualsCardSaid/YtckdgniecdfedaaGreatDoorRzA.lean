/- The contracts of the library functions that formulas call, at this program: each is one application of a contract of the kit. What the sum over numbers is, in plain terms: appended lists, and a change -/
import Derived.Shelf.SlSortCmp.NoneTotal
import Derived.Shelf.Small.Strs
import Derived.Shelf.Small.Wraps
import Derived.Test.YtckdgniecdfedaaGreatDoorProg
import Init
import Derived.Lib.Hide
import Derived.Lib.ItoaNum
import Derived.RangeFuncBox
import Derived.StillTailTactics
import Derived.Deep.RegionHeld3
import Derived.Laws.Cover1
import Derived.Deep.CutBlock
import Derived.Deep.OwnRows
import Derived.Deep.AppendLies
section
namespace Go.Proofs
open Go.Shelf
def Tryz.lays106_ren:Go.Shelf.Ren:=⟨fun|106=>354|213=>413|265=>447|n=>n,fun|9=>9|3=>3|n=>n,fun|n=>n⟩
theorem Tryz.lays106:Go.Proofs.Lays.n106 Tryz.prog Tryz.lays106_ren:= {
 mixed:=by kernel_rfl
 f106:=Tryz.func354.trans (congrArg some (by kernel_rfl))
 f213:=Tryz.func413.trans (congrArg some (by kernel_rfl))
 f265:=Tryz.func447.trans (congrArg some (by kernel_rfl))
 t3:=Tryz.underlying3
 a3:=Tryz.isAgg3
 z3:=Tryz.sizeOf3
 v3:=Tryz.zeroValue3
 t9:=Tryz.underlying9
 a9:=Tryz.isAgg9
 z9:=Tryz.sizeOf9
 v9:=Tryz.zeroValue9}
open Go.RowKit in
theorem Tryz.strings_Compare (a b:ByteArray) (w:World):
  Calls Tryz.prog 354 #[.string a,.string b] w fun e w'=>e=.returned (.int .i64 (Lib.compareBytes a.data.toList b.data.toList))∧w'=w:=Any.strings_Compare Tryz.lays106 a b w
def Tryz.lays122_ren:Go.Shelf.Ren:=⟨fun|122=>216|215=>281|n=>n,fun|3=>3|4=>4|n=>n,fun|n=>n⟩
theorem Tryz.lays122:Go.Proofs.Lays.n122 Tryz.prog Tryz.lays122_ren:= {
 mixed:=by kernel_rfl
 f122:=Tryz.func216.trans (congrArg some (by kernel_rfl))
 f215:=Tryz.func281.trans (congrArg some (by kernel_rfl))
 t3:=Tryz.underlying3
 a3:=Tryz.isAgg3
 z3:=Tryz.sizeOf3
 v3:=Tryz.zeroValue3
 t4:=Tryz.underlying4
 a4:=Tryz.isAgg4
 z4:=Tryz.sizeOf4
 v4:=Tryz.zeroValue4}
open Go.RowKit in
theorem Tryz.cmp_Compare_int (x y:Int) (w:World):
  Calls Tryz.prog 216 #[.int .i64 x,.int .i64 y] w fun e w'=>e=.returned (.int .i64 (Lib.compareInt x y))∧w'=w:=Any.cmp_Compare_int Tryz.lays122 x y w
def Tryz.sortF_ren:Go.Shelf.Ren:=⟨fun|6=>304|15=>280|14=>353|28=>334|29=>299|20=>405|21=>406|22=>407|23=>408|24=>409|25=>410|26=>411|27=>412|46=>444|47=>385|48=>386|49=>445|50=>446|57=>458|n=>n,fun|22=>46|24=>48|25=>145|3=>3|39=>324|0=>0|53=>378|55=>326|4=>4|46=>412|45=>411|50=>88|5=>5|9=>9|66=>465|70=>208|76=>495|77=>288|n=>n,fun|n=>n⟩
theorem Tryz.sortF:Go.Proofs.SlLaysF0.n6 Tryz.prog Tryz.sortF_ren:= {
 mixed:=by kernel_rfl
 f6:=⟨Tryz.f304.name,by decide,Tryz.func304.trans (congrArg some (by kernel_rfl))⟩
 f14:=⟨Tryz.f353.name,by decide,Tryz.func353.trans (congrArg some (by kernel_rfl))⟩
 f15:=Tryz.func280.trans (congrArg some (by kernel_rfl))
 f20:=⟨Tryz.f405.name,by decide,Tryz.func405.trans (congrArg some (by kernel_rfl))⟩
 f21:=⟨Tryz.f406.name,by decide,Tryz.func406.trans (congrArg some (by kernel_rfl))⟩
 f22:=⟨Tryz.f407.name,by decide,Tryz.func407.trans (congrArg some (by kernel_rfl))⟩
 f23:=⟨Tryz.f408.name,by decide,Tryz.func408.trans (congrArg some (by kernel_rfl))⟩
 f24:=⟨Tryz.f409.name,by decide,Tryz.func409.trans (congrArg some (by kernel_rfl))⟩
 f25:=⟨Tryz.f410.name,by decide,Tryz.func410.trans (congrArg some (by kernel_rfl))⟩
 f26:=⟨Tryz.f411.name,by decide,Tryz.func411.trans (congrArg some (by kernel_rfl))⟩
 f27:=⟨Tryz.f412.name,by decide,Tryz.func412.trans (congrArg some (by kernel_rfl))⟩
 f28:=Tryz.func334.trans (congrArg some (by kernel_rfl))
 f29:=Tryz.func299.trans (congrArg some (by kernel_rfl))
 f46:=⟨Tryz.f444.name,by decide,Tryz.func444.trans (congrArg some (by kernel_rfl))⟩
 f47:=Tryz.func385.trans (congrArg some (by kernel_rfl))
 f48:=Tryz.func386.trans (congrArg some (by kernel_rfl))
 f49:=⟨Tryz.f445.name,by decide,Tryz.func445.trans (congrArg some (by kernel_rfl))⟩
 f50:=⟨Tryz.f446.name,by decide,Tryz.func446.trans (congrArg some (by kernel_rfl))⟩
 f57:=⟨Tryz.f458.name,by decide,Tryz.func458.trans (congrArg some (by kernel_rfl))⟩
 t0:=Tryz.underlying0
 a0:=Tryz.isAgg0
 z0:=Tryz.sizeOf0
 v0:=Tryz.zeroValue0
 t3:=Tryz.underlying3
 a3:=Tryz.isAgg3
 z3:=Tryz.sizeOf3
 v3:=Tryz.zeroValue3
 t4:=Tryz.underlying4
 a4:=Tryz.isAgg4
 z4:=Tryz.sizeOf4
 v4:=Tryz.zeroValue4
 t5:=Tryz.underlying5
 a5:=Tryz.isAgg5
 z5:=Tryz.sizeOf5
 v5:=Tryz.zeroValue5
 t9:=Tryz.underlying9
 a9:=Tryz.isAgg9
 z9:=Tryz.sizeOf9
 v9:=Tryz.zeroValue9
 t22:=Tryz.underlying46
 a22:=Tryz.isAgg46
 z22:=Tryz.sizeOf46
 v22:=Tryz.zeroValue46
 t25:=Tryz.underlying145
 a25:=Tryz.isAgg145
 z25:=Tryz.sizeOf145
 v25:=Tryz.zeroValue145
 t39:=Tryz.underlying324
 a39:=Tryz.isAgg324
 z39:=Tryz.sizeOf324
 v39:=Tryz.zeroValue324
 t45:=Tryz.underlying411
 a45:=Tryz.isAgg411
 z45:=Tryz.sizeOf411
 v45:=Tryz.zeroValue411
 t46:=Tryz.underlying412
 a46:=Tryz.isAgg412
 z46:=Tryz.sizeOf412
 v46:=Tryz.zeroValue412
 t50:=Tryz.underlying88
 a50:=Tryz.isAgg88
 z50:=Tryz.sizeOf88
 v50:=Tryz.zeroValue88
 t53:=Tryz.underlying378
 a53:=Tryz.isAgg378
 z53:=Tryz.sizeOf378
 v53:=Tryz.zeroValue378
 t55:=Tryz.underlying326
 a55:=Tryz.isAgg326
 z55:=Tryz.sizeOf326
 v55:=Tryz.zeroValue326
 t66:=Tryz.underlying465
 a66:=Tryz.isAgg465
 z66:=Tryz.sizeOf465
 v66:=Tryz.zeroValue465
 t70:=Tryz.underlying208
 a70:=Tryz.isAgg208
 z70:=Tryz.sizeOf208
 v70:=Tryz.zeroValue208
 t76:=Tryz.underlying495
 a76:=Tryz.isAgg495
 z76:=Tryz.sizeOf495
 v76:=Tryz.zeroValue495
 t77:=Tryz.underlying288
 a77:=Tryz.isAgg288
 z77:=Tryz.sizeOf288
 v77:=Tryz.zeroValue288}
end Go.Proofs
end
namespace Go.Proofs.YtckdgniecdfedaaGreatDoor
section
open Go.RowKit
theorem Tryz.info3:(Tryz.prog.info? 3).map (fun i=>(i.zero,i.size,i.bytes))=some (some (.int .i64 0),1,8):=by kernel_rfl
end
section
open Go.RowKit
theorem below_drawn {B:Nat} {a w:World} (h:Below B a w) (n:Nat):Below B a (w.drewN n):=⟨h.os,h.tape,h.output,h.size,h.block⟩
def HeadAt (w:World):Prop:=Calls Tryz.prog 8 #[] w fun e w'=>e=.returned (.bool true)∧Below w.heap.size w w'
def Yes (w:World) (e:Ending) (w':World):Prop:=e=.returned (.bool true)∧Below w.heap.size w w'
end
section
open Go.RowKit
def Nums (w:World) (v:Value) (A:List Int):Prop:=∃a c,v=.slice a A.length c∧(A≠[]→∃b off,a=some ⟨b,off,none⟩∧b<w.heap.size∧∀j,j<A.length→w.cell? ⟨b,off+j,none⟩=some (.int .i64 (A.getD j 0)))
theorem Nums.keep {w w':World} {v:Value} {A:List Int} (h:Nums w v A) (hB:Below w.heap.size w w'):Nums w' v A:=by
 obtain⟨a,c,e,h⟩:=h
 refine⟨a,c,e,fun hA=>?_⟩
 obtain⟨b,off,e',hb,hc⟩:=h hA
 exact⟨b,off,e',Nat.lt_of_lt_of_le hb hB.size,fun j hj=>(hB.cell (p:=⟨b,off+j,none⟩) hb).trans (hc j hj)⟩
theorem Nums.drawn {w:World} {v:Value} {A:List Int} (h:Nums w v A) (n:Nat):Nums (w.drewN n) v A:=h
def sameB (A B:List Int):Bool:=decide (A=B)
theorem same_of {A B:List Int} (h:A=B):sameB A B=true:=by simp[sameB,h]
theorem same_not {A B:List Int} (h:A≠B):sameB A B=false:=by simp[sameB,h]
def Said (w:World) (v:Value) (e:Ending) (w':World):Prop:=e=.returned v∧∃n,w'=w.drewN n
end
section
open Go.RowKit
theorem bytes_get (s:ByteArray) (k:Nat) (_h:k<s.size) (h':k<s.data.toList.length):s.data.toList[k]=s[k]:=rfl
end
end Go.Proofs.YtckdgniecdfedaaGreatDoor
section
section
namespace Go.Proofs.YtckdgniecdfedaaGreatDoor
open Go.RowKit
def cut20 (L:List Int):List Int:=L.take 20001
theorem own_alloc {w:World} {base:Nat} {v:Value} {m:Nat} {xs:List Value} (h:w.ownsRow base 3 1 v m xs):v.ownBlock≠some w.heap.size:=fun e=>Nat.lt_irrefl _ (h.lt _ e).2
theorem cut20_app {L:List Int} {x:Int} (h:L.length≤20000):cut20 (L++[x])=cut20 L++[x]:=by
 unfold cut20
 rw[List.take_of_length_le (by simp;omega),List.take_of_length_le (by omega)]
theorem cut20_full {L:List Int} (x:Int) (h:20000<L.length):cut20 (L++[x])=cut20 L:=by
 unfold cut20
 rw[List.take_append_of_le_length (by omega)]
theorem cut20_le {L:List Int} (h:(cut20 L).length≤20000):L.length≤20000:=by
 unfold cut20 at h
 rw[List.length_take] at h
 omega
theorem cut20_gt {L:List Int} (h:¬(cut20 L).length≤20000):20000<L.length:=by
 unfold cut20 at h
 rw[List.length_take] at h
 omega
end Go.Proofs.YtckdgniecdfedaaGreatDoor
end
section
namespace Go.Proofs.YtckdgniecdfedaaGreatDoor
open Go.RowKit
def Arg (w0:World) (K:List (Nat×Obj)) (v:Value) (ns:List Int):Prop:=
 Nums w0 v ns∨∃b c,v=.slice (some ⟨b,0,none⟩) ns.length c∧(b,Obj.cells (ns.map (Value.int .i64)).toArray 3 (0,0))∈K
theorem Arg.len {w0:World} {K:List (Nat×Obj)} {v:Value} {ns:List Int} (ha:Arg w0 K v ns):∃a c,v=.slice a ns.length c:=by
 rcases ha with⟨a,c,e,_⟩|⟨b,c,e,_⟩
 ·exact⟨a,c,e⟩
 ·exact⟨_,c,e⟩
theorem Arg.made {w0:World} {K:List (Nat×Obj)} (b:Nat) (ns:List Int) (c:Nat):Arg w0 ((b,Obj.cells (ns.map (Value.int .i64)).toArray 3 (0,0))::K) (.slice (some ⟨b,0,none⟩) ns.length c) ns:=.inr ⟨b,c,rfl,List.mem_cons_self⟩
end Go.Proofs.YtckdgniecdfedaaGreatDoor
end
section
namespace Go.Proofs.YtckdgniecdfedaaGreatDoor
open Go.RowKit
section
variable {w0:World} {wb:Nat} {w:World} {L:List Int} {n:Nat} {P:Prop} {K:List (Nat×Obj)}
def lst (ns:List Int):List Int:=(ns.length:Int)::ns
def txt (s:List UInt8):List Int:=(s.length:Int)::s.map fun c=>(c.toNat:Int)
theorem txt_take {s:List UInt8} {k:Nat} (h:k<s.length):(s.take (k+1)).map (fun c=>(c.toNat:Int))=(s.take k).map (fun c=>(c.toNat:Int))++[(s[k].toNat:Int)]:=by
 rw[List.take_succ_eq_append_getElem h,List.map_append];rfl
theorem wrap64_byte (c:UInt8):wrap64 (c.toNat:Int)=(c.toNat:Int):=by
 have:=c.toNat_lt
 unfold wrap64
 omega
end
end Go.Proofs.YtckdgniecdfedaaGreatDoor
end
end
section
section
namespace Go.Proofs.YtckdgniecdfedaaGreatDoor
open Go.RowKit
structure Sg where
 name:ByteArray
 input:Bool
 size:Int
def Sg.code (s:Sg):List Int:=txt s.name.data.toList++[if s.input then 1 else 0,s.size]
def sgs:List Sg→List Int
 |[]=>[]
 |s::l=>s.code++sgs l
theorem sgs_append (l m:List Sg):sgs (l++m)=sgs l++sgs m:=by
 induction l with
 |nil=>rfl
 |cons s l ih=>simp[sgs,ih]
def SgV (w:World) (v:Value) (l:List Sg):Prop:=
 ∃a c,v=.slice a l.length c∧l.length≤9223372036854775807∧(l≠[]→∃b off,a=some ⟨b,off,none⟩∧b<w.heap.size∧∀j (h:j<l.length),
  w.cell? ⟨b,off+j*3,none⟩=some (.string l[j].name)∧w.cell? ⟨b,off+j*3+1,none⟩=some (.bool l[j].input)∧w.cell? ⟨b,off+j*3+2,none⟩=some (.int .i64 l[j].size)∧l[j].name.size≤9223372036854775807)
theorem SgV.keep {w w':World} {v:Value} {l:List Sg} (h:SgV w v l) (hB:Below w.heap.size w w'):SgV w' v l:=by
 obtain⟨a,c,e,hl,h⟩:=h
 refine⟨a,c,e,hl,fun hA=>?_⟩
 obtain⟨b,off,e',hb,hc⟩:=h hA
 refine⟨b,off,e',Nat.lt_of_lt_of_le hb hB.size,fun j hj=>?_⟩
 obtain⟨c0,c1,c2,c3⟩:=hc j hj
 exact⟨(hB.cell (p:=⟨b,off+j*3,none⟩) hb).trans c0,(hB.cell (p:=⟨b,off+j*3+1,none⟩) hb).trans c1,(hB.cell (p:=⟨b,off+j*3+2,none⟩) hb).trans c2,c3⟩
end Go.Proofs.YtckdgniecdfedaaGreatDoor
end
end
section
section
namespace Go.Proofs.YtckdgniecdfedaaGreatDoor
inductive Fs where
 |nil
 |cons (op:Int) (name:ByteArray) (val bound:Int) (args rest:Fs)
def Fs.len:Fs→Nat
 | .nil=>0
 | .cons _ _ _ _ _ r=>r.len+1
def Fs.nodes:Fs→Nat
 | .nil=>0
 | .cons _ _ _ _ a r=>a.nodes+r.nodes+1
def Fs.code:Fs→List Int
 | .nil=>[]
 | .cons op nm v b a r=>[op]++txt nm.data.toList++[v,b,(a.len:Int)]++(a.code++r.code)
end Go.Proofs.YtckdgniecdfedaaGreatDoor
end
section
namespace Go.Proofs.YtckdgniecdfedaaGreatDoor
open Go.RowKit
def FAt (w:World):Fs→Nat→Nat→Prop
 | .nil,_,_=>True
 | .cons op nm v bd args rest,b,off=>
  w.cell? ⟨b,off,none⟩=some (.int .i64 op)∧w.cell? ⟨b,off+1,none⟩=some (.string nm)∧nm.size≤9223372036854775807∧w.cell? ⟨b,off+2,none⟩=some (.int .i64 v)∧w.cell? ⟨b,off+3,none⟩=some (.int .i64 bd)∧
  args.len≤9223372036854775807∧(∃a c,w.cell? ⟨b,off+4,none⟩=some (.slice a args.len c)∧args.len≤c∧(args.len≠0→∃b' o',a=some ⟨b',o',none⟩∧b'<w.heap.size∧FAt w args b' o'))∧FAt w rest b (off+5)
def FV (w:World) (v:Value) (f:Fs):Prop:=f.len≤9223372036854775807∧∃a c,v=.slice a f.len c∧f.len≤c∧(f.len≠0→∃b o,a=some ⟨b,o,none⟩∧b<w.heap.size∧FAt w f b o)
theorem FAt.keep {w w':World} (hB:Below w.heap.size w w'):∀ {f:Fs} {b off:Nat},b<w.heap.size→FAt w f b off→FAt w' f b off
 | .nil,_,_,_,_=>trivial
 | .cons op nm v bd args rest,b,off,hb,⟨c0,c1,c2,c3,c4,c5,⟨a,c,c6,cc,c7⟩,c8⟩=>
  ⟨(hB.cell (p:=⟨b,off,none⟩) hb).trans c0,(hB.cell (p:=⟨b,off+1,none⟩) hb).trans c1,c2,(hB.cell (p:=⟨b,off+2,none⟩) hb).trans c3,(hB.cell (p:=⟨b,off+3,none⟩) hb).trans c4,c5,
   ⟨a,c,(hB.cell (p:=⟨b,off+4,none⟩) hb).trans c6,cc,fun h=>by
    obtain⟨b',o',e,hb',h'⟩:=c7 h
    exact⟨b',o',e,Nat.lt_of_lt_of_le hb' hB.size,FAt.keep hB hb' h'⟩⟩,FAt.keep hB hb c8⟩
theorem FV.keep {w w':World} {v:Value} {f:Fs} (h:FV w v f) (hB:Below w.heap.size w w'):FV w' v f:=by
 obtain⟨hl,a,c,e,hc,h⟩:=h
 refine⟨hl,a,c,e,hc,fun h0=>?_⟩
 obtain⟨b,o,e',hb,h'⟩:=h h0
 exact⟨b,o,e',Nat.lt_of_lt_of_le hb hB.size,FAt.keep hB hb h'⟩
theorem FAt.drawn {w:World} (n:Nat):∀ {f:Fs} {b off:Nat},FAt w f b off→FAt (w.drewN n) f b off
 | .nil,_,_,_=>trivial
 | .cons _ _ _ _ _ _,_,_,⟨c0,c1,c2,c3,c4,c5,⟨a,c,c6,cc,c7⟩,c8⟩=>
  ⟨c0,c1,c2,c3,c4,c5,⟨a,c,c6,cc,fun h=>by
   obtain⟨b',o',e,hb',h'⟩:=c7 h
   exact⟨b',o',e,hb',FAt.drawn n h'⟩⟩,FAt.drawn n c8⟩
def Fs.drop:Fs→Nat→Fs
 |f,0=>f
 | .nil,_=>.nil
 | .cons _ _ _ _ _ r,j+1=>r.drop j
theorem Fs.drop_len:∀(f:Fs) (j:Nat),(f.drop j).len=f.len - j
 | .nil,0=>rfl
 | .nil,j+1=>by simp[Fs.drop,Fs.len]
 | .cons ..,0=>rfl
 | .cons _ _ _ _ _ r,j+1=>by
  have:=Fs.drop_len r j
  simp only[Fs.drop,Fs.len,this]
  omega
theorem FAt.drop {w:World}:∀ {f:Fs} {b off:Nat} (j:Nat),FAt w f b off→FAt w (f.drop j) b (off+j*5)
 | .nil,_,_,0,_=>trivial
 | .nil,_,_,j+1,_=>trivial
 | .cons _ _ _ _ _ _,_,_,0,h=>h
 | .cons _ _ _ _ _ r,b,off,j+1,h=>by
  have:=FAt.drop j h.2.2.2.2.2.2.2
  have e:off+5+j*5=off+(j+1)*5:=by omega
  rw[e] at this
  exact this
end Go.Proofs.YtckdgniecdfedaaGreatDoor
end
end
section
section
namespace Go.Proofs.YtckdgniecdfedaaGreatDoor
open Go.RowKit
theorem cell_new (w:World) (cs:Array Value) (t:TypeId) (j:Nat):(w.alloc (.cells cs t)).cell? ⟨w.heap.size,j,none⟩=cs[j]? :=by
 simp only[World.cell?]
 rw[heap_alloc_new]
 rfl
end Go.Proofs.YtckdgniecdfedaaGreatDoor
end
end
section
section
namespace Go.Proofs.YtckdgniecdfedaaGreatDoor
open Go.RowKit
set_option maxHeartbeats 1000000 in
theorem ints18 {v u:Value} {A B:List Int} (w:World) (hA:Nums w v A) (hB:Nums w u B) (la:A.length≤9223372036854775807) (lb:B.length≤9223372036854775807):
  Calls Tryz.prog 18 #[v,u] w (Said w (.bool (sameB A B))):=by
 obtain⟨a,c,rfl,hA⟩:=hA
 obtain⟨b,d,rfl,hB⟩:=hB
 by_cases hn:A.length=B.length
 ·have hd:((A.length:Int)==(B.length:Int))=true:=by simp[hn]
  have HN:=Lib.hid hn
  have HA:=Lib.hid hA
  have HB:=Lib.hid hB
  clear hn hA hB
  go_enter Tryz.func18,Tryz.ntmps18
  go_wp2_with fail
  go_loopw [5] (fun i wr=>∃k m:Nat,k≤A.length∧i=.int .i64 k∧wr=w.drewN m∧Hid (A.take k=B.take k)) (fun i _=>A.length - (intOf i).toNat)
  case atStart=>exact⟨0,0,Nat.zero_le _,rfl,rfl,Lib.hid rfl⟩
  case round=>
   obtain⟨k,m,hk,rfl,rfl,HT⟩:=hrel
   by_cases hlt:k<A.length
   ·obtain⟨b1,o1,rfl,hb1,hc1⟩:=HA.out (fun e=>by rw[e] at hlt;simp at hlt)
    obtain⟨b2,o2,rfl,hb2,hc2⟩:=HB.out (fun e=>by have:=HN.out;rw[e] at this;simp at this;rw[this] at hlt;simp at hlt)
    have hltB:k<B.length:=by have:=HN.out;omega
    have c1:=hc1 k hlt
    have c2:=hc2 k hltB
    have eA:A.getD k 0=A[k]:=by simp[hlt]
    have eB:B.getD k 0=B[k]:=by simp[hltB]
    rw[eA] at c1
    rw[eB] at c2
    have HS:Hid (A[k]=B[k]→A.take (k+1)=B.take (k+1)):=Lib.hid fun e=>by rw[List.take_succ_eq_append_getElem hlt,List.take_succ_eq_append_getElem hltB,HT.out,e]
    have HF:Hid (A[k]≠B[k]→sameB A B=false):=Lib.hid fun e=>same_not fun h=>e (by subst h;rfl)
    have hd1:decide (k<A.length)=true:=by simpa using hlt
    have hd2:decide (k<B.length)=true:=by simpa using hltB
    clear eA eB hc1 hc2 HA HB
    generalize A[k]=x at*
    generalize B[k]=y at*
    by_cases hxy:x=y
    ·have HT':=Lib.hid (HS.out hxy)
     have e1:(x !=y)=false:=by simp[hxy]
     clear hxy HS HF
     go_wp2_with fail
     go_quiet (fail)
     go_wp2_with fail
     go_roundw
     case rel=>exact⟨k+1,_,by omega,by go_num,rfl,HT'⟩
     case measure=>simp[intOf];omega
    ·have HF':=Lib.hid (HF.out hxy)
     have e1:(x !=y)=true:=by simp[hxy]
     clear hxy HS HF
     go_wp2_with fail
     go_quiet (fail)
     go_wp2_with fail
     go_ret
     exact⟨by(rw[HF'.out];try rfl),m+nq,by rw[World.drewN_drewN]⟩
   ·obtain rfl:k=A.length:=by omega
    have HS:=Lib.hid (same_of (A:=A) (B:=B) (by have:=HT.out;rw[List.take_of_length_le (Nat.le_refl _),List.take_of_length_le (by rw[HN.out];exact Nat.le_refl _)] at this;exact this))
    go_wp2_with fail
    go_ret
    exact⟨by(rw[HS.out];try rfl),m,rfl⟩
 ·have HS:=Lib.hid (same_not (A:=A) (B:=B) fun e=>hn (by rw[e]))
  have hd:((A.length:Int) !=(B.length:Int))=true:=by simp;omega
  clear hn
  go_enter Tryz.func18,Tryz.ntmps18
  go_wp2_with fail
  go_ret
  exact⟨by(rw[HS.out];try rfl),0,rfl⟩
end Go.Proofs.YtckdgniecdfedaaGreatDoor
end
end
section
section
namespace Go.Proofs.YtckdgniecdfedaaGreatDoor
open Go.RowKit
def FArgs (w:World) (a:Option Addr) (f:Fs):Prop:=f.len≠0→∃b o,a=some ⟨b,o,none⟩∧b<w.heap.size∧FAt w f b o
theorem FArgs.keep {w w':World} {a:Option Addr} {f:Fs} (h:FArgs w a f) (hB:Below w.heap.size w w'):FArgs w' a f:=fun h0=>by
 obtain⟨b,o,e',hb,h'⟩:=h h0
 exact⟨b,o,e',Nat.lt_of_lt_of_le hb hB.size,FAt.keep hB hb h'⟩
def Capped (w:World) (f:Fs) (l:Int) (e:Ending) (w':World):Prop:=∃n:Int,e=.returned (.int .i64 n)∧1≤n∧n≤l+1∧(n≤l→n=f.nodes+1)∧Below w.heap.size w w'
theorem Fs.drop_succ {f:Fs} {j:Nat} {op v bd:Int} {nm:ByteArray} {a r:Fs} (h:f.drop j=.cons op nm v bd a r):f.drop (j+1)=r:=by
 induction j generalizing f with
 |zero=>cases f<;>simp_all [Fs.drop]
 |succ j ih=>
  cases f with
  |nil=>simp[Fs.drop] at h
  |cons _ _ _ _ _ r'=>exact ih h
theorem Fs.drop_nodes:∀(f:Fs) (j:Nat),(f.drop j).nodes≤f.nodes
 | .nil,0=>Nat.le_refl _
 | .nil,j+1=>Nat.le_refl _
 | .cons ..,0=>Nat.le_refl _
 | .cons _ _ _ _ a r,j+1=>by
  have:=Fs.drop_nodes r j
  simp only[Fs.drop,Fs.nodes]
  omega
set_option maxRecDepth 100000 in
set_option maxHeartbeats 4000000 in
theorem capped_any:∀(N:Nat) (f:Fs),f.nodes<N→∀(w:World) (op v bd:Int) (nm:ByteArray) (a:Option Addr) (c:Nat) (l:Int),f.len≤9223372036854775807→FArgs w a f→0≤l→l≤1000000→
  Calls Tryz.prog 58 #[.agg #[.int .i64 op,.string nm,.int .i64 v,.int .i64 bd,.slice a f.len c],.int .i64 l] w (Capped w f l):=by
 intro N
 induction N with
 |zero=>
  intro f hf
  omega
 |succ N ih=>
  intro f hf w op v bd nm a c l hl hv l0 l1
  have HV:=Lib.hid hv
  have HI:=Lib.hid ih
  clear hv ih
  have d4:=cell_new w #[.int .i64 op,.string nm,.int .i64 v,.int .i64 bd,.slice a f.len c] 48 4
  simp only[List.getElem?_toArray,List.getElem?_cons_succ,List.getElem?_cons_zero] at d4
  have HB:Hid (Below w.heap.size w (w.alloc (.cells #[.int .i64 op,.string nm,.int .i64 v,.int .i64 bd,.slice a f.len c] 48))):=Lib.hid ((Below.refl _ _).alloc (Nat.le_refl _) _)
  go_enter Tryz.func58,Tryz.ntmps58
  go_wp2_with fail
  go_loopw [5,6] (fun x i wr=>∃(k:Nat) (n:Int),k≤f.len∧i=.int .i64 k∧x=.int .i64 n∧1≤n∧n≤l+1∧(n≤l→n+(f.drop k).nodes=f.nodes+1)∧Below (w.heap.size+1) (w.alloc (.cells #[.int .i64 op,.string nm,.int .i64 v,.int .i64 bd,.slice a f.len c] 48)) wr) (fun _ i _=>f.len - (intOf i).toNat)
  case atStart=>exact⟨0,1,Nat.zero_le _,rfl,rfl,by omega,by omega,fun _=>by cases f<;>simp[Fs.drop]<;>omega,Below.refl _ _⟩
  case round=>
   obtain⟨k,n,hk,rfl,rfl,n1,n2,n3,hB⟩:=hrel
   have e4:=(hB.cell (p:=⟨w.heap.size,4,none⟩) (by show w.heap.size<w.heap.size+1;omega)).trans d4
   have HN:=Lib.hid n3
   have HR:=Lib.hid hB
   clear n3 hB
   by_cases hlt:k<f.len
   ·have hd:decide (k<f.len)=true:=by simpa using hlt
    by_cases hn:n≤l
    ·have hd1:decide (n≤l)=true:=by simpa using hn
     have HW2:Hid (Below w.heap.size w wr):=Lib.hid (HB.out.trans (HR.out.mono (by simp)))
     obtain⟨b1,o1,rfl,hb1,hat⟩:=HV.out (by omega)
     have hat':=FAt.keep HW2.out hb1 (FAt.drop k hat)
     have hdl:=Fs.drop_len f k
     cases hfd:f.drop k with
     |nil=>rw[hfd] at hdl;simp[Fs.len] at hdl;omega
     |cons op' nm' v' bd' sub rest=>
      rw[hfd] at hat'
      have hdn:=Fs.drop_nodes f k
      rw[hfd] at hdn
      obtain⟨c0,c1,c2,c3,c4,c5,⟨a',c',c6, -,c7⟩, -⟩:=hat'
      have hnd:n+(sub.nodes+rest.nodes+1:Nat)=f.nodes+1:=by have:=HN.out hn;rw[hfd] at this;exact this
      have HS:=Lib.hid (Fs.drop_succ hfd)
      have HC:=Lib.hid (HI.out sub (by simp only[Fs.nodes] at hdn;omega) wr op' v' bd' nm' a' c' (l - n) c5 c7 (by omega) (by omega))
      clear hat hfd c7 hdl hdn
      go_wp2_with fail
      refine HC.out.mono ?_
      rintro e w3 ⟨n',rfl,p1,p2,p3,hB3⟩
      have HB3:=Lib.hid hB3
      have HP3:=Lib.hid p3
      clear hB3 p3 c0 c1 c2 c3 c4 c6
      go_wp2_with fail
      go_roundw
      case rel=>exact⟨k+1,n+n',by omega,by go_num,by go_num,by omega,by omega,fun h=>by rw[HS.out];have:=HP3.out (by omega);omega,HR.out.trans (HB3.out.mono (by have:=HR.out.size;rw[World.size_alloc] at this;exact this))⟩
      case measure=>simp[intOf];omega
    ·have hd1:decide (n≤l)=false:=by simpa using hn
     go_wp2_with fail
     go_ret
     exact⟨n,rfl,n1,n2,fun h=>absurd h (by omega),HB.out.trans (HR.out.mono (by simp))⟩
   ·have hd:decide (k<f.len)=false:=by simpa using hlt
    go_wp2_with fail
    go_ret
    refine⟨n,rfl,n1,n2,fun h=>?_,HB.out.trans (HR.out.mono (by simp))⟩
    have:=HN.out h
    have hdl:=Fs.drop_len f k
    cases hfd:f.drop k with
    |nil=>rw[hfd] at this;simpa[Fs.nodes] using this
    |cons=>rw[hfd] at hdl;simp[Fs.len] at hdl;omega
end Go.Proofs.YtckdgniecdfedaaGreatDoor
end
section
namespace Go.Proofs.YtckdgniecdfedaaGreatDoor
open Go.RowKit
def ToldQ (w:World) (Q:Prop) (e:Ending) (w':World):Prop:=∃c:Bool,e=.returned (.bool c)∧(c=true→Q)∧Below w.heap.size w w'
set_option maxRecDepth 100000 in
set_option maxHeartbeats 1000000 in
theorem small19 (f:Fs) (w:World) (op v bd:Int) (nm:ByteArray) (a:Option Addr) (c:Nat) (l:Int) (hl:f.len≤9223372036854775807) (hv:FArgs w a f) (l0:0≤l) (l1:l≤1000000):
  Calls Tryz.prog 19 #[.agg #[.int .i64 op,.string nm,.int .i64 v,.int .i64 bd,.slice a f.len c],.int .i64 l] w (ToldQ w ((f.nodes:Int)+1≤l)):=by
 have HV:=Lib.hid hv
 have p0:=cell_new w #[.int .i64 op,.string nm,.int .i64 v,.int .i64 bd,.slice a f.len c] 48 0
 have p1:=cell_new w #[.int .i64 op,.string nm,.int .i64 v,.int .i64 bd,.slice a f.len c] 48 1
 have p2:=cell_new w #[.int .i64 op,.string nm,.int .i64 v,.int .i64 bd,.slice a f.len c] 48 2
 have p3:=cell_new w #[.int .i64 op,.string nm,.int .i64 v,.int .i64 bd,.slice a f.len c] 48 3
 have p4:=cell_new w #[.int .i64 op,.string nm,.int .i64 v,.int .i64 bd,.slice a f.len c] 48 4
 simp only[List.getElem?_toArray,List.getElem?_cons_succ,List.getElem?_cons_zero] at p0 p1 p2 p3 p4
 have HB:Hid (Below w.heap.size w (w.alloc (.cells #[.int .i64 op,.string nm,.int .i64 v,.int .i64 bd,.slice a f.len c] 48))):=Lib.hid ((Below.refl _ _).alloc (Nat.le_refl _) _)
 clear hv
 go_enter Tryz.func19,Tryz.ntmps19
 go_wp2_with fail
 refine(capped_any (f.nodes+1) f (Nat.lt_succ_self _) _ op v bd nm a c l hl (HV.out.keep HB.out) l0 l1).mono ?_
 rintro e w1 ⟨n,rfl,q1,q2,q3,hB⟩
 have HB1:=Lib.hid hB
 have HQ:=Lib.hid q3
 clear hB q3
 go_wp2_with fail
 go_ret
 exact⟨_,rfl,fun h=>by have h':n≤l:=of_decide_eq_true h;have:=HQ.out h';omega,HB.out.trans (HB1.out.mono (by simp))⟩
end Go.Proofs.YtckdgniecdfedaaGreatDoor
end
end
section
section
namespace Go.Proofs.YtckdgniecdfedaaGreatDoor
open Go.RowKit
def FArg (w0:World) (K:List (Nat×Obj)) (v:Value) (f:Fs):Prop:=
 FV w0 v f∨∃(B c:Nat) (op:Int) (nm:ByteArray) (x bd:Int) (a:Option Addr) (c':Nat) (args:Fs),v=.slice (some ⟨B,0,none⟩) 1 c∧1≤c∧
  (B,Obj.cells #[.int .i64 op,.string nm,.int .i64 x,.int .i64 bd,.slice a args.len c'] 48 (0,0))∈K∧f=.cons op nm x bd args .nil∧nm.size≤9223372036854775807∧FV w0 (.slice a args.len c') args
theorem FArg.len {w0:World} {K:List (Nat×Obj)} {v:Value} {f:Fs} (h:FArg w0 K v f):f.len≤9223372036854775807∧∃a c,v=.slice a f.len c∧f.len≤c:=by
 rcases h with⟨hl,a,c,e,hc,_⟩|⟨B,c,op,nm,x,bd,a,c',args,e,hc,_,rfl,_⟩
 ·exact⟨hl,a,c,e,hc⟩
 ·exact⟨by simp[Fs.len],some ⟨B,0,none⟩,c,by rw[e];simp[Fs.len],by simpa[Fs.len] using hc⟩
theorem FArg.zero {w0:World} {K:List (Nat×Obj)} (a:Option Addr) (c:Nat):FArg w0 K (.slice a 0 c) .nil:=.inl ⟨by simp[Fs.len],a,c,rfl,Nat.zero_le _,fun h=>absurd rfl h⟩
def stc:List Fs→List Int
 |[]=>[]
 |f::r=>stc r++f.code
def stn:List Fs→Nat
 |[]=>0
 |f::r=>stn r+f.nodes
theorem stc_snoc (S:List Fs) (f:Fs):stc (S++[f])=f.code++stc S:=by
 induction S with
 |nil=>simp[stc]
 |cons a S ih=>simp[stc,ih]
theorem stn_snoc (S:List Fs) (f:Fs):stn (S++[f])=f.nodes+stn S:=by
 induction S with
 |nil=>simp[stn]
 |cons a S ih=>simp only[List.cons_append,stn,ih];omega
def Stk (w0:World) (K:List (Nat×Obj)) (cs:Array Value) (S:List Fs):Prop:=∀j (h:j<S.length),∃v,cs[j]? =some v∧FArg w0 K v S[j]
theorem Stk.top {w0:World} {K:List (Nat×Obj)} {cs:Array Value} {S:List Fs} {f:Fs} (h:Stk w0 K cs (S++[f])):∃v,cs[S.length]? =some v∧FArg w0 K v f:=by
 obtain⟨v,h1,h2⟩:=h S.length (by simp)
 simp only[List.getElem_concat_length] at h2
 exact⟨v,h1,h2⟩
theorem Stk.pop {w0:World} {K:List (Nat×Obj)} {cs:Array Value} {S:List Fs} {f:Fs} (h:Stk w0 K cs (S++[f])):Stk w0 K cs S:=fun j hj=>by
 obtain⟨v,h1,h2⟩:=h j (by simp;omega)
 rw[List.getElem_append_left hj] at h2
 exact⟨v,h1,h2⟩
theorem Stk.set {w0:World} {K:List (Nat×Obj)} {cs:Array Value} {S:List Fs} {f g:Fs} {v:Value} (h:Stk w0 K cs (S++[f])) (hv:FArg w0 K v g):Stk w0 K (cs.setIfInBounds S.length v) (S++[g]):=fun j hj=>by
 simp only[List.length_append,List.length_cons,List.length_nil] at hj
 by_cases e:j=S.length
 ·subst e
  obtain⟨u,h1,_⟩:=h S.length (by simp)
  refine⟨v,?_,by simpa using hv⟩
  rw[Array.getElem?_setIfInBounds_self_of_lt (Array.getElem?_eq_some_iff.1 h1).1]
 ·obtain⟨u,h1,h2⟩:=h j (by simp;omega)
  rw[List.getElem_append_left (by omega)] at h2 ⊢
  exact⟨u,by rw[Array.getElem?_setIfInBounds_ne (by omega)];exact h1,h2⟩
theorem Stk.push {w0:World} {K:List (Nat×Obj)} {cs cs':Array Value} {S:List Fs} {g:Fs} {v:Value} (h:Stk w0 K cs S) (hv:FArg w0 K v g) (h0:∀j,j<S.length→cs'[j]? =cs[j]?) (h1:cs'[S.length]? =some v):Stk w0 K cs' (S++[g]):=fun j hj=>by
 simp only[List.length_append,List.length_cons,List.length_nil] at hj
 by_cases e:j=S.length
 ·subst e
  exact⟨v,h1,by simpa using hv⟩
 ·obtain⟨u,h2,h3⟩:=h j (by omega)
  rw[List.getElem_append_left (by omega)]
  exact⟨u,(h0 j (by omega)).trans h2,h3⟩
end Go.Proofs.YtckdgniecdfedaaGreatDoor
end
section
namespace Go.Proofs.YtckdgniecdfedaaGreatDoor
open Go.RowKit
section
variable {w0:World} {wb:Nat} {w:World} {L:List Int} {n:Nat} {P:Prop} {K:List (Nat×Obj)}
theorem Tryz.underlying189:Tryz.prog.underlying 189=some (.slice 46):=by kernel_rfl
theorem Tryz.info46:(Tryz.prog.info? 46).map (fun i=>(i.zero,i.size,i.bytes))=some (some (.slice none 0 0),1,24):=by kernel_rfl
end
end Go.Proofs.YtckdgniecdfedaaGreatDoor
end
end
section
section
namespace Go.Proofs.YtckdgniecdfedaaGreatDoor
open Go.RowKit
theorem Fs.nil_of {f:Fs} (h:f.len=0):f=.nil:=by cases f<;>simp[Fs.len] at h ⊢
theorem loop_len (bs:ByteArray):∀(n i:Nat) (r:List UInt8),bs.size - i=n→(ByteArray.toList.loop bs i r).length=r.length+n:=by
 intro n
 induction n with
 |zero=>
  intro i r h
  unfold ByteArray.toList.loop
  rw[if_neg (by omega)]
  simp
 |succ n ih=>
  intro i r h
  unfold ByteArray.toList.loop
  rw[if_pos (by omega),ih (i+1) _ (by omega)]
  simp
  omega
theorem nm_nil {nm:ByteArray} (h:nm.toList=[]):nm=⟨#[]⟩:=by
 have h1:=loop_len nm nm.size 0 [] (by omega)
 have h2:(ByteArray.toList.loop nm 0 []).length=0:=by
  have:ByteArray.toList.loop nm 0 []=[]:=h
  rw[this];rfl
 rw[h2] at h1
 simp at h1
 cases nm with|mk d=>
 congr 1
 have:d.size=0:=h1.symm
 exact Array.eq_empty_of_size_eq_zero this
theorem res23 {tmps:Array Value} {w:World} {g:Nat} {a b u:Value} (hp:tmps.getD 2 undef=.pointer (some ⟨g,0,none⟩)) (hu:tmps.getD 3 undef=u) (h0:w.cell? ⟨g,0,none⟩=some a) (h1:w.cell? ⟨g,1,none⟩=some b):
  (results Tryz.f23 tmps).run Tryz.prog w=.ok (.tuple #[.agg #[a,b],u]) w:=by
 rw[results_cell_tmp rfl,hp,hu]
 simp[asAddr,go_sem,h0,h1]
theorem coded_end {tmps:Array Value} {w:World} {g:Nat} {a b u:Value} {R:Ending→World→Prop} (hp:tmps.getD 2 undef=.pointer (some ⟨g,0,none⟩)) (hu:tmps.getD 3 undef=u) (h0:w.cell? ⟨g,0,none⟩=some a) (h1:w.cell? ⟨g,1,none⟩=some b)
  (hR:R (.returned (.tuple #[.agg #[a,b],u])) w):bodyPost Tryz.prog Tryz.f23 R .ret {tmps:=tmps,defers:=[]} w:=bodyPost_ret (res23 hp hu h0 h1) rfl hR
theorem nums_owned {W:World} {base n:Nat} {v:Value} {L:List Int} (h:W.ownsRow base 3 1 v n (L.map (Value.int .i64))):Nums W v L:=by
 have hn:L.length=n:=by simpa using h.1
 rcases h.2 with⟨rfl,h0⟩|⟨g,cap,cur,rfl,hg,hh,_⟩
 ·rw[List.length_eq_zero_iff.1 (hn.trans h0)]
  exact⟨none,0,rfl,fun h=>absurd rfl h⟩
 ·refine⟨some ⟨g,0,none⟩,cap,by rw[hn],fun _=>⟨g,0,rfl,(Array.getElem?_eq_some_iff.1 hh).1,fun j hj=>?_⟩⟩
  have:=h.cells (g:=g) rfl j (.int .i64 (L.getD j 0)) (by
   rw[List.getElem?_map,List.getElem?_eq_getElem hj,List.getD_eq_getElem?_getD,List.getElem?_eq_getElem hj];rfl)
  rcases Nat.eq_zero_or_pos j with rfl|h0
  ·simpa[Addr.add] using this
  ·simpa[Addr.add,Nat.pos_iff_ne_zero.1 h0] using this
theorem stored {w wz:World} {bc:Nat} {a0 b0:Value} (a b:Value) (hr:wz.heap[bc+1]? =some (.cells #[a0,b0] 30 (0,0))) (hb:Below bc w wz) (hbc:w.heap.size=bc):
  ((wz.setCell ⟨bc+1,0,none⟩ a).setCell ⟨bc+1,1,none⟩ b).cell? ⟨bc+1,0,none⟩=some a∧((wz.setCell ⟨bc+1,0,none⟩ a).setCell ⟨bc+1,1,none⟩ b).cell? ⟨bc+1,1,none⟩=some b∧
  Below w.heap.size w ((wz.setCell ⟨bc+1,0,none⟩ a).setCell ⟨bc+1,1,none⟩ b):=by
 have k:((wz.setCell ⟨bc+1,0,none⟩ a).setCell ⟨bc+1,1,none⟩ b).heap[bc+1]? =some (.cells #[a,b] 30 (0,0)):=
  heap_setCell_same _ (bc+1) 1 _ 30 b (heap_setCell_same wz (bc+1) 0 _ 30 a hr)
 subst hbc
 exact⟨by simp[World.cell?,k],by simp[World.cell?,k],(hb.setCell (show w.heap.size≤w.heap.size+1 by omega) a).setCell (show w.heap.size≤w.heap.size+1 by omega) b⟩
theorem cut_eq {L cl:List Int} (h:cut20 L=cl) (hl:¬20000<cl.length):L=cl:=by
 subst h
 have h1:=cut20_le (L:=L) (by omega)
 unfold cut20
 rw[List.take_of_length_le (by omega)]
end Go.Proofs.YtckdgniecdfedaaGreatDoor
end
section
namespace Go.Proofs.YtckdgniecdfedaaGreatDoor
open Go.RowKit
set_option maxHeartbeats 1000000 in
theorem seal_some {v:Value} {zs:List Int} (w:World) (hv:Nums w v zs) (hl:zs.length≤1000000):
  Calls Tryz.prog 10 #[v] w fun e w'=>(∃s,e=.returned (.int .i64 s))∧w=w':=by
 obtain⟨a,c,rfl,hc⟩:=hv
 have HC:=Lib.hid hc
 clear hc
 go_enter Tryz.func10,Tryz.ntmps10
 go_wp2
 go_loop [3,4,9] (fun s p i=>∃(k:Nat) (x y:Int),k≤zs.length∧i=.int .i64 k∧s=.int .i64 x∧p=.int .i64 y∧0≤x∧x<65521∧0≤y∧y<65521) (fun _ _ i=>zs.length - (intOf i).toNat)
 case atStart=>exact⟨0,0,1,Nat.zero_le _,rfl,rfl,rfl,by omega,by omega,by omega,by omega⟩
 case round=>
  obtain⟨k,x,y,hk,rfl,rfl,rfl,x0,x1,y0,y1⟩:=hrel
  by_cases hlt:k<zs.length
  ·obtain⟨b,off,rfl,hb,hcell⟩:=HC.out (fun e=>by rw[e] at hlt;simp at hlt)
   have hck:=hcell k hlt
   clear hcell
   generalize zs.getD k 0=z at hck
   obtain⟨r,hr⟩:∃r,Int.tmod z 65521=r:=⟨_,rfl⟩
   have hr1: -65521<r:=by
    have h1:(-z).tmod 65521<65521:=Int.tmod_lt_of_pos (-z) (by decide)
    rw[Int.neg_tmod,hr] at h1
    omega
   have hr2:r<65521:=by rw[←hr];exact Int.tmod_lt_of_pos z (by decide)
   obtain⟨q,hq⟩:∃q,y*3 % 65521=q:=⟨_,rfl⟩
   have hq0:0≤q:=by rw[←hq];exact Int.emod_nonneg _ (by decide)
   have hq1:q<65521:=by rw[←hq];exact Int.emod_lt_of_pos _ (by decide)
   obtain⟨t,ht⟩:∃t,(r+65521) % 65521=t:=⟨_,rfl⟩
   have ht0:0≤t:=by rw[←ht];exact Int.emod_nonneg _ (by decide)
   have ht1:t<65521:=by rw[←ht];exact Int.emod_lt_of_pos _ (by decide)
   have hm0:0≤t*q:=Int.mul_nonneg ht0 hq0
   have hm1:t*q≤65521*65521:=Int.mul_le_mul (by omega) (by omega) hq0 (by omega)
   go_wp2
   go_round
   case rel=>exact⟨k+1,_,_,by omega,by go_num,rfl,rfl,by omega,by omega,by omega,by omega⟩
   case measure=>simp[intOf];omega
  ·have hge:k=zs.length:=by omega
   subst hge
   go_wp2
   go_ret
   exact⟨⟨_,rfl⟩,rfl⟩
end Go.Proofs.YtckdgniecdfedaaGreatDoor
end
end
section
section
namespace Go.Proofs.YtckdgniecdfedaaGreatDoor
open Go.RowKit
theorem Below.drewN' {B:Nat} {a w:World} (h:Below B a w) (n:Nat):Below B a (w.drewN n):=⟨h.os,h.tape,h.output,h.size,h.block⟩
end Go.Proofs.YtckdgniecdfedaaGreatDoor
end
end
section
section
namespace Go.Proofs.YtckdgniecdfedaaGreatDoor
open Go.RowKit
def OwnN (w:World) (B:Nat) (v:Value) (A:List Int):Prop:=w.ownsRow B 3 1 v A.length (A.map (Value.int .i64))
theorem OwnN.nil (w:World) (B:Nat):OwnN w B (.slice none 0 0) []:=World.ownsRow_nil w B 3 1
theorem OwnN.keep {w w':World} {B B':Nat} {v:Value} {A:List Int} (h:OwnN w B v A) (hB:Below B' w w') (hs:w.heap.size≤B'):OwnN w' B v A:=by
 obtain⟨h1,h2⟩:=h
 refine⟨h1,?_⟩
 rcases h2 with h2|⟨g',cap',cur,e',hb,hh,h3⟩
 ·exact .inl h2
 ·refine .inr ⟨g',cap',cur,e',hb,?_,h3⟩
  rw[hB.block g' ?_]
  ·exact hh
  ·exact Nat.lt_of_lt_of_le (Array.getElem?_eq_some_iff.1 hh).1 hs
theorem OwnN.form {w:World} {B:Nat} {v:Value} {A:List Int} (h:OwnN w B v A):∃a c,v=.slice a A.length c:=by
 rcases h.2 with⟨e,hn⟩|⟨g,cap,cur,e,_⟩
 ·exact⟨none,0,by rw[e,hn]⟩
 ·exact⟨_,_,e⟩
theorem OwnN.nums {w:World} {B:Nat} {v:Value} {A:List Int} (h:OwnN w B v A):Nums w v A:=by
 rcases h.2 with⟨e,hn⟩|⟨g,cap,cur,e,hb,hh,_⟩
 ·have:A=[]:=List.length_eq_zero_iff.1 hn
  subst this
  exact⟨none,0,e,fun h=>absurd rfl h⟩
 ·subst e
  refine⟨_,cap,rfl,fun _=>⟨g,0,rfl,(Array.getElem?_eq_some_iff.1 hh).1,fun j hj=>?_⟩⟩
  have:=World.ownsRow.cells h (g:=g) rfl j (.int .i64 (A.getD j 0)) (by simp[hj])
  rcases Nat.eq_zero_or_pos j with rfl|h0
  ·simpa[Addr.add] using this
  ·simpa[Addr.add,Nat.pos_iff_ne_zero.1 h0] using this
theorem OwnN.cap {w:World} {B:Nat} {v:Value} {A:List Int} (h:OwnN w B v A):∃a c,v=.slice a A.length c∧A.length≤c∧c≤9223372036854775807:=by
 rcases h.2 with⟨e,hn⟩|⟨g,cap,cur,e,_,_,h1,h2,_⟩
 ·exact⟨none,0,by rw[e,hn],by omega,by omega⟩
 ·exact⟨_,_,e,h1,h2⟩
end Go.Proofs.YtckdgniecdfedaaGreatDoor
end
end
section
section
namespace Go.Proofs.YtckdgniecdfedaaGreatDoor
open Go.RowKit
def dim (p:Nat→Bool) (w:World):World:= {w with heap:=w.heap.mapIdx fun i o=>if p i then .map #[] 0 else o}
theorem dim_size (p:Nat→Bool) (w:World):(dim p w).heap.size=w.heap.size:=by simp[dim]
theorem dim_get (p:Nat→Bool) (w:World) (k:Nat):(dim p w).heap[k]? =(w.heap[k]?).map fun o=>if p k then .map #[] 0 else o:=by simp[dim]
theorem dim_cell {p:Nat→Bool} {w:World} {a:Addr} {u:Value} (h:(dim p w).cell? a=some u):w.cell? a=some u:=by
 unfold World.cell? at h ⊢
 rw[dim_get] at h
 cases hk:w.heap[a.block]? with
 |none=>rw[hk] at h;simp at h
 |some o=>
  rw[hk] at h
  cases hp:p a.block with
  |true=>simp[hp] at h
  |false=>simpa[hp] using h
theorem dim_cell_of {p:Nat→Bool} {w:World} {a:Addr} (h:p a.block=false):(dim p w).cell? a=w.cell? a:=by
 unfold World.cell?
 rw[dim_get,h]
 cases w.heap[a.block]? <;>rfl
structure Fr (p:Nat→Bool) (B:Nat) (w w':World):Prop where
 os:w'.os=w.os
 tape:w'.tape=w.tape
 output:w'.output=w.output
 size:w.heap.size≤w'.heap.size
 block:∀k,k<B→p k=false→w'.heap[k]? =w.heap[k]?
section
variable {p:Nat→Bool} {B:Nat} {w w' w'':World}
theorem Fr.refl (p:Nat→Bool) (B:Nat) (w:World):Fr p B w w:=⟨rfl,rfl,rfl,Nat.le_refl _,fun _ _ _=>rfl⟩
theorem Fr.trans (h:Fr p B w w') (k:Fr p B w' w''):Fr p B w w'':=⟨k.os.trans h.os,k.tape.trans h.tape,k.output.trans h.output,Nat.le_trans h.size k.size,fun i hi hp=>(k.block i hi hp).trans (h.block i hi hp)⟩
theorem Fr.of_below (h:Below B w w'):Fr p B w w':=⟨h.os,h.tape,h.output,h.size,fun k hk _=>h.block k hk⟩
theorem Fr.mono {B':Nat} (h:Fr p B w w') (hB:B'≤B):Fr p B' w w':=⟨h.os,h.tape,h.output,h.size,fun k hk=>h.block k (Nat.lt_of_lt_of_le hk hB)⟩
theorem Fr.drawn (h:Fr p B w w') (n:Nat):Fr p B w (w'.drewN n):=⟨h.os,h.tape,h.output,h.size,h.block⟩
theorem Fr.cell (h:Fr p B w w') {a:Addr} (ha:a.block<B) (hp:p a.block=false):w'.cell? a=w.cell? a:=World.cell?_of_block (h.block _ ha hp)
theorem Fr.alloc (h:Fr p B w w') (hB:B≤w'.heap.size) (o:Obj):Fr p B w (w'.alloc o):=⟨h.os,h.tape,h.output,by have:=h.size;simp;omega,fun k hk hp=>(heap_alloc_old w' o (Nat.lt_of_lt_of_le hk hB)).trans (h.block k hk hp)⟩
theorem Fr.setCell (h:Fr p B w w') {a:Addr} (ha:p a.block=true∨B≤a.block) (v:Value):Fr p B w (w'.setCell a v):=by
 refine⟨h.os,h.tape,h.output,by simpa using h.size,fun k hk hp=>?_⟩
 rw[heap_setCell_other _ _ _ _ (fun e=>by subst e;exact ha.elim (fun ha=>by rw[hp] at ha;cases ha) (fun ha=>by omega))]
 exact h.block k hk hp
theorem Fr.grown {row:Option Nat} (h:Fr p B w w') (hg:w'.grownBy w'' row) (hB:B≤w'.heap.size) (hr:∀k,row=some k→p k=true∨B≤k):Fr p B w w'':=by
 refine⟨hg.os.trans h.os,hg.tape.trans h.tape,hg.output.trans h.output,Nat.le_trans h.size hg.size,fun k hk hp=>?_⟩
 rw[hg.block k (Nat.lt_of_lt_of_le hk hB) (fun e=>(hr k e.symm).elim (fun h1=>by rw[hp] at h1;cases h1) (fun h1=>by omega))]
 exact h.block k hk hp
theorem Fr.dim (h:Fr p B w w') (hB:B≤w.heap.size):Below B (dim p w) (dim p w'):=by
 refine⟨h.os,h.tape,h.output,by rw[dim_size,dim_size];exact h.size,fun k hk=>?_⟩
 rw[dim_get,dim_get]
 cases hp:p k with
 |false=>rw[h.block k hk hp]
 |true=>
  have h1:k<w.heap.size:=by omega
  have h2:k<w'.heap.size:=Nat.lt_of_lt_of_le h1 h.size
  rw[Array.getElem?_eq_getElem h1,Array.getElem?_eq_getElem h2]
  rfl
end
end Go.Proofs.YtckdgniecdfedaaGreatDoor
end
section
namespace Go.Proofs.YtckdgniecdfedaaGreatDoor
open Go.RowKit
open Go.Maps (Keyed)
theorem Tryz.keyed3:Keyed Tryz.prog 3:=Go.Maps.int_keyed Tryz.underlying3
theorem lit_wf {x:Int} (h0:0≤x) (h1:x≤9223372036854775807):(Lit.int .i64 x).wf=true:=by
 have e1:IntKind.i64.min= -9223372036854775808:=by decide
 have e2:IntKind.i64.max=9223372036854775807:=by decide
 simp only[Lit.wf,e1,e2,Bool.and_eq_true,decide_eq_true_eq]
 omega
theorem key3 {x:Int} (h0:0≤x) (h1:x≤9223372036854775807):keyOf Tryz.prog 3 (.int .i64 x)=some (.int .i64 x):=Go.Maps.keyOf_int_mk Tryz.underlying3 (lit_wf h0 h1)
end Go.Proofs.YtckdgniecdfedaaGreatDoor
end
section
namespace Go.Proofs.YtckdgniecdfedaaGreatDoor
open Go.RowKit
def only (a:Nat):Nat→Bool:=fun k=>k==a
end Go.Proofs.YtckdgniecdfedaaGreatDoor
end
end
namespace Go.Proofs.YtckdgniecdfedaaGreatDoor
section
open Go.RowKit
def fitL:Fs→Int→Int→Bool×Int
 | .nil,s,_=>(true,s)
 | .cons _ _ _ _ args rest,s,d=>
  if s - 1<(args.len:Int)∨d<1 then(false,s - 1) else if(fitL args (s - 1) (d - 1)).1=true then fitL rest (fitL args (s - 1) (d - 1)).2 d else(false,(fitL args (s - 1) (d - 1)).2)
def fitN (args:Fs) (s d:Int):Bool×Int:=if s - 1<(args.len:Int)∨d<1 then(false,s - 1) else fitL args (s - 1) (d - 1)
theorem fitL_cons (op:Int) (nm:ByteArray) (v bd:Int) (args rest:Fs) (s d:Int):fitL (.cons op nm v bd args rest) s d=if(fitN args s d).1=true then fitL rest (fitN args s d).2 d else fitN args s d:=by
 rw[fitL]
 unfold fitN
 by_cases h:s - 1<(args.len:Int)∨d<1
 ·rw[if_pos h,if_pos h]
  simp
 ·rw[if_neg h,if_neg h]
  split
  ·rfl
  ·rename_i h2
   have:(fitL args (s - 1) (d - 1)).1=false:=by simpa using h2
   rw[←this]
theorem fitL_pos:∀(f:Fs) (s d:Int),0≤s→(fitL f s d).1=true→0≤(fitL f s d).2∧(fitL f s d).2≤s
 | .nil,s,d,h,_=>⟨h,Int.le_refl _⟩
 | .cons op nm v bd args rest,s,d,h,ht=>by
  rw[fitL] at ht ⊢
  by_cases hc:s - 1<(args.len:Int)∨d<1
  ·rw[if_pos hc] at ht;cases ht
  ·rw[if_neg hc] at ht ⊢
   by_cases h2:(fitL args (s - 1) (d - 1)).1=true
   ·rw[if_pos h2] at ht ⊢
    have a:=fitL_pos args (s - 1) (d - 1) (by omega) h2
    have b:=fitL_pos rest _ d a.1 ht
    omega
   ·rw[if_neg h2] at ht;cases ht
theorem fitN_pos {args:Fs} {s d:Int} (_h:0≤s) (ht:(fitN args s d).1=true):0≤(fitN args s d).2∧(fitN args s d).2≤s:=by
 unfold fitN at ht ⊢
 by_cases hc:s - 1<(args.len:Int)∨d<1
 ·rw[if_pos hc] at ht;cases ht
 ·rw[if_neg hc] at ht ⊢
  have:=fitL_pos args (s - 1) (d - 1) (by omega) ht
  omega
def Ctr (w:World) (cb:Nat) (s:Int):Prop:=w.heap[cb]? =some (.cells #[.int .i64 s] 3 (0,0))
theorem Ctr.cell {w:World} {cb:Nat} {s:Int} (h:Ctr w cb s):w.cell? ⟨cb,0,none⟩=some (.int .i64 s):=by
 unfold Ctr at h
 simp[World.cell?,h]
theorem Ctr.frozen {w:World} {cb:Nat} {s:Int} (h:Ctr w cb s):w.frozen? ⟨cb,0,none⟩=false:=by
 unfold Ctr at h
 simp[World.frozen?,h]
theorem Ctr.set {w:World} {cb:Nat} {s:Int} (h:Ctr w cb s) (t:Int):Ctr (w.setCell ⟨cb,0,none⟩ (.int .i64 t)) cb t:=by
 have:=heap_setCell_same w cb 0 _ 3 (.int .i64 t) h
 unfold Ctr
 rw[this]
 simp
theorem Fs.drop_cons:∀(f:Fs) (j:Nat),j<f.len→∃op nm v bd a,f.drop j=.cons op nm v bd a (f.drop (j+1))
 | .nil,_,h=>by simp[Fs.len] at h
 | .cons op nm v bd a r,0,_=>⟨op,nm,v,bd,a,by cases r<;>rfl⟩
 | .cons _ _ _ _ _ r,j+1,h=>by
  obtain⟨op,nm,v,bd,a,e⟩:=Fs.drop_cons r j (by simpa[Fs.len] using h)
  exact⟨op,nm,v,bd,a,by simpa[Fs.drop] using e⟩
theorem dim_ne {p:Nat→Bool} {w:World} {a:Addr} {v:Value} (h:(dim p w).cell? a=some v):p a.block=false:=by
 unfold World.cell? at h
 rw[dim_get] at h
 cases hp:p a.block with
 |false=>rfl
 |true=>cases hk:w.heap[a.block]? <;>simp[hk,hp] at h
def FitOut (args:Fs) (s d:Int) (cb:Nat) (w:World) (e:Ending) (w':World):Prop:=e=.returned (.bool (fitN args s d).1)∧Ctr w' cb (fitN args s d).2∧Fr (only cb) w.heap.size w w'
set_option maxRecDepth 100000 in
set_option maxHeartbeats 4000000 in
theorem fits153:∀(N:Nat) (op:Int) (nm:ByteArray) (v bd:Int) (args rest:Fs),(Fs.cons op nm v bd args rest).nodes≤N→∀(w:World) (b off cb fb:Nat) (s d:Int),0≤s→s≤100000→0≤d→d≤100000→
  FAt (dim (only cb) w) (.cons op nm v bd args rest) b off→b<w.heap.size→b≠cb→Ctr w cb s→fb<w.heap.size→(dim (only cb) w).cell? ⟨fb,0,none⟩=some (.func (.func 153) #[] #[.pointer (some ⟨cb,0,none⟩),.pointer (some ⟨fb,0,none⟩)])→
  Calls Tryz.prog 153 #[.pointer (some ⟨b,off,none⟩),.int .i64 d,.pointer (some ⟨cb,0,none⟩),.pointer (some ⟨fb,0,none⟩)] w (FitOut args s d cb w):=by
 intro N
 induction N with
 |zero=>intro op nm v bd args rest h;simp[Fs.nodes] at h
 |succ N ih=>
  intro op nm v bd args rest hN w b off cb fb s d s0 s1 d0 d1 hF hb hbc hC hfc hf
  have hcs:cb<w.heap.size:=by have:=hC;unfold Ctr at this;exact(Array.getElem?_eq_some_iff.mp this).1
  have HF:=Lib.hid hF
  have HC:=Lib.hid hC
  have HFF:=Lib.hid hf
  obtain⟨-, -, -, -, -,hal,⟨aa,ca,h4,hac,hargs⟩, -⟩:=hF
  have HAR:=Lib.hid hargs
  have t4:=dim_cell h4
  have tc:=hC.cell
  have tf:=hC.frozen
  have hws:IntKind.i64.wrap (s - 1)=s - 1:=by rw[IntKind.wrap_i64];omega
  have t4w:=t4
  have HS1:=Lib.hid (hC.set (s - 1))
  have HFR1:Hid (Fr (only cb) w.heap.size w (w.setCell ⟨cb,0,none⟩ (.int .i64 (s - 1)))):=Lib.hid ((Fr.refl _ _ _).setCell (.inl (by simp[only])) _)
  have HIH:=Lib.hid ih
  have HN:=Lib.hid hN
  have HX:=Lib.hid (And.intro hb (And.intro hbc hfc))
  clear hC hf h4 hargs ih hN hb hbc hfc
  go_enter Tryz.func153,Tryz.ntmps153
  go_upto_region 2 with fail
  generalize w.setCell ⟨cb,0,none⟩ (.int .i64 (s - 1))=w1 at*
  have tc:=HS1.out.cell
  have t4:w1.cell? ⟨b,off+4,none⟩=some (.slice aa args.len ca):=by
   rw[HFR1.out.cell (a:=⟨b,off+4,none⟩) HX.out.1 (by simpa[only] using HX.out.2.1)]
   exact t4
  have wz:IntKind.i64.wrap (args.len:Int)=args.len:=by rw[IntKind.wrap_i64];omega
  by_cases h1:s - 1<(args.len:Int)
  ·have hd1:decide (s - 1<(args.len:Int))=true:=by simpa using h1
   have hfn:fitN args s d=(false,s - 1):=by unfold fitN;rw[if_pos (.inl h1)]
   go_quiet (fail)
   have HS2:Hid (Ctr (w1.drewN nq) cb (s - 1)):=HS1
   have HFR2:Hid (Fr (only cb) w.heap.size w (w1.drewN nq)):=Lib.hid (HFR1.out.drawn nq)
   generalize w1.drewN nq=w2 at*
   go_wp2_with fail
   go_ret
   exact⟨by rw[hfn];rfl,by rw[hfn];exact HS2.out,HFR2.out⟩
  ·have hd1:decide (s - 1<(args.len:Int))=false:=by simpa using h1
   by_cases h2:d<1
   ·have hd2:decide (d<1)=true:=by simpa using h2
    have hfn:fitN args s d=(false,s - 1):=by unfold fitN;rw[if_pos (.inr h2)]
    go_quiet (fail)
    have HS2:Hid (Ctr (w1.drewN nq) cb (s - 1)):=HS1
    have HFR2:Hid (Fr (only cb) w.heap.size w (w1.drewN nq)):=Lib.hid (HFR1.out.drawn nq)
    generalize w1.drewN nq=w2 at*
    go_wp2_with fail
    go_ret
    exact⟨by rw[hfn];rfl,by rw[hfn];exact HS2.out,HFR2.out⟩
   ·have hd2:decide (d<1)=false:=by simpa using h2
    have HFN:Hid (fitN args s d=fitL args (s - 1) (d - 1)):=Lib.hid (by unfold fitN;rw[if_neg (by simp[h1,h2])])
    go_quiet (fail)
    have HS2:Hid (Ctr (w1.drewN nq) cb (s - 1)):=HS1
    have HFR2:Hid (Fr (only cb) w.heap.size w (w1.drewN nq)):=Lib.hid (HFR1.out.drawn nq)
    have t4:(w1.drewN nq).cell? ⟨b,off+4,none⟩=some (.slice aa args.len ca):=t4
    generalize w1.drewN nq=w2 at*
    clear tc
    go_wp2_with fail
    clear t4
    go_loopw [26] (fun i wr=>∃(k:Nat) (t:Int),k≤args.len∧i=.int .i64 k∧0≤t∧t≤s∧Hid (fitL args (s - 1) (d - 1)=fitL (args.drop k) t (d - 1))∧Hid (Ctr wr cb t)∧Hid (Fr (only cb) w.heap.size w wr)) (fun i _=>args.len - (intOf i).toNat)
    case atStart=>exact⟨0,s - 1,Nat.zero_le _,rfl,by omega,by omega,Lib.hid (by cases args<;>rfl),HS2,HFR2⟩
    case round=>
     obtain⟨k,t,hk,rfl,t0,t1,HE,HCt,HFr⟩:=hrel
     have t4:wr.cell? ⟨b,off+4,none⟩=some (.slice aa args.len ca):=by
      rw[HFr.out.cell (a:=⟨b,off+4,none⟩) HX.out.1 (by simpa[only] using HX.out.2.1)]
      exact t4w
     have tfb:wr.cell? ⟨fb,0,none⟩=some (.func (.func 153) #[] #[.pointer (some ⟨cb,0,none⟩),.pointer (some ⟨fb,0,none⟩)]):=by
      rw[HFr.out.cell (a:=⟨fb,0,none⟩) HX.out.2.2 (dim_ne HFF.out)]
      exact dim_cell HFF.out
     by_cases hlt:(k:Int)<(args.len:Int)
     ·have hd:decide ((k:Int)<(args.len:Int))=true:=by simpa using hlt
      have hk':k<args.len:=by omega
      obtain⟨b',o',rfl,hb',hat⟩:=HAR.out (by omega)
      have HAT:Hid (FAt (dim (only cb) wr) (args.drop k) b' (o'+k*5)):=Lib.hid (FAt.keep (by rw[dim_size];exact HFr.out.dim (Nat.le_refl _)) hb' (FAt.drop k hat))
      have hbs:b'<wr.heap.size:=by rw[dim_size] at hb';exact Nat.lt_of_lt_of_le hb' HFr.out.size
      obtain⟨op',nm',v',bd',sub,hdr⟩:=Fs.drop_cons args k hk'
      have hbc:b'≠cb:=by
       have:=HAT.out
       rw[hdr] at this
       have:=dim_ne this.1
       simpa[only] using this
      have hdn:=Fs.drop_nodes args k
      have HND:Hid ((Fs.cons op' nm' v' bd' sub (args.drop (k+1))).nodes≤N):=Lib.hid (by have:=HN.out;rw[hdr] at hdn;simp only[Fs.nodes] at this hdn ⊢;omega)
      have HAT':Hid (FAt (dim (only cb) wr) (.cons op' nm' v' bd' sub (args.drop (k+1))) b' (o'+k*5)):=Lib.hid (by rw[←hdr];exact HAT.out)
      have HE':Hid (fitL args (s - 1) (d - 1)=if(fitN sub t (d - 1)).1=true then fitL (args.drop (k+1)) (fitN sub t (d - 1)).2 (d - 1) else fitN sub t (d - 1)):=Lib.hid (by rw[HE.out,hdr,fitL_cons])
      have hwd:IntKind.i64.wrap (d - 1)=d - 1:=by rw[IntKind.wrap_i64];omega
      clear hat hdn hdr HAT
      go_upto_region 7 with fail
      go_still_tail 9,(by kernel_rfl)
      change wpList _ _ _ _ _ wr.drew
      have HCALL:=Lib.hid (HIH.out op' nm' v' bd' sub (args.drop (k+1)) HND.out wr.drew b' (o'+k*5) cb fb t (d - 1) t0 (by omega) (by omega) (by omega) (FAt.drawn 1 HAT'.out) hbs hbc HCt.out (Nat.lt_of_lt_of_le HX.out.2.2 HFr.out.size) (by
       show(dim (only cb) wr).cell? _=_
       rw[dim_cell_of (dim_ne HFF.out)]
       exact tfb))
      have HFD:Hid (Fr (only cb) w.heap.size w wr.drew):=Lib.hid (HFr.out.drawn 1)
      generalize wr.drew=wd at*
      clear t4 tfb HCt HFr HAT' HND
      go_wp2_with fail
      refine HCALL.out.mono ?_
      rintro e w3 ⟨rfl,hC3,hF3⟩
      have HC3:=Lib.hid hC3
      have HF3:Hid (Fr (only cb) w.heap.size w w3):=Lib.hid (HFD.out.trans (hF3.mono HFD.out.size))
      clear hC3 hF3
      cases hv:(fitN sub t (d - 1)).1 with
      |true=>
       have hpos:=fitN_pos (d:=d - 1) t0 hv
       have HE2:Hid (fitL args (s - 1) (d - 1)=fitL (args.drop (k+1)) (fitN sub t (d - 1)).2 (d - 1)):=Lib.hid (by rw[HE'.out,if_pos hv])
       clear hv
       go_wp2_with fail
       go_roundw
       case rel=>exact⟨k+1,(fitN sub t (d - 1)).2,by omega,by go_num,hpos.1,by omega,HE2,HC3,HF3⟩
       case measure=>simp[intOf];omega
      |false=>
       have HE2:Hid (fitL args (s - 1) (d - 1)=fitN sub t (d - 1)):=Lib.hid (by rw[HE'.out,if_neg (by simp[hv])])
       go_wp2_with fail
       go_ret
       exact⟨by rw[HFN.out,HE2.out,hv];rfl,by rw[HFN.out,HE2.out];exact HC3.out,HF3.out⟩
     ·have hd:decide ((k:Int)<(args.len:Int))=false:=by simpa using hlt
      have HE2:Hid (fitL args (s - 1) (d - 1)=(true,t)):=Lib.hid (by
       rw[HE.out]
       have hl:=Fs.drop_len args k
       cases hdr:args.drop k with
       |nil=>rfl
       |cons _ _ _ _ _ _=>rw[hdr] at hl;simp only[Fs.len] at hl;omega)
      go_wp2_with fail
      go_ret
      exact⟨by rw[HFN.out,HE2.out];rfl,by rw[HFN.out,HE2.out];exact HCt.out,HFr.out⟩
end
end Go.Proofs.YtckdgniecdfedaaGreatDoor
