/- What is said of worlds, numbers and formulas, with no program in sight -/
import Derived.Test.YtmabhhngoklncaaGreatDoorChecked
import Derived.BigQuiet
import Derived.Deep.AppendLies
import Derived.Deep.AppendSrc
import Derived.Deep.CutBlock
import Derived.Deep.OwnRows
import Derived.Deep.RegionHeld3
import Derived.Deep.RegionHeldLaw
import Derived.Deep.RegionLaw
import Derived.Laws.Cover1
import Derived.Lib.AppendZeros
import Derived.Lib.Hide
import Derived.Lib.ItoaNum
import Derived.ProofKit
import Derived.RangeFuncCalls
import Derived.Sort.Defs
import Derived.StillTailTactics
import Derived.TacticsInMore
import Derived.WalkKit
set_option maxRecDepth 100000
set_option maxHeartbeats 40000000
set_option linter.all false
open Go.Lib renaming hid->rA
open Nat renaming lt_of_lt_of_le->rB,le_refl->rD,zero_add->rF,le_trans->rK,add_mul->rM,add_assoc->rQ
open Go.Proofs.Tryz renaming prog->rC
open Go renaming heap_alloc_old->rE,heap_setCell_same->rL,run_underlying->rO,heap_alloc_new->rP
open List renaming getElem_mem->rG,replicate->rN
open Go.Builtin renaming append_->rH,lenOf->rS
open Go.World renaming cell?->rI,frozen?->rR
open Int renaming eq_ofNat_of_zero_le->rJ
open Go.Value renaming int->jI,slice->jS,pointer->jP,bool->jB,string->jT,agg->jG
open Go.IntKind renaming i64->kQ
open Go.Ending renaming returned->jR
open Go Go.RowKit
section
namespace Go.Proofs.YtmabhhngoklncaaGreatDoor
inductive QA|q
inductive QB|q
inductive QC|q
instance:Coe QA (Array Value):=⟨fun _=> #[jI kQ 0,jI kQ 0,jB false,jB false,jB false,jB false,jB false,jB false,jB false,jB false,jB false,jB false,jB false,jB false,jB false,jB false,jB false,jB false,jI kQ 0]⟩
instance:Coe QB (Array Value):=⟨fun _=> #[jS none 0 0,jS none 0 0,jS none 0 0]⟩
instance:Coe QC (Array Value):=⟨fun _=> #[jI kQ 0,jI kQ 0,jI kQ 0,jS none 0 0,jS none 0 0]⟩
theorem dT {p:Prop} [Decidable p] (h:p):decide p=true:=decide_eq_true h
theorem dF {p:Prop} [Decidable p] (h:¬p):decide p=false:=decide_eq_false h
open Go.RowKit
theorem yM {B:Nat} {a w:World} (h:Below B a w) (n:Nat):Below B a (w.drewN n):=⟨h.os,h.tape,h.output,h.size,h.block⟩
end Go.Proofs.YtmabhhngoklncaaGreatDoor
end
section
namespace Go.Proofs.YtmabhhngoklncaaGreatDoor
open Go.RowKit
def Nums (w:World) (v:Value) (A:List Int):Prop:=∃a c,v=jS a A.length c/\(A≠[]->∃b off,a=some ⟨b,off,none⟩/\b<w.heap.size/\∀j,j<A.length->w.cell? ⟨b,off+j,none⟩=some (jI kQ (A.getD j 0)))
theorem Nums.keep {w w':World} {v:Value} {A:List Int} (h:Nums w v A) (hB:Below w.heap.size w w'):Nums w' v A:=by
 obtain⟨a,c,e,h⟩:=h;refine⟨a,c,e,fun hA=>?_⟩;obtain⟨b,off,e',hb,hc⟩:=h hA;exact⟨b,off,e',rB hb hB.size,fun j hj=>(hB.cell (p:=⟨b,off+j,none⟩) hb).trans (hc j hj)⟩
theorem Nums.drawn {w:World} {v:Value} {A:List Int} (h:Nums w v A) (n:Nat):Nums (w.drewN n) v A:=h
end Go.Proofs.YtmabhhngoklncaaGreatDoor
end
section
section
namespace Go.Proofs.YtmabhhngoklncaaGreatDoor
open Go.RowKit
structure Sg where
 name:ByteArray
 input:Bool
 size:Int
def SgV (w:World) (v:Value) (l:List Sg):Prop:=
 ∃a c,v=jS a l.length c/\l.length<=9223372036854775807/\(l≠[]->∃b off,a=some ⟨b,off,none⟩/\b<w.heap.size/\∀j (h:j<l.length),
  w.cell? ⟨b,off+j*3,none⟩=some (jT l[j].name)/\w.cell? ⟨b,off+j*3+1,none⟩=some (jB l[j].input)/\w.cell? ⟨b,off+j*3+2,none⟩=some (jI kQ l[j].size)/\l[j].name.size<=9223372036854775807)
theorem SgV.keep {w w':World} {v:Value} {l:List Sg} (h:SgV w v l) (hB:Below w.heap.size w w'):SgV w' v l:=by
 obtain⟨a,c,e,hl,h⟩:=h;refine⟨a,c,e,hl,fun hA=>?_⟩;obtain⟨b,off,e',hb,hc⟩:=h hA;refine⟨b,off,e',rB hb hB.size,fun j hj=>?_⟩;obtain⟨c0,c1,c2,c3⟩:=hc j hj;exact⟨(hB.cell (p:=⟨b,off+j*3,none⟩) hb).trans c0,(hB.cell (p:=⟨b,off+j*3+1,none⟩) hb).trans c1,(hB.cell (p:=⟨b,off+j*3+2,none⟩) hb).trans c2,c3⟩
end Go.Proofs.YtmabhhngoklncaaGreatDoor
end
section
namespace Go.Proofs.YtmabhhngoklncaaGreatDoor
open Go.RowKit
structure Sp where
 mach:Int
 mem:Int
 set:List Int
 turn:Int
 rank:Int
def SpV (w:World) (v:Value) (l:List Sp):Prop:=
 ∃a c,v=jS a l.length c/\l.length<=9223372036854775807/\(l≠[]->∃b off,a=some ⟨b,off,none⟩/\b<w.heap.size/\∀j (h:j<l.length),
  w.cell? ⟨b,off+j*5,none⟩=some (jI kQ l[j].mach)/\w.cell? ⟨b,off+j*5+1,none⟩=some (jI kQ l[j].mem)/\(∃u,w.cell? ⟨b,off+j*5+2,none⟩=some u/\Nums w u l[j].set/\l[j].set.length<=9223372036854775807)/\
  w.cell? ⟨b,off+j*5+3,none⟩=some (jI kQ l[j].turn)/\w.cell? ⟨b,off+j*5+4,none⟩=some (jI kQ l[j].rank))
theorem SpV.keep {w w':World} {v:Value} {l:List Sp} (h:SpV w v l) (hB:Below w.heap.size w w'):SpV w' v l:=by
 obtain⟨a,c,e,hl,h⟩:=h;refine⟨a,c,e,hl,fun hA=>?_⟩;obtain⟨b,off,e',hb,hc⟩:=h hA;refine⟨b,off,e',rB hb hB.size,fun j hj=>?_⟩;obtain⟨c0,c1,⟨u,c2,c2',c2''⟩,c3,c4⟩:=hc j hj;exact⟨(hB.cell (p:=⟨b,off+j*5,none⟩) hb).trans c0,(hB.cell (p:=⟨b,off+j*5+1,none⟩) hb).trans c1,⟨u,(hB.cell (p:=⟨b,off+j*5+2,none⟩) hb).trans c2,c2'.keep hB,c2''⟩,(hB.cell (p:=⟨b,off+j*5+3,none⟩) hb).trans c3,(hB.cell (p:=⟨b,off+j*5+4,none⟩) hb).trans c4⟩
end Go.Proofs.YtmabhhngoklncaaGreatDoor
end
end
section
section
namespace Go.Proofs.YtmabhhngoklncaaGreatDoor
open Go.RowKit
def zR (w:World) (v:Value) (l:List (List Int)):Prop:=
 ∃a c,v=jS a l.length c/\l.length<=9223372036854775807/\(l≠[]->∃b off,a=some ⟨b,off,none⟩/\b<w.heap.size/\∀j (h:j<l.length),
  l[j].length<=9223372036854775807/\∃au cu,w.cell? ⟨b,off+j,none⟩=some (jS au l[j].length cu)/\Nums w (jS au l[j].length cu) l[j])
theorem zR.keep {w w':World} {v:Value} {l:List (List Int)} (h:zR w v l) (hB:Below w.heap.size w w'):zR w' v l:=by
 obtain⟨a,c,e,hl,h⟩:=h;refine⟨a,c,e,hl,fun hA=>?_⟩;obtain⟨b,off,e',hb,hc⟩:=h hA;refine⟨b,off,e',rB hb hB.size,fun j hj=>?_⟩;obtain⟨c0,au,cu,c1,c2⟩:=hc j hj;exact⟨c0,au,cu,(hB.cell (p:=⟨b,off+j,none⟩) hb).trans c1,c2.keep hB⟩
structure Ev where
 ins:Int
 outs:Int
 start:Int
 inn:List Int
 next:List (List Int)
end Go.Proofs.YtmabhhngoklncaaGreatDoor
end
section
namespace Go.Proofs.YtmabhhngoklncaaGreatDoor
open Go.RowKit
structure Gm where
 owner:List Int
 prio:List Int
 succ:List (List Int)
 meas:List (List Int)
end Go.Proofs.YtmabhhngoklncaaGreatDoor
end
section
namespace Go.Proofs.YtmabhhngoklncaaGreatDoor
open Go.RowKit
structure Ct where
 ins:Int
 outs:Int
 start:Int
 out:List (List Int)
 next:List (List Int)
end Go.Proofs.YtmabhhngoklncaaGreatDoor
end
end
section
section
namespace Go.Proofs.YtmabhhngoklncaaGreatDoor
inductive Fs where
 |nil
 |cons (op:Int) (name:ByteArray) (val bound:Int) (args rest:Fs)
def Fs.len:Fs->Nat
 | .nil=>0
 | .cons _ _ _ _ _ r=>r.len+1
def Fs.nodes:Fs->Nat
 | .nil=>0
 | .cons _ _ _ _ a r=>a.nodes+r.nodes+1
end Go.Proofs.YtmabhhngoklncaaGreatDoor
end
section
namespace Go.Proofs.YtmabhhngoklncaaGreatDoor
open Go.RowKit
def FAt (w:World):Fs->Nat->Nat->Prop
 | .nil,_,_=>True
 | .cons op nm v bd args rest,b,off=>
  w.cell? ⟨b,off,none⟩=some (jI kQ op)/\w.cell? ⟨b,off+1,none⟩=some (jT nm)/\nm.size<=9223372036854775807/\w.cell? ⟨b,off+2,none⟩=some (jI kQ v)/\w.cell? ⟨b,off+3,none⟩=some (jI kQ bd)/\
  args.len<=9223372036854775807/\(∃a c,w.cell? ⟨b,off+4,none⟩=some (jS a args.len c)/\args.len<=c/\(args.len≠0->∃b' o',a=some ⟨b',o',none⟩/\b'<w.heap.size/\FAt w args b' o'))/\FAt w rest b (off+5)
def FV (w:World) (v:Value) (f:Fs):Prop:=f.len<=9223372036854775807/\∃a c,v=jS a f.len c/\f.len<=c/\(f.len≠0->∃b o,a=some ⟨b,o,none⟩/\b<w.heap.size/\FAt w f b o)
theorem FAt.keep {w w':World} (hB:Below w.heap.size w w'):∀ {f:Fs} {b off:Nat},b<w.heap.size->FAt w f b off->FAt w' f b off
 | .nil,_,_,_,_=>trivial
 | .cons op nm v bd args rest,b,off,hb,⟨c0,c1,c2,c3,c4,c5,⟨a,c,c6,cc,c7⟩,c8⟩=>
  ⟨(hB.cell (p:=⟨b,off,none⟩) hb).trans c0,(hB.cell (p:=⟨b,off+1,none⟩) hb).trans c1,c2,(hB.cell (p:=⟨b,off+2,none⟩) hb).trans c3,(hB.cell (p:=⟨b,off+3,none⟩) hb).trans c4,c5,
   ⟨a,c,(hB.cell (p:=⟨b,off+4,none⟩) hb).trans c6,cc,fun h=>by
    obtain⟨b',o',e,hb',h'⟩:=c7 h;exact⟨b',o',e,rB hb' hB.size,FAt.keep hB hb' h'⟩⟩,FAt.keep hB hb c8⟩
theorem FV.keep {w w':World} {v:Value} {f:Fs} (h:FV w v f) (hB:Below w.heap.size w w'):FV w' v f:=by
 obtain⟨hl,a,c,e,hc,h⟩:=h;refine⟨hl,a,c,e,hc,fun h0=>?_⟩;obtain⟨b,o,e',hb,h'⟩:=h h0;exact⟨b,o,e',rB hb hB.size,FAt.keep hB hb h'⟩
def Fs.drop:Fs->Nat->Fs
 |f,0=>f
 | .nil,_=>.nil
 | .cons _ _ _ _ _ r,j+1=>r.drop j
theorem Fs.drop_len:∀(f:Fs) (j:Nat),(f.drop j).len=f.len - j
 | .nil,0=>rfl
 | .nil,j+1=>by simp[Fs.drop,Fs.len]
 | .cons ..,0=>rfl
 | .cons _ _ _ _ _ r,j+1=>by
  have:=Fs.drop_len r j;simp only[Fs.drop,Fs.len,this];omega
theorem FAt.drop {w:World}:∀ {f:Fs} {b off:Nat} (j:Nat),FAt w f b off->FAt w (f.drop j) b (off+j*5)
 | .nil,_,_,0,_=>trivial
 | .nil,_,_,j+1,_=>trivial
 | .cons _ _ _ _ _ _,_,_,0,h=>h
 | .cons _ _ _ _ _ r,b,off,j+1,h=>by
  have:=FAt.drop j h.2.2.2.2.2.2.2;have e:off+5+j*5=off+(j+1)*5:=by omega
  rw[e] at this;exact this
end Go.Proofs.YtmabhhngoklncaaGreatDoor
end
end
section
section
namespace Go.Proofs.YtmabhhngoklncaaGreatDoor
open Go.RowKit
theorem zI (w:World) (cs:Array Value) (t:TypeId) (j:Nat):(w.alloc (.cells cs t)).cell? ⟨w.heap.size,j,none⟩=cs[j]? :=by
 simp only[rI];rw[rP];rfl
end Go.Proofs.YtmabhhngoklncaaGreatDoor
end
section
namespace Go.Proofs.YtmabhhngoklncaaGreatDoor
structure Cl where
 kind:Int
 sigs:List Sg
 op:Int
 nm:ByteArray
 val:Int
 bd:Int
 args:Fs
 ctrl:Ct
 env:Ev
 spots:List Sp
 game:Gm
 letters:List Int
 res:Fs
end Go.Proofs.YtmabhhngoklncaaGreatDoor
end
end
section
section
namespace Go.Proofs.YtmabhhngoklncaaGreatDoor
open Go.RowKit
def FArgs (w:World) (a:Option Addr) (f:Fs):Prop:=f.len≠0->∃b o,a=some ⟨b,o,none⟩/\b<w.heap.size/\FAt w f b o
theorem FArgs.keep {w w':World} {a:Option Addr} {f:Fs} (h:FArgs w a f) (hB:Below w.heap.size w w'):FArgs w' a f:=fun h0=>by
 obtain⟨b,o,e',hb,h'⟩:=h h0;exact⟨b,o,e',rB hb hB.size,FAt.keep hB hb h'⟩
theorem Fs.drop_nodes:∀(f:Fs) (j:Nat),(f.drop j).nodes<=f.nodes
 | .nil,0=>rD _
 | .nil,j+1=>rD _
 | .cons ..,0=>rD _
 | .cons _ _ _ _ a r,j+1=>by
  have:=Fs.drop_nodes r j;simp only[Fs.drop,Fs.nodes];omega
end Go.Proofs.YtmabhhngoklncaaGreatDoor
end
end
section
section
namespace Go.Proofs.YtmabhhngoklncaaGreatDoor
open Go.RowKit
structure Cv where
 a1:Option Addr
 c1:Nat
 a6:Option Addr
 c6:Nat
 a10:Option Addr
 c10:Nat
 a11:Option Addr
 c11:Nat
 a15:Option Addr
 c15:Nat
 a16:Option Addr
 c16:Nat
 a17:Option Addr
 c17:Nat
 a18:Option Addr
 c18:Nat
 a19:Option Addr
 c19:Nat
 a20:Option Addr
 c20:Nat
 a21:Option Addr
 c21:Nat
 a22:Option Addr
 c22:Nat
 a23:Option Addr
 c23:Nat
def Cv.cells (x:Cv) (c:Cl):Array Value:=
 #[jI kQ c.kind,jS x.a1 c.sigs.length x.c1,jI kQ c.op,jT c.nm,jI kQ c.val,jI kQ c.bd,jS x.a6 c.args.len x.c6,
  jI kQ c.ctrl.ins,jI kQ c.ctrl.outs,jI kQ c.ctrl.start,jS x.a10 c.ctrl.out.length x.c10,jS x.a11 c.ctrl.next.length x.c11,
  jI kQ c.env.ins,jI kQ c.env.outs,jI kQ c.env.start,jS x.a15 c.env.inn.length x.c15,jS x.a16 c.env.next.length x.c16,
  jS x.a17 c.spots.length x.c17,jS x.a18 c.game.owner.length x.c18,jS x.a19 c.game.prio.length x.c19,jS x.a20 c.game.succ.length x.c20,jS x.a21 c.game.meas.length x.c21,
  jS x.a22 c.letters.length x.c22,jS x.a23 c.res.len x.c23]
structure ClV (w:World) (x:Cv) (c:Cl):Prop where
 sigs:SgV w (jS x.a1 c.sigs.length x.c1) c.sigs
 nm:c.nm.size<=9223372036854775807
 args:FV w (jS x.a6 c.args.len x.c6) c.args
 out:zR w (jS x.a10 c.ctrl.out.length x.c10) c.ctrl.out
 next:zR w (jS x.a11 c.ctrl.next.length x.c11) c.ctrl.next
 inn:Nums w (jS x.a15 c.env.inn.length x.c15) c.env.inn
 innL:c.env.inn.length<=9223372036854775807
 enext:zR w (jS x.a16 c.env.next.length x.c16) c.env.next
 spots:SpV w (jS x.a17 c.spots.length x.c17) c.spots
 owner:Nums w (jS x.a18 c.game.owner.length x.c18) c.game.owner
 ownerL:c.game.owner.length<=9223372036854775807
 prio:Nums w (jS x.a19 c.game.prio.length x.c19) c.game.prio
 prioL:c.game.prio.length<=9223372036854775807
 succ:zR w (jS x.a20 c.game.succ.length x.c20) c.game.succ
 meas:zR w (jS x.a21 c.game.meas.length x.c21) c.game.meas
 letters:Nums w (jS x.a22 c.letters.length x.c22) c.letters
 lettersL:c.letters.length<=9223372036854775807
 res:FV w (jS x.a23 c.res.len x.c23) c.res
theorem ClV.keep {w w':World} {x:Cv} {c:Cl} (h:ClV w x c) (hB:Below w.heap.size w w'):ClV w' x c:=
 ⟨h.sigs.keep hB,h.nm,h.args.keep hB,h.out.keep hB,h.next.keep hB,h.inn.keep hB,h.innL,h.enext.keep hB,h.spots.keep hB,h.owner.keep hB,h.ownerL,h.prio.keep hB,h.prioL,h.succ.keep hB,h.meas.keep hB,h.letters.keep hB,h.lettersL,h.res.keep hB⟩
end Go.Proofs.YtmabhhngoklncaaGreatDoor
end
end
section
section
namespace Go.Proofs.YtmabhhngoklncaaGreatDoor
open Go.RowKit
theorem Nums.at {w:World} {a:Option Addr} {c:Nat} {l:List Int} (h:Nums w (jS a l.length c) l) {j:Nat} (hj:j<l.length):∃b o,a=some ⟨b,o,none⟩/\w.cell? ⟨b,o+j,none⟩=some (jI kQ (l.getD j 0)):=by
 obtain⟨a',c',e,h⟩:=h;simp only[Value.slice.injEq,true_and] at e;obtain⟨rfl,rfl⟩:=e;obtain⟨b,o,e,_,hc⟩:=h (fun e=>by rw[e] at hj;simp at hj);exact⟨b,o,e,hc j hj⟩
end Go.Proofs.YtmabhhngoklncaaGreatDoor
end
end
section
section
namespace Go.Proofs.YtmabhhngoklncaaGreatDoor
open Go.RowKit
def dim (p:Nat->Bool) (w:World):World:= {w with heap:=w.heap.mapIdx fun i o=>if p i then .map #[] 0 else o}
theorem zW (p:Nat->Bool) (w:World):(dim p w).heap.size=w.heap.size:=by simp[dim]
theorem zBy (p:Nat->Bool) (w:World) (k:Nat):(dim p w).heap[k]? =(w.heap[k]?).map fun o=>if p k then .map #[] 0 else o:=by simp[dim]
theorem zAr {p:Nat->Bool} {w:World} {a:Addr} {u:Value} (h:(dim p w).cell? a=some u):w.cell? a=some u:=by
 unfold rI at h ⊢;rw[zBy] at h;cases hk:w.heap[a.block]? with
 |none=>rw[hk] at h;simp at h
 |some o=>
  rw[hk] at h;cases hp:p a.block with
  |true=>simp[hp] at h
  |false=>simpa[hp] using h
theorem vQ {p:Nat->Bool} {w:World} {a:Addr} (h:p a.block=false):(dim p w).cell? a=w.cell? a:=by
 unfold rI;rw[zBy,h];cases w.heap[a.block]? <;>rfl
structure Fr (p:Nat->Bool) (B:Nat) (w w':World):Prop where
 os:w'.os=w.os
 tape:w'.tape=w.tape
 output:w'.output=w.output
 size:w.heap.size<=w'.heap.size
 block:∀k,k<B->p k=false->w'.heap[k]? =w.heap[k]?
section
variable {p:Nat->Bool} {B:Nat} {w w' w'':World}
theorem Fr.refl (p:Nat->Bool) (B:Nat) (w:World):Fr p B w w:=⟨rfl,rfl,rfl,rD _,fun _ _ _=>rfl⟩
theorem Fr.trans (h:Fr p B w w') (k:Fr p B w' w''):Fr p B w w'':=⟨k.os.trans h.os,k.tape.trans h.tape,k.output.trans h.output,rK h.size k.size,fun i hi hp=>(k.block i hi hp).trans (h.block i hi hp)⟩
theorem Fr.of_below (h:Below B w w'):Fr p B w w':=⟨h.os,h.tape,h.output,h.size,fun k hk _=>h.block k hk⟩
theorem Fr.mono {B':Nat} (h:Fr p B w w') (hB:B'<=B):Fr p B' w w':=⟨h.os,h.tape,h.output,h.size,fun k hk=>h.block k (rB hk hB)⟩
theorem Fr.drawn (h:Fr p B w w') (n:Nat):Fr p B w (w'.drewN n):=⟨h.os,h.tape,h.output,h.size,h.block⟩
theorem Fr.cell (h:Fr p B w w') {a:Addr} (ha:a.block<B) (hp:p a.block=false):w'.cell? a=w.cell? a:=World.cell?_of_block (h.block _ ha hp)
theorem Fr.alloc (h:Fr p B w w') (hB:B<=w'.heap.size) (o:Obj):Fr p B w (w'.alloc o):=⟨h.os,h.tape,h.output,by have:=h.size;simp;omega,fun k hk hp=>(rE w' o (rB hk hB)).trans (h.block k hk hp)⟩
theorem Fr.setCell (h:Fr p B w w') {a:Addr} (ha:p a.block=true∨B<=a.block) (v:Value):Fr p B w (w'.setCell a v):=by
 refine⟨h.os,h.tape,h.output,by simpa using h.size,fun k hk hp=>?_⟩;rw[heap_setCell_other _ _ _ _ (fun e=>by subst e;exact ha.elim (fun ha=>by rw[hp] at ha;cases ha) (fun ha=>by omega))];exact h.block k hk hp
theorem Fr.grown {row:Option Nat} (h:Fr p B w w') (hg:w'.grownBy w'' row) (hB:B<=w'.heap.size) (hr:∀k,row=some k->p k=true∨B<=k):Fr p B w w'':=by
 refine⟨hg.os.trans h.os,hg.tape.trans h.tape,hg.output.trans h.output,rK h.size hg.size,fun k hk hp=>?_⟩;rw[hg.block k (rB hk hB) (fun e=>(hr k e.symm).elim (fun h1=>by rw[hp] at h1;cases h1) (fun h1=>by omega))];exact h.block k hk hp
theorem Fr.dim (h:Fr p B w w') (hB:B<=w.heap.size):Below B (dim p w) (dim p w'):=by
 refine⟨h.os,h.tape,h.output,by rw[zW,zW];exact h.size,fun k hk=>?_⟩;rw[zBy,zBy];cases hp:p k with
 |false=>rw[h.block k hk hp]
 |true=>
  have h1:k<w.heap.size:=by omega
  have h2:k<w'.heap.size:=rB h1 h.size;rw[Array.getElem?_eq_getElem h1,Array.getElem?_eq_getElem h2];rfl
theorem Nums.up {v:Value} {l:List Int} (h:Nums (Go.Proofs.YtmabhhngoklncaaGreatDoor.dim p w) v l):Nums w v l:=by
 obtain⟨a,c,e,h⟩:=h;refine⟨a,c,e,fun h0=>?_⟩;obtain⟨b,o,e',hb,hc⟩:=h h0;exact⟨b,o,e',by rwa[zW] at hb,fun j hj=>zAr (hc j hj)⟩
end
theorem zR.at {w:World} {a:Option Addr} {c:Nat} {l:List (List Int)} (h:zR w (jS a l.length c) l) {j:Nat} (hj:j<l.length):∃b o au cu,a=some ⟨b,o,none⟩/\w.cell? ⟨b,o+j,none⟩=some (jS au (l.getD j []).length cu)/\Nums w (jS au (l.getD j []).length cu) (l.getD j []):=by
 obtain⟨a',c',e,_,h⟩:=h;simp only[Value.slice.injEq,true_and] at e;obtain⟨rfl,rfl⟩:=e;obtain⟨b,o,e,_,hc⟩:=h (fun e=>by rw[e] at hj;simp at hj);obtain⟨_,au,cu,h2,h4⟩:=hc j hj;have eA:l.getD j []=l[j]:=by simp[hj]
 rw[eA];exact⟨b,o,au,cu,e,h2,h4⟩
section
variable {w w':World} {cb:Nat} {o p:List Int} {s:List (List Int)} {mo un:List Int} {cab n:Nat} {be:List (List Int)} {q:Nat->Bool}
theorem Nums.later {v:Value} {l:List Int} (h:Nums (dim q w) v l) (hF:Fr q w.heap.size w w'):Nums (dim q w') v l:=by
 refine h.keep ?_;have:=hF.dim (rD _);rw[zW];exact this
end
end Go.Proofs.YtmabhhngoklncaaGreatDoor
end
section
namespace Go.Proofs.YtmabhhngoklncaaGreatDoor
open Go.RowKit
def only (a:Nat):Nat->Bool:=fun k=>k==a
end Go.Proofs.YtmabhhngoklncaaGreatDoor
end
end
section
namespace Go.Proofs.YtmabhhngoklncaaGreatDoor
open Go.RowKit
theorem Fs.drop_cons:∀(f:Fs) (j:Nat),j<f.len->∃op nm v bd a,f.drop j=.cons op nm v bd a (f.drop (j+1))
 | .nil,_,h=>by simp[Fs.len] at h
 | .cons op nm v bd a r,0,_=>⟨op,nm,v,bd,a,by cases r<;>rfl⟩
 | .cons _ _ _ _ _ r,j+1,h=>by
  obtain⟨op,nm,v,bd,a,e⟩:=Fs.drop_cons r j (by simpa[Fs.len] using h);exact⟨op,nm,v,bd,a,by simpa[Fs.drop] using e⟩
end Go.Proofs.YtmabhhngoklncaaGreatDoor
end
section
namespace Go.Proofs.YtmabhhngoklncaaGreatDoor
open Go.RowKit
theorem xD (w:World) (a b:Nat):(w.drewN a).drewN b=w.drewN (a+b):=by simp[World.drewN,rQ]
end Go.Proofs.YtmabhhngoklncaaGreatDoor
end
section
namespace Go.Proofs.YtmabhhngoklncaaGreatDoor
open Go.RowKit Go.Sort
variable {n0:Nat}
structure Sub (U U':World):Prop where
 size:U.heap.size<=U'.heap.size
 blk:∀(k:Nat) (cs:Array Value) (T:TypeId) (f:Nat×Nat),U.heap[k]? =some (.cells cs T f)->U'.heap[k]? =some (.cells cs T f)
theorem Sub.cell {U U':World} (h:Sub U U') {a:Addr} {v:Value} (hc:U.cell? a=some v):U'.cell? a=some v:=by
 unfold rI at hc ⊢;cases hk:U.heap[a.block]? with
 |none=>rw[hk] at hc;simp at hc
 |some o=>
  cases o with
  |cells cs T f=>rw[hk] at hc;rw[h.blk _ _ _ _ hk];exact hc
  |_=>rw[hk] at hc;simp at hc
theorem Sub.trans {U V W:World} (h:Sub U V) (k:Sub V W):Sub U W:=⟨rK h.size k.size,fun b cs T f e=>k.blk b cs T f (h.blk b cs T f e)⟩
theorem Sub.fat {U U':World} (h:Sub U U'):∀ {f:Fs} {b o:Nat},FAt U f b o->FAt U' f b o
 | .nil,_,_,_=>trivial
 | .cons op nm v bd args rest,b,o,⟨c0,c1,c2,c3,c4,c5,⟨a,c,c6,cc,c7⟩,c8⟩=>
  ⟨h.cell c0,h.cell c1,c2,h.cell c3,h.cell c4,c5,⟨a,c,h.cell c6,cc,fun h0=>by
   obtain⟨b',o',e,hb,hf⟩:=c7 h0;exact⟨b',o',e,rB hb h.size,h.fat hf⟩⟩,h.fat c8⟩
theorem zCm {p:Nat->Bool} {w:World} {k:Nat} {cs:Array Value} {T:TypeId} {f:Nat×Nat} (h:(dim p w).heap[k]? =some (.cells cs T f)):p k=false/\w.heap[k]? =some (.cells cs T f):=by
 rw[zBy] at h;cases hk:w.heap[k]? with
 |none=>rw[hk] at h;simp at h
 |some o=>
  rw[hk] at h;cases hpk:p k with
  |true=>rw[hpk] at h;simp at h
  |false=>rw[hpk] at h;simpa using h
theorem zBr {p:Nat->Bool} {w:World} {k:Nat} (h:p k=false):(dim p w).heap[k]? =w.heap[k]? :=by
 rw[zBy,h];cases w.heap[k]? <;>rfl
theorem vS (p:Nat->Bool) (w:World):Sub (dim p w) w:=⟨Nat.le_of_eq (zW p w),fun _ _ _ _ h=>(zCm h).2⟩
theorem zE {p q:Nat->Bool} {w w':World} (hs:w.heap.size<=w'.heap.size) (h:∀k,k<w.heap.size->p k=false->q k=false/\w'.heap[k]? =w.heap[k]?):Sub (dim p w) (dim q w'):=
 ⟨by rw[zW,zW];exact hs,fun k cs T f e=>by
  obtain⟨h1,h2⟩:=zCm e;obtain⟨h3,h4⟩:=h k (Array.getElem?_eq_some_iff.1 h2).1 h1;rw[zBr h3,h4];exact h2⟩
end Go.Proofs.YtmabhhngoklncaaGreatDoor
end
section
namespace Go.Proofs.YtmabhhngoklncaaGreatDoor
open Go.RowKit
def zO1 (w:World) (e:Ending) (w':World):Prop:=∃c:Bool,e=jR (jB c)/\Below w.heap.size w w'
end Go.Proofs.YtmabhhngoklncaaGreatDoor
end
section
namespace Go.Proofs.YtmabhhngoklncaaGreatDoor
open Go.RowKit
theorem Fs.drop_end {f:Fs} {k:Nat} (h:f.len<=k):f.drop k=.nil:=by
 have hdl:=Fs.drop_len f k;cases hfd:f.drop k with
 |nil=>rfl
 |cons=>rw[hfd] at hdl;simp[Fs.len] at hdl;omega
end Go.Proofs.YtmabhhngoklncaaGreatDoor
end
namespace Go.Proofs.YtmabhhngoklncaaGreatDoor
variable {w:World}{L zs:List Int}{i n b i' B:Nat}{nv:Value}{fl:Bool}{p:Nat->Bool}
def neu (n:Nat):Nat->Bool:=fun k=>decide (k<n)
theorem zRU (n:Nat):neu n n=false:=by simp[neu]
theorem zC7 {k:Nat} (h:n<=k):neu n k=false:=by simp[neu];omega
theorem zIO (h:∀k,n<=k->p k=false):Sub (dim (neu n) w) (dim p w):=
 zE (rD _) fun k _ hk=>⟨h k (by simpa[neu] using hk),rfl⟩
theorem yG {m:Nat} (h:m<=n):Sub (dim (neu n) w) (dim (neu m) w):=zIO fun _ hk=>zC7 (rK h hk)
theorem Nums.on {U U':World} (h:Sub U U'){v:Value}{l:List Int} (hn:Nums U v l):Nums U' v l:=by
 obtain⟨a,c,e,hn⟩:=hn;refine⟨a,c,e,fun h0=>?_⟩;obtain⟨b,o,e',hb,hc⟩:=hn h0;exact⟨b,o,e',rB hb h.size,fun j hj=>h.cell (hc j hj)⟩
theorem zR.on {U U':World} (h:Sub U U') {v:Value} {l:List (List Int)} (hn:zR U v l):zR U' v l:=by
 obtain⟨a,c,e,hl,hn⟩:=hn;refine⟨a,c,e,hl,fun h0=>?_⟩;obtain⟨b,o,e',hb,hc⟩:=hn h0;refine⟨b,o,e',rB hb h.size,fun j hj=>?_⟩;obtain⟨h1,au,cu,h2,h4⟩:=hc j hj;exact⟨h1,au,cu,h.cell h2,h4.on h⟩
structure Rd (nv:Value) (L:List Int) (q:Nat) (w:World) (i:Nat) (fl:Bool):Prop where
 blk:w.heap[q]? =some (.cells #[nv,jI kQ i,jB fl] 64 (0,0))
 nums:Nums (dim (only q) w) nv L
 le:i<=L.length
 cap:∃a c,nv=jS a L.length c/\L.length<=c
def Good (L:List Int):Prop:=(∀x∈L,0<=x/\x<=65519)/\L.length<=20000
theorem qP (q:Nat):only q q=true:=by simp[only]
theorem Rd.cells {q:Nat} (h:Rd nv L q w i fl):w.cell? ⟨q,0,none⟩=some nv/\w.cell? ⟨q,1,none⟩=some (jI kQ i)/\w.cell? ⟨q,2,none⟩=some (jB fl)/\∀j,w.frozen? ⟨q,j,none⟩=false:=by
 refine⟨?_,?_,?_,fun j=>?_⟩;all_goals simp[rI,rR,h.blk]
theorem Rd.lt {q:Nat} (h:Rd nv L q w i fl):q<w.heap.size:=(Array.getElem?_eq_some_iff.1 h.blk).1
theorem Rd.fail {q:Nat} (h:Rd nv L q w i fl):Rd nv L q (w.setCell ⟨q,2,none⟩ (jB true)) i true:=by
 refine⟨?_,h.nums.later ?_,h.le,h.cap⟩
 ·rw[rL w q 2 _ _ _ h.blk];rfl
 ·exact(Fr.of_below (Below.refl _ _)).setCell (.inl (qP q)) _
theorem Rd.on {q:Nat} (h:Rd nv L q w i fl) (hi:i'<=L.length):Rd nv L q (w.setCell ⟨q,1,none⟩ (jI kQ i')) i' fl:=by
 refine⟨?_,h.nums.later ?_,hi,h.cap⟩
 ·rw[rL w q 1 _ _ _ h.blk];rfl
 ·exact(Fr.of_below (Below.refl _ _)).setCell (.inl (qP q)) _
theorem Rd.later {nv:Value} {L:List Int} {q i:Nat} {fl:Bool} {w w':World} (h:Rd nv L q w i fl) (hB:Below w.heap.size w w'):Rd nv L q w' i fl:=
 ⟨(hB.block q h.lt).trans h.blk,h.nums.later (Fr.of_below hB),h.le,h.cap⟩
theorem Rd.drawn {nv:Value} {L:List Int} {q i:Nat} {fl:Bool} {w:World} (h:Rd nv L q w i fl) (n:Nat):Rd nv L q (w.drewN n) i fl:=
 ⟨h.blk,h.nums.drawn n,h.le,h.cap⟩
theorem zGv {a:Addr}{v:Value} (h:p a.block=true) (hc:(dim p w).cell? a=some v):False:=by
 unfold rI at hc;rw[zBy,h] at hc;cases hk:w.heap[a.block]? with
 |none=>rw[hk] at hc;simp at hc
 |some o=>rw[hk] at hc;simp at hc
theorem Rd.of {q:Nat}{fl':Bool}{w':World} (h:Rd nv L q w i fl) (hF:Fr (only q) w.heap.size w w') (hb:w'.heap[q]? =some (.cells #[nv,jI kQ i',jB fl'] 64 (0,0))) (hi:i'<=L.length):Rd nv L q w' i' fl':=
 ⟨hb,h.nums.later hF,hi,h.cap⟩
def Nx (nv:Value) (L:List Int) (q:Nat) (w:World) (e:Ending) (w':World):Prop:=∃x i' fl',e=jR (jI kQ x)/\0<=x/\x<=65519/\Rd nv L q w' i' fl'/\Fr (only q) w.heap.size w w'
theorem xG {q:Nat} (hL:Good L) (h:Rd nv L q w i fl):Calls rC 19 #[jP (some ⟨q,0,none⟩)] w (Nx nv L q w):=by
 obtain⟨a,c,rfl,hA⟩:=h.nums;obtain⟨c0,c1,c2,hf⟩:=h.cells;have f1:=hf 1;have f2:=hf 2;have hle:=h.le;have HL:=rA hL;have HR:=rA h;have HA:=rA hA;clear hf h hA;have hlen:L.length<=20000:=HL.out.2;have HBad:Hid (∀n,Nx (jS a L.length c) L q w (jR (jI kQ 0)) ((w.drewN n).setCell ⟨q,2,none⟩ (jB true))):=rA fun n=>⟨0,i,true,rfl,by omega,by omega,(HR.out.drawn n).fail,((Fr.refl _ _ _).drawn n).setCell (.inl (qP q)) _⟩
 clear hL;cases fl with
 |true=>
  go_enter Tryz.func19,Tryz.ntmps19;go_wp2_with fail;go_quiet (fail);go_wp2_with fail;go_ret;exact HBad.out _
 |false=>
  by_cases hi:i=L.length
  ·have hd:((i:Int)==(L.length:Int))=true:=by simp[hi]
   go_enter Tryz.func19,Tryz.ntmps19;go_wp2_with fail;go_quiet (fail);go_wp2_with fail;go_ret;exact HBad.out _
  ·have hd:((i:Int)==(L.length:Int))=false:=by simp;omega
   have hlt:i<L.length:=by omega
   obtain⟨b,o,rfl,hb,hc⟩:=HA.out (fun e=>by rw[e] at hlt;simp at hlt);have hx:=HL.out.1 L[i] (rG hlt);have hci:=hc i hlt;have eA:L.getD i 0=L[i]:=by simp[hlt]
   rw[eA] at hci;have hbq:only q b=false:=by
    cases h:only q b with
    |false=>rfl
    |true=>
     exact(zGv h hci).elim
   rw[zW] at hb;have HON:Hid (∀n,Rd (jS (some ⟨b,o,none⟩) L.length c) L q ((w.drewN n).setCell ⟨q,1,none⟩ (jI kQ ((i:Int)+1))) (i+1) false):=rA fun n=>(HR.out.drawn n).on (i':=i+1) (by omega)
   have HFR:Hid (∀n,Fr (only q) w.heap.size w ((w.drewN n).setCell ⟨q,1,none⟩ (jI kQ ((i:Int)+1)))):=rA fun n=>((Fr.refl _ _ _).drawn n).setCell (.inl (qP q)) _
   have hci':=zAr hci;have HX:=rA hx;clear hx hci hc HA eA HBad hi;generalize L[i]=x at*;go_enter Tryz.func19,Tryz.ntmps19;go_wp2_with fail;go_quiet (fail);go_upto_region 5 with fail;have H2:=HON.out nq;have F2:=HFR.out nq;obtain⟨k0,k1, -,kf⟩:=H2.cells;have kx:=(F2.cell (a:=⟨b,o+i,none⟩) hb hbq).trans hci';have HR2:=rA H2;have HF2:=rA F2;clear c0 c1 c2 f1 f2 hci' HON HFR HR H2 F2 kf;generalize (w.drewN nq).setCell ⟨q,1,none⟩ (jI kQ ((i:Int)+1))=w2 at*;go_quiet (fail);go_wp2_with fail;go_ret;exact⟨x,i+1,false,rfl,HX.out.1,HX.out.2,HR2.out.drawn _,HF2.out.drawn _⟩
theorem Tryz.info3: (Tryz.prog.info? 3).map (fun i=>(i.zero,i.size,i.bytes))=some (some (jI kQ 0),1,8):=by kernel_rfl
theorem zM {ops:Array Oper}{o:Oper}{a:Act}{K:Act->World->Prop}{Q:Exit->Act->World->Prop}{E:Prop} (hgd:o.guard=none) (s x:Operand) (t tn:TypeId) (d:Option Tmp) (hd:o.dst=d)
  (ho:o.op=.call {callee:=.builtin .append,args:= #[s,x],argTypes:= #[t,tn]}) (vs vx:Value) (hs:a.eval s=vs) (hx:a.eval x=vx) (v':Value) (w':World) (hr:(rH #[t,tn] o.type #[vs,vx]).run rC w=.ok v' w') (h:K (a.put d v') w'):
  if Region.wanted o (yielded ops a.tmps)=true then Oper.wp rC o a w K Q else E:=by
 subst hd;have e:Region.wanted o (yielded ops a.tmps)=true:=by simp[Region.wanted,hgd]
 rw[if_pos e];exact Lib.wp_append_run w s x t tn ho vs vx hs hx v' w' hr h
theorem Nums.sub {a:Option Addr}{c:Nat} (h:Nums w (jS a L.length c) L) (hc:L.length<=c) (hin:i+n<=L.length):Nums w (jS (if c=i then a else Option.map (fun x=>x.add i) a) n (c - i)) ((L.drop i).take n):=by
 have hlen:((L.drop i).take n).length=n:=by simp;omega
 obtain⟨a',c',e,h⟩:=h;simp only[Value.slice.injEq,true_and] at e;obtain⟨rfl,rfl⟩:=e;refine⟨_,_,by rw[hlen],fun h0=>?_⟩;have hn:0<n:=by
  rcases Nat.eq_zero_or_pos n with rfl|h1
  ·simp at h0
  ·exact h1
 obtain⟨b,o,rfl,hb,hh⟩:=h (fun e=>by rw[e] at hin;simp at hin;omega);refine⟨b,o+i,?_,hb,fun j hj=>?_⟩
 ·rw[if_neg (by omega)]
  simp[Addr.add];try (intro h;omega)
 ·rw[hlen] at hj
  have:=hh (i+j) (by omega);rw[rQ,this];congr 2;simp[List.getD_eq_getElem?_getD,hj]
theorem zCE {ao:Option Addr}{c:Nat}{M:List Int} (hn:Nums w (jS ao M.length c) M) (hl:M.length<=1000000):
  ∃a' c' w',(rH #[22,22] 22 #[jS none 0 0,jS ao M.length c]).run rC w=.ok (jS a' M.length c') w'/\Nums (dim (neu w.heap.size) w') (jS a' M.length c') M/\M.length<=c'/\Below w.heap.size w w':=by
 obtain⟨i0,hi,hz0,hz1,hz2⟩:=info_parts Tryz.info3;obtain⟨a',c',e,h⟩:=hn;simp only[Value.slice.injEq,true_and] at e;obtain⟨rfl,rfl⟩:=e;cases hM:M with
 |nil=>
  refine⟨none,0,w,?_,⟨none,0,rfl,fun h=>absurd rfl h⟩,by simp,Below.refl _ _⟩;cases ao with
  |none=>simp[rH,rO Tryz.underlying22,sizeOf,typeInfo,hi,rS,run_firstCells_none]
  |some p=>
   have:=run_firstCells_some (P:=rC) w 1 0 p 0 c [] rfl (by simp);simp[rH,rO Tryz.underlying22,sizeOf,typeInfo,hi,rS,hz1,this]
 |cons x r=>
  rw[<-hM];obtain⟨b,o,rfl,hb,hh⟩:=h (by rw[hM];simp);have hrun:=run_append_nil (P:=rC) (w:=w) 22 22 3 i0 _ Tryz.underlying22 hi hz0 ⟨b,o,none⟩ M.length c (M.map (Value.int .i64)) (by rw[hz1];simp) (fun j v hj=>by
   simp only[List.getElem?_map,Option.map_eq_some_iff] at hj;obtain⟨n,hn,rfl⟩:=hj;have hlt:j<M.length:=(List.getElem?_eq_some_iff.1 hn).1;have:=hh j hlt;rw[List.getD_eq_getElem?_getD,hn,Option.getD_some] at this;rcases Nat.eq_zero_or_pos j with rfl|h0
   ·simpa[Addr.add] using this
   ·simpa[Addr.add,Nat.pos_iff_ne_zero.1 h0] using this) (by rw[hM];simp) (by omega) (by rw[hz2];omega)
  refine⟨_,_,_,hrun,⟨_,_,rfl,fun _=>⟨_,0,rfl,?_,fun j hj=>?_⟩⟩,grownCap_ge _ _ _ _,(yM (Below.refl _ w) 1).alloc (rD _) _⟩
  ·rw[zW];simp
  ·rw[vQ (show neu w.heap.size w.heap.size=false from zRU _),rF]
   show(World.alloc (w.drewN 1) _).cell? ⟨(w.drewN 1).heap.size,j,none⟩=_;rw[zI];rw[Array.getElem?_append_left (by simpa using hj)];simp[hj]
def Nxn (nv:Value) (L:List Int) (q:Nat) (w:World) (n:Nat) (e:Ending) (w':World):Prop:=∃v M i' fl',e=jR v/\(M.length=n∨M=[])/\Nums (dim (neu w.heap.size) w') v M/\Good M/\Rd nv L q w' i' fl'/\Fr (only q) w.heap.size w w'
def Nxs (nv:Value) (L:List Int) (q:Nat) (w:World) (e:Ending) (w':World):Prop:=∃v M i' fl',e=jR v/\Nums (dim (neu w.heap.size) w') v M/\Good M/\Rd nv L q w' i' fl'/\Fr (only q) w.heap.size w w'
theorem zGL {q:Nat} (hL:Good L) (h:Rd nv L q w i fl) (n:Nat) (hn:n<=200000):Calls rC 90 #[jP (some ⟨q,0,none⟩),jI kQ n] w (Nxn nv L q w n):=by
 obtain⟨a,c,rfl,hA⟩:=h.nums;obtain⟨c0,c1,c2,hf⟩:=h.cells;have f1:=hf 1;have f2:=hf 2;have hle:=h.le;have HL:=rA hL;have HR:=rA h;have HA:=rA hA;clear hf h hA;have hlen:L.length<=20000:=HL.out.2;have HBad:Hid (∀m,Nxn (jS a L.length c) L q w n (jR (jS none 0 0)) ((w.drewN m).setCell ⟨q,2,none⟩ (jB true))):=rA fun m=>⟨_,[],i,true,rfl,.inr rfl,⟨none,0,rfl,fun h=>absurd rfl h⟩,⟨fun x hx=>by simp at hx,by simp⟩,(HR.out.drawn m).fail,((Fr.refl _ _ _).drawn m).setCell (.inl (qP q)) _⟩
 clear hL;cases fl with
 |true=>
  go_enter Tryz.func90,Tryz.ntmps90;go_wp2_with fail;go_quiet (fail);go_wp2_with fail;go_ret;exact HBad.out _
 |false=>
  by_cases hi:(n:Int)>(L.length:Int) - (i:Int)
  ·have hd:decide ((L.length:Int) - (i:Int)<(n:Int))=true:=by simpa using hi
   go_enter Tryz.func90,Tryz.ntmps90;go_wp2_with fail;go_quiet (fail);go_wp2_with fail;go_ret;exact HBad.out _
  ·have hd:decide ((L.length:Int) - (i:Int)<(n:Int))=false:=by simpa using hi
   have hin:i+n<=L.length:=by omega
   have HON:Hid (∀m,Rd (jS a L.length c) L q ((w.drewN m).setCell ⟨q,1,none⟩ (jI kQ ((i:Int)+n))) (i+n) false):=rA fun m=>(HR.out.drawn m).on (i':=i+n) (by omega)
   have HFR:Hid (∀m,Fr (only q) w.heap.size w ((w.drewN m).setCell ⟨q,1,none⟩ (jI kQ ((i:Int)+n)))):=rA fun m=>((Fr.refl _ _ _).drawn m).setCell (.inl (qP q)) _
   clear HBad hi;go_enter Tryz.func90,Tryz.ntmps90;go_wp2_with fail;go_quiet (fail);go_upto_region 5 with fail;have H2:=HON.out nq;have F2:=HFR.out nq;obtain⟨k0,k1, -,kf⟩:=H2.cells;have HR2:=rA H2;have HF2:=rA F2;clear c0 c1 c2 f1 f2 HON HFR HR H2 F2 kf;generalize (w.drewN nq).setCell ⟨q,1,none⟩ (jI kQ ((i:Int)+n))=w2 at*;obtain⟨a',c',e,hc⟩:=HR2.out.cap;simp only[Value.slice.injEq,true_and] at e;obtain⟨rfl,rfl⟩:=e;obtain⟨M,hM,hMn,hMG⟩:∃M:List Int,M.length=n/\Nums w2 (jS (if c=i then a else Option.map (fun x=>x.add i) a) n (c - i)) M/\Good M:=⟨(L.drop i).take n,by simp;omega,HR2.out.nums.up.sub hc hin,fun x hx=>HL.out.1 x (List.mem_of_mem_drop (List.mem_of_mem_take hx)),by simp;omega⟩;subst hM;rcases Decidable.em (c=i) with hci|hci
   ·subst hci
    simp only[if_true,Nat.sub_self] at hMn;obtain⟨a',c',w3,hrun,hN,hcc,hB⟩:=zCE (w:=w2.drew) (hMn.drawn 1) (by omega);have HRUN:=rA hrun;have HN:Hid (Nums (dim (neu w.heap.size) w3) _ _):=rA (hN.on (yG HF2.out.size));have HB:=rA ((yM (Below.refl _ w2) 1).trans hB);have HM:=rA hMG;clear hMn hrun hN hB hMG;have e1:IntKind.i64.wrap (c:Int)=c:=by rw[IntKind.wrap_i64];omega
    have e2:((c:Int)+M.length).toNat - c=M.length:=by omega
    have e3:(c:Int)+M.length<=c:=by omega
    have e4:0<=(c:Int)+M.length:=by omega
    have e5:(c:Int)<=c+M.length:=by omega
    go_region_law (refine zM rfl (.const (jS none 0 0)) (.tmp 48) 22 22 (some 49) rfl rfl _ _ rfl rfl _ _ HRUN.out ?_)
    all_goals
     go_wp2_with fail;go_ret;exact⟨_,M,_,_,rfl,.inl rfl,HN.out,HM.out,HR2.out.later HB.out,HF2.out.trans ((Fr.of_below HB.out).mono HF2.out.size)⟩
   ·simp only[if_neg hci] at hMn
    obtain⟨a',c',w3,hrun,hN,hcc,hB⟩:=zCE (w:=w2.drew) (hMn.drawn 1) (by omega);have HRUN:=rA hrun;have HN:Hid (Nums (dim (neu w.heap.size) w3) _ _):=rA (hN.on (yG HF2.out.size));have HB:=rA ((yM (Below.refl _ w2) 1).trans hB);have HM:=rA hMG;clear hMn hrun hN hB hMG;have e1:IntKind.i64.wrap (i:Int)=i:=by rw[IntKind.wrap_i64];omega
    have e2:((i:Int)+M.length).toNat - i=M.length:=by omega
    have e3:(i:Int)+M.length<=c:=by omega
    have e4:0<=(i:Int)+M.length:=by omega
    have e5:(i:Int)<=i+M.length:=by omega
    go_region_law (refine zM rfl (.const (jS none 0 0)) (.tmp 48) 22 22 (some 49) rfl rfl _ _ rfl rfl _ _ HRUN.out ?_)
    all_goals
     go_wp2_with fail;go_ret;exact⟨_,M,_,_,rfl,.inl rfl,HN.out,HM.out,HR2.out.later HB.out,HF2.out.trans ((Fr.of_below HB.out).mono HF2.out.size)⟩
theorem zHb {q:Nat} (hL:Good L) (h:Rd nv L q w i fl) (n:Nat) (hn:n<=200000):Calls rC 90 #[jP (some ⟨q,0,none⟩),jI kQ n] w (Nxs nv L q w):=
 (zGL hL h n hn).mono fun _ _ ⟨v,M,i',fl',h1,_,h2⟩=>⟨v,M,i',fl',h1,h2⟩
theorem zG6 {q:Nat} (hL:Good L) (h:Rd nv L q w i fl):Calls rC 45 #[jP (some ⟨q,0,none⟩)] w (Nxs nv L q w):=by
 have HN:Hid (Calls rC 19 #[jP (some ⟨q,0,none⟩)] w (Nx nv L q w)):=rA (xG hL h);have HL:=rA hL;clear h hL;go_enter Tryz.func45,Tryz.ntmps45;go_wp2_with fail;refine HN.out.mono ?_;rintro e w2 ⟨x,i2,fl2,rfl,h0,h1,hR,hF⟩;obtain⟨n,rfl⟩:=rJ h0;have HM:=rA (zHb HL.out hR n (by omega));have HF:=rA hF;clear hR hF;go_wp2_with fail;refine HM.out.mono ?_;rintro e w3 ⟨v,M,i3,fl3,rfl,hN,hG,hR,hF⟩;have H3:=rA (show Nxs nv L q w (jR v) w3 from⟨v,M,i3,fl3,rfl,hN.on (yG HF.out.size),hG,hR,HF.out.trans (hF.mono HF.out.size)⟩);clear hN hG hR hF;go_wp2_with fail;go_ret;exact H3.out
theorem Tryz.info5: (Tryz.prog.info? 5).map (fun i=>(i.zero,i.size,i.bytes))=some (some (.int .u8 0),1,1):=by kernel_rfl
def zCV (w:World) (b:Nat) (xs:List Int):Prop:=w.heap[b]? =some (.cells (xs.map (Value.int .u8)).toArray 5 (0,0))
theorem zCV.cell (h:zCV w b zs){j:Nat} (hj:j<zs.length):w.cell? ⟨b,j,none⟩=some (.int .u8 (zs.getD j 0)):=by
 unfold zCV at h;simp[rI,h,hj]
theorem zCV.frozen (h:zCV w b zs) (j:Nat):w.frozen? ⟨b,j,none⟩=false:=by
 unfold zCV at h;simp[rR,h]
theorem zCV.set (h:zCV w b zs) (j:Nat) (x:Int):zCV (w.setCell ⟨b,j,none⟩ (.int .u8 x)) b (zs.set j x):=by
 have:=rL w b j _ 5 (.int .u8 x) h;unfold zCV;rw[this];simp[List.map_set]
theorem zCV.made (w:World) (n:Nat):zCV (w.alloc (.cells (madeCells #[.int .u8 0] n) 5)) w.heap.size (rN n 0):=by
 unfold zCV;rw[rP];congr 2;apply Array.toList_inj.1;rw[toList_madeCells_one];simp
def Nxt (nv:Value) (L:List Int) (q:Nat) (w:World) (e:Ending) (w':World):Prop:=∃nm i' fl',e=jR (jT nm)/\nm.size<=20000/\Rd nv L q w' i' fl'/\Fr (only q) w.heap.size w w'
theorem zLU {q:Nat} (hL:Good L) (h:Rd nv L q w i fl):Calls rC 88 #[jP (some ⟨q,0,none⟩)] w (Nxt nv L q w):=by
 have HN:Hid (Calls rC 45 #[jP (some ⟨q,0,none⟩)] w (Nxs nv L q w)):=rA (zG6 hL h);have HL:=rA hL;clear h hL;go_enter Tryz.func88,Tryz.ntmps88;go_wp2_with fail;refine HN.out.mono ?_;rintro e w2 ⟨v,M,i2,fl2,rfl,hN,hG,hR,hF⟩;obtain⟨a,c,rfl,hM⟩:=hN;have hlen:M.length<=20000:=hG.2;have HG:=rA hG;have HM:=rA hM;have HR:=rA hR;have HF:=rA hF;clear hG hM hR hF;have hmk:∀W:World,(Instr.makeSlice 225 (jI kQ (M.length:Int)) (jI kQ (M.length:Int))).run rC W=.ok (jS (some ⟨W.heap.size,0,none⟩) M.length M.length) (W.alloc (.cells (madeCells #[.int .u8 0] M.length) 5)):=fun W=>by
  obtain⟨i0,hi,hz0,hz1,hz2⟩:=info_parts Tryz.info5;have:=run_make (P:=rC) W 225 5 i0 _ Tryz.underlying225 hi hz0 .i64 .i64 (M.length:Int) (M.length:Int) (by omega) (by omega) (by rw[hz2];omega) (by omega);rw[hz1] at this
  simpa[Value.cells] using this
 go_upto_region 3 with fail;have HB:Hid (zCV (w2.alloc (.cells (madeCells #[.int .u8 0] M.length) 5)) w2.heap.size (rN M.length 0)):=rA (zCV.made _ _);have HW:Hid (Below w2.heap.size w2 (w2.alloc (.cells (madeCells #[.int .u8 0] M.length) 5))):=rA ((Below.refl _ _).alloc (rD _) _);clear hmk;generalize w2.alloc (.cells (madeCells #[.int .u8 0] M.length) 5)=w4 at*;go_wp2_with fail;go_loopw [5,6,14] (fun _ _ i wr=>∃(k:Nat) (xs:List Int),k<=M.length/\i=jI kQ k/\xs.length=M.length/\Hid (zCV wr w2.heap.size xs)/\Hid (Below w2.heap.size w2 wr)) (fun _ _ i _=>M.length - (intOf i).toNat)
 case atStart=>exact⟨0,_,Nat.zero_le _,rfl,by simp,HB,HW⟩
 case round=>
  obtain⟨k,xs,hk,rfl,hxs,HX,HY⟩:=hrel;by_cases hlt:k<M.length
  ·obtain⟨b1,o1,rfl,hb1,hc1⟩:=HM.out (fun e=>by rw[e] at hlt;simp at hlt)
   rw[zW] at hb1;have ck:=(HY.out.cell (p:=⟨b1,o1+k,none⟩) hb1).trans (zAr (hc1 k hlt));have hx:=HG.out.1 M[k] (rG hlt);have eA:M.getD k 0=M[k]:=by simp[hlt]
   rw[eA] at ck;have hd:=dT hlt
   clear eA hc1;generalize M[k]=x at*;by_cases hx2:255<x
   ·have hd2:decide ((255:Int)<x)=true:=by simpa using hx2
    have hR4:=HR.out.later HY.out;obtain⟨-, -,k2,kf⟩:=hR4.cells;have kf2:=kf 2;have HR5:=rA hR4.fail;have HF5:Hid (Fr (only q) w.heap.size w (wr.setCell ⟨q,2,none⟩ (jB true))):=rA ((HF.out.trans ((Fr.of_below HY.out).mono HF.out.size)).setCell (.inl (qP q)) _);clear hR4 kf;go_wp2_with fail;go_ret;exact⟨_,_,_,rfl,by decide,HR5.out,HF5.out⟩
   ·have hd2:decide ((255:Int)<x)=false:=by simpa using hx2
    have hw:IntKind.u8.wrap x=x:=by rw[IntKind.wrap_u8];omega
    have kx:k<xs.length:=by omega
    have y1:=HX.out.cell kx;have y2:=HX.out.frozen k;have HX':Hid (zCV (wr.setCell ⟨w2.heap.size,k,none⟩ (.int .u8 x)) w2.heap.size (xs.set k x)):=rA (HX.out.set k x);have HY':Hid (Below w2.heap.size w2 (wr.setCell ⟨w2.heap.size,k,none⟩ (.int .u8 x))):=rA (HY.out.setCell (rD _) _);go_wp2_with fail;go_roundw
    case rel=>exact⟨k+1,xs.set k x,by omega,by go_num,by simpa using hxs,HX',HY'⟩
    case measure=>simp[intOf];omega
  ·have hd:=dF hlt
   have hcv:=run_convert_bytes_arg (P:=rC) wr 225 5 Tryz.underlying225 Tryz.underlying5 w2.heap.size 0 M.length M.length xs hxs (fun i hi=>by rw[rF];exact HX.out.cell (by omega)) 9 Tryz.underlying9;have HR5:=rA (HR.out.later HY.out);have HF5:Hid (Fr (only q) w.heap.size w wr):=rA (HF.out.trans ((Fr.of_below HY.out).mono HF.out.size));go_wp2_with fail;go_ret;exact⟨_,_,_,rfl,by show(strOfNums xs).data.size<=20000;simp[strOfNums];omega,HR5.out,HF5.out⟩
theorem zCZ {α:Type} {enc:α->List Value} {sz:Nat} (he:∀x,(enc x).length=sz):∀(A:List α) (j c:Nat) (hj:j<A.length),c<sz->(A.flatMap enc)[j*sz+c]? =(enc A[j])[c]?
 |[],j,c,hj,_=>by simp at hj
 |x::A,0,c,_,hc=>by
  rw[List.flatMap_cons,Nat.zero_mul,rF,List.getElem?_append_left (by rw[he];exact hc)];rfl
 |x::A,j+1,c,hj,hc=>by
  rw[List.flatMap_cons,List.getElem?_append_right (by rw[he,rM];omega),he,show(j+1)*sz+c - sz=j*sz+c by rw[rM];omega,zCZ he A j c (by simpa using hj) hc];rfl
theorem pV {α:Type} {enc:α->List Value} {sz:Nat} (he:∀x,(enc x).length=sz):∀A:List α,(A.flatMap enc).length=A.length*sz
 |[]=>by simp
 |x::A=>by rw[List.flatMap_cons,List.length_append,he,pV he A,List.length_cons,rM];omega
theorem zAa (w:World) (cs:List Value) (T:TypeId):∀j u,cs[j]? =some u->(w.alloc (.cells cs.toArray T)).cell? ((⟨w.heap.size,0,none⟩:Addr).add j)=some u:=by
 intro j u hj;have e:(⟨w.heap.size,0,none⟩:Addr).add j=⟨w.heap.size,j,none⟩:=by
  rcases Nat.eq_zero_or_pos j with rfl|h0
  ·simp[Addr.add]
  ·simp[Addr.add,Nat.pos_iff_ne_zero.1 h0]
 rw[e,zI]
 simpa using hj
def zCx (B:Nat) (v:Value):Nat->Bool:=fun k=>decide (k<B)||v.ownBlock==some k
theorem pB {B:Nat} {v:Value} {k:Nat}:zCx B v k=false↔B<=k/\v.ownBlock≠some k:=by
 simp[zCx]
structure AgL {α:Type} (enc:α->List Value) (ok:World->α->Prop) (T:TypeId) (sz B:Nat) (w:World) (v:Value) (A:List α):Prop where
 own:w.ownsRow B T sz v A.length (A.flatMap enc)
 els:∀x∈A,ok (dim (zCx B v) w) x
section
variable {α:Type} {enc:α->List Value} {ok:World->α->Prop} {T:TypeId} {sz B q:Nat} {w w':World} {v v':Value} {A:List α} {x:α}
theorem AgL.nil:AgL enc ok T sz B w (jS none 0 0) []:=⟨World.ownsRow_nil w B T sz,fun x hx=>by cases hx⟩
theorem zH5 (h:w.ownsRow B T sz v A.length (A.flatMap enc)) (hb:∀k,v.ownBlock=some k->w'.heap[k]? =w.heap[k]?):w'.ownsRow B T sz v A.length (A.flatMap enc):=by
 obtain⟨h1,h2⟩:=h;refine⟨h1,?_⟩;rcases h2 with h2|⟨g',cap',cur,e',hB,hh,h3⟩
 ·exact .inl h2
 ·refine .inr ⟨g',cap',cur,e',hB,?_,h3⟩
  rw[hb g' (by rw[e'];rfl)];exact hh
theorem AgL.call (hok:∀U U' x,Sub U U'->ok U x->ok U' x) (h:AgL enc ok T sz B w v A) (hq:q<B) (hF:Fr (only q) w.heap.size w w'):AgL enc ok T sz B w' v A:=by
 refine⟨zH5 h.own fun k hk=>?_,fun x hx=>hok _ _ x (zE hF.size fun k hk hp=>⟨hp,?_⟩) (h.els x hx)⟩
 ·have:=h.own.lt k hk
  exact hF.block k this.2 (by simp[only];omega)
 ·have:=(pB.1 hp).1
  exact hF.block k hk (by simp[only];omega)
theorem AgL.alloc (hok:∀U U' x,Sub U U'->ok U x->ok U' x) (h:AgL enc ok T sz B w v A) (o:Obj):AgL enc ok T sz B (w.alloc o) v A:=
 ⟨h.own.alloc o,fun x hx=>hok _ _ x (zE (by simp) fun k hk hp=>⟨hp,rE w o hk⟩) (h.els x hx)⟩
theorem AgL.push (hok:∀U U' x,Sub U U'->ok U x->ok U' x) (h:AgL enc ok T sz B w v A) (hx:ok (dim (zCx B v) w) x) (hown:w'.ownsRow B T sz v' (A.length+1) (A.flatMap enc++enc x)) (hg:w.grownBy w' v.ownBlock) (hat:v'.ownBlock=v.ownBlock∨v'.ownBlock=some w.heap.size):AgL enc ok T sz B w' v' (A++[x]):=by
 have hs:Sub (dim (zCx B v) w) (dim (zCx B v') w'):=zE hg.size fun k hk hp=>by
  obtain⟨h1,h2⟩:=pB.1 hp;refine⟨pB.2 ⟨h1,fun e=>?_⟩,hg.block k hk fun e=>h2 e.symm⟩;rcases hat with e'|e'
  ·rw[e'] at e;exact h2 e
  ·rw[e'] at e;injection e;omega
 refine⟨by simpa using hown,fun y hy=>?_⟩;rcases List.mem_append.1 hy with hy|hy
 ·exact hok _ _ y hs (h.els y hy)
 ·simp only[List.mem_singleton] at hy
  subst hy;exact hok _ _ _ hs hx
theorem AgL.sees {w0:World} (h:AgL enc ok T sz B w0 v A) (hB:B<=w0.heap.size):Sub (dim (neu w0.heap.size) w) (dim (zCx B v) w):=
 zIO fun k hk=>pB.2 ⟨by omega,fun e=>by have:=(h.own.lt k e).2;omega⟩
theorem AgL.read (hok:∀U U' x,Sub U U'->ok U x->ok U' x) (he:∀x,(enc x).length=sz) (h:AgL enc ok T sz B w v A):∃a c,v=jS a A.length c/\A.length<=c/\(A≠[]->∃b,a=some ⟨b,0,none⟩/\B<=b/\b<w.heap.size/\∀j (hj:j<A.length) (c:Nat) (u:Value),c<sz->(enc A[j])[c]? =some u->(dim (neu B) w).cell? ⟨b,j*sz+c,none⟩=some u)/\∀x∈A,ok (dim (neu B) w) x:=by
 have hels:∀x∈A,ok (dim (neu B) w) x:=fun x hx=>hok _ _ x (zE (rD _) fun k _ hp=>⟨zC7 (pB.1 hp).1,rfl⟩) (h.els x hx)
 rcases h.own.2 with⟨e,hn⟩|⟨g,cap,cur,e,hb,hh,h1,h2,h3⟩
 ·have:A=[]:=List.length_eq_zero_iff.1 hn
  subst this;exact⟨none,0,e,by simp,fun h=>absurd rfl h,hels⟩
 ·subst e
  refine⟨_,cap,rfl,h1,fun _=>⟨g,rfl,hb,(Array.getElem?_eq_some_iff.1 hh).1,fun j hj c u hc hu=>?_⟩,hels⟩;have hj':j*sz+c<A.length*sz:=by
   have:(j+1)*sz<=A.length*sz:=Nat.mul_le_mul_right _ hj;rw[rM] at this;omega
  have:=World.ownsRow.cellAt h.own (j*sz+c) hj';rw[vQ (show neu B g=false from zC7 hb),this,zCZ he A j c hj hc,hu]
end
theorem vZ {α:Type} {enc:α->List Value} {ok:World->α->Prop} {T:TypeId} {sz bytes B:Nat} (hok:∀U U' x,Sub U U'->ok U x->ok U' x) (he:∀x,(enc x).length=sz) {w0 W:World} {ops:Array Oper} {rest:List Oper} {o:Oper} {a:Act} {Q:Exit->Act->World->Prop} (hgd:o.guard=none) (s x:Operand) (t:TypeId)
  (ho:o.op=.call {callee:=.builtin .append,args:= #[s,x],argTypes:= #[t,t]}) (i:TypeInfo) (z:Value) (ht:Tryz.prog.underlying t=some (.slice T)) (hi:Tryz.prog.info? T=some i) (hz:i.zero=some z)
  (hsize:i.size=sz) (hby:i.bytes=bytes) (hzs:z.cells.size=sz) (hsz:0<sz) (hb2:bytes<=1000)
  {v:Value} {A:List α} {y:α} (h:AgL enc ok T sz B W v A) (hx:ok (dim (zCx B v) W) y) (hB:B<=W.heap.size) (hs:a.eval s=v) (g c:Nat) (hxe:a.eval x=jS (some ⟨g,0,none⟩) 1 c)
  (hc:∀j u,(enc y)[j]? =some u->W.cell? ((⟨g,0,none⟩:Addr).add j)=some u) (h1:∀u∈enc y,u.oneCell'=true) (hl:A.length+1<=1000000) {q:Nat} (hq:q<B) (hF:Fr (only q) B w0 W)
  (K:∀v' w',AgL enc ok T sz B w' v' (A++[y])->Fr (only q) B w0 w'->w'.heap[q]? =W.heap[q]?->wpList rC ops Q rest (a.put o.dst v') w'):wpList rC ops Q (o::rest) a W:=by
 refine wpList_append_own_at _ hgd s x t ho B T i z sz bytes ht hi hz hsize hby hzs hsz v A.length (A.flatMap enc) hs h.own ⟨g,0,none⟩ 1 c (enc y) hxe (by rw[he,Nat.one_mul]) hc h1 (by unfold maxLen;omega) ?_ hB ?_
 ·have:(A.length+1)*bytes<=1000000*1000:=Nat.mul_le_mul hl hb2
  omega
 ·intro v' w' hown hg _ hat
  refine K v' w' (h.push hok hx hown hg hat) (hF.grown hg (rK hB (rD _)) fun k hk=>.inr (h.own.lt k hk).1) (hg.block q (rB hq hB) fun e=>?_);have:=(h.own.lt q e.symm).1;omega
theorem Tryz.info68:(Tryz.prog.info? 68).map (fun i=>(i.zero,i.size,i.bytes))=some (some (jG #[jT ⟨#[]⟩,jB false,jI kQ 0]),3,32):=by kernel_rfl
theorem Tryz.info166:(Tryz.prog.info? 166).map (fun i=>(i.zero,i.size,i.bytes))=some (some (jG #[jI kQ 0,jI kQ 0,jS none 0 0,jI kQ 0,jI kQ 0]),5,56):=by kernel_rfl
def sgE (x:Sg):List Value:=[jT x.name,jB x.input,jI kQ x.size]
def zGq (_:World) (x:Sg):Prop:=x.name.size<=20000
theorem zB8 (U U':World) (x:Sg) (_:Sub U U') (h:zGq U x):zGq U' x:=h
theorem AgL.sigs {v:Value}{A:List Sg} (h:AgL sgE zGq 68 3 B w v A) (hl:A.length<=1000000):SgV (dim (neu B) w) v A:=by
 obtain⟨a,c,rfl,_,h1,h2⟩:=AgL.read zB8 (enc:=sgE) (sz:=3) (fun _=>rfl) h;refine⟨a,c,rfl,by omega,fun h0=>?_⟩;obtain⟨b,e,hb,hbs,hc⟩:=h1 h0;refine⟨b,0,e,by rw[zW];exact hbs,fun j hj=>?_⟩;have n:=h2 _ (rG hj);unfold zGq at n;rw[rF];exact⟨hc j hj 0 _ (by omega) rfl,hc j hj 1 _ (by omega) rfl,hc j hj 2 _ (by omega) rfl,by omega⟩
def zRq (nv:Value) (L:List Int) (q:Nat) (w:World) (e:Ending) (w':World):Prop:=∃v A i' fl',e=jR v/\SgV (dim (neu w.heap.size) w') v A/\Rd nv L q w' i' fl'/\Fr (only q) w.heap.size w w'
theorem zE2 {q:Nat} (hL:Good L) (h:Rd nv L q w i fl):Calls rC 39 #[jP (some ⟨q,0,none⟩)] w (zRq nv L q w):=by
 obtain⟨i0,hi,hz0,hz1,hz2⟩:=info_parts Tryz.info68;have HN:Hid (Calls rC 19 #[jP (some ⟨q,0,none⟩)] w (Nx nv L q w)):=rA (xG hL h);have HL:=rA hL;have HQ:Hid (q<w.heap.size):=rA h.lt;have HR0:=rA h;clear h hL;go_enter Tryz.func39,Tryz.ntmps39;go_wp2_with fail;refine HN.out.mono ?_;rintro e w2 ⟨x,i2,fl2,rfl,h0,h1,hR,hF⟩;obtain⟨n,rfl⟩:=rJ h0;have HR:=rA hR;have HF:=rA hF;have hn:n<=65519:=by omega
 clear hR hF h0 h1 HN;go_wp2_with fail;go_loopw [3,4,5,6,7] (fun v n _ _ _ wr=>∃(m:Nat) (A:List Sg) (i:Nat) (fl:Bool),n=jI kQ m/\m+A.length<=65519/\Hid (AgL sgE zGq 68 3 w.heap.size wr v A)/\Hid (Rd nv L q wr i fl)/\Hid (Fr (only q) w.heap.size w wr)) (fun _ n _ _ _ _=>(intOf n).toNat)
 case atStart=>exact⟨n,[],i2,fl2,rfl,by simpa using hn,rA AgL.nil,HR,HF⟩
 case round=>
  obtain⟨m,A,i3,fl3,rfl,hm,HA,HR3,HF3⟩:=hrel;obtain⟨-, -,k2,kf⟩:=HR3.out.cells;clear kf;by_cases hm0:m=0
  ·subst hm0
   have hS:=rA (show zRq nv L q w (jR u3) wr from⟨u3,A,_,_,rfl,HA.out.sigs (by omega),HR3.out,HF3.out⟩);have hd:decide ((0:Int)<((0:Nat):Int))=false:=by simp
   go_wp2_with fail;go_ret;exact hS.out
  ·have hd:decide ((0:Int)<(m:Int))=true:=by simp;omega
   cases fl3 with
   |true=>
    have hS:=rA (show zRq nv L q w (jR u3) wr from⟨u3,A,_,_,rfl,HA.out.sigs (by omega),HR3.out,HF3.out⟩);go_wp2_with fail;go_ret;exact hS.out
   |false=>
    have HT:=rA (zLU HL.out HR3.out);go_wp2_with fail;refine HT.out.mono ?_;rintro e w4 ⟨nm,i4,fl4,rfl,hnm,hR4,hF4⟩;have HN4:=rA (xG HL.out hR4);have HF4:=rA hF4;clear hR4 hF4 k2 HT;go_wp2_with fail;refine HN4.out.mono ?_;rintro e w5 ⟨x5,i5,fl5,rfl,h50,h51,hR5,hF5⟩;have HN5:=rA (xG HL.out hR5);have HF5:=rA (HF4.out.trans (hF5.mono HF4.out.size));clear hR5 hF5 HN4 HF4;go_wp2_with fail;refine HN5.out.mono ?_;rintro e w6 ⟨x6,i6,fl6,rfl,h60,h61,hR6,hF6⟩;have HF6:=rA (HF5.out.trans (hF6.mono HF5.out.size));have HR6:=rA hR6;clear hR6 hF6 HN5 HF5;have HX5:Hid (0<=x5/\x5<=65519):=rA ⟨h50,h51⟩;have HX6:Hid (0<=x6/\x6<=65519):=rA ⟨h60,h61⟩;have HNM:=rA hnm;clear h50 h51 h60 h61 hnm;go_upto_region 6 with fail;have HAG:Hid (∀W,Fr (only q) wr.heap.size wr W->AgL sgE zGq 68 3 w.heap.size W u3 A):=rA fun W h3=>HA.out.call zB8 HQ.out h3
    have HW:Hid (w.heap.size<=wr.heap.size):=rA HF3.out.size;have HFF:Hid (∀W,Fr (only q) wr.heap.size wr W->Fr (only q) w.heap.size w W):=rA fun W h3=>HF3.out.trans (h3.mono HW.out)
    by_cases hx:1<x5
    ·have hd5:decide ((1:Int)<x5)=true:=by simpa using hx
     obtain⟨-, -,k2,kf⟩:=HR6.out.cells;have kf2:=kf 2;have HR7:=rA HR6.out.fail;have HF7:Hid (Fr (only q) wr.heap.size wr (w6.setCell ⟨q,2,none⟩ (jB true))):=rA (HF6.out.setCell (.inl (qP q)) _);clear kf HR6 HF6;go_upto_region 8 with fail;generalize w6.setCell ⟨q,2,none⟩ (jB true)=w7 at*;have HAL:Hid (∀y:Sg,y.name=nm->AgL sgE zGq 68 3 w.heap.size (w7.alloc (.cells #[jT y.name,jB y.input,jI kQ y.size] 68)) u3 A/\Fr (only q) w.heap.size w (w7.alloc (.cells #[jT y.name,jB y.input,jI kQ y.size] 68))/\w.heap.size<=(w7.alloc (.cells #[jT y.name,jB y.input,jI kQ y.size] 68)).heap.size):=rA fun y _=>by
      have h1:=HFF.out _ HF7.out;exact⟨(HAG.out _ HF7.out).alloc zB8 _,h1.alloc h1.size _,by have:=h1.size;simp;omega⟩
     have HBQ:Hid (∀o:Obj,(w7.alloc o).heap[q]? =some (.cells #[nv,jI kQ i6,jB true] 64 (0,0))):=rA fun o=>(rE w7 o HR7.out.lt).trans HR7.out.blk
     go_wp2_with (first
      |(at_builtin;refine vZ (enc:=sgE) (ok:=zGq) (y:=⟨nm,x5==1,x6⟩) zB8 (fun _=>rfl) rfl (.tmp 32) (.tmp 38) 30 rfl i0 _ Tryz.underlying30 hi hz0 hz1 hz2 rfl (by decide) (by decide) (HAL.out ⟨nm,x5==1,x6⟩ rfl).1 (show nm.size<=20000 from HNM.out) (HAL.out ⟨nm,x5==1,x6⟩ rfl).2.2 rfl w7.heap.size 1 rfl (zAa w7 [jT nm,jB (x5==1),jI kQ x6] 68) (by intro u hu;simp[sgE] at hu;rcases hu with rfl|rfl|rfl<;>rfl) (by omega) HQ.out (HAL.out ⟨nm,x5==1,x6⟩ rfl).2.1 ?_;intro v' w8 HG8 HF8 HB8))
     have HR8:=rA (HR0.out.of HF8 (HB8.trans (HBQ.out _)) HR7.out.le);have HG8':=rA HG8;have HF8':=rA HF8;clear HB8 HG8 HF8;go_roundw
     case rel=>exact⟨m - 1,A++[⟨nm,x5==1,x6⟩],_,_,by go_num,by simp;omega,HG8',HR8,HF8'⟩
     case measure=>simp[intOf];omega
    ·have hd5:decide ((1:Int)<x5)=false:=by simpa using hx
     have HR7:=HR6;have HF7:=HF6;clear HR6 HF6;go_upto_region 8 with fail;generalize w6=w7 at*;have HAL:Hid (∀y:Sg,y.name=nm->AgL sgE zGq 68 3 w.heap.size (w7.alloc (.cells #[jT y.name,jB y.input,jI kQ y.size] 68)) u3 A/\Fr (only q) w.heap.size w (w7.alloc (.cells #[jT y.name,jB y.input,jI kQ y.size] 68))/\w.heap.size<=(w7.alloc (.cells #[jT y.name,jB y.input,jI kQ y.size] 68)).heap.size):=rA fun y _=>by
      have h1:=HFF.out _ HF7.out;exact⟨(HAG.out _ HF7.out).alloc zB8 _,h1.alloc h1.size _,by have:=h1.size;simp;omega⟩
     have HBQ:Hid (∀o:Obj,(w7.alloc o).heap[q]? =some (.cells #[nv,jI kQ i6,jB fl6] 64 (0,0))):=rA fun o=>(rE w7 o HR7.out.lt).trans HR7.out.blk
     go_wp2_with (first
      |(at_builtin;refine vZ (enc:=sgE) (ok:=zGq) (y:=⟨nm,x5==1,x6⟩) zB8 (fun _=>rfl) rfl (.tmp 32) (.tmp 38) 30 rfl i0 _ Tryz.underlying30 hi hz0 hz1 hz2 rfl (by decide) (by decide) (HAL.out ⟨nm,x5==1,x6⟩ rfl).1 (show nm.size<=20000 from HNM.out) (HAL.out ⟨nm,x5==1,x6⟩ rfl).2.2 rfl w7.heap.size 1 rfl (zAa w7 [jT nm,jB (x5==1),jI kQ x6] 68) (by intro u hu;simp[sgE] at hu;rcases hu with rfl|rfl|rfl<;>rfl) (by omega) HQ.out (HAL.out ⟨nm,x5==1,x6⟩ rfl).2.1 ?_;intro v' w8 HG8 HF8 HB8))
     have HR8:=rA (HR0.out.of HF8 (HB8.trans (HBQ.out _)) HR7.out.le);have HG8':=rA HG8;have HF8':=rA HF8;clear HB8 HG8 HF8;go_roundw
     case rel=>exact⟨m - 1,A++[⟨nm,x5==1,x6⟩],_,_,by go_num,by simp;omega,HG8',HR8,HF8'⟩
     case measure=>simp[intOf];omega
structure SpA where
 mach:Int
 mem:Int
 set:List Int
 a:Option Addr
 c:Nat
 turn:Int
 rank:Int
def spE (x:SpA):List Value:=[jI kQ x.mach,jI kQ x.mem,jS x.a x.set.length x.c,jI kQ x.turn,jI kQ x.rank]
def zHA (w:World) (x:SpA):Prop:=Nums w (jS x.a x.set.length x.c) x.set/\x.set.length<=20000
theorem zB2 (U U':World) (x:SpA) (hs:Sub U U') (h:zHA U x):zHA U' x:=⟨h.1.on hs,h.2⟩
def SpA.sp (x:SpA):Sp:=⟨x.mach,x.mem,x.set,x.turn,x.rank⟩
theorem AgL.spots {v:Value}{A:List SpA} (h:AgL spE zHA 166 5 B w v A) (hl:A.length<=1000000):SpV (dim (neu B) w) v (A.map SpA.sp):=by
 obtain⟨a,c,rfl,_,h1,h2⟩:=AgL.read zB2 (enc:=spE) (sz:=5) (fun _=>rfl) h;refine⟨a,c,by simp,by simp;omega,fun h0=>?_⟩;obtain⟨b,e,hb,hbs,hc⟩:=h1 (by simpa using h0);refine⟨b,0,e,by rw[zW];exact hbs,fun j hj=>?_⟩;have hj':j<A.length:=by simpa using hj
 have n:=h2 _ (rG hj');unfold zHA at n;rw[rF,List.getElem_map];exact⟨hc j hj' 0 _ (by omega) rfl,hc j hj' 1 _ (by omega) rfl,⟨_,hc j hj' 2 _ (by omega) rfl,n.1,by have:=n.2;show _<=_;simp[SpA.sp];omega⟩,hc j hj' 3 _ (by omega) rfl,hc j hj' 4 _ (by omega) rfl⟩
def zTD (nv:Value) (L:List Int) (q:Nat) (w:World) (e:Ending) (w':World):Prop:=∃v A i' fl',e=jR v/\SpV (dim (neu w.heap.size) w') v A/\Rd nv L q w' i' fl'/\Fr (only q) w.heap.size w w'
theorem zMS {q:Nat} (hL:Good L) (h:Rd nv L q w i fl):Calls rC 42 #[jP (some ⟨q,0,none⟩)] w (zTD nv L q w):=by
 obtain⟨i0,hi,hz0,hz1,hz2⟩:=info_parts Tryz.info166;have HN:Hid (Calls rC 19 #[jP (some ⟨q,0,none⟩)] w (Nx nv L q w)):=rA (xG hL h);have HL:=rA hL;have HQ:Hid (q<w.heap.size):=rA h.lt;have HR0:=rA h;clear h hL;go_enter Tryz.func42,Tryz.ntmps42;go_wp2_with fail;refine HN.out.mono ?_;rintro e w2 ⟨x,i2,fl2,rfl,h0,h1,hR,hF⟩;obtain⟨n,rfl⟩:=rJ h0;have HR:=rA hR;have HF:=rA hF;have hn:n<=65519:=by omega
 clear hR hF h0 h1 HN;go_wp2_with fail;go_loopw [3,4] (fun v n wr=>∃(m:Nat) (A:List SpA) (i:Nat) (fl:Bool),n=jI kQ m/\m+A.length<=65519/\Hid (AgL spE zHA 166 5 w.heap.size wr v A)/\Hid (Rd nv L q wr i fl)/\Hid (Fr (only q) w.heap.size w wr)) (fun _ n _=>(intOf n).toNat)
 case atStart=>exact⟨n,[],i2,fl2,rfl,by simpa using hn,rA AgL.nil,HR,HF⟩
 case round=>
  obtain⟨m,A,i3,fl3,rfl,hm,HA,HR3,HF3⟩:=hrel;obtain⟨-, -,k2,kf⟩:=HR3.out.cells;clear kf;have hS:=rA (show zTD nv L q w (jR u3) wr from⟨u3,_,_,_,rfl,HA.out.spots (by omega),HR3.out,HF3.out⟩);by_cases hm0:m=0
  ·subst hm0
   have hd:decide ((0:Int)<((0:Nat):Int))=false:=by simp
   go_wp2_with fail;go_ret;exact hS.out
  ·have hd:decide ((0:Int)<(m:Int))=true:=by simp;omega
   cases fl3 with
   |true=>
    go_wp2_with fail;go_ret;exact hS.out
   |false=>
    have HT:=rA (xG HL.out HR3.out);clear hS;go_wp2_with fail;refine HT.out.mono ?_;rintro e w4 ⟨x4,i4,fl4,rfl, -, -,hR4,hF4⟩;have HN4:=rA (xG HL.out hR4);have HF4:=rA hF4;clear hR4 hF4 k2 HT;go_wp2_with fail;refine HN4.out.mono ?_;rintro e w5 ⟨x5,i5,fl5,rfl, -, -,hR5,hF5⟩;have HN5:=rA (zG6 HL.out hR5);have HF5:=rA (HF4.out.trans (hF5.mono HF4.out.size));clear hR5 hF5 HN4 HF4;go_wp2_with fail;refine HN5.out.mono ?_;rintro e w6 ⟨v6,M,i6,fl6,rfl,hM6,hG6,hR6,hF6⟩;obtain⟨sa,sc,rfl,hM7⟩:=hM6;have HM6:Hid (Nums (dim (neu wr.heap.size) w6) (jS sa M.length sc) M):=rA (Nums.on (yG HF5.out.size) ⟨sa,sc,rfl,hM7⟩);have HM:=rA hG6.2;have HN6:=rA (xG HL.out hR6);have HF6:=rA (HF5.out.trans (hF6.mono HF5.out.size));clear hR6 hF6 HN5 HF5 hG6 hM7;go_wp2_with fail;refine HN6.out.mono ?_;rintro e w7 ⟨x7,i7,fl7,rfl, -, -,hR7,hF7⟩;have HN7:=rA (xG HL.out hR7);have HF7:=rA (HF6.out.trans (hF7.mono HF6.out.size));have HS7:Hid (Fr (only q) w6.heap.size w6 w7):=rA hF7;clear hR7 hF7 HN6;go_wp2_with fail;refine HN7.out.mono ?_;rintro e w8 ⟨x8,i8,fl8,rfl, -, -,hR8,hF8⟩;have HF8:=rA (HF7.out.trans (hF8.mono HF7.out.size));have HS8:Hid (Fr (only q) w6.heap.size w6 w8):=rA (HS7.out.trans (hF8.mono HS7.out.size));have HR8:=rA hR8;have HQR:Hid (q<wr.heap.size):=rA HR3.out.lt;have HOK:Hid (zHA (dim (zCx w.heap.size u3) w8) ⟨x4,x5,M,sa,sc,x7,x8⟩):=rA (zB2 _ _ _ (HA.out.sees HF3.out.size) ⟨HM6.out.on (zE HS8.out.size fun k hk hp=>⟨hp,HS8.out.block k hk (by have:=HQR.out;simp[neu] at hp;simp[only];omega)⟩),HM.out⟩);have HAG:Hid (AgL spE zHA 166 5 w.heap.size w8 u3 A):=rA (HA.out.call zB2 HQ.out HF8.out);have HFW:Hid (Fr (only q) w.heap.size w w8):=rA (HF3.out.trans (HF8.out.mono HF3.out.size));have HAL:Hid (∀o:Obj,AgL spE zHA 166 5 w.heap.size (w8.alloc o) u3 A/\Fr (only q) w.heap.size w (w8.alloc o)/\w.heap.size<=(w8.alloc o).heap.size/\zHA (dim (zCx w.heap.size u3) (w8.alloc o)) ⟨x4,x5,M,sa,sc,x7,x8⟩):=rA fun o=>
     ⟨HAG.out.alloc zB2 _,HFW.out.alloc HFW.out.size _,by have:=HFW.out.size;simp;omega,zB2 _ _ _ (zE (by simp) fun k hk hp=>⟨hp,rE w8 o hk⟩) HOK.out⟩
    have HBQ:Hid (∀o:Obj,(w8.alloc o).heap[q]? =some (.cells #[nv,jI kQ i8,jB fl8] 64 (0,0))):=rA fun o=>(rE w8 o HR8.out.lt).trans HR8.out.blk
    clear hF8 hR8 HN7 HF7 HF6 HS7 HS8;go_wp2_with (first
     |(at_builtin;refine vZ (enc:=spE) (ok:=zHA) (y:=⟨x4,x5,M,sa,sc,x7,x8⟩) zB2 (fun _=>rfl) rfl (.tmp 18) (.tmp 30) 39 rfl i0 _ Tryz.underlying39 hi hz0 hz1 hz2 rfl (by decide) (by decide) (HAL.out _).1 (HAL.out _).2.2.2 (HAL.out _).2.2.1 rfl w8.heap.size 1 rfl (zAa w8 [jI kQ x4,jI kQ x5,jS sa M.length sc,jI kQ x7,jI kQ x8] 166) (by intro u hu;simp[spE] at hu;rcases hu with rfl|rfl|rfl|rfl|rfl<;>rfl) (by omega) HQ.out (HAL.out _).2.1 ?_;intro v' w9 HG9 HF9 HB9))
    have HR9:=rA (HR0.out.of HF9 (HB9.trans (HBQ.out _)) HR8.out.le);have HG9':=rA HG9;have HF9':=rA HF9;clear HB9 HG9 HF9;go_roundw
    case rel=>exact⟨m - 1,A++[⟨x4,x5,M,sa,sc,x7,x8⟩],_,_,by go_num,by simp;omega,HG9',HR9,HF9'⟩
    case measure=>simp[intOf];omega
def qM (B:Nat) (v1 v2 v3:Value):Nat->Bool:=fun k=>decide (k<B)||v1.ownBlock==some k||v2.ownBlock==some k||v3.ownBlock==some k
theorem zAl {B:Nat} {v1 v2 v3:Value} {k:Nat}:qM B v1 v2 v3 k=false↔B<=k/\v1.ownBlock≠some k/\v2.ownBlock≠some k/\v3.ownBlock≠some k:=by
 simp[qM,and_assoc]
structure Tri (T1 T2 T3:TypeId) (B:Nat) (w:World) (v1 v2 v3:Value) (C1 C2 C3:List Value):Prop where
 o1:w.ownsRow B T1 1 v1 C1.length C1
 o2:w.ownsRow B T2 1 v2 C2.length C2
 o3:w.ownsRow B T3 1 v3 C3.length C3
 n12:∀k,v1.ownBlock=some k->v2.ownBlock≠some k
 n13:∀k,v1.ownBlock=some k->v3.ownBlock≠some k
 n23:∀k,v2.ownBlock=some k->v3.ownBlock≠some k
section
variable {T1 T2 T3:TypeId} {B q:Nat} {w w':World} {v1 v2 v3 v':Value} {C1 C2 C3:List Value} {u:Value}
theorem Tri.rot (h:Tri T1 T2 T3 B w v1 v2 v3 C1 C2 C3):Tri T2 T3 T1 B w v2 v3 v1 C2 C3 C1:=
 ⟨h.o2,h.o3,h.o1,h.n23,fun k e e'=>h.n12 k e' e,fun k e e'=>h.n13 k e' e⟩
theorem Tri.nil:Tri T1 T2 T3 B w (jS none 0 0) (jS none 0 0) (jS none 0 0) [] [] []:=
 ⟨World.ownsRow_nil w B T1 1,World.ownsRow_nil w B T2 1,World.ownsRow_nil w B T3 1,fun k e=>by simp[Value.ownBlock] at e,fun k e=>by simp[Value.ownBlock] at e,fun k e=>by simp[Value.ownBlock] at e⟩
theorem zAv {T:TypeId} {v:Value} {n:Nat} {C:List Value} (h:w.ownsRow B T 1 v n C) (hb:∀k,v.ownBlock=some k->w'.heap[k]? =w.heap[k]?):w'.ownsRow B T 1 v n C:=by
 obtain⟨h1,h2⟩:=h;refine⟨h1,?_⟩;rcases h2 with h2|⟨g',cap',cur,e',hB,hh,h3⟩
 ·exact .inl h2
 ·refine .inr ⟨g',cap',cur,e',hB,?_,h3⟩
  rw[hb g' (by rw[e'];rfl)];exact hh
theorem Tri.keep (h:Tri T1 T2 T3 B w v1 v2 v3 C1 C2 C3) (hb:∀k,B<=k->k<w.heap.size->w'.heap[k]? =w.heap[k]?):Tri T1 T2 T3 B w' v1 v2 v3 C1 C2 C3:=
 ⟨zAv h.o1 fun k hk=>hb k (h.o1.lt k hk).1 (h.o1.lt k hk).2,zAv h.o2 fun k hk=>hb k (h.o2.lt k hk).1 (h.o2.lt k hk).2,zAv h.o3 fun k hk=>hb k (h.o3.lt k hk).1 (h.o3.lt k hk).2,h.n12,h.n13,h.n23⟩
theorem xZ (hs:w.heap.size<=w'.heap.size) (hb:∀k,B<=k->k<w.heap.size->w'.heap[k]? =w.heap[k]?):Sub (dim (qM B v1 v2 v3) w) (dim (qM B v1 v2 v3) w'):=
 zE hs fun k hk hp=>⟨hp,hb k (zAl.1 hp).1 hk⟩
theorem zCr {w0:World} (h:Tri T1 T2 T3 B w0 v1 v2 v3 C1 C2 C3) (hB:B<=w0.heap.size):Sub (dim (neu w0.heap.size) w) (dim (qM B v1 v2 v3) w):=
 zIO fun k hk=>zAl.2 ⟨by omega,fun e=>by have:=(h.o1.lt k e).2;omega,fun e=>by have:=(h.o2.lt k e).2;omega,fun e=>by have:=(h.o3.lt k e).2;omega⟩
theorem zJ8:Sub (dim (qM B v1 v2 v3) w) (dim (neu B) w):=zE (rD _) fun k _ hp=>⟨zC7 (zAl.1 hp).1,rfl⟩
theorem zAH {T:TypeId} {v:Value} {n:Nat} {C:List Value} (h:w.ownsRow B T 1 v n C):∃a c,v=jS a n c:=by
 rcases h.2 with⟨e,hn⟩|⟨g,cap,cur,e,_⟩
 ·exact⟨none,0,by rw[e,hn]⟩
 ·exact⟨_,_,e⟩
theorem Tri.forms (h:Tri T1 T2 T3 B w v1 v2 v3 C1 C2 C3):∃a1 c1 a2 c2 a3 c3,v1=jS a1 C1.length c1/\v2=jS a2 C2.length c2/\v3=jS a3 C3.length c3:=by
 obtain⟨a1,c1,e1⟩:=zAH h.o1;obtain⟨a2,c2,e2⟩:=zAH h.o2;obtain⟨a3,c3,e3⟩:=zAH h.o3;exact⟨a1,c1,a2,c2,a3,c3,e1,e2,e3⟩
theorem Tri.push (h:Tri T1 T2 T3 B w v1 v2 v3 C1 C2 C3) (hown:w'.ownsRow B T1 1 v' (C1.length+1) (C1++[u])) (hg:w.grownBy w' v1.ownBlock) (hat:v'.ownBlock=v1.ownBlock∨v'.ownBlock=some w.heap.size):Tri T1 T2 T3 B w' v' v2 v3 (C1++[u]) C2 C3/\Sub (dim (qM B v1 v2 v3) w) (dim (qM B v' v2 v3) w'):=by
 have ne:∀(x:Value) (T:TypeId) (n:Nat) (C:List Value),w.ownsRow B T 1 x n C->(∀k,v1.ownBlock=some k->x.ownBlock≠some k)->∀k,v'.ownBlock=some k->x.ownBlock≠some k:=fun x T n C ho hn k e e'=>by
  rcases hat with e2|e2
  ·rw[e2] at e;exact hn k e e'
  ·rw[e2] at e;injection e with e;have:=(ho.lt k e').2;omega
 refine⟨⟨by simpa using hown,zAv h.o2 fun k hk=>hg.block k (h.o2.lt k hk).2 fun e=>h.n12 k e.symm hk,zAv h.o3 fun k hk=>hg.block k (h.o3.lt k hk).2 fun e=>h.n13 k e.symm hk,ne _ _ _ _ h.o2 h.n12,ne _ _ _ _ h.o3 h.n13,h.n23⟩,zE hg.size fun k hk hp=>?_⟩;obtain⟨h1,h2,h3,h4⟩:=zAl.1 hp;refine⟨zAl.2 ⟨h1,fun e=>?_,h3,h4⟩,hg.block k hk fun e=>h2 e.symm⟩;rcases hat with e'|e'
 ·rw[e'] at e;exact h2 e
 ·rw[e'] at e;injection e;omega
theorem Tri.app (h:Tri T1 T2 T3 B w v1 v2 v3 C1 C2 C3) (t:TypeId) (i:TypeInfo) (z:Value) (bytes:Nat) (ht:Tryz.prog.underlying t=some (.slice T1)) (hi:Tryz.prog.info? T1=some i) (hz:i.zero=some z)
  (hsize:i.size=1) (hby:i.bytes=bytes) (hzs:z.cells.size=1) (hb2:bytes<=1000) (hB:B<=w.heap.size) (hu:u.oneCell'=true) (hl:C1.length+1<=1000000) (TT:TypeId):
  ∃v' w',(rH #[t,t] t #[v1,jS (some ⟨w.heap.size,0,none⟩) 1 1]).run rC (w.alloc (.cells #[u] TT))=.ok v' w'/\Tri T1 T2 T3 B w' v' v2 v3 (C1++[u]) C2 C3/\Sub (dim (qM B v1 v2 v3) w) (dim (qM B v' v2 v3) w')/\
   (∀k,k<B->w'.heap[k]? =w.heap[k]?)/\(∀A:World,∀p,Fr p B A w->Fr p B A w'):=by
 have h6:Tri T1 T2 T3 B (w.alloc (.cells #[u] TT)) v1 v2 v3 C1 C2 C3:=h.keep fun k _ hk=>rE w _ hk
 obtain⟨v',w',hr,hown,hg, -,hat⟩:=run_append_own_at (P:=rC) (w.alloc (.cells #[u] TT)) B t t T1 i z 1 bytes ht hi hz hsize hby hzs (by omega) v1 C1.length C1 h6.o1 ⟨w.heap.size,0,none⟩ 1 1 [u] rfl (cell_one_new w u TT) (by intro x hx;simp at hx;subst hx;exact hu) (by unfold maxLen;omega)
  (by
    have:(C1.length+1)*bytes<=1000000*1000:=Nat.mul_le_mul hl hb2;omega) (by simp;omega)
 obtain⟨ht,hs⟩:=h6.push (u:=u) hown hg hat;refine⟨v',w',hr,ht,(xZ (by simp) fun k _ hk=>rE w _ hk).trans hs,fun k hk=>?_,fun A p hF=>?_⟩
 ·rw[hg.block k (by simp;omega) fun e=>by have:=(h6.o1.lt k e.symm).1;omega]
  exact rE w _ (by omega)
 ·exact(hF.alloc hB _).grown hg (by simp;omega) fun k hk=>.inr (h6.o1.lt k hk).1
theorem zCW {v:Value} {A:List Int} (h:w.ownsRow B 3 1 v (A.map (Value.int .i64)).length (A.map (Value.int .i64))):Nums (dim (neu B) w) v A:=by
 rcases h.2 with⟨e,hn⟩|⟨g,cap,cur,e,hb,hh,h1,h2,h3⟩
 ·have:A=[]:=List.length_eq_zero_iff.1 (by simpa using hn)
  subst this;exact⟨none,0,e,fun h=>absurd rfl h⟩
 ·subst e
  refine⟨_,cap,by simp,fun _=>⟨g,0,rfl,by rw[zW];exact(Array.getElem?_eq_some_iff.1 hh).1,fun j hj=>?_⟩⟩;have:=World.ownsRow.cellAt h j (by simpa using hj);rw[vQ (show neu B g=false from zC7 hb),rF,this];simp[hj]
structure Rw where
 l:List Int
 a:Option Addr
 c:Nat
def Rw.v (x:Rw):Value:=jS x.a x.l.length x.c
def zFV (w:World) (x:Rw):Prop:=Nums w x.v x.l/\x.l.length<=1000000
theorem qT (U U':World) (x:Rw) (hs:Sub U U') (h:zFV U x):zFV U' x:=⟨h.1.on hs,h.2⟩
theorem zC2 {v:Value} {A:List Rw} (h:w.ownsRow B 22 1 v (A.map Rw.v).length (A.map Rw.v)) (hA:∀x∈A,zFV (dim (neu B) w) x) (hl:A.length<=1000000):zR (dim (neu B) w) v (A.map Rw.l):=by
 rcases h.2 with⟨e,hn⟩|⟨g,cap,cur,e,hb,hh,h1,h2,h3⟩
 ·have:A=[]:=List.length_eq_zero_iff.1 (by simpa using hn)
  subst this;exact⟨none,0,e,by simp,fun h=>absurd rfl h⟩
 ·subst e
  refine⟨_,cap,by simp,by simp;omega,fun _=>⟨g,0,rfl,by rw[zW];exact(Array.getElem?_eq_some_iff.1 hh).1,fun j hj=>?_⟩⟩;have hj':j<A.length:=by simpa using hj
  have:=World.ownsRow.cellAt h j (by simpa using hj);have hx:=hA _ (rG hj');unfold zFV at hx;rw[List.getElem_map];refine⟨by omega,A[j].a,A[j].c,?_,hx.1⟩;rw[vQ (show neu B g=false from zC7 hb),rF,this];simp[hj',Rw.v]
end
