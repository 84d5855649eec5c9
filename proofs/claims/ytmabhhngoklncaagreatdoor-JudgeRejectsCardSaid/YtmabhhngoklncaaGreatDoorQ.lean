/- Rows of elements of any kind, from a block's start, and append to them -/
import Derived.Test.YtmabhhngoklncaaGreatDoorO
set_option maxRecDepth 100000
set_option maxHeartbeats 40000000
set_option linter.all false
open Go.Lib renaming hid->rA
open Go.Proofs.Tryz renaming prog->rB
open Nat renaming lt_of_lt_of_le->rC,mul_le_mul_right->rF,add_mul->rH,le_trans->rJ,le_refl->rL,zero_le->rM,add_zero->rU,not_lt_zero->rW,mul_comm->rX
open List renaming length_append->rD,mem_append_left->rI,size_toArray->rQ,getElem?_toArray->rS
open Go renaming heap_alloc_old->rE,heap_setCell_other->rK,heap_alloc_new->rT,heap_setCell_same->rV
open Go.World renaming cell?_of_block->rG,cell?->rO,frozen?->rR
open Go.Builtin renaming append_->rN
open Go.Value renaming int->jI,slice->jS,pointer->jP,bool->jB,string->jT,agg->jG,tuple->jU
open Go.IntKind renaming i64->kQ
open Go.Ending renaming returned->jR
open Go Go.RowKit Go.Sort
namespace Go.Proofs.YtmabhhngoklncaaGreatDoor
variable {w:World}{a:Option Addr}{cap B c:Nat}
def pO {α:Type} (enc:α->List Value) (k:Nat) (W:World) (blk cap:Nat) (xs:List α):Prop:=
 xs.length<=cap/\∃cs T,W.heap[blk]? =some (.cells cs T (0,0))/\cs.size=cap*k/\∀j (h:j<xs.length) c,c<k->cs[j*k+c]? =(enc xs[j])[c]?
def zH {α:Type} (enc:α->List Value) (k:Nat) (W:World) (lo:Nat) (a:Option Addr) (cap:Nat) (xs:List α):Prop:=
 (a=none/\xs=[]/\cap=0)∨∃blk,a=some ⟨blk,0,none⟩/\lo<=blk/\pO enc k W blk cap xs
structure TyG (t e k:Nat):Prop where
 ht:Tryz.prog.underlying t=some (.slice e)
 hi:∃z bt,(Tryz.prog.info? e).map (fun i=>(i.zero,i.size,i.bytes))=some (some z,k,bt)/\z.cells.size=k/\bt<=64
structure zDi (lo:Nat) (W W':World) (a a':Option Addr):Prop where
 row:∃row,W.grownBy W' row/\∀q,row=some q->lo<=q/\a=some ⟨q,0,none⟩
 dr:W.drawn<=W'.drawn
 at':∀q,a'=some ⟨q,0,none⟩->a=some ⟨q,0,none⟩∨q=W.heap.size
section
variable {α:Type} {enc:α->List Value} {k lo cap blk:Nat} {W W':World} {a a':Option Addr} {xs:List α}
theorem pO.lt (h:pO enc k W blk cap xs):blk<W.heap.size:=by
 obtain⟨_,cs,T,hb,_⟩:=h;exact(Array.getElem?_eq_some_iff.1 hb).1
theorem pO.frozen (h:pO enc k W blk cap xs) (e:Nat):W.frozen? ⟨blk,e,none⟩=false:=by
 obtain⟨_,cs,T,hb,_⟩:=h;simp[rR,hb]
theorem pO.of_block (h:pO enc k W blk cap xs) (hb:W'.heap[blk]? =W.heap[blk]?):pO enc k W' blk cap xs:=by
 obtain⟨h1,cs,T,h2,h3⟩:=h;exact⟨h1,cs,T,hb.trans h2,h3⟩
theorem pO.cell (h:pO enc k W blk cap xs) {j:Nat} (hj:j<xs.length) {c:Nat} {u:Value} (hc:c<k) (hu:(enc xs[j])[c]? =some u):W.cell? ⟨blk,j*k+c,none⟩=some u:=by
 obtain⟨_,cs,T,hb,hs,hcc⟩:=h;have:=hcc j hj c hc;rw[hu] at this;simp[rO,hb,this]
theorem zH.le (h:zH enc k W lo a cap xs):xs.length<=cap:=by
 rcases h with⟨_,rfl,_⟩|⟨_,_,_,h⟩
 ·simp
 ·exact h.1
theorem zH.low {lo':Nat} (h:zH enc k W lo a cap xs) (hl:lo'<=lo):zH enc k W lo' a cap xs:=by
 rcases h with h|⟨blk,e,h1,h2⟩
 ·exact .inl h
 ·exact .inr ⟨blk,e,rJ hl h1,h2⟩
theorem zH.block (h:zH enc k W lo a cap xs) (hb:∀q,a=some ⟨q,0,none⟩->W'.heap[q]? =W.heap[q]?):zH enc k W' lo a cap xs:=by
 rcases h with h|⟨blk,e,h1,h2⟩
 ·exact .inl h
 ·exact .inr ⟨blk,e,h1,h2.of_block (hb blk e)⟩
theorem zH.lt (h:zH enc k W lo a cap xs) {q:Nat} (ha:a=some ⟨q,0,none⟩):q<W.heap.size/\lo<=q:=by
 rcases h with⟨e,_⟩|⟨blk,e,h1,h2⟩
 ·rw[e] at ha;cases ha
 ·rw[e] at ha;cases ha;exact⟨h2.lt,h1⟩
theorem zH.gr (h:zH enc k W lo a cap xs) (hg:Gr W W'):zH enc k W' lo a cap xs:=h.block fun _ e=>hg.1.block _ (h.lt e).1
theorem zH.row (h:zH enc k W lo a cap xs) (hn:0<xs.length):∃b,a=some ⟨b,0,none⟩/\lo<=b/\pO enc k W b cap xs:=by
 rcases h with⟨_,rfl,_⟩|⟨blk,e,h1,h2⟩
 ·simp at hn
 ·exact⟨blk,e,h1,h2⟩
theorem zH.nil:zH enc k W lo none 0 []:=.inl ⟨rfl,rfl,rfl⟩
theorem zDi.gr {w:World} (h:zDi lo W W' a a') (hg:Gr w W) (hlo:w.heap.size<=lo):Gr w W':=by
 obtain⟨⟨row,hgr,hr⟩,hd, -⟩:=h;refine⟨⟨hgr.os.trans hg.1.os,hgr.tape.trans hg.1.tape,hgr.output.trans hg.1.output,rJ hg.1.size hgr.size,fun q hq=>?_⟩,rJ hg.2 hd⟩;rw[hgr.block q (rC hq hg.1.size) (fun e=>by have:=(hr q e.symm).1;omega)];exact hg.1.block q hq
theorem zDi.other (h:zDi lo W W' a a') {q:Nat} (hq:q<W.heap.size) (hne:a≠some ⟨q,0,none⟩):W'.heap[q]? =W.heap[q]? :=by
 obtain⟨⟨row,hgr,hr⟩, -, -⟩:=h;exact hgr.block q hq fun e=>hne (hr q e.symm).2
theorem zDi.size (h:zDi lo W W' a a'):W.heap.size<=W'.heap.size:=by
 obtain⟨⟨row,hgr, -⟩, -, -⟩:=h;exact hgr.size
theorem zH6 (he:∀x,(enc x).length=k) (hk:0<k) {b o:Nat} (h:∀j (h:j<xs.length) c v,(enc xs[j])[c]? =some v->W.cell? ⟨b,o+j*k+c,none⟩=some v):∀i u,(xs.flatMap enc)[i]? =some u->W.cell? ((⟨b,o,none⟩:Addr).add i)=some u:=by
 intro i u hi;have hil:i<xs.length*k:=by have:=(List.getElem?_eq_some_iff.1 hi).1;rwa[pV he] at this
 have hd:i / k<xs.length:=(Nat.div_lt_iff_lt_mul hk).2 hil;have hm:i % k<k:=Nat.mod_lt _ hk;have e:i / k*k+i % k=i:=by rw[rX];exact Nat.div_add_mod i k
 rw[<-e,zCZ he xs (i / k) (i % k) hd hm] at hi;have:=h (i / k) hd (i % k) u hi;rw[Addr.add_lit];rwa[show o+i / k*k+i % k=o+i by omega] at this
theorem zGZ (h1:∀x,∀v∈enc x,v.oneCell'=true):∀u∈xs.flatMap enc,u.oneCell'=true:=by
 intro u hu;obtain⟨x,_,h⟩:=List.mem_flatMap.1 hu;exact h1 x u h
end
theorem zIB {α:Type} {enc:α->List Value} {t e k:Nat} (hT:TyG t e k) (hk:0<k) (he:∀x,(enc x).length=k) (h1:∀x,∀v∈enc x,v.oneCell'=true) {W:World} {lo cap sb so cc:Nat} {a:Option Addr} {xs news:List α} (h:zH enc k W lo a cap xs) (hlo:lo<=W.heap.size)
  (hsrc:∀j (h:j<news.length) c v,(enc news[j])[c]? =some v->W.cell? ⟨sb,so+j*k+c,none⟩=some v) (hne:0<news.length) (hcap:cap<=maxLen) (hsm:xs.length+news.length<=17179869184):
  ∃a' cap' W',(rN #[t,t] t #[jS a xs.length cap,jS (some ⟨sb,so,none⟩) news.length cc]).run rB W=.ok (jS a' (xs.length+news.length) cap') W'/\zH enc k W' lo a' cap' (xs++news)/\zDi lo W W' a a'/\cap'<=maxLen:=by
 obtain⟨z,bt,hinf,hzs,hbt⟩:=hT.hi;obtain⟨i,hi,hz,hs,hb⟩:=info_parts hinf;have ht:=hT.ht;have hnews:=zH6 he hk hsrc;have hnl:(news.flatMap enc).length=news.length*i.size:=by rw[pV he,hs]
 by_cases hr:xs.length+news.length<=cap
 ·rcases h with⟨rfl,rfl,rfl⟩|⟨blk,rfl,hb1,hlc,cs,T,hB,hcs,hcc⟩
  ·rw[List.length_nil] at hr;omega
  ·have hfit:(xs.length+news.length)*k<=cap*k:=rF _ hr
   rw[rH] at hfit;have hrun:=zFE rB W t t e T i ht hi blk xs.length cap cs hB ⟨sb,so,none⟩ news.length cc (news.flatMap enc) hnl hnews (zGZ h1) hr (by rw[hs,hcs,pV he];exact hfit);rw[hs] at hrun;have hcl:cs.toList.length=cap*k:=by rw[<-hcs];exact Array.length_toList
   have hlt:(cs.toList.take (xs.length*k)).length=xs.length*k:=by rw[List.length_take,hcl];omega
   refine⟨_,cap,_,hrun,.inr ⟨blk,rfl,hb1,by simpa using hr,_,T,setRow_heap W blk cs _ T _ hB,?_,fun j hj c hc=>?_⟩,⟨⟨some blk,⟨rfl,rfl,rfl,by simp[World.setRow],fun q _ hq=>setRow_other W blk q _ (fun e=>hq (by rw[e]))⟩,fun q e=>by cases e;exact⟨hb1,rfl⟩⟩,rL _,fun q e=>.inl e⟩,hcap⟩
   ·simp only[rQ,rD,hlt,List.length_drop,hcl,pV he]
    omega
   ·rw[rS]
    by_cases hj1:j<xs.length
    ·have hjk:(j+1)*k<=xs.length*k:=rF _ hj1
     rw[rH] at hjk;rw[zF4 (by omega),List.getElem?_take,if_pos (by omega),Array.getElem?_toList,hcc j hj1 c hc,List.getElem_append_left hj1]
    ·have hj2:j - xs.length<news.length:=by simp at hj;omega
     have hjk:(j - xs.length+1)*k<=news.length*k:=rF _ hj2;have hje:j*k=xs.length*k+(j - xs.length)*k:=by rw[<-rH];congr 1;omega
     rw[rH] at hjk;rw[List.append_assoc,List.getElem?_append_right (by omega),hlt,List.getElem?_append_left (by rw[pV he];omega),show j*k+c - xs.length*k=(j - xs.length)*k+c by omega,zCZ he news _ c hj2 hc,List.getElem_append_right (by omega)]
 ·have hxc:xs.length<=cap:=zH.le h
  have hold:(Builtin.firstCells i.size xs.length (jS a xs.length cap)).run rB W.drew=.ok (xs.flatMap enc).toArray W.drew:=by
   rcases h with⟨rfl,rfl,rfl⟩|⟨blk,rfl,hb1,hR⟩
   ·exact run_firstCells_none W.drew i.size 0 0 0
   ·refine run_firstCells_some W.drew i.size xs.length ⟨blk,0,none⟩ xs.length cap _ (by rw[pV he,hs]) (zH6 he hk fun j hj c v hv=>?_)
    have hc5:c<k:=by have:=(List.getElem?_eq_some_iff.1 hv).1;rwa[he] at this
    have:=hR.cell hj hc5 hv;rw[Nat.zero_add];exact this
  have hmul:(xs.length+news.length)*i.bytes<=17179869184*64:=Nat.mul_le_mul hsm (by rw[hb];exact hbt);have hrun:=run_append_grow_src (P:=rB) W t t t e i _ ht hi hz a xs.length cap (xs.flatMap enc) hold (jS (some ⟨sb,so,none⟩) news.length cc) news.length (news.flatMap enc) (Src.ofSlice W ht ⟨sb,so,none⟩ news.length cc _ hnl hnews (zGZ h1)) (by omega) (by omega) (growslice_fits (by omega) (by omega));have hge:=grownCap_ge W (xs.length+news.length) cap e;have hgm:=grownCap_le_maxLen W (xs.length+news.length) cap e (by unfold maxLen;omega);refine⟨_,_,_,hrun,.inr ⟨W.heap.size,rfl,hlo,by simpa using hge,_,_,World.alloc_heap_new W.drew _,?_,fun j hj c hc=>?_⟩,⟨⟨none,⟨rfl,rfl,rfl,by simp,fun q hq _=>rE W.drew _ hq⟩,fun q e=>by cases e⟩,Nat.le_succ _,fun q e=>.inr (by cases e;rfl)⟩,hgm⟩
  ·simp only[Array.size_append,rQ,rD,pV he,size_zeroCells,hzs]
   rw[<-rH,<-rH];congr 1;omega
  ·have hj':j<xs.length+news.length:=by simpa using hj
   have hjk:(j+1)*k<=(xs.length+news.length)*k:=rF _ hj';rw[rH,rH] at hjk;rw[Array.getElem?_append_left (by simp only[rQ,rD,pV he];omega),rS,<-List.flatMap_append,zCZ he _ j c hj hc]
theorem zB5 {α:Type} {enc:α->List Value} {t e k:Nat} (hT:TyG t e k) (hk:0<k) (he:∀x,(enc x).length=k) (h1:∀x,∀v∈enc x,v.oneCell'=true) {W:World} {lo cap:Nat} {a:Option Addr} {xs:List α} (x:α) (h:zH enc k W lo a cap xs) (hlo:lo<=W.heap.size) (hcap:cap<=maxLen) (hsm:xs.length+1<=17179869184) (T:TypeId):
  ∃a' cap' W',(rN #[t,t] t #[jS a xs.length cap,jS (some ⟨W.heap.size,0,none⟩) 1 1]).run rB (W.alloc (.cells (enc x).toArray T))=.ok (jS a' (xs.length+1) cap') W'/\zH enc k W' lo a' cap' (xs++[x])/\zDi lo (W.alloc (.cells (enc x).toArray T)) W' a a'/\cap'<=maxLen:=by
 have h':zH enc k (W.alloc (.cells (enc x).toArray T)) lo a cap xs:=h.gr (Gr.alloc _ _);have:=zIB (news:=[x]) (sb:=W.heap.size) (so:=0) (cc:=1) hT hk he h1 h' (by simp;omega) (fun j hj c v hv=>by
  have:j=0:=by simpa using hj
  subst this;simp only[List.getElem_cons_zero] at hv;have e:(⟨W.heap.size,0+0*k+c,none⟩:Addr)=⟨W.heap.size,c,none⟩:=by simp
  rw[e,zI]
  simpa using hv) (by simp) hcap (by simpa using hsm)
 simpa using this
def zCH {U:World} (y:El U) (xs:List (El U)) (r:Int):Prop:=(r= -1/\∀x∈xs,zQ x≠zQ y)∨∃k:Nat,r=k/\∃h:k<xs.length,zQ xs[k]=zQ y
def zDB {U:World} (w:World) (y:El U) (xs:List (El U)) (e:Ending) (w':World):Prop:=∃r:Int,e=jR (jI kQ r)/\zCH y xs r/\Gr w w'
theorem zM2 {U:World} (x y:El U):(zAY y.1 x.1=0)↔zQ x=zQ y:=⟨fun h=>(zPm h).symm,fun h=>zND (show y.1.tree=x.1.tree from h.symm)⟩
theorem zPb {x y:Fe} (hB:B<w.heap.size) (h0:w.cell? ⟨B,0,none⟩=some (jI kQ y.op)) (h1:w.cell? ⟨B,1,none⟩=some (jT y.nm)) (h2:w.cell? ⟨B,2,none⟩=some (jI kQ y.v)) (h3:w.cell? ⟨B,3,none⟩=some (jI kQ y.bd)) (h4:w.cell? ⟨B,4,none⟩=some (jS y.a y.args.len y.c)) (hx:x.ok w) (hy:y.ok w):
  Calls rB 392 #[jG x,jP (some ⟨B,0,none⟩)] w (zFP w (decide (zAY y x=0))):=by
 have k0:∀o:Obj,(w.alloc o).cell? ⟨B,0,none⟩=_:=fun o=>(rG (rE _ _ hB)).trans h0
 have k1:∀o:Obj,(w.alloc o).cell? ⟨B,1,none⟩=_:=fun o=>(rG (rE _ _ hB)).trans h1
 have k2:∀o:Obj,(w.alloc o).cell? ⟨B,2,none⟩=_:=fun o=>(rG (rE _ _ hB)).trans h2
 have k3:∀o:Obj,(w.alloc o).cell? ⟨B,3,none⟩=_:=fun o=>(rG (rE _ _ hB)).trans h3
 have k4:∀o:Obj,(w.alloc o).cell? ⟨B,4,none⟩=_:=fun o=>(rG (rE _ _ hB)).trans h4
 have HC:Hid (∀o:Obj,Calls rB 393 #[jG y,jG x] (w.alloc o) (zDO (w.alloc o) (zAY y x))):=rA fun o=>zBl (Fe.ok_keep hy (Gr.alloc w o).1) (Fe.ok_keep hx (Gr.alloc w o).1)
 clear h0 h1 h2 h3 h4 hx hy;generalize zAY y x=k at*;go_enter Tryz.func392,Tryz.ntmps392;go_wp2_with fail;refine(HC.out _).mono ?_;rintro e w5 ⟨rfl,hg5⟩;have HG5:=rA ((Gr.alloc w _).trans hg5);clear hg5 HC k0 k1 k2 k3 k4;go_wp2_with fail;go_ret;exact⟨congrArg (fun b=>Ending.returned (jB b)) (show(k==0)=decide (k=0) from rfl),HG5.out⟩
theorem vL.elem {U W:World}{lo:Nat} {xs:List (El U)} (h:vL W lo a cap xs){k:Nat} (hk:k<xs.length):∃b,a=some ⟨b,0,none⟩/\W.cell? ⟨b,k*5,none⟩=some (jI kQ xs[k].1.op)/\W.cell? ⟨b,k*5+1,none⟩=some (jT xs[k].1.nm)/\W.cell? ⟨b,k*5+2,none⟩=some (jI kQ xs[k].1.v)/\W.cell? ⟨b,k*5+3,none⟩=some (jI kQ xs[k].1.bd)/\W.cell? ⟨b,k*5+4,none⟩=some (jS xs[k].1.a xs[k].1.args.len xs[k].1.c):=by
 rcases h with⟨_,rfl,_⟩|⟨blk,rfl,_,hR⟩
 ·simp at hk
 ·exact⟨blk,rfl,hR.at k (k*5) rfl xs[k] (List.getElem?_eq_getElem hk) rfl⟩
theorem zSD {U:World}{lo:Nat} {xs:List (El U)} {y:El U} (hS:Sub U w) (h:vL w lo a cap xs) (hl:xs.length<=1000000) (hB:B<w.heap.size) (h0:w.cell? ⟨B,0,none⟩=some (jI kQ y.1.op)) (h1:w.cell? ⟨B,1,none⟩=some (jT y.1.nm)) (h2:w.cell? ⟨B,2,none⟩=some (jI kQ y.1.v)) (h3:w.cell? ⟨B,3,none⟩=some (jI kQ y.1.bd)) (h4:w.cell? ⟨B,4,none⟩=some (jS y.1.a y.1.args.len y.1.c)):
  Calls rB 208 #[jS a xs.length cap,.func (.func 392) #[] #[jP (some ⟨B,0,none⟩)]] w (zDB w y xs):=by
 have H:=rA h;have HC:Hid (∀W,Gr w W->∀z:El U,Calls rB 392 #[jG z.1,jP (some ⟨B,0,none⟩)] W (zFP W (decide (zAY y.1 z.1=0)))):=rA fun W hg z=>by
  have hS':Sub U W:=⟨rJ hS.size hg.1.size,fun k cs T f e=>(hg.1.block k (rC (Array.getElem?_eq_some_iff.1 e).1 hS.size)).trans (hS.blk k cs T f e)⟩;exact zPb (rC hB hg.1.size) ((hg.1.cell (p:=⟨B,0,none⟩) hB).trans h0) ((hg.1.cell (p:=⟨B,1,none⟩) hB).trans h1) ((hg.1.cell (p:=⟨B,2,none⟩) hB).trans h2) ((hg.1.cell (p:=⟨B,3,none⟩) hB).trans h3) ((hg.1.cell (p:=⟨B,4,none⟩) hB).trans h4) (Fe.ok_sub _ _ _ hS' z.2) (Fe.ok_sub _ _ _ hS' y.2)
 clear h h0 h1 h2 h3 h4;go_enter Tryz.func208,Tryz.ntmps208;go_wp2_with fail;go_loopw [8] (fun i wr=>∃k:Nat,k<=xs.length/\i=jI kQ k/\Hid (Gr w wr/\∀j (hj:j<xs.length),j<k->zQ xs[j]≠zQ y)) (fun i _=>xs.length - (intOf i).toNat)
 case atStart=>exact⟨0,rM _,rfl,rA ⟨Gr.refl _,fun j _ hj=>by omega⟩⟩
 case round=>
  obtain⟨k,hk,rfl,HR⟩:=hrel;by_cases hlt:k<xs.length;rotate_left
  ·have hd:=dF hlt
   go_wp2_with fail;go_ret;exact⟨-1,rfl,.inl ⟨rfl,fun x hx=>by
    obtain⟨j,hj,rfl⟩:=List.mem_iff_getElem.1 hx;exact HR.out.2 j hj (by omega)⟩,HR.out.1⟩
  have hd:=dT hlt
  obtain⟨b,rfl,c0,c1,c2,c3,c4⟩:=(H.out.gr HR.out.1).elem hlt;have hkl:(k:Int)<(xs.length:Int):=by omega
  have HQ:=rA (HC.out _ HR.out.1 xs[k]);have HT:=rA (zM2 xs[k] y);have HE:Hid (∀z,xs[k]=z->xs[k]=z):=rA fun z h=>h
  obtain⟨z,hz⟩:∃z,xs[k]=z:=⟨_,rfl⟩;have HZ:=rA hz;rw[hz] at HQ HT c0 c1 c2 c3 c4;clear hz HE;go_wp2_with fail;refine HQ.out.mono ?_;rintro e w5 ⟨rfl,hg5⟩;have HG5:=rA (HR.out.1.trans hg5);clear hg5 HQ c0 c1 c2 c3 c4;by_cases hq:zAY y.1 z.1=0
  ·have hdq:=dT hq
   have HF:Hid (zCH y xs (k:Int)):=rA (.inr ⟨k,rfl,hlt,by rw[HZ.out];exact HT.out.1 hq⟩);rw[hdq];clear hq hdq;go_wp2_with fail;go_ret;exact⟨_,rfl,HF.out,HG5.out⟩
  ·have hdq:=dF hq
   have HN:Hid (∀j (hj:j<xs.length),j<k+1->zQ xs[j]≠zQ y):=rA fun j hj hjk=>by
    by_cases e:j=k
    ·subst e;rw[HZ.out];exact fun h=>hq (HT.out.2 h)
    ·exact HR.out.2 j hj (by omega)
   rw[hdq];clear hq hdq;go_wp2_with fail;go_roundw
   case rel=>exact⟨k+1,by omega,by go_num,rA ⟨HG5.out,HN.out⟩⟩
   case measure=>simp[intOf];omega
theorem zCt {U:World}{lo:Nat} {xs:List (El U)} (y:El U) (hS:Sub U w) (h:vL w lo a cap xs) (hl:xs.length<=1000000):
  Calls rB 388 #[jS a xs.length cap,jG y.1] w (zDB w y xs):=by
 have HC:Hid (Calls rB 208 #[jS a xs.length cap,.func (.func 392) #[] #[jP (some ⟨w.heap.size,0,none⟩)]] (w.alloc (.cells y.1.enc.toArray 33)) (zDB (w.alloc (.cells y.1.enc.toArray 33)) y xs)):=rA (by
  obtain⟨q0,q1,q2,q3,q4⟩:=zBQ w y.1;have hg:=Gr.alloc w (.cells y.1.enc.toArray 33);have hS':Sub U (w.alloc (.cells y.1.enc.toArray 33)):=⟨rJ hS.size hg.1.size,fun k cs T f e=>(hg.1.block k (rC (Array.getElem?_eq_some_iff.1 e).1 hS.size)).trans (hS.blk k cs T f e)⟩;exact zSD hS' (h.gr hg) hl (by simp) q0 q1 q2 q3 q4)
 unfold Fe.enc at HC;clear h hS;go_enter Tryz.func388,Tryz.ntmps388;go_wp2_with fail;refine HC.out.mono ?_;rintro e w5 ⟨r,rfl,hr,hg5⟩;have HR:=rA (And.intro hr ((Gr.alloc w _).trans hg5));clear hr hg5 HC;go_wp2_with fail;go_ret;exact⟨r,rfl,HR.out.1,HR.out.2⟩
def yL {U:World} (P:List (El U)) (t:Fs):Prop:=∃y∈P,zQ y=t
theorem yL.sub {U:World} {P P':List (El U)} (h:∀y∈P,y∈P'):∀t,yL P t->yL P' t:=fun _ ⟨y,hy,e⟩=>⟨y,h y hy,e⟩
def okP (T:Fs->Prop):Fs->Prop
 | .nil=>True
 | .cons op nm v bd a r=>(zEN op=true->T (.cons op nm v bd a .nil))/\okP T a/\okP T r
theorem okP.mono {T T':Fs->Prop} (h:∀t,T t->T' t):∀ {f:Fs},okP T f->okP T' f
 | .nil,_=>trivial
 | .cons ..,⟨h1,h2,h3⟩=>⟨fun e=>h _ (h1 e),okP.mono h h2,okP.mono h h3⟩
theorem okP.drop {T:Fs->Prop}:∀ {f:Fs} (k:Nat),okP T f->okP T (f.drop k)
 | .nil,0,h=>h
 | .nil,_+1,_=>trivial
 | .cons ..,0,h=>h
 | .cons ..,k+1,h=>okP.drop k h.2.2
structure Bd (U:World) where
 sv:Value
 pa:Option Addr
 pc:Nat
 P:List (El U)
 ea:Option Addr
 ec:Nat
 E:List (El U)
 uv:Value
 v1:Value
 v2:Value
 v3:Value
def blkOf (a:Option Addr):Option Nat:=a.map (·.block)
def zBD (ab:Nat) (a:Option Addr) (k:Nat):Bool:=k==ab||blkOf a==some k
theorem zZ {ab k:Nat} {a:Option Addr}:zBD ab a k=false↔k≠ab/\blkOf a≠some k:=by simp[zBD]
structure BdS (U:World) (lo:Nat) (W:World) (ab:Nat) (d:Bd U):Prop where
 sub:Sub U W
 blk:W.heap[ab]? =some (.cells #[d.sv,jS d.pa d.P.length d.pc,jS d.ea d.E.length d.ec,d.uv,d.v1,d.v2,d.v3] 436 (0,0))
 past:zH yY 5 W lo d.pa d.pc d.P
 els:zH yY 5 W lo d.ea d.ec d.E
 ne:∀q,d.pa=some ⟨q,0,none⟩->d.ea≠some ⟨q,0,none⟩
 nab:d.pa≠some ⟨ab,0,none⟩/\d.ea≠some ⟨ab,0,none⟩
 lo:U.heap.size<=lo/\lo<=ab
 caps:d.pc<=maxLen/\d.ec<=maxLen
theorem Sub.gr {U W W':World} (h:Sub U W) (hg:Gr W W'):Sub U W':=⟨rJ h.size hg.1.size,fun k cs T f e=>(hg.1.block k (rC (Array.getElem?_eq_some_iff.1 e).1 h.size)).trans (h.blk k cs T f e)⟩
theorem Sub.low {U W W':World} {lo:Nat} (h:Sub U W) (hl:U.heap.size<=lo) (hs:W.heap.size<=W'.heap.size) (hk:∀k,k<lo->W'.heap[k]? =W.heap[k]?):Sub U W':=
 ⟨rJ h.size hs,fun k cs T f e=>(hk k (rC (Array.getElem?_eq_some_iff.1 e).1 hl)).trans (h.blk k cs T f e)⟩
section
variable {U W W':World} {lo ab:Nat} {d:Bd U}
theorem BdS.lt (h:BdS U lo W ab d):ab<W.heap.size:=(Array.getElem?_eq_some_iff.1 h.blk).1
theorem BdS.gr (h:BdS U lo W ab d) (hg:Gr W W'):BdS U lo W' ab d:=
 ⟨h.sub.gr hg,(hg.1.block _ h.lt).trans h.blk,h.past.gr hg,h.els.gr hg,h.ne,h.nab,h.lo,h.caps⟩
theorem BdS.cells (h:BdS U lo W ab d):W.cell? ⟨ab,0,none⟩=some d.sv/\W.cell? ⟨ab,1,none⟩=some (jS d.pa d.P.length d.pc)/\W.cell? ⟨ab,2,none⟩=some (jS d.ea d.E.length d.ec)/\W.cell? ⟨ab,3,none⟩=some d.uv/\W.cell? ⟨ab,4,none⟩=some d.v1/\W.cell? ⟨ab,5,none⟩=some d.v2/\W.cell? ⟨ab,6,none⟩=some d.v3/\∀j,W.frozen? ⟨ab,j,none⟩=false:=by
 refine⟨?_,?_,?_,?_,?_,?_,?_,fun j=>?_⟩<;>simp[rO,rR,h.blk]
theorem zH.blkOf {α:Type} {enc:α->List Value} {k lo cap:Nat} {W:World} {a:Option Addr} {xs:List α} (h:zH enc k W lo a cap xs) {q:Nat} (hq:Go.Proofs.YtmabhhngoklncaaGreatDoor.blkOf a=some q):a=some ⟨q,0,none⟩:=by
 rcases h with⟨rfl,_⟩|⟨blk,rfl,_⟩
 ·cases hq
 ·simp only[Go.Proofs.YtmabhhngoklncaaGreatDoor.blkOf,Option.map_some,Option.some.injEq] at hq
  rw[hq]
end
theorem pL (W:World) {a b:Addr} (h:a.block≠b.block) (u v:Value):(W.setCell a u).setCell b v=(W.setCell b v).setCell a u:=by
 unfold World.setCell;congr 1;apply Array.ext_getElem?;intro k;simp only[Array.getElem?_modify];by_cases h1:b.block=k
 ·have h2:a.block≠k:=fun e=>h (e.trans h1.symm)
  rw[if_pos h1,if_neg h2,if_neg h2,if_pos h1]
 ·rw[if_neg h1,if_neg h1]
theorem zCv (W:World) {q o ab j:Nat} (h:q≠ab) (a b c d e v:Value):set5 (W.setCell ⟨ab,j,none⟩ v) q o a b c d e=(set5 W q o a b c d e).setCell ⟨ab,j,none⟩ v:=by
 unfold set5;have hn:∀i,(⟨ab,j,none⟩:Addr).block≠(⟨q,i,none⟩:Addr).block:=fun _=>Ne.symm h
 rw[pL W (hn _),pL _ (hn _),pL _ (hn _),pL _ (hn _),pL _ (hn _)]
theorem tyE:TyG 31 33 5:=⟨Tryz.underlying31,_,_,Tryz.info33a,rfl,by omega⟩
theorem zH.set5 {U W:World} {lo q cap:Nat} {xs:List (El U)} {z:El U} (h:zH yY 5 W lo (some ⟨q,0,none⟩) cap (xs++[z])) (x:El U):
  zH yY 5 (Go.Proofs.YtmabhhngoklncaaGreatDoor.set5 W q (xs.length*5) (jI kQ x.1.op) (jT x.1.nm) (jI kQ x.1.v) (jI kQ x.1.bd) (jS x.1.a x.1.args.len x.1.c)) lo (some ⟨q,0,none⟩) cap (xs++[x]):=by
 rcases h with⟨e,_⟩|⟨blk,e,hb,hR⟩
 ·cases e
 ·simp only[Option.some.injEq,Addr.mk.injEq,and_true] at e
  subst e;have hR':qF W q cap (xs++[z]):=hR;have:=hR'.set xs.length x;rw[List.set_append_right _ _ (rL _),Nat.sub_self] at this;exact .inr ⟨q,rfl,hb,this⟩
def zDN (U:World):El U:=⟨⟨0,⟨#[]⟩,0,0,.nil,none,0⟩,zFk U⟩
theorem zHr (U:World):(yY (zDN U)).toArray= #[jI kQ 0,jT ⟨#[]⟩,jI kQ 0,jI kQ 0,jS none 0 0]:=rfl
theorem BdS.pushP {U W:World} {lo ab:Nat} {d:Bd U} (h:BdS U lo W ab d) (x:El U) (hl:d.P.length+1<=1000000):
  ∃(q c':Nat) (W2:World),(rN #[31,31] 31 #[jS d.pa d.P.length d.pc,jS (some ⟨W.heap.size,0,none⟩) 1 1]).run rB (W.alloc (.cells #[jI kQ 0,jT ⟨#[]⟩,jI kQ 0,jI kQ 0,jS none 0 0] 33))=.ok (jS (some ⟨q,0,none⟩) (d.P.length+1) c') W2/\
   (∀j,W2.frozen? ⟨q,j,none⟩=false)/\(∀j,j<5->∃u,W2.cell? ⟨q,d.P.length*5+j,none⟩=some u)/\W2.cell? ⟨ab,1,none⟩=some (jS d.pa d.P.length d.pc)/\(∀j,W2.frozen? ⟨ab,j,none⟩=false)/\q≠ab/\d.P.length+1<=c'/\(∀k,k<W.heap.size->d.pa≠some ⟨k,0,none⟩->W2.heap[k]? =W.heap[k]?)/\(d.pa=some ⟨q,0,none⟩∨W.heap.size<=q)/\
   BdS U lo ((set5 W2 q (d.P.length*5) (jI kQ x.1.op) (jT x.1.nm) (jI kQ x.1.v) (jI kQ x.1.bd) (jS x.1.a x.1.args.len x.1.c)).setCell ⟨ab,1,none⟩ (jS (some ⟨q,0,none⟩) (d.P.length+1) c')) ab {d with pa:=some ⟨q,0,none⟩,pc:=c',P:=d.P++[x]}/\
   Fr (zBD ab d.pa) W.heap.size W ((set5 W2 q (d.P.length*5) (jI kQ x.1.op) (jT x.1.nm) (jI kQ x.1.v) (jI kQ x.1.bd) (jS x.1.a x.1.args.len x.1.c)).setCell ⟨ab,1,none⟩ (jS (some ⟨q,0,none⟩) (d.P.length+1) c')):=by
 have hlt:=h.lt;obtain⟨a',c',W2,hrun,hL,hA,hc⟩:=zB5 tyE (by omega) xQ zES (zDN U) h.past (by have:=h.lo;omega) h.caps.1 (by omega) 33;rw[zHr] at hrun hA;have hZ:=xQ (zDN U);generalize zDN U=zz at*;obtain⟨q,rfl,hq,hRow⟩:=hL.row (by rw[rD,List.length_singleton];omega);have s1:(W.alloc (.cells #[jI kQ 0,jT ⟨#[]⟩,jI kQ 0,jI kQ 0,jS none 0 0] 33)).heap.size=W.heap.size+1:=by simp
 have hsz:W.heap.size+1<=W2.heap.size:=by have:=hA.size;simp at this;omega
 have hold:∀k,k<W.heap.size->d.pa≠some ⟨k,0,none⟩->W2.heap[k]? =W.heap[k]? :=fun k hk hne=>(hA.other (by simp;omega) hne).trans (rE _ _ hk)
 have hqn:d.pa=some ⟨q,0,none⟩∨W.heap.size<=q:=(hA.at' q rfl).imp_right fun e=>by simp at e;omega
 have hqab:q≠ab:=fun e=>by
  rcases hqn with h1|h1
  ·exact h.nab.1 (by rw[h1,e])
  ·omega
 have hab:W2.heap[ab]? =_:=(hold ab hlt h.nab.1).trans h.blk;have hF:Fr (zBD ab d.pa) W.heap.size W ((set5 W2 q (d.P.length*5) (jI kQ x.1.op) (jT x.1.nm) (jI kQ x.1.v) (jI kQ x.1.bd) (jS x.1.a x.1.args.len x.1.c)).setCell ⟨ab,1,none⟩ (jS (some ⟨q,0,none⟩) (d.P.length+1) c')):=by
  obtain⟨⟨row,hgr,hr⟩,hd, -⟩:=hA;have F0:Fr (zBD ab d.pa) W.heap.size W W2:=⟨hgr.os,hgr.tape,hgr.output,by omega,fun k hk hh=>hold k hk fun e=>(zZ.1 hh).2 (by rw[e];rfl)⟩;have hq5:zBD ab d.pa q=true∨W.heap.size<=q:=hqn.imp_left fun e=>by rw[e];simp[zBD,blkOf]
  exact(((((F0.setCell (a:=⟨q,_,none⟩) hq5 _).setCell (a:=⟨q,_,none⟩) hq5 _).setCell (a:=⟨q,_,none⟩) hq5 _).setCell (a:=⟨q,_,none⟩) hq5 _).setCell (a:=⟨q,_,none⟩) hq5 _).setCell (.inl (by simp[zBD])) _
 have hlen:(d.P++[zz]).length=d.P.length+1:=by rw[rD,List.length_singleton]
 refine⟨q,c',W2,hrun,fun j=>hRow.frozen j,fun j hj=>?_,by simp[rO,hab],fun j=>by simp[rR,hab],hqab,by rw[<-hlen];exact hRow.1,hold,hqn,?_,hF⟩
 ·have:=hRow.cell (j:=d.P.length) (by rw[hlen];omega) (c:=j) (u:=(yY zz)[j]'(by rw[hZ];exact hj)) hj (by rw[List.getElem_append_right (rL _)];simp)
  exact⟨_,this⟩
 ·have hL5:=zH.set5 hL x
  refine⟨h.sub.low h.lo.1 hF.size fun k hk=>hF.block k (by have:=h.lo;omega) (zZ.2 ⟨by have:=h.lo;omega,fun e=>?_⟩),?_,?_,?_,fun q' e=>?_,⟨?_,h.nab.2⟩,h.lo,hc,h.caps.2⟩
  ·have:=(h.past.lt (h.past.blkOf e)).2
   omega
  ·have e5:(set5 W2 q (d.P.length*5) (jI kQ x.1.op) (jT x.1.nm) (jI kQ x.1.v) (jI kQ x.1.bd) (jS x.1.a x.1.args.len x.1.c)).heap[ab]? =_:=(yX (Ne.symm hqab)).trans hab
   rw[rV _ _ 1 _ 436 _ e5];simp
  ·exact hL5.block fun q' e=>rK _ _ _ _ (by cases e;simpa using hqab)
  ·refine h.els.block fun q' e=>?_
   have h1:=h.els.lt e;have h2:q'≠q:=fun e'=>by
    rcases hqn with h4|h4
    ·exact h.ne q h4 (by rw[e,e'])
    ·omega
   have h3:q'≠ab:=fun e'=>h.nab.2 (by rw[e,e'])
   rw[rK _ _ _ _ (by simpa using h3),yX h2];exact hold q' h1.1 fun e'=>h.ne q' e' e
  ·cases e
   intro e';rcases hqn with h4|h4
   ·exact h.ne q h4 e'
   ·have:=(h.els.lt e').1;omega
  ·intro e;cases e;exact hqab rfl
theorem El.kid {U:World} (x:El U) (hr:x.1.ar) {k:Nat} (hk:k<x.1.args.len):∃(b o:Nat) (y:El U),x.1.a=some ⟨b,o,none⟩/\x.1.args.drop k=.cons y.1.op y.1.nm y.1.v y.1.bd y.1.args (x.1.args.drop (k+1))/\y.1.ar/\y.1.args.nodes<x.1.args.nodes/\
  ∀W,Sub U W->W.cell? ⟨b,o+k*5,none⟩=some (jI kQ y.1.op)/\W.cell? ⟨b,o+k*5+1,none⟩=some (jT y.1.nm)/\W.cell? ⟨b,o+k*5+2,none⟩=some (jI kQ y.1.v)/\W.cell? ⟨b,o+k*5+3,none⟩=some (jI kQ y.1.bd)/\W.cell? ⟨b,o+k*5+4,none⟩=some (jS y.1.a y.1.args.len y.1.c):=by
 obtain⟨b,o,y,e,hb,hd,hok,hn,c0,c1,c2,c3,c4⟩:=FArgs.elem x.2.1 hk;exact⟨b,o,⟨y,hok⟩,e,hd,ArL.at hr.2 hd,hn,fun W hS=>⟨hS.cell c0,hS.cell c1,hS.cell c2,hS.cell c3,hS.cell c4⟩⟩
def CoP {U:World} (N:Nat) (P P':List (El U)):Prop:=(∀y∈P,y∈P')/\∀y∈P',y∈P∨(okP (yL P') (zQ y)/\y.1.ar/\y.1.args.nodes<=N)
theorem CoP.refl {U:World} (N:Nat) (P:List (El U)):CoP N P P:=⟨fun _ h=>h,fun _ h=>.inl h⟩
theorem CoP.trans {U:World} {N:Nat} {P P' P'':List (El U)} (h:CoP N P P') (k:CoP N P' P''):CoP N P P'':=
 ⟨fun y hy=>k.1 y (h.1 y hy),fun y hy=>(k.2 y hy).elim (fun h1=>(h.2 y h1).imp id fun⟨h2,h3⟩=>⟨h2.mono (yL.sub k.1),h3⟩) .inr⟩
def CoR (U:World) (lo ab N:Nat) (d:Bd U) (x:El U) (W:World) (e:Ending) (W':World):Prop:=e=jR (jU #[])/\∃pa' pc' P',BdS U lo W' ab {d with pa:=pa',pc:=pc',P:=P'}/\CoP N d.P P'/\okP (yL P') (zQ x)/\
 Fr (zBD ab d.pa) W.heap.size W W'/\(∀q,pa'=some ⟨q,0,none⟩->d.pa=some ⟨q,0,none⟩∨W.heap.size<=q)/\P'.length<=d.P.length+x.1.args.nodes+1
def zSR (U:World) (lo ab N n:Nat):Prop:=∀(d:Bd U) (x:El U) (W:World),x.1.args.nodes<n->x.1.args.nodes<=N->x.1.ar->BdS U lo W ab d->d.P.length+x.1.args.nodes+1<=1000000->
 Calls rB 380 #[jP (some ⟨ab,0,none⟩),jG x.1] W (CoR U lo ab N d x W)
structure CoS (U:World) (lo ab N:Nat) (d:Bd U) (x:El U) (W wr:World) (k:Nat) (pa:Option Addr) (pc:Nat) (P:List (El U)):Prop where
 st:BdS U lo wr ab {d with pa:=pa,pc:=pc,P:=P}
 cp:CoP N d.P P
 pre:∀T:Fs->Prop,(∀t,yL P t->T t)->okP T (x.1.args.drop k)->okP T x.1.args
 fr:Fr (zBD ab d.pa) W.heap.size W wr
 nw:∀q,pa=some ⟨q,0,none⟩->d.pa=some ⟨q,0,none⟩∨W.heap.size<q
 len:P.length<=d.P.length+zU x.1.args k
 box:wr.heap[W.heap.size]? =some (.cells x.1 33 (0,0))
section
variable {U W wr w2:World} {lo ab N k pc:Nat} {d:Bd U} {x:El U} {pa:Option Addr} {P:List (El U)}
theorem CoS.gr (h:CoS U lo ab N d x W wr k pa pc P) (hg:Gr wr w2):CoS U lo ab N d x W w2 k pa pc P:=
 ⟨h.st.gr hg,h.cp,h.pre,h.fr.trans ((Fr.of_below hg.1).mono h.fr.size),h.nw,h.len,(hg.1.block _ (Array.getElem?_eq_some_iff.1 h.box).1).trans h.box⟩
theorem CoS.nbox (h:CoS U lo ab N d x W wr k pa pc P) (hd:BdS U lo W ab d):zBD ab pa W.heap.size=false:=by
 refine zZ.2 ⟨by have:=hd.lt;omega,fun e=>?_⟩;rcases h.nw _ (h.st.past.blkOf e) with h1|h1
 ·have:=(hd.past.lt h1).1;omega
 ·omega
theorem CoS.next (h:CoS U lo ab N d x W wr k pa pc P) (hd:BdS U lo W ab d) {y:El U} (hdr:x.1.args.drop k=.cons y.1.op y.1.nm y.1.v y.1.bd y.1.args (x.1.args.drop (k+1))) (hg:Gr wr w2) {e:Ending} {w3:World} (hR:CoR U lo ab N {d with pa:=pa,pc:=pc,P:=P} y w2 e w3):
  ∃pa' pc' P',CoS U lo ab N d x W w3 (k+1) pa' pc' P':=by
 obtain⟨_,pa',pc',P',h1,h2,h3,h4,h5,h6⟩:=hR;have hg2:=h.gr hg;refine⟨pa',pc',P',⟨h1,h.cp.trans h2,fun T hT hr=>h.pre T (fun t ht=>hT t (yL.sub h2.1 t ht)) ?_,?_,fun q hq=>?_,?_,?_⟩⟩
 ·rw[hdr]
  have:=h3.mono hT;exact⟨this.1,this.2.1,hr⟩
 ·refine hg2.fr.trans ⟨h4.os,h4.tape,h4.output,h4.size,fun q hq hh=>h4.block q (rC hq hg2.fr.size) (zZ.2 ⟨(zZ.1 hh).1,fun e=>?_⟩)⟩
  rcases h.nw _ (h.st.past.blkOf e) with h7|h7
  ·exact(zZ.1 hh).2 (by rw[h7];rfl)
  ·omega
 ·rcases h5 q hq with h7|h7
  ·exact h.nw q h7
  ·have:=hg.1.size
   have:=(Array.getElem?_eq_some_iff.1 h.box).1;exact .inr (by omega)
 ·have:=h.len
  rw[zX hdr];dsimp only at h6;omega
 ·exact(h4.block _ (Array.getElem?_eq_some_iff.1 hg2.box).1 (h.nbox hd)).trans hg2.box
theorem CoS.done (h:CoS U lo ab N d x W wr x.1.args.len pa pc P) (hx:zEN x.1.op=true->yL P (zQ x)):CoR U lo ab N d x W (jR (jU #[])) wr:=by
 refine⟨rfl,pa,pc,P,h.st,h.cp,?_,h.fr,fun q hq=>(h.nw q hq).imp_right Nat.le_of_lt,?_⟩
 ·exact⟨hx,h.pre _ (fun _ h=>h) (by rw[Fs.drop_end (rL _)];trivial),trivial⟩
 ·have:=h.len
  have:=yE x.1.args x.1.args.len;omega
theorem CoS.put (h:CoS U lo ab N d x W wr x.1.args.len pa pc P) (hN:x.1.args.nodes<=N) (hr:x.1.ar) {q c':Nat} {W3:World} (hB:BdS U lo W3 ab {d with pa:=some ⟨q,0,none⟩,pc:=c',P:=P++[x]}) (hF:Fr (zBD ab pa) wr.heap.size wr W3) (hq:pa=some ⟨q,0,none⟩∨wr.heap.size<=q):CoR U lo ab N d x W (jR (jU #[])) W3:=by
 have hbx:=(Array.getElem?_eq_some_iff.1 h.box).1;have hall:okP (yL (P++[x])) (zQ x):=⟨fun _=>⟨x,by simp,rfl⟩,h.pre _ (fun t ⟨y,hy,e⟩=>⟨y,rI _ hy,e⟩) (by rw[Fs.drop_end (rL _)];trivial),trivial⟩;refine⟨rfl,_,_,_,hB,⟨fun y hy=>rI _ (h.cp.1 y hy),fun y hy=>?_⟩,hall,?_,fun q' e=>?_,?_⟩
 ·rcases List.mem_append.1 hy with hy|hy
  ·exact(h.cp.2 y hy).imp id fun⟨h2,h3⟩=>⟨h2.mono (yL.sub fun z hz=>rI _ hz),h3⟩
  ·rw[List.mem_singleton.1 hy]
   exact .inr ⟨hall,hr,hN⟩
 ·refine h.fr.trans ⟨hF.os,hF.tape,hF.output,hF.size,fun k hk hh=>hF.block k (rC hk h.fr.size) (zZ.2 ⟨(zZ.1 hh).1,fun e=>?_⟩)⟩
  rcases h.nw _ (h.st.past.blkOf e) with h7|h7
  ·exact(zZ.1 hh).2 (by rw[h7];rfl)
  ·omega
 ·cases e
  rcases hq with h7|h7
  ·exact(h.nw q h7).imp_right Nat.le_of_lt
  ·exact .inr (by omega)
 ·have:=h.len
  have:=yE x.1.args x.1.args.len;simp;omega
end
theorem zCH.mem {U:World} {y:El U} {xs:List (El U)} {r:Int} (h:zCH y xs r) (h0:0<=r):yL xs (zQ y):=by
 rcases h with⟨rfl,_⟩|⟨k,rfl,hk,e⟩
 ·omega
 ·exact⟨_,List.getElem_mem hk,e⟩
theorem zIX {U:World} {lo ab N n:Nat} (IH:zSR U lo ab N n) (d:Bd U) (x:El U) (W:World) (hn:x.1.args.nodes<=n) (hN:x.1.args.nodes<=N) (hr:x.1.ar) (h:BdS U lo W ab d) (hl:d.P.length+x.1.args.nodes+1<=1000000):
  Calls rB 380 #[jP (some ⟨ab,0,none⟩),jG x.1] W (CoR U lo ab N d x W):=by
 have HD:=rA h;have HR:=rA hr;have HK:Hid (∀k,k<x.1.args.len->∃(b o:Nat) (y:El U),x.1.a=some ⟨b,o,none⟩/\x.1.args.drop k=.cons y.1.op y.1.nm y.1.v y.1.bd y.1.args (x.1.args.drop (k+1))/\y.1.ar/\y.1.args.nodes<x.1.args.nodes/\
  ∀W,Sub U W->W.cell? ⟨b,o+k*5,none⟩=some (jI kQ y.1.op)/\W.cell? ⟨b,o+k*5+1,none⟩=some (jT y.1.nm)/\W.cell? ⟨b,o+k*5+2,none⟩=some (jI kQ y.1.v)/\W.cell? ⟨b,o+k*5+3,none⟩=some (jI kQ y.1.bd)/\W.cell? ⟨b,o+k*5+4,none⟩=some (jS y.1.a y.1.args.len y.1.c)):=rA fun k hk=>El.kid x hr hk
 have HI:=rA IH;have HL:=rA (And.intro hn (And.intro hN hl));have hal:x.1.args.len<=9223372036854775807:=x.2.2.2.1;have HS0:Hid (CoS U lo ab N d x W (W.alloc (.cells x.1 33)) 0 d.pa d.pc d.P):=rA
  ⟨h.gr (Gr.alloc _ _),CoP.refl _ _,fun T _ h=>by cases hx:x.1.args<;>rw[hx] at h<;>exact h,Fr.of_below (Gr.alloc _ _).1,fun q e=>.inl e,by omega,rT _ _⟩
 clear IH h hr hn hN hl;go_enter Tryz.func380,Tryz.ntmps380;go_upto_region 1 with fail;generalize W.alloc (.cells x.1 33)=w1 at*;obtain⟨q0,q1,q2,q3,q4, -⟩:=zA HS0.out.box;go_wp2_with fail;go_loopw [9] (fun i wr=>∃(k:Nat) (pa:Option Addr) (pc:Nat) (P:List (El U)),k<=x.1.args.len/\i=jI kQ k/\Hid (CoS U lo ab N d x W wr k pa pc P)) (fun i _=>x.1.args.len - (intOf i).toNat)
 case atStart=>exact⟨0,_,_,_,rM _,rfl,HS0⟩
 case round=>
  obtain⟨k,pa,pc,P,hk,rfl,HS⟩:=hrel;clear q0 q1 q2 q3 q4 HS0;by_cases hlt:k<x.1.args.len
  ·have hd:=dT hlt
   have hkl:(k:Int)<(x.1.args.len:Int):=by omega
   obtain⟨b,o,y,hxa,hdr,hyr,hyn,hcs⟩:=HK.out k hlt;obtain⟨c0,c1,c2,c3,c4⟩:=hcs wr HS.out.st.sub;have HDR:=rA hdr;have HC:Hid (∀o:Obj,Calls rB 380 #[jP (some ⟨ab,0,none⟩),jG y.1] (wr.alloc o) (CoR U lo ab N {d with pa:=pa,pc:=pc,P:=P} y (wr.alloc o))):=rA fun o=>HI.out _ y _ (by have:=HL.out;omega) (by have:=HL.out;omega) hyr (HS.out.st.gr (Gr.alloc _ _)) (by
    have h1:=HS.out.len;have h2:=yE x.1.args (k+1);rw[zX HDR.out] at h2;have h3:=HL.out;show P.length+y.1.args.nodes+1<=_;omega)
   rw[hxa];clear hdr hyr hyn hcs;go_wp2_with fail;refine(HC.out _).mono ?_;rintro e w5 hR;have HNX:=rA (HS.out.next HD.out HDR.out (Gr.alloc _ _) hR);obtain⟨he, -⟩:=hR;subst he;obtain⟨pa',pc',P',hS'⟩:=HNX.out;have HS':=rA hS';clear hS' HNX HC c0 c1 c2 c3 c4;go_wp2_with fail;go_roundw
   case rel=>exact⟨k+1,pa',pc',P',by omega,by go_num,HS'⟩
   case measure=>simp[intOf];omega
  have hd:=dF hlt
  have hke:k=x.1.args.len:=by omega
  have HS2:Hid (CoS U lo ab N d x W wr x.1.args.len pa pc P):=rA (by rw[<-hke];exact HS.out);clear HS hke hlt hk;have HQ:=rA (vT x.1.op);obtain⟨q0,q1,q2,q3,q4, -⟩:=zA HS2.out.box;have HDN:=rA (fun hx:zEN x.1.op=true->yL P (zQ x)=>HS2.out.done hx);generalize hrem:zEN x.1.op=rb at*;have HREM:=rA hrem;clear hrem;cases rb with
  |false=>
   go_upto_region 6 with fail;have hq:∀m,Calls rB 379 #[jI kQ x.1.op] (wr.drewN m) (fun e w'=>e=jR (jB false)/\∃m',w'=(wr.drewN m).drewN m'):=fun m=>(HQ.out _).mono fun e w' h=>⟨h.1,0,h.2⟩
   go_quiet ((go_at_call 379;with_reducible exact Calls.quiet_of (hq _)));have HDN2:=rA ((HS2.out.gr (Gr.drawn wr nq)).done (fun h=>by rw[HREM.out] at h;cases h));go_wp2_with fail
   go_end0
   exact HDN2.out
  |true=>
   have HSD:=rA (HS2.out.gr (Gr.drawn wr 1));have hpl:P.length+1<=1000000:=by
    have h1:=HS2.out.len;have h2:=yE x.1.args x.1.args.len;have h3:=HL.out;omega
   have HF:Hid (Calls rB 388 #[jS pa P.length pc,jG x.1] (wr.drewN 1) (zDB (wr.drewN 1) x P)):=rA (zCt x HSD.out.st.sub HSD.out.st.past (by omega));obtain⟨-,a1, -⟩:=HS2.out.st.cells;go_upto_region 6 with fail;go_cut [28] from 17 to 27 (fun t wx=>∃b:Bool,t=jB b/\Hid (CoS U lo ab N d x W wx x.1.args.len pa pc P/\(b=false->yL P (zQ x))))
   case first=>
    go_region_held3 (fun w'=>w'.cell? ⟨W.heap.size,0,none⟩=some (jI kQ x.1.op)/\w'.cell? ⟨W.heap.size,1,none⟩=some (jT x.1.nm)/\w'.cell? ⟨W.heap.size,2,none⟩=some (jI kQ x.1.v)/\w'.cell? ⟨W.heap.size,3,none⟩=some (jI kQ x.1.bd)/\w'.cell? ⟨W.heap.size,4,none⟩=some (jS x.1.a x.1.args.len x.1.c)/\w'.cell? ⟨ab,1,none⟩=some (jS pa P.length pc)) (go_keep)
     (first
      |(go_at_call 379;refine(HQ.out _).mono ?_;rintro e' w8 ⟨rfl,rfl⟩)
      |(go_at_call 388;refine(HF.out).mono ?_;rintro e' w8 ⟨r,rfl,hr,hg⟩;have HS8:=rA (HSD.out.gr hg);obtain⟨r0,r1,r2,r3,r4, -⟩:=zA HS8.out.box;obtain⟨-,r5, -⟩:=HS8.out.st.cells;have HFI:=rA hr;clear hr hg))
    all_goals
     go_wp2_with fail;go_meet;exact⟨_,rfl,rA ⟨HS8.out,fun h=>zCH.mem HFI.out (by simpa using h)⟩⟩
   case rest=>
    obtain⟨b,rfl,HU⟩:=hcut;clear HS2 HSD HF HDN a1 q0 q1 q2 q3 q4;cases b with
    |false=>
     have HE:=rA (HU.out.1.done (fun _=>HU.out.2 rfl));go_wp2_with fail
     go_end0
     exact HE.out
    |true=>
     have HU1:=rA (HU.out.1.gr (Gr.drawn wc 1));obtain⟨q,c',W2,hrun,hfz,hcl,hab1,habf,hqab,hlc,hold,hqn,hB,hF⟩:=HU1.out.st.pushP x hpl;dsimp only at hrun hfz hcl hab1 habf hqab hlc hold hqn hB hF;have HRUN:=rA hrun;have hend:=HU1.out.put (by have:=HL.out;omega) HR.out hB hF hqn;have hend2:=hend;rw[<-zCv _ hqab] at hend2;unfold set5 at hend hend2;have HEND:=rA hend;have HEND2:=rA hend2;clear hend hend2;have HBX:=rA ((hold _ (Array.getElem?_eq_some_iff.1 HU1.out.box).1 (fun e=>(zZ.1 (HU1.out.nbox HD.out)).2 (by rw[e];rfl))).trans HU1.out.box);have HBA:Hid (∀o:Obj,(wc.alloc o).heap[W.heap.size]? =some (.cells x.1 33 (0,0))/\(wc.alloc o).cell? ⟨ab,1,none⟩=some (jS pa P.length pc)):=rA fun o=>⟨(HU.out.1.gr (Gr.alloc _ o)).box,(HU.out.1.gr (Gr.alloc _ o)).st.cells.2.1⟩
     obtain⟨-,a1, -⟩:=HU.out.1.st.cells;obtain⟨q0,q1,q2,q3,q4, -⟩:=zA HU.out.1.box;obtain⟨b0,b1,b2,b3,b4, -⟩:=zA HBX.out;obtain⟨u0,e0⟩:=hcl 0 (by omega);obtain⟨u1,e1⟩:=hcl 1 (by omega);obtain⟨u2,e2⟩:=hcl 2 (by omega);obtain⟨u3,e3⟩:=hcl 3 (by omega);obtain⟨u4,e4⟩:=hcl 4 (by omega);have g0:=hfz (P.length*5);have g1:=hfz (P.length*5+1);have g2:=hfz (P.length*5+2);have g3:=hfz (P.length*5+3);have g4:=hfz (P.length*5+4);have ga:=habf 1;have hqab':=hqab.symm;obtain⟨hz1,hz2⟩:=HBA.out (.cells #[jI kQ 0,jT ⟨#[]⟩,jI kQ 0,jI kQ 0,jS none 0 0] 33);obtain⟨z0,z1,z2,z3,z4, -⟩:=zA hz1;have hli:(P.length:Int)<(P.length:Int)+1:=by omega
     rw[rU] at e0;clear hrun hfz hcl habf hold hqn hB hF HBA hz1 HBX;go_upto_region 7 with fail
     go_region_law (first|(refine zM rfl (.tmp 32) (.tmp 35) 31 31 (some 36) rfl rfl _ _ rfl rfl _ _ HRUN.out ?_))
     all_goals
      go_wp2_with fail
      go_end0
      first
       |with_reducible exact HEND.out
       |with_reducible exact HEND2.out
theorem zHq (U:World) (lo ab N:Nat):∀n,zSR U lo ab N n
 |0=>fun _ _ _ h=>absurd h (rW _)
 |n+1=>fun d x W h hN hr hB hl=>zIX (zHq U lo ab N n) d x W (Nat.lt_succ_iff.1 h) hN hr hB hl
theorem BdS.pushE {U W:World} {lo ab:Nat} {d:Bd U} (h:BdS U lo W ab d) (x:El U) (hl:d.E.length+1<=1000000):
  ∃(q c':Nat) (W2:World),(rN #[31,31] 31 #[jS d.ea d.E.length d.ec,jS (some ⟨W.heap.size,0,none⟩) 1 1]).run rB (W.alloc (.cells #[jI kQ 0,jT ⟨#[]⟩,jI kQ 0,jI kQ 0,jS none 0 0] 33))=.ok (jS (some ⟨q,0,none⟩) (d.E.length+1) c') W2/\
   (∀j,W2.frozen? ⟨q,j,none⟩=false)/\(∀j,j<5->∃u,W2.cell? ⟨q,d.E.length*5+j,none⟩=some u)/\W2.cell? ⟨ab,2,none⟩=some (jS d.ea d.E.length d.ec)/\(∀j,W2.frozen? ⟨ab,j,none⟩=false)/\q≠ab/\d.E.length+1<=c'/\(∀k,k<W.heap.size->d.ea≠some ⟨k,0,none⟩->W2.heap[k]? =W.heap[k]?)/\(d.ea=some ⟨q,0,none⟩∨W.heap.size<=q)/\
   BdS U lo ((set5 W2 q (d.E.length*5) (jI kQ x.1.op) (jT x.1.nm) (jI kQ x.1.v) (jI kQ x.1.bd) (jS x.1.a x.1.args.len x.1.c)).setCell ⟨ab,2,none⟩ (jS (some ⟨q,0,none⟩) (d.E.length+1) c')) ab {d with ea:=some ⟨q,0,none⟩,ec:=c',E:=d.E++[x]}/\
   Fr (zBD ab d.ea) W.heap.size W ((set5 W2 q (d.E.length*5) (jI kQ x.1.op) (jT x.1.nm) (jI kQ x.1.v) (jI kQ x.1.bd) (jS x.1.a x.1.args.len x.1.c)).setCell ⟨ab,2,none⟩ (jS (some ⟨q,0,none⟩) (d.E.length+1) c')):=by
 have hlt:=h.lt;obtain⟨a',c',W2,hrun,hL,hA,hc⟩:=zB5 tyE (by omega) xQ zES (zDN U) h.els (by have:=h.lo;omega) h.caps.2 (by omega) 33;rw[zHr] at hrun hA;have hZ:=xQ (zDN U);generalize zDN U=zz at*;obtain⟨q,rfl,hq,hRow⟩:=hL.row (by rw[rD,List.length_singleton];omega);have s1:(W.alloc (.cells #[jI kQ 0,jT ⟨#[]⟩,jI kQ 0,jI kQ 0,jS none 0 0] 33)).heap.size=W.heap.size+1:=by simp
 have hsz:W.heap.size+1<=W2.heap.size:=by have:=hA.size;simp at this;omega
 have hold:∀k,k<W.heap.size->d.ea≠some ⟨k,0,none⟩->W2.heap[k]? =W.heap[k]? :=fun k hk hne=>(hA.other (by simp;omega) hne).trans (rE _ _ hk)
 have hqn:d.ea=some ⟨q,0,none⟩∨W.heap.size<=q:=(hA.at' q rfl).imp_right fun e=>by simp at e;omega
 have hqab:q≠ab:=fun e=>by
  rcases hqn with h1|h1
  ·exact h.nab.2 (by rw[h1,e])
  ·omega
 have hab:W2.heap[ab]? =_:=(hold ab hlt h.nab.2).trans h.blk;have hF:Fr (zBD ab d.ea) W.heap.size W ((set5 W2 q (d.E.length*5) (jI kQ x.1.op) (jT x.1.nm) (jI kQ x.1.v) (jI kQ x.1.bd) (jS x.1.a x.1.args.len x.1.c)).setCell ⟨ab,2,none⟩ (jS (some ⟨q,0,none⟩) (d.E.length+1) c')):=by
  obtain⟨⟨row,hgr,hr⟩,hd, -⟩:=hA;have F0:Fr (zBD ab d.ea) W.heap.size W W2:=⟨hgr.os,hgr.tape,hgr.output,by omega,fun k hk hh=>hold k hk fun e=>(zZ.1 hh).2 (by rw[e];rfl)⟩;have hq5:zBD ab d.ea q=true∨W.heap.size<=q:=hqn.imp_left fun e=>by rw[e];simp[zBD,blkOf]
  exact(((((F0.setCell (a:=⟨q,_,none⟩) hq5 _).setCell (a:=⟨q,_,none⟩) hq5 _).setCell (a:=⟨q,_,none⟩) hq5 _).setCell (a:=⟨q,_,none⟩) hq5 _).setCell (a:=⟨q,_,none⟩) hq5 _).setCell (.inl (by simp[zBD])) _
 have hlen:(d.E++[zz]).length=d.E.length+1:=by rw[rD,List.length_singleton]
 refine⟨q,c',W2,hrun,fun j=>hRow.frozen j,fun j hj=>?_,by simp[rO,hab],fun j=>by simp[rR,hab],hqab,by rw[<-hlen];exact hRow.1,hold,hqn,?_,hF⟩
 ·have:=hRow.cell (j:=d.E.length) (by rw[hlen];omega) (c:=j) (u:=(yY zz)[j]'(by rw[hZ];exact hj)) hj (by rw[List.getElem_append_right (rL _)];simp)
  exact⟨_,this⟩
 ·have hL5:=zH.set5 hL x
  refine⟨h.sub.low h.lo.1 hF.size fun k hk=>hF.block k (by have:=h.lo;omega) (zZ.2 ⟨by have:=h.lo;omega,fun e=>?_⟩),?_,?_,?_,fun q' e e'=>?_,⟨h.nab.1,?_⟩,h.lo,h.caps.1,hc⟩
  ·have:=(h.els.lt (h.els.blkOf e)).2
   omega
  ·have e5:(set5 W2 q (d.E.length*5) (jI kQ x.1.op) (jT x.1.nm) (jI kQ x.1.v) (jI kQ x.1.bd) (jS x.1.a x.1.args.len x.1.c)).heap[ab]? =_:=(yX (Ne.symm hqab)).trans hab
   rw[rV _ _ 2 _ 436 _ e5];simp
  ·refine h.past.block fun q' e=>?_
   have h1:=h.past.lt e;have h2:q'≠q:=fun e'=>by
    rcases hqn with h4|h4
    ·exact h.ne q' e (by rw[h4,e'])
    ·omega
   have h3:q'≠ab:=fun e'=>h.nab.1 (by rw[e,e'])
   rw[rK _ _ _ _ (by simpa using h3),yX h2];exact hold q' h1.1 fun e'=>h.ne q' e e'
  ·exact hL5.block fun q' e=>rK _ _ _ _ (by cases e;simpa using hqab)
  ·cases e'
   rcases hqn with h4|h4
   ·exact h.ne q e h4
   ·have:=(h.past.lt e).1;omega
  ·intro e;cases e;exact hqab rfl
def Fs.hd:Fs->Fs
 | .nil=>.nil
 | .cons op nm v bd a _=>.cons op nm v bd a .nil
def okC (T:Fs->Prop):Fs->Prop
 | .nil=>True
 | .cons op _ _ _ a r=>((!(op==8||op==9||op==10)&&zCC a)=true∨((op=8->T a.hd)/\okC T a))/\okC T r
theorem okC.mono {T T':Fs->Prop} (h:∀t,T t->T' t):∀ {f:Fs},okC T f->okC T' f
 | .nil,_=>trivial
 | .cons ..,⟨h1,h3⟩=>⟨h1.imp id fun⟨h4,h5⟩=>⟨fun e=>h _ (h4 e),okC.mono h h5⟩,okC.mono h h3⟩
theorem okC.hd {T:Fs->Prop}:∀ {f:Fs},okC T f->okC T f.hd
 | .nil,_=>trivial
 | .cons ..,h=>⟨h.1,trivial⟩
def CoE {U:World} (N:Nat) (R ow:Fs) (P P':List (El U)):Prop:=(∀y∈P,y∈P')/\∀y∈P',y∈P∨((okC (yL P') (zQ y)∨zQ y=ow)/\y.1.ar/\y.1.args.nodes<=N/\∀T,okP T R->okP T (zQ y))
def zRo {U:World} (N:Nat) (R:Fs) (P P':List (El U)):Prop:=(∀y∈P,y∈P')/\∀y∈P',y∈P∨(okC (yL P') (zQ y)/\y.1.ar/\y.1.args.nodes<=N/\∀T,okP T R->okP T (zQ y))
theorem okP.hd {T:Fs->Prop}:∀ {f:Fs},okP T f->okP T f.hd
 | .nil,_=>trivial
 | .cons ..,h=>⟨h.1,h.2.1,trivial⟩
theorem CoE.refl {U:World} (N:Nat) (R ow:Fs) (P:List (El U)):CoE N R ow P P:=⟨fun _ h=>h,fun _ h=>.inl h⟩
theorem CoE.trans {U:World} {N:Nat} {R R' ow:Fs} {P P' P'':List (El U)} (h:CoE N R ow P P') (hR:∀T,okP T R->okP T R') (k:zRo N R' P' P''):CoE N R ow P P'':=
 ⟨fun y hy=>k.1 y (h.1 y hy),fun y hy=>(k.2 y hy).elim (fun h1=>(h.2 y h1).imp id fun⟨h2,h3⟩=>⟨h2.imp_left fun h2=>h2.mono (yL.sub k.1),h3⟩) fun⟨h2,h3,h4,h5⟩=>.inr ⟨.inl h2,h3,h4,fun T h=>h5 T (hR T h)⟩⟩
theorem CoE.done {U:World} {N:Nat} {R ow:Fs} {P P':List (El U)} (h:CoE N R ow P P') (ho:okC (yL P') ow):zRo N R P P':=
 ⟨h.1,fun y hy=>(h.2 y hy).imp id fun⟨h2,h3⟩=>⟨h2.elim id fun e=>by rw[e];exact ho,h3⟩⟩
def WaR (U:World) (lo ab N:Nat) (d:Bd U) (x:El U) (W:World) (e:Ending) (W':World):Prop:=e=jR (jU #[])/\∃ea' ec' E',BdS U lo W' ab {d with ea:=ea',ec:=ec',E:=E'}/\zRo N (zQ x) d.E E'/\okC (yL E') (zQ x)/\
 Fr (zBD ab d.ea) W.heap.size W W'/\(∀q,ea'=some ⟨q,0,none⟩->d.ea=some ⟨q,0,none⟩∨W.heap.size<=q)/\E'.length<=d.E.length+x.1.args.nodes+1
def zSz (U:World) (lo ab N n:Nat):Prop:=∀(d:Bd U) (x:El U) (W:World),x.1.args.nodes<n->x.1.args.nodes<=N->x.1.ar->BdS U lo W ab d->d.E.length+x.1.args.nodes+1<=1000000->
 Calls rB 381 #[jP (some ⟨ab,0,none⟩),jG x.1] W (WaR U lo ab N d x W)
structure WaS (U:World) (lo ab N:Nat) (d:Bd U) (x:El U) (ow:Fs) (W wr:World) (k:Nat) (ea:Option Addr) (ec:Nat) (E:List (El U)):Prop where
 st:BdS U lo wr ab {d with ea:=ea,ec:=ec,E:=E}
 cp:CoE N (zQ x) ow d.E E
 pre:∀T:Fs->Prop,(∀t,yL E t->T t)->okC T (x.1.args.drop k)->okC T x.1.args
 fr:Fr (zBD ab d.ea) W.heap.size W wr
 nw:∀q,ea=some ⟨q,0,none⟩->d.ea=some ⟨q,0,none⟩∨W.heap.size<q
 len:E.length<=d.E.length+1+zU x.1.args k
 box:wr.heap[W.heap.size]? =some (.cells x.1 33 (0,0))
section
variable {U W wr w2:World} {lo ab N k ec:Nat} {d:Bd U} {x:El U} {ow:Fs} {ea:Option Addr} {E:List (El U)}
theorem WaS.gr (h:WaS U lo ab N d x ow W wr k ea ec E) (hg:Gr wr w2):WaS U lo ab N d x ow W w2 k ea ec E:=
 ⟨h.st.gr hg,h.cp,h.pre,h.fr.trans ((Fr.of_below hg.1).mono h.fr.size),h.nw,h.len,(hg.1.block _ (Array.getElem?_eq_some_iff.1 h.box).1).trans h.box⟩
theorem WaS.nbox (h:WaS U lo ab N d x ow W wr k ea ec E) (hd:BdS U lo W ab d):zBD ab ea W.heap.size=false:=by
 refine zZ.2 ⟨by have:=hd.lt;omega,fun e=>?_⟩;rcases h.nw _ (h.st.els.blkOf e) with h1|h1
 ·have:=(hd.els.lt h1).1;omega
 ·omega
theorem WaS.next (h:WaS U lo ab N d x ow W wr k ea ec E) (hd:BdS U lo W ab d) {y:El U} (hdr:x.1.args.drop k=.cons y.1.op y.1.nm y.1.v y.1.bd y.1.args (x.1.args.drop (k+1))) (hg:Gr wr w2) {e:Ending} {w3:World} (hR:WaR U lo ab N {d with ea:=ea,ec:=ec,E:=E} y w2 e w3):
  ∃ea' ec' E',WaS U lo ab N d x ow W w3 (k+1) ea' ec' E'/\∀t,yL E t->yL E' t:=by
 obtain⟨_,ea',ec',E',h1,h2,h3,h4,h5,h6⟩:=hR;have hg2:=h.gr hg;refine⟨ea',ec',E',⟨h1,h.cp.trans (fun T hT=>by have h9:=okP.drop k hT.2.1;rw[hdr] at h9;exact⟨h9.1,h9.2.1,trivial⟩) h2,fun T hT hr=>h.pre T (fun t ht=>hT t (yL.sub h2.1 t ht)) ?_,?_,fun q hq=>?_,?_,?_⟩,yL.sub h2.1⟩
 ·rw[hdr]
  have:=h3.mono hT;exact⟨this.1,hr⟩
 ·refine hg2.fr.trans ⟨h4.os,h4.tape,h4.output,h4.size,fun q hq hh=>h4.block q (rC hq hg2.fr.size) (zZ.2 ⟨(zZ.1 hh).1,fun e=>?_⟩)⟩
  rcases h.nw _ (h.st.els.blkOf e) with h7|h7
  ·exact(zZ.1 hh).2 (by rw[h7];rfl)
  ·omega
 ·rcases h5 q hq with h7|h7
  ·exact h.nw q h7
  ·have:=hg.1.size
   have:=(Array.getElem?_eq_some_iff.1 h.box).1;exact .inr (by omega)
 ·have:=h.len
  rw[zX hdr];dsimp only at h6;omega
 ·exact(h4.block _ (Array.getElem?_eq_some_iff.1 hg2.box).1 (h.nbox hd)).trans hg2.box
theorem WaS.done (h:WaS U lo ab N d x ow W wr x.1.args.len ea ec E) (hx:x.1.op=8->yL E x.1.args.hd) (ho:ow=x.1.args.hd∨ow=zQ x):WaR U lo ab N d x W (jR (jU #[])) wr:=by
 have hA:okC (yL E) x.1.args:=h.pre _ (fun _ h=>h) (by rw[Fs.drop_end (rL _)];trivial);have hT:okC (yL E) (zQ x):=⟨.inr ⟨hx,hA⟩,trivial⟩;refine⟨rfl,ea,ec,E,h.st,h.cp.done ?_,hT,h.fr,fun q hq=>(h.nw q hq).imp_right Nat.le_of_lt,?_⟩
 ·rcases ho with rfl|rfl
  ·exact hA.hd
  ·exact hT
 ·have:=h.len
  have:=yE x.1.args x.1.args.len;omega
theorem WaS.put (h:WaS U lo ab N d x ow W wr 0 d.ea d.ec d.E) (y:El U) (hy:zQ y=ow) (hN:y.1.args.nodes<=N) (hr:y.1.ar) {q c':Nat} {W3:World} (hB:BdS U lo W3 ab {d with ea:=some ⟨q,0,none⟩,ec:=c',E:=d.E++[y]}) (hF:Fr (zBD ab d.ea) wr.heap.size wr W3) (hq:d.ea=some ⟨q,0,none⟩∨wr.heap.size<=q) (hd:BdS U lo W ab d) (hs:∀T,okP T (zQ x)->okP T ow):WaS U lo ab N d x ow W W3 0 (some ⟨q,0,none⟩) c' (d.E++[y])/\yL (d.E++[y]) ow:=by
 have hbx:=(Array.getElem?_eq_some_iff.1 h.box).1;refine⟨⟨hB,⟨fun y hy=>rI _ hy,fun z hz=>?_⟩,fun T _ h0=>by cases hx:x.1.args<;>rw[hx] at h0<;>exact h0,?_,fun q' e=>?_,by simp,?_⟩,y,by simp,hy⟩
 ·rcases List.mem_append.1 hz with hz|hz
  ·exact .inl hz
  ·rw[List.mem_singleton.1 hz]
   exact .inr ⟨.inr hy,hr,hN,fun T hT=>by rw[hy];exact hs T hT⟩
 ·exact h.fr.trans (hF.mono h.fr.size)
 ·cases e
  exact hq.imp id fun h7=>by omega
 ·exact(hF.block _ hbx (h.nbox hd)).trans h.box
theorem BdS.put5 (h:BdS U lo W ab d) {B:Nat} (h1:ab<B) (h3:d.ea≠some ⟨B,0,none⟩) (h4:d.pa≠some ⟨B,0,none⟩) (a b c e f:Value):BdS U lo (Go.Proofs.YtmabhhngoklncaaGreatDoor.put5 W B a b c e f) ab d:=
 ⟨h.sub.low h.lo.1 (Nat.le_of_eq yJ.symm) fun k hk=>zJ (by have:=h.lo;omega),(zJ (by omega)).trans h.blk,h.past.block fun q e=>zJ (fun e'=>h4 (by rw[e,e'])),h.els.block fun q e=>zJ (fun e'=>h3 (by rw[e,e'])),h.ne,h.nab,h.lo,h.caps⟩
theorem Fr.putB {p:Nat->Bool} {n B:Nat} (h:Fr p n W wr) (hB:n<=B) (a b c e f:Value):Fr p n W (Go.Proofs.YtmabhhngoklncaaGreatDoor.put5 wr B a b c e f):=
 ((((h.setCell (a:=⟨B,_,none⟩) (.inr hB) _).setCell (a:=⟨B,_,none⟩) (.inr hB) _).setCell (a:=⟨B,_,none⟩) (.inr hB) _).setCell (a:=⟨B,_,none⟩) (.inr hB) _).setCell (a:=⟨B,_,none⟩) (.inr hB) _
theorem WaS.put5 (h:WaS U lo ab N d x ow W wr 0 d.ea d.ec d.E) (hd:BdS U lo W ab d) {B:Nat} (h1:W.heap.size<B) (h3:d.ea≠some ⟨B,0,none⟩) (h4:d.pa≠some ⟨B,0,none⟩) (a b c e f:Value):WaS U lo ab N d x ow W (Go.Proofs.YtmabhhngoklncaaGreatDoor.put5 wr B a b c e f) 0 d.ea d.ec d.E:=
 ⟨h.st.put5 (by have:=hd.lt;omega) h3 h4 _ _ _ _ _,h.cp,h.pre,h.fr.putB (Nat.le_of_lt h1) _ _ _ _ _,h.nw,h.len,(zJ (by omega)).trans h.box⟩
end
theorem zMk {U:World} {lo ab N n:Nat} (IH:zSz U lo ab N n) (d:Bd U) (x:El U) (W:World) (hn:x.1.args.nodes<=n) (hN:x.1.args.nodes<=N) (hr:x.1.ar) (h:BdS U lo W ab d) (hl:d.E.length+x.1.args.nodes+1<=1000000):
  Calls rB 381 #[jP (some ⟨ab,0,none⟩),jG x.1] W (WaR U lo ab N d x W):=by
 have HD:=rA h;have HR:=rA hr;have HXU:=rA x.2;have HK:Hid (∀k,k<x.1.args.len->∃(b o:Nat) (y:El U),x.1.a=some ⟨b,o,none⟩/\x.1.args.drop k=.cons y.1.op y.1.nm y.1.v y.1.bd y.1.args (x.1.args.drop (k+1))/\y.1.ar/\y.1.args.nodes<x.1.args.nodes/\
  ∀W,Sub U W->W.cell? ⟨b,o+k*5,none⟩=some (jI kQ y.1.op)/\W.cell? ⟨b,o+k*5+1,none⟩=some (jT y.1.nm)/\W.cell? ⟨b,o+k*5+2,none⟩=some (jI kQ y.1.v)/\W.cell? ⟨b,o+k*5+3,none⟩=some (jI kQ y.1.bd)/\W.cell? ⟨b,o+k*5+4,none⟩=some (jS y.1.a y.1.args.len y.1.c)):=rA fun k hk=>El.kid x hr hk
 have HI:=rA IH;have HL:=rA (And.intro hn (And.intro hN hl));have hal:x.1.args.len<=9223372036854775807:=x.2.2.2.1;have HEL:Hid (d.E.length+1<=1000000):=rA (by omega);have HS0:Hid (∀ow,WaS U lo ab N d x ow W (W.alloc (.cells x.1 33)) 0 d.ea d.ec d.E):=rA fun ow=>
  ⟨h.gr (Gr.alloc _ _),CoE.refl _ _ _ _,fun T _ h=>by cases hx:x.1.args<;>rw[hx] at h<;>exact h,Fr.of_below (Gr.alloc _ _).1,fun q e=>.inl e,by omega,rT _ _⟩
 have HP:Hid (∀w',Gr (W.alloc (.cells x.1 33)) w'->x.1.past=true->WaR U lo ab N d x W (jR (jU #[])) w'):=rA fun w' hg hp=>by
  have hb:=h.gr ((Gr.alloc _ _).trans hg);exact⟨rfl,d.ea,d.ec,d.E,hb,⟨fun _ h=>h,fun _ h=>.inl h⟩,⟨.inl hp,trivial⟩,Fr.of_below ((Gr.alloc _ _).trans hg).1,fun q e=>.inl e,by omega⟩
 have HC:Hid (Calls rB 386 #[jG x.1] (W.alloc (.cells x.1 33)) (zFP (W.alloc (.cells x.1 33)) x.1.past)):=rA (zAb (Fe.ok_sub _ _ _ (h.sub.gr (Gr.alloc _ _)) x.2));clear IH h hr hn hN hl;go_enter Tryz.func381,Tryz.ntmps381;go_upto_region 1 with fail;generalize W.alloc (.cells x.1 33)=w1 at*;obtain⟨q0,q1,q2,q3,q4, -⟩:=zA (HS0.out .nil).box;generalize hpa:x.1.past=pa at*;go_wp2_with fail;refine HC.out.mono ?_;rintro e w2 ⟨rfl,hg2⟩;cases pa with
 |true=>
  have HE:=rA (HP.out _ hg2 rfl);clear hg2 HC q0 q1 q2 q3 q4;go_wp2_with fail
  go_end0
  exact HE.out
 |false=>
  have HS2:Hid (∀ow,WaS U lo ab N d x ow W w2 0 d.ea d.ec d.E):=rA fun ow=>(HS0.out ow).gr hg2
  clear hg2 HC HP HS0 hpa q0 q1 q2 q3 q4;obtain⟨q0,q1,q2,q3,q4, -⟩:=zA (HS2.out .nil).box;go_upto_region 3 with fail;have HB4:Hid ((w2.alloc (.cells x.1 33)).heap[w2.heap.size]? =some (.cells x.1 33 (0,0))):=rA (rT _ _);have HS3:Hid (∀ow,WaS U lo ab N d x ow W (w2.alloc (.cells x.1 33)) 0 d.ea d.ec d.E):=rA fun ow=>(HS2.out ow).gr (Gr.alloc _ _)
  have HLT:Hid (W.heap.size<w2.heap.size/\w2.heap.size≠ab/\d.ea≠some ⟨w2.heap.size,0,none⟩/\d.pa≠some ⟨w2.heap.size,0,none⟩):=rA ⟨(Array.getElem?_eq_some_iff.1 (HS2.out .nil).box).1,by have:=(HS2.out .nil).st.lt;omega,fun e=>by have:=((HS2.out .nil).st.els.lt e).1;omega,fun e=>by have:=((HS2.out .nil).st.past.lt e).1;omega⟩;clear HS2 q0 q1 q2 q3 q4;generalize w2.alloc (.cells x.1 33)=w3 at*;generalize w2.heap.size=B4 at*;obtain⟨q0,q1,q2,q3,q4, -⟩:=zA (HS3.out .nil).box;by_cases ho:x.1.op=8∨x.1.op=9∨x.1.op=10
  case' neg=>
   have d8:(x.1.op==(8:Int))=false:=by rw[beq_eq_false_iff_ne];omega
   have d9:(x.1.op==(9:Int))=false:=by rw[beq_eq_false_iff_ne];omega
   have d10:(x.1.op==(10:Int))=false:=by rw[beq_eq_false_iff_ne];omega
   have HH:Hid (x.1.op=8->yL d.E x.1.args.hd):=rA fun e=>by omega
   obtain⟨ow,how⟩:∃ow,ow=zQ x:=⟨_,rfl⟩;have HOW:Hid (ow=x.1.args.hd∨ow=zQ x):=rA (.inr how);have HST:=rA (HS3.out ow);clear how ho HB4 HS3
  case' pos=>
   have HO8:=rA ho;by_cases h8:x.1.op=8
   case' pos=>
    have d8:(x.1.op==(8:Int))=true:=by rw[beq_iff_eq];exact h8
    obtain⟨ow,how⟩:∃ow,ow=x.1.args.hd:=⟨_,rfl⟩;have HOW:Hid (ow=x.1.args.hd∨ow=zQ x):=rA (.inl how);have HW8:Hid (x.1.op=8->ow=x.1.args.hd):=rA fun _=>how
    have HWT:Hid (∀T,okP T (zQ x)->okP T ow):=rA (by rw[how];exact fun T hT=>okP.hd hT.2.1);have hl1:x.1.args.len=1:=HR.out.1.1 (.inr (.inl h8));obtain⟨b,o,y,hxa,hdr,hyr,hyn,hcs⟩:=HK.out 0 (by omega);have hl0:(0:Int)<(x.1.args.len:Int):=by omega
    clear hl1 h8 ho;obtain⟨c0,c1,c2,c3,c4⟩:=hcs w3 (HS3.out .nil).st.sub;simp only[Nat.zero_mul,rU] at c0 c1 c2 c3 c4;have HY:Hid (zQ y=ow/\y.1.ar/\y.1.args.nodes<=N):=rA ⟨by
     have h0:x.1.args.drop 0=x.1.args:=by cases x.1.args<;>rfl
     rw[h0] at hdr;rw[how,hdr];rfl,hyr,by have:=HL.out;omega⟩
    obtain⟨k0,k1,k2,k3,k4,f0,f1,f2,f3,f4⟩:=zA HB4.out;rw[hxa] at q4 ⊢;clear how hdr hyr hyn hcs;go_upto_region 5 with fail;have HB5:Hid ((put5 w3 B4 (jI kQ y.1.op) (jT y.1.nm) (jI kQ y.1.v) (jI kQ y.1.bd) (jS y.1.a y.1.args.len y.1.c)).heap[B4]? =some (.cells y.1 33 (0,0))):=rA (yA HB4.out);have HS5:Hid (WaS U lo ab N d x ow W (put5 w3 B4 (jI kQ y.1.op) (jT y.1.nm) (jI kQ y.1.v) (jI kQ y.1.bd) (jS y.1.a y.1.args.len y.1.c)) 0 d.ea d.ec d.E):=rA ((HS3.out _).put5 HD.out HLT.out.1 HLT.out.2.2.1 HLT.out.2.2.2 _ _ _ _ _);unfold put5 at HB5 HS5;clear k0 k1 k2 k3 k4 f0 f1 f2 f3 f4 c0 c1 c2 c3 c4 q0 q1 q2 q3 q4 HB4 HS3;generalize (((w3.setCell ⟨B4,0,none⟩ (jI kQ y.1.op)).setCell ⟨B4,1,none⟩ (jT y.1.nm)).setCell ⟨B4,2,none⟩ (jI kQ y.1.v)).setCell ⟨B4,3,none⟩ (jI kQ y.1.bd)=w5' at*;generalize w5'.setCell ⟨B4,4,none⟩ (jS y.1.a y.1.args.len y.1.c)=w5 at*;obtain⟨q0,q1,q2,q3,q4, -⟩:=zA HS5.out.box;obtain⟨k0,k1,k2,k3,k4, -⟩:=zA HB5.out
   case' neg=>
    have d8:(x.1.op==(8:Int))=false:=by rw[beq_eq_false_iff_ne];exact h8
    obtain⟨ow,how⟩:∃ow,ow=zQ x:=⟨_,rfl⟩;have HOW:Hid (ow=x.1.args.hd∨ow=zQ x):=rA (.inr how);have HW8:Hid (x.1.op=8->ow=x.1.args.hd):=rA fun e=>absurd e h8
    have HWT:Hid (∀T,okP T (zQ x)->okP T ow):=rA (by rw[how];exact fun T hT=>hT);obtain⟨y,hyx⟩:∃y,y=x:=⟨x,rfl⟩;have HY:Hid (zQ y=ow/\y.1.ar/\y.1.args.nodes<=N):=rA (by subst hyx;exact⟨how.symm,HR.out,HL.out.2.1⟩);have HB5:Hid (w3.heap[B4]? =some (.cells y.1 33 (0,0))):=rA (by rw[hyx];exact HB4.out);have HS5:Hid (WaS U lo ab N d x ow W w3 0 d.ea d.ec d.E):=rA (HS3.out _);clear hyx how HB4 HS3;obtain⟨k0,k1,k2,k3,k4, -⟩:=zA HB5.out;by_cases h9:x.1.op=9
    case' neg=>
     have d9:(x.1.op==(9:Int))=false:=by rw[beq_eq_false_iff_ne];exact h9
     have d10:(x.1.op==(10:Int))=true:=by rw[beq_iff_eq];have:=HO8.out;omega
    case' pos=>
     have d9:(x.1.op==(9:Int))=true:=by rw[beq_iff_eq];exact h9
    all_goals
     clear h8 h9 ho;obtain⟨w5,hw⟩:∃v,v=w3:=⟨_,rfl⟩;subst hw
   all_goals
    go_upto_region 6 with fail;have HSD:=rA (HS5.out.gr (Gr.drawn w5 1));have HF:Hid (Calls rB 388 #[jS d.ea d.E.length d.ec,jG y.1] (w5.drewN 1) (zDB (w5.drewN 1) y d.E)):=rA (zCt y HSD.out.st.sub HSD.out.st.els (by have:=HEL.out;show d.E.length<=_;omega));have HBG:Hid (∀W',Gr (w5.drewN 1) W'->W'.heap[B4]? =some (.cells y.1 33 (0,0))):=rA fun W' hg=>(hg.1.block _ (Array.getElem?_eq_some_iff.1 HB5.out).1).trans HB5.out
    obtain⟨-, -,a2, -⟩:=HS5.out.st.cells;go_cut [36] from 30 to 35 (fun t wx=>∃b:Bool,t=jB b/\Hid (WaS U lo ab N d x ow W wx 0 d.ea d.ec d.E/\wx.heap[B4]? =some (.cells y.1 33 (0,0))/\(b=false->yL d.E ow)))
    case first=>
     go_region_held3 (fun w'=>w'.cell? ⟨B4,0,none⟩=some (jI kQ y.1.op)/\w'.cell? ⟨B4,1,none⟩=some (jT y.1.nm)/\w'.cell? ⟨B4,2,none⟩=some (jI kQ y.1.v)/\w'.cell? ⟨B4,3,none⟩=some (jI kQ y.1.bd)/\w'.cell? ⟨B4,4,none⟩=some (jS y.1.a y.1.args.len y.1.c)/\w'.cell? ⟨ab,2,none⟩=some (jS d.ea d.E.length d.ec)) (go_keep)
      (first
       |(go_at_call 388;refine(HF.out).mono ?_;rintro e' w8 ⟨r,rfl,hr,hg⟩;have HS8:=rA (HSD.out.gr hg);have HB8:=rA (HBG.out _ hg);obtain⟨r0,r1,r2,r3,r4, -⟩:=zA HB8.out;obtain⟨-, -,r5, -⟩:=HS8.out.st.cells;have HFI:=rA hr;clear hr hg))
     all_goals
      go_wp2_with fail;go_meet;exact⟨_,rfl,rA ⟨HS8.out,HB8.out,fun h=>by rw[<-HY.out.1];exact zCH.mem HFI.out (by simpa using h)⟩⟩
    obtain⟨b,rfl,HU⟩:=hcut;clear HS5 HSD HF HBG HB5 a2 q0 q1 q2 q3 q4 k0 k1 k2 k3 k4;cases b
    case' true=>
     have HU1:=rA (HU.out.1.gr (Gr.drawn wc 1));obtain⟨q,c',W2,hrun,hfz,hcl,hab1,habf,hqab,hlc,hold,hqn,hB,hF⟩:=HU1.out.st.pushE y HEL.out;dsimp only at hrun hfz hcl hab1 habf hqab hlc hold hqn hB hF;have HRUN:=rA hrun;have hend:=HU1.out.put y HY.out.1 HY.out.2.2 HY.out.2.1 hB hF hqn HD.out HWT.out;have hend2:=hend;rw[<-zCv _ hqab] at hend2;unfold set5 at hend hend2;have HEND:=rA hend;have HEND2:=rA hend2;clear hend hend2;have HBX:=rA ((hold B4 (Array.getElem?_eq_some_iff.1 HU.out.2.1).1 HLT.out.2.2.1).trans HU.out.2.1);have HBA:Hid (∀o:Obj,(wc.alloc o).heap[B4]? =some (.cells y.1 33 (0,0))/\(wc.alloc o).cell? ⟨ab,2,none⟩=some (jS d.ea d.E.length d.ec)):=rA fun o=>⟨(rE _ _ (Array.getElem?_eq_some_iff.1 HU.out.2.1).1).trans HU.out.2.1,(HU.out.1.gr (Gr.alloc _ o)).st.cells.2.2.1⟩
     obtain⟨-, -,a2, -⟩:=HU.out.1.st.cells;obtain⟨q0,q1,q2,q3,q4, -⟩:=zA HU.out.2.1;obtain⟨b0,b1,b2,b3,b4, -⟩:=zA HBX.out;obtain⟨u0,e0⟩:=hcl 0 (by omega);obtain⟨u1,e1⟩:=hcl 1 (by omega);obtain⟨u2,e2⟩:=hcl 2 (by omega);obtain⟨u3,e3⟩:=hcl 3 (by omega);obtain⟨u4,e4⟩:=hcl 4 (by omega);have g0:=hfz (d.E.length*5);have g1:=hfz (d.E.length*5+1);have g2:=hfz (d.E.length*5+2);have g3:=hfz (d.E.length*5+3);have g4:=hfz (d.E.length*5+4);have ga:=habf 2;have hqab':=hqab.symm;obtain⟨hz1,hz2⟩:=HBA.out (.cells #[jI kQ 0,jT ⟨#[]⟩,jI kQ 0,jI kQ 0,jS none 0 0] 33);obtain⟨z0,z1,z2,z3,z4, -⟩:=zA hz1;have hli:(d.E.length:Int)<(d.E.length:Int)+1:=by omega
     rw[rU] at e0;clear hrun hfz hcl habf hold hqn hB hF HBA hz1 HBX;go_upto_region 7 with fail;go_cut [] from 37 to 47 (fun wx=>∃(q c':Nat),Hid (WaS U lo ab N d x ow W wx 0 (some ⟨q,0,none⟩) c' (d.E++[y])/\yL (d.E++[y]) ow))
     case first=>
      go_region_law (first|(refine zM rfl (.tmp 40) (.tmp 43) 31 31 (some 44) rfl rfl _ _ rfl rfl _ _ HRUN.out ?_))
      all_goals
       go_wp2_with fail;go_meet
       first
        |with_reducible exact⟨_,_,HEND⟩
        |with_reducible exact⟨_,_,HEND2⟩
     obtain⟨qq,cc,HV⟩:=hcut;have HH:Hid (x.1.op=8->yL (d.E++[y]) x.1.args.hd):=rA fun e=>HW8.out e▸HV.out.2
     have HST:=rA HV.out.1;clear HV HU HU1 HEND HEND2 HRUN a2 q0 q1 q2 q3 q4 b0 b1 b2 b3 b4 e0 e1 e2 e3 e4 g0 g1 g2 g3 g4 ga z0 z1 z2 z3 z4 hz2 hab1 hli
    case' false=>
     have HH:Hid (x.1.op=8->yL d.E x.1.args.hd):=rA fun e=>HW8.out e▸HU.out.2.2 rfl
     have HST:=rA HU.out.1;clear HU
  all_goals
   obtain⟨q0,q1,q2,q3,q4, -⟩:=zA HST.out.box;go_wp2_with fail;go_loopw [51] (fun i wr=>∃(k:Nat) (ea:Option Addr) (ec:Nat) (E:List (El U)),k<=x.1.args.len/\i=jI kQ k/\Hid (WaS U lo ab N d x ow W wr k ea ec E/\(x.1.op=8->yL E x.1.args.hd))) (fun i _=>x.1.args.len - (intOf i).toNat)
   case atStart=>exact⟨0,_,_,_,rM _,rfl,rA ⟨HST.out,HH.out⟩⟩
   case round=>
    obtain⟨k,ea,ec,E,hk,rfl,HS⟩:=hrel;clear q0 q1 q2 q3 q4;by_cases hlt:k<x.1.args.len
    ·have hd:=dT hlt
     have hkl:(k:Int)<(x.1.args.len:Int):=by omega
     obtain⟨b,o,z,hxa',hdr,hyr,hyn,hcs⟩:=HK.out k hlt;obtain⟨c0,c1,c2,c3,c4⟩:=hcs wr HS.out.1.st.sub;have HDR:=rA hdr;have HC:Hid (∀o:Obj,Calls rB 381 #[jP (some ⟨ab,0,none⟩),jG z.1] (wr.alloc o) (WaR U lo ab N {d with ea:=ea,ec:=ec,E:=E} z (wr.alloc o))):=rA fun o=>HI.out _ z _ (by have:=HL.out;omega) (by have:=HL.out;omega) hyr (HS.out.1.st.gr (Gr.alloc _ _)) (by
      have h1:=HS.out.1.len;have h2:=yE x.1.args (k+1);rw[zX HDR.out] at h2;have h3:=HL.out;show E.length+z.1.args.nodes+1<=_;omega)
     first
      |rw[hxa']
      |(have hbo:=hxa.symm.trans hxa';simp only[Option.some.injEq,Addr.mk.injEq,and_true] at hbo;obtain⟨rfl,rfl⟩:=hbo)
     clear hdr hyr hyn hcs;go_wp2_with fail;refine(HC.out _).mono ?_;rintro e w5 hR;have HNX:=rA (HS.out.1.next HD.out HDR.out (Gr.alloc _ _) hR);obtain⟨he, -⟩:=hR;subst he;obtain⟨ea',ec',E',hS',hmt⟩:=HNX.out;have HS':=rA (And.intro hS' (fun e8=>hmt _ (HS.out.2 e8)));clear hS' hmt HNX HC c0 c1 c2 c3 c4;go_wp2_with fail;go_roundw
     case rel=>exact⟨k+1,ea',ec',E',by omega,by go_num,HS'⟩
     case measure=>simp[intOf];omega
    have hd:=dF hlt
    have hke:k=x.1.args.len:=by omega
    have HE:Hid (WaR U lo ab N d x W (jR (jU #[])) wr):=rA (by
     have hs:=HS.out;rw[hke] at hs;exact hs.1.done hs.2 HOW.out)
    clear HS hke hlt hk;go_wp2_with fail
    go_end0
    exact HE.out
theorem zPM (U:World) (lo ab N:Nat):∀n,zSz U lo ab N n
 |0=>fun _ _ _ h=>absurd h (rW _)
 |n+1=>fun d x W h hN hr hB hl=>zMk (zPM U lo ab N n) d x W (Nat.lt_succ_iff.1 h) hN hr hB hl
def RowsIn (L:List (List Int)) (len less:Nat):Prop:=∀j,j<L.length->(L.getD j []).length=len/\∀i,i<len->0<=(L.getD j []).getD i 0/\(L.getD j []).getD i 0<less
def zSd (w:World) (P:Prop) (e:Ending) (w':World):Prop:=w'=w/\∃b:Bool,e=jR (jB b)/\(b=true->P)
theorem zF7 {len less:Nat}{L:List (List Int)} (h:zR w (jS a L.length c) L) (hl:len<=9223372036854775807) (hs:less<=9223372036854775807):
  Calls rB 359 #[jS a L.length c,jI kQ len,jI kQ less] w (zSd w (RowsIn L len less)):=by
 have hLl:L.length<=9223372036854775807:=by obtain⟨_,_,_,h,_⟩:=h;exact h
 have H:=rA h;clear h;go_enter Tryz.func359,Tryz.ntmps359;go_wp2_with fail;go_loopw [13] (fun i wr=>∃k:Nat,k<=L.length/\i=jI kQ k/\wr=w/\Hid (∀j,j<k->(L.getD j []).length=len/\∀i,i<len->0<=(L.getD j []).getD i 0/\(L.getD j []).getD i 0<less)) (fun i _=>L.length - (intOf i).toNat)
 case atStart=>exact⟨0,rM _,rfl,rfl,rA fun j hj=>by omega⟩
 case round=>
  obtain⟨k,hk,rfl,hwr,HR⟩:=hrel;rw[hwr];clear hwr;by_cases hlt:k<L.length;rotate_left
  ·have hd:=dF hlt
   go_wp2_with fail;go_ret;exact⟨rfl,true,rfl,fun _ j hj=>HR.out j (by omega)⟩
  have hd:=dT hlt
  obtain⟨b,o,au,cu,rfl,c0,hn⟩:=H.out.at hlt;have hkl:(k:Int)<(L.length:Int):=by omega
  have hrl:=H.out.rowLen hlt;obtain⟨r,hr⟩:∃r,L.getD k []=r:=⟨_,rfl⟩;rw[hr] at c0 hrl hn;have HRE:=rA hr;have HN:=rA hn;clear hr hn;by_cases hm:r.length=len;rotate_left
  ·have hdm:((r.length:Int) !=(len:Int))=true:=by rw[bne_iff_ne];omega
   go_wp2_with fail;go_ret;exact⟨rfl,false,rfl,fun h=>by cases h⟩
  have hdm:((r.length:Int) !=(len:Int))=false:=by rw[bne_eq_false_iff_eq];omega
  have HM:=rA hm;clear hm;go_wp2_with fail;go_loopw [23] (fun i wq=>∃v:Nat,v<=r.length/\i=jI kQ v/\wq=w/\Hid (∀i,i<v->0<=r.getD i 0/\r.getD i 0<less)) (fun i _=>r.length - (intOf i).toNat)
  case atStart=>exact⟨0,rM _,rfl,rfl,rA fun j hj=>by omega⟩
  case round=>
   obtain⟨v,hv,rfl,hwr,HV⟩:=hrel;rw[hwr];clear hwr;by_cases hvl:v<r.length;rotate_left
   ·have hdv:=dF hvl
    have HNX:Hid (∀j,j<k+1->(L.getD j []).length=len/\∀i,i<len->0<=(L.getD j []).getD i 0/\(L.getD j []).getD i 0<less):=rA fun j hj=>by
     by_cases e:j=k
     ·subst e
      rw[HRE.out];exact⟨HM.out,fun i hi=>HV.out i (by have:=HM.out;omega)⟩
     ·exact HR.out j (by omega)
    go_wp2_with fail;go_roundw
    case rel=>exact⟨k+1,by omega,by go_num,trivial,HNX⟩
    case measure=>simp[intOf];omega
   have hdv:=dT hvl
   obtain⟨b2,o2,rfl,d0⟩:=HN.out.at hvl;have hvr:(v:Int)<(r.length:Int):=by omega
   obtain⟨y,hy⟩:∃y,r.getD v 0=y:=⟨_,rfl⟩;rw[hy] at d0;by_cases h0:y<0
   ·have hd0:=dT h0
    go_wp2_with fail;go_ret;exact⟨rfl,false,rfl,fun h=>by cases h⟩
   have hd0:=dF h0
   by_cases hA:(less:Int)<=y
   ·have hdA:=dT hA
    go_wp2_with fail;go_ret;exact⟨rfl,false,rfl,fun h=>by cases h⟩
   have hdA:=dF hA
   have HV2:Hid (∀i,i<v+1->0<=r.getD i 0/\r.getD i 0<less):=rA fun j hj=>by
    by_cases e:j=v
    ·subst e;rw[hy];omega
    ·exact HV.out j (by omega)
   clear hy HV h0 hA;go_wp2_with fail;go_roundw
   case rel=>exact⟨v+1,by omega,by go_num,trivial,HV2⟩
   case measure=>simp[intOf];omega
def zSZ (w:World) (e:Ending) (w':World):Prop:=∃x:Nat,x<=4096/\e=jR (jI kQ x)/\Gr w w'
theorem zHy {lt wt x S:Nat} (hS:1<=S) (h:lt<wt):lt+x % S*wt<wt*S/\x % S*wt<=wt*S:=by
 have h1:x % S<S:=Nat.mod_lt _ (by omega);have h2:x % S*wt+wt<=S*wt:=by
  have:=rF wt (show x % S+1<=S by omega);rw[rH] at this;omega
 rw[rX wt S];omega
theorem zLw {i o:Nat}{l:List Sg} (h:SgV w (jS a l.length c) l) (hw:SgW l) (hi:i<=100000000) (ho:o<=100000000):Calls rB 361 #[jS a l.length c,jI kQ (i:Nat),jI kQ (o:Nat)] w (zSZ w):=by
 have H:=rA h;have HW:=rA hw;have hl6:=hw.2.1;clear h hw;go_enter Tryz.func361,Tryz.ntmps361;go_wp2_with fail;go_loopw [1,2,7,8,13] (fun ti tq tl tw i wr=>∃(k x y lt wt:Nat),k<=l.length/\i=jI kQ k/\ti=jI kQ x/\tq=jI kQ y/\tl=jI kQ lt/\tw=jI kQ wt/\x<=100000000/\y<=100000000/\lt<wt/\Hid (Gr w wr/\wt<=4 ^ k)) (fun _ _ _ _ i _=>l.length - (intOf i).toNat)
 case atStart=>exact⟨0,i,o,0,1,rM _,rfl,rfl,rfl,rfl,rfl,hi,ho,by omega,rA ⟨Gr.refl _,by decide⟩⟩
 case round=>
  clear hi ho;obtain⟨k,x,y,lt,wt,hk,rfl,rfl,rfl,rfl,rfl,hx,hy,hlw,HR⟩:=hrel;have hw4:=zR7 (by omega) HR.out.2;by_cases hlt:k<l.length;rotate_left
  ·have hdk:=dF hlt
   go_wp2_with fail;go_ret;exact⟨lt,by omega,rfl,HR.out.1⟩
  have hdk:=dT hlt
  obtain⟨b,o',rfl,c0,c1,c2,hns⟩:=(H.out.keep HR.out.1.1).at hlt;have hkl:(k:Int)<(l.length:Int):=by omega
  obtain⟨S,hS⟩:∃S:Nat,l[k].size=S:=⟨l[k].size.toNat,by have:=HW.out.2.2 k hlt;omega⟩;have hS2:2<=S/\S<=4:=by have:=HW.out.2.2 k hlt;omega
  obtain⟨hS2,hS4⟩:=hS2;rw[hS] at c2;clear hS;generalize l[k].name=nm at*;generalize l[k].input=inp at*;have hS0:((S:Int)==0)=false:=by rw[beq_eq_false_iff_ne];omega
  have hne:¬S=0:=by omega
  have HPW:=rA (zEc HR.out.2 hS4);have hw5:wt*S<=16384:=Nat.mul_le_mul hw4 hS4;obtain⟨W2,hW2⟩:∃W2:Nat,wt*S=W2:=⟨_,rfl⟩;have hW2i:(wt:Int)*(S:Int)=(W2:Int):=by rw[<-hW2];simp
  rw[hW2] at HPW hw5;cases inp with
  |true=>
   obtain⟨hj1,hj2⟩:=zHy (lt:=lt) (wt:=wt) (x:=x) (S:=S) (by omega) hlw;obtain⟨q,hq⟩:∃q:Nat,(x:Int) / (S:Int)=q:=⟨x / S,by simp⟩;have hq1:q<=100000000:=by
    have h1:(x:Int) / (S:Int)<=x:=Int.ediv_le_self S (by omega);omega
   obtain⟨p,hp⟩:∃p:Nat,x % S*wt=p:=⟨_,rfl⟩;have hpi:(x:Int) % (S:Int)*(wt:Int)=(p:Int):=by rw[<-hp];simp
   have hpi2:(x:Int).tmod (S:Int)*(wt:Int)=(p:Int):=by rw[Int.tmod_eq_emod_of_nonneg (by omega)];exact hpi
   have hqt:(x:Int).tdiv (S:Int)=(q:Int):=by rw[Int.tdiv_eq_ediv_of_nonneg (by omega)];exact hq
   rw[hp,hW2] at hj1 hj2;clear hp hW2;go_wp2_with fail;go_roundw
   case rel=>exact⟨k+1,q,y,lt+p,W2,by omega,by go_num,by first|rfl|go_num,by first|rfl|go_num,by first|rfl|go_num,by first|rfl|go_num,hq1,hy,hj1,rA ⟨HR.out.1.trans (Gr.alloc _ _),HPW.out⟩⟩
   case measure=>simp[intOf];omega
  |false=>
   obtain⟨hj1,hj2⟩:=zHy (lt:=lt) (wt:=wt) (x:=y) (S:=S) (by omega) hlw;obtain⟨q,hq⟩:∃q:Nat,(y:Int) / (S:Int)=q:=⟨y / S,by simp⟩;have hq1:q<=100000000:=by
    have h1:(y:Int) / (S:Int)<=y:=Int.ediv_le_self S (by omega);omega
   obtain⟨p,hp⟩:∃p:Nat,y % S*wt=p:=⟨_,rfl⟩;have hpi:(y:Int) % (S:Int)*(wt:Int)=(p:Int):=by rw[<-hp];simp
   have hpi2:(y:Int).tmod (S:Int)*(wt:Int)=(p:Int):=by rw[Int.tmod_eq_emod_of_nonneg (by omega)];exact hpi
   have hqt:(y:Int).tdiv (S:Int)=(q:Int):=by rw[Int.tdiv_eq_ediv_of_nonneg (by omega)];exact hq
   rw[hp,hW2] at hj1 hj2;clear hp hW2;go_wp2_with fail;go_roundw
   case rel=>exact⟨k+1,x,q,lt+p,W2,by omega,by go_num,by first|rfl|go_num,by first|rfl|go_num,by first|rfl|go_num,by first|rfl|go_num,hx,hq1,hj1,rA ⟨HR.out.1.trans (Gr.alloc _ _),HPW.out⟩⟩
   case measure=>simp[intOf];omega
structure Ad where
 U:World
 lo:Nat
 ab:Nat
 m1:Nat
 m2:Nat
 m3:Nat
 sa:Option Addr
 sc:Nat
 l:List Sg
 pa:Option Addr
 pc:Nat
 P:List (El U)
 ea:Option Addr
 ec:Nat
 E:List (El U)
 ua:Option Addr
 uc:Nat
 un:List Int
def Ad.cells (A:Ad):Array Value:= #[jS A.sa A.l.length A.sc,jS A.pa A.P.length A.pc,jS A.ea A.E.length A.ec,jS A.ua A.un.length A.uc,.map (some A.m1),.map (some A.m2),.map (some A.m3)]
structure zBs (A:Ad):Prop where
 sg:SgV A.U (jS A.sa A.l.length A.sc) A.l
 sw:SgW A.l
 pl:A.P.length<=8
 el:A.E.length<=16
 par:∀y∈A.P,y.1.ar/\y.1.args.nodes<=400/\okP (yL A.P) (zQ y)
 ear:∀y∈A.E,y.1.ar/\y.1.args.nodes<=400/\okP (yL A.P) (zQ y)/\okC (yL A.E) (zQ y)
 un:∀u∈A.un,0<=u/\u<16
 unl:A.un.length<=16
 ms:A.m1≠A.m2/\A.m1≠A.m3/\A.m2≠A.m3
structure AdV (A:Ad) (W:World):Prop where
 sub:Sub A.U W
 blk:W.heap[A.ab]? =some (.cells A.cells 436 (0,0))
 past:zH yY 5 W A.lo A.pa A.pc A.P
 els:zH yY 5 W A.lo A.ea A.ec A.E
 unt:Nums W (jS A.ua A.un.length A.uc) A.un
section
variable {A:Ad} {W W':World}
theorem AdV.lt (h:AdV A W):A.ab<W.heap.size:=(Array.getElem?_eq_some_iff.1 h.blk).1
theorem AdV.gr (h:AdV A W) (hg:Gr W W'):AdV A W':=⟨h.sub.gr hg,(hg.1.block _ h.lt).trans h.blk,h.past.gr hg,h.els.gr hg,h.unt.keep hg.1⟩
theorem AdV.cell (h:AdV A W):W.cell? ⟨A.ab,0,none⟩=some (jS A.sa A.l.length A.sc)/\W.cell? ⟨A.ab,1,none⟩=some (jS A.pa A.P.length A.pc)/\W.cell? ⟨A.ab,2,none⟩=some (jS A.ea A.E.length A.ec)/\W.cell? ⟨A.ab,3,none⟩=some (jS A.ua A.un.length A.uc)/\W.cell? ⟨A.ab,4,none⟩=some (.map (some A.m1))/\W.cell? ⟨A.ab,5,none⟩=some (.map (some A.m2))/\W.cell? ⟨A.ab,6,none⟩=some (.map (some A.m3)):=by
 refine⟨?_,?_,?_,?_,?_,?_,?_⟩<;>simp[rO,h.blk,Ad.cells]
end
