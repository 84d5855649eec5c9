/- The judge builds the automaton of a formula. -/
import Derived.Test.YtmabhhngoklncaaGreatDoorQ
import Derived.Test.YtmabhhngoklncaaGreatDoorT
import Derived.Test.YtmabhhngoklncaaGreatDoorW
import Derived.Deep.Slices
import Derived.Shelf.SlicesE.Compact
set_option maxRecDepth 100000
set_option maxHeartbeats 40000000
set_option linter.all false
open Go.Lib renaming hid->rA,compareInt->rE
open Go.Proofs.Tryz renaming prog->rB
open Nat renaming le_refl->rC,zero_add->rO,le_trans->rR,add_zero->rS,zero_le->r6,lt_or_ge->r8
open List renaming getElem?_eq_getElem->rD,getElem?_cons_zero->rL,mem_of_getElem?->rQ,getElem?_cons_succ->rW,replicate->rX,mem_append_left->rY,getElem_mem->r5,mem_cons->r7
open Go.Builtin renaming append_->rF,firstCells->rN,lenOf->rV
open Go renaming heap_setCell_other->rG,heap_alloc_old->rH,heap_alloc_new->rI,heap_setCell_same->rK,wpAnyH_done->rP,run_underlying->rT,wp_region_held_drew->rZ
open Go.World renaming cell?->rM,frozen?->rU
open Go.Value renaming int->jI,slice->jS,pointer->jP,bool->jB,string->jT,agg->jG,tuple->jU
open Go.IntKind renaming i64->kQ,u16->kU
open Go.Ending renaming returned->jR
open Go Go.RowKit Go.Sort Go.WideShapes Go.ChangeShapes Go.ChangeAt Go.Proofs.YtmabhhngoklncaaGreatDoor Go.Proofs Go.Shelf Go.Lib
namespace Go.Proofs.YtmabhhngoklncaaGreatDoor
variable {L:List Int}{s n:Int}{c B8 i b x:Nat}{a:Option Addr}{w1 wr:World}{u v:Value}
theorem wpList_append_run {W:World} {ops:Array Oper} {rest:List Oper} {o:Oper} {a:Act} {Q:Exit->Act->World->Prop} (hgd:o.guard=none) (s x:Operand) (t tn:TypeId)
  (ho:o.op=.call {callee:=.builtin .append,args:= #[s,x],argTypes:= #[t,tn]}) (vs vx:Value) (hs:a.eval s=vs) (hx:a.eval x=vx) (v':Value) (w':World) (hr:(rF #[t,tn] o.type #[vs,vx]).run rB W=.ok v' w') (h:wpList rB ops Q rest (a.put o.dst v') w'):
  wpList rB ops Q (o::rest) a W:=wpList_plain hgd fun _ hK=>Lib.wp_append_run W s x t tn ho vs vx hs hx v' w' hr (hK _ _ h)
def zCw (x:Int):List Value:=[jI kQ x]
theorem zJZ (x:Int):(zCw x).length=1:=rfl
theorem zJu (x:Int):∀v∈zCw x,v.oneCell'=true:=by
 intro v hv;simp only[zCw,r7,List.not_mem_nil,or_false] at hv;subst hv;rfl
theorem info3:(Tryz.prog.info? 3).map (fun i=>(i.zero,i.size,i.bytes))=some (some (jI kQ 0),1,8):=by kernel_rfl
theorem tyI:TyG 22 3 1:=⟨Tryz.underlying22,_,_,info3,rfl,by omega⟩
theorem zH.nums {W:World} {lo cap:Nat} {a:Option Addr} {xs:List Int} (h:zH zCw 1 W lo a cap xs):Nums W (jS a xs.length cap) xs:=by
 refine⟨a,cap,rfl,fun h0=>?_⟩;obtain⟨b,rfl,_,hR⟩:=h.row (List.length_pos_iff.2 h0);refine⟨b,0,rfl,hR.lt,fun j hj=>?_⟩;have:=hR.cell hj (c:=0) (u:=jI kQ xs[j]) (by omega) rfl;rw[rO]
 simpa[hj] using this
structure BuS (U:World) (lo:Nat) (W wr:World) (ab:Nat) (d:Bd U) (k:Nat) (ua:Option Addr) (uc:Nat) (un:List Int):Prop where
 st:BdS U lo wr ab {d with uv:=jS ua un.length uc}
 lst:zH zCw 1 wr lo ua uc un
 ne:ua≠some ⟨ab,0,none⟩/\(∀q,ua=some ⟨q,0,none⟩->d.pa≠some ⟨q,0,none⟩/\d.ea≠some ⟨q,0,none⟩)/\∀q,ua=some ⟨q,0,none⟩->W.heap.size<=q
 vals:∀u∈un,0<=u/\u<(k:Int)
 len:un.length<=k
 fr:Fr (fun q=>q==ab) W.heap.size W wr
 cap:uc<=maxLen
section
variable {U W wr w2:World} {lo ab k uc:Nat} {d:Bd U} {ua:Option Addr} {un:List Int}
theorem BuS.gr (h:BuS U lo W wr ab d k ua uc un) (hg:Gr wr w2):BuS U lo W w2 ab d k ua uc un:=
 ⟨h.st.gr hg,h.lst.gr hg,h.ne,h.vals,h.len,h.fr.trans ((Fr.of_below hg.1).mono h.fr.size),h.cap⟩
theorem BuS.on (h:BuS U lo W wr ab d k ua uc un):BuS U lo W wr ab d (k+1) ua uc un:=
 ⟨h.st,h.lst,h.ne,fun u hu=>by have:=h.vals u hu;omega,by have:=h.len;omega,h.fr,h.cap⟩
theorem BuS.push (h:BuS U lo W wr ab d k ua uc un) (hk:k<=1000000):∃(a':Option Addr) (c':Nat) (W2:World),(rF #[22,22] 22 #[jS ua un.length uc,jS (some ⟨wr.heap.size,0,none⟩) 1 1]).run rB (wr.alloc (.cells #[jI kQ k] 3))=.ok (jS a' (un.length+1) c') W2/\
  W2.cell? ⟨ab,3,none⟩=some (jS ua un.length uc)/\W2.frozen? ⟨ab,3,none⟩=false/\BuS U lo W (W2.setCell ⟨ab,3,none⟩ (jS a' (un.length+1) c')) ab d (k+1) a' c' (un++[(k:Int)]):=by
 have hlt:=h.st.lt;obtain⟨a',c',W2,hrun,hL,hA,hc⟩:=zB5 tyI (by omega) zJZ zJu (k:Int) h.lst (by have:=h.st.lo;omega) h.cap (by have:=h.len;omega) 3;have s1:(wr.alloc (.cells #[jI kQ k] 3)).heap.size=wr.heap.size+1:=by simp
 have hsz:wr.heap.size+1<=W2.heap.size:=by have:=hA.size;simp at this;omega
 have hold:∀q,q<wr.heap.size->ua≠some ⟨q,0,none⟩->W2.heap[q]? =wr.heap[q]? :=fun q hq hne=>(hA.other (by simp;omega) hne).trans (rH _ _ hq)
 have hqn:∀q,a'=some ⟨q,0,none⟩->ua=some ⟨q,0,none⟩∨wr.heap.size<=q:=fun q e=>(hA.at' q e).imp_right fun e=>by simp at e;omega
 have hab:W2.heap[ab]? =_:=(hold ab hlt h.ne.1).trans h.st.blk;have hlen:(un++[(k:Int)]).length=un.length+1:=by simp
 have hkeep:∀q,q≠ab->(W2.setCell ⟨ab,3,none⟩ (jS a' (un.length+1) c')).heap[q]? =W2.heap[q]? :=fun q hq=>rG _ _ _ _ (by simpa using hq)
 have hF0:Fr (fun q=>q==ab) W.heap.size wr W2:=by
  obtain⟨⟨row,hgr,hr⟩,hd, -⟩:=hA;refine⟨hgr.os,hgr.tape,hgr.output,by omega,fun q hq _=>?_⟩;have:=h.fr.size;exact hold q (by omega) fun e=>by have:=h.ne.2.2 q e;omega
 have hF:Fr (fun q=>q==ab) W.heap.size W (W2.setCell ⟨ab,3,none⟩ (jS a' (un.length+1) c')):=(h.fr.trans hF0).setCell (.inl (by simp)) _;refine⟨a',c',W2,hrun,by simp[rM,hab],by simp[rU,hab],⟨⟨?_,?_,?_,?_,h.st.ne,h.st.nab,h.st.lo,h.st.caps⟩,?_,⟨fun e=>?_,fun q e=>?_,fun q e=>?_⟩,fun u hu=>?_,by rw[hlen];have:=h.len;omega,hF,hc⟩⟩
 ·refine h.st.sub.low h.st.lo.1 (by simp;omega) fun q hq=>?_
  rw[hkeep q (by have:=h.st.lo;omega)];exact hold q (by have:=h.st.lo;omega) fun e=>by have:=(h.lst.lt e).2;omega
 ·rw[rK _ _ 3 _ 436 _ hab,hlen]
  simp
 ·refine h.st.past.block fun q e=>?_
  rw[hkeep q fun e'=>h.st.nab.1 (by rw[<-e'];exact e)];exact hold q (h.st.past.lt e).1 fun e'=>(h.ne.2.1 q e').1 e
 ·refine h.st.els.block fun q e=>?_
  rw[hkeep q fun e'=>h.st.nab.2 (by rw[<-e'];exact e)];exact hold q (h.st.els.lt e).1 fun e'=>(h.ne.2.1 q e').2 e
 ·refine hL.block fun q e=>hkeep q fun e'=>?_
  rcases hqn q e with h1|h1
  ·exact h.ne.1 (by rw[h1,e'])
  ·omega
 ·rcases hqn _ e with h1|h1
  ·exact h.ne.1 h1
  ·omega
 ·rcases hqn q e with h1|h1
  ·exact h.ne.2.1 q h1
  ·exact⟨fun e'=>by have:=(h.st.past.lt e').1;omega,fun e'=>by have:=(h.st.els.lt e').1;omega⟩
 ·rcases hqn q e with h1|h1
  ·exact h.ne.2.2 q h1
  ·have:=h.fr.size;omega
 ·rcases List.mem_append.1 hu with hu|hu
  ·have:=h.vals u hu;omega
  ·rw[List.mem_singleton.1 hu];omega
end
def BuR (w:World) (l:List Sg) (sa:Option Addr) (sc:Nat) (e:Ending) (w':World):Prop:=∃(ab:Nat) (b:Bool),e=jR (jU #[jP (some ⟨ab,0,none⟩),jB b])/\Below w.heap.size w w'/\
 (b=true->∃A:Ad,A.ab=ab/\A.l=l/\A.sa=sa/\A.sc=sc/\zBs A/\AdV A w'/\w'.heap[A.m1]? =some (.map #[] 0)/\w'.heap[A.m2]? =some (.map #[] 0)/\w'.heap[A.m3]? =some (.map #[] 0)/\w.heap.size<=A.m1/\w.heap.size<=A.m2/\w.heap.size<=A.m3)
structure BuB (w W:World) (x:El w) (n:Nat) (cs:Array Value):Prop where
 gr:Gr w W
 size:W.heap.size=w.heap.size+n
 box:W.heap[w.heap.size]? =some (.cells x.1.enc.toArray 33 (0,0))
 one:W.heap[w.heap.size+1]? =some (.cells x.1.enc.toArray 33 (0,0))
 rcd:W.heap[w.heap.size+1+1]? =some (.cells cs 436 (0,0))
 maps:∀k,w.heap.size+3<=k->k<w.heap.size+n->W.heap[k]? =some (.map #[] 0)
theorem BuB.start (w:World) (x:El w) (sv:Value):BuB w (((w.alloc (.cells x.1.enc.toArray 33)).alloc (.cells x.1.enc.toArray 33)).alloc (.cells #[sv,jS none 0 0,jS (some ⟨w.heap.size+1,0,none⟩) 1 1,jS none 0 0,.map none,.map none,.map none] 436)) x 3 #[sv,jS none 0 0,jS (some ⟨w.heap.size+1,0,none⟩) 1 1,jS none 0 0,.map none,.map none,.map none]:=by
 refine⟨((Gr.alloc _ _).trans (Gr.alloc _ _)).trans (Gr.alloc _ _),by simp,?_,?_,xH (by simp) _,fun k h1 h2=>by omega⟩
 ·exact(rH _ _ (by simp;omega)).trans ((rH _ _ (by simp)).trans (rI _ _))
 ·exact(rH _ _ (by simp)).trans (xH (by simp) _)
section
variable {w W:World} {x:El w} {n j:Nat} {cs:Array Value} {v:Value}
theorem BuB.cell (h:BuB w W x n cs) (hc:cs[j]? =some v):W.cell? ⟨w.heap.size+1+1,j,none⟩=some v/\W.frozen? ⟨w.heap.size+1+1,j,none⟩=false:=by
 simp[rM,rU,h.rcd,hc]
theorem BuB.lt (h:BuB w W x n cs):w.heap.size+1+1<W.heap.size:=(Array.getElem?_eq_some_iff.1 h.rcd).1
theorem BuB.next (h:BuB w W x n cs) (u:Value):BuB w ((W.setCell ⟨w.heap.size+1+1,j,none⟩ u).alloc (.map #[] 0)) x (n+1) (cs.setIfInBounds j u):=by
 have hl:=h.lt;have hs:=h.size;have h2:(W.setCell ⟨w.heap.size+1+1,j,none⟩ u).heap.size=W.heap.size:=by simp
 refine⟨(Gr.setCell h.gr (by omega) _).trans (Gr.alloc _ _),by simp[hs];omega,?_,?_,?_,fun k h3 h4=>?_⟩
 ·rw[rH _ _ (by omega),rG _ _ _ _ (by simp;omega)];exact h.box
 ·rw[rH _ _ (by omega),rG _ _ _ _ (by simp)];exact h.one
 ·rw[rH _ _ (by omega)];exact rK _ _ j _ 436 _ h.rcd
 ·by_cases hk:k<w.heap.size+n
  ·rw[rH _ _ (by omega),rG _ _ _ _ (by simp;omega)];exact h.maps k h3 hk
  ·exact xH (by rw[h2];omega) _
theorem BuB.done {sv:Value} (h:BuB w W x 6 #[sv,jS none 0 0,jS (some ⟨w.heap.size+1,0,none⟩) 1 1,jS none 0 0,.map (some (w.heap.size+3)),.map (some (w.heap.size+4)),.map (some (w.heap.size+5))]):
  BdS w w.heap.size W (w.heap.size+1+1) ⟨sv,none,0,[],some ⟨w.heap.size+1,0,none⟩,1,[x],jS none 0 0,.map (some (w.heap.size+3)),.map (some (w.heap.size+4)),.map (some (w.heap.size+5))⟩:=by
 refine⟨⟨h.gr.1.size,fun k cs T f e=>(h.gr.1.block k (Array.getElem?_eq_some_iff.1 e).1).trans e⟩,h.rcd,.inl ⟨rfl,rfl,rfl⟩,.inr ⟨w.heap.size+1,rfl,by omega,by simp,_,33,h.one,rfl,fun j hj c hc=>?_⟩,fun q e=>(by cases e),⟨fun e=>(by cases e),fun e=>by simp at e⟩,⟨rC _,by omega⟩,⟨by simp[maxLen],by simp[maxLen]⟩⟩;have:j=0:=by simpa using hj
 subst this;simp[yY]
end
def zPK (w:World):Prop:=Calls rB 4 #[] w fun e w'=>e=jR (jB true)/\Below w.heap.size w w'
def Yes (w:World) (e:Ending) (w':World):Prop:=e=jR (jB true)/\Below w.heap.size w w'
theorem zLD (h:yQ L s=true) (hi:i<L.length) (hn:n≠L[i]):yQ (L.set i n) s=false:=by
 cases e:yQ (L.set i n) s with
 |false=>rfl
 |true=>
  simp only[yQ,Bool.and_eq_true,decide_eq_true_iff,zBx,List.all_eq_true] at h e;obtain⟨h1,h2⟩:=h;obtain⟨e1,e2⟩:=e;have hv:=e1 n (List.mem_set hi n);exact absurd ((Sl.sl_set L i n hi (fun x hx=>by have:=h1 x hx;omega) (by omega)).1 (by rw[<-e2,<-h2])) hn
theorem zIR (h:yQ L s=true) (hn:n≠s):yQ L n=false:=by
 cases e:yQ L n with
 |false=>rfl
 |true=>
  simp only[yQ,Bool.and_eq_true,decide_eq_true_iff] at h e;exact absurd (e.2.trans h.2.symm) hn
theorem zGo (w:World) (av:Option Addr) (n cap c:Nat) (h:n<=cap) (ty:TypeId):(rF #[22,22] ty #[jS av n cap,jS none 0 c]).run rB w=.ok (jS av n cap) w:=by
 cases av with
 |none=>simp[rF,go_sem,Tryz.sizeOf3,rN,rV,h]
 |some a=>simp[rF,go_sem,Tryz.sizeOf3,rN,rV,h,storeCells]
theorem zG0 (w:World) (av:Option Addr) (ad:Addr) (n cap c:Nat) (h:n<=cap) (ty:TypeId):(rF #[22,22] ty #[jS av n cap,jS (some ad) 0 c]).run rB w=.ok (jS av n cap) w:=by
 cases av with
 |none=>simp[rF,go_sem,Tryz.sizeOf3,rN,rV,h]
 |some a=>simp[rF,go_sem,Tryz.sizeOf3,rN,rV,h,storeCells]
theorem zRm {V:World}{lo:Nat}{T:TypeId} (hb:V.heap[b]? =some (.cells #[] T (0,0))) (hlo:lo<=b) (h:Nums V (jS a L.length c) L) (hl:L.length<=2500):
  ∃a' c' W',(rF #[22,22] 22 #[jS (some ⟨b,0,none⟩) 0 0,jS a L.length c]).run rB V=.ok (jS a' L.length c') W'/\zH zCw 1 W' lo a' c' L/\zDi lo V W' (some ⟨b,0,none⟩) a':=by
 have hL0:zH zCw 1 V lo (some ⟨b,0,none⟩) 0 ([]:List Int):=.inr ⟨b,rfl,hlo,rC _,_,_,hb,rfl,fun j hj=>by simp at hj⟩;by_cases h0:L=[]
 ·subst h0
  have hA:zDi lo V V (some ⟨b,0,none⟩) (some ⟨b,0,none⟩):=⟨⟨none,⟨rfl,rfl,rfl,rC _,fun _ _ _=>rfl⟩,fun q e=>by cases e⟩,rC _,fun q e=>.inl e⟩;cases a with
  |none=>exact⟨_,_,V,zGo V _ 0 0 c (rC _) 22,hL0,hA⟩
  |some ad=>exact⟨_,_,V,zG0 V _ ad 0 0 c (rC _) 22,hL0,hA⟩
 ·obtain⟨a2,c2,e,h2⟩:=h
  simp only[Value.slice.injEq] at e;obtain⟨sb,so,rfl,hsb,hc⟩:=h2 h0;rw[e.1];obtain⟨a',c',W',hrun,hL,hA,hc'⟩:=zIB tyI (by omega) zJZ zJu (sb:=sb) (so:=so) (cc:=c) (news:=L) hL0 (by have:=(Array.getElem?_eq_some_iff.1 hb).1;omega) (fun j hj k v hv=>by
   have:k=0:=by have:=(List.getElem?_eq_some_iff.1 hv).1;simpa[zCw] using this
   subst this;have:=hc j hj;rw[List.getD_eq_getElem?_getD,rD hj,Option.getD_some] at this;rw[Nat.mul_one,rS,this]
   simpa[zCw] using hv) (List.length_pos_iff.2 h0) (by simp[maxLen]) (by simp;omega)
  simp only[List.length_nil,rO,List.nil_append] at hrun hL;exact⟨a',c',W',hrun,hL,hA⟩
structure OtS (w1 wr:World) (B8:Nat) (a:Option Addr) (c:Nat) (L:List Int) (s:Int):Prop where
 gr:Gr w1 wr
 lo:w1.heap.size<=B8
 blk:wr.heap[B8]? =some (.cells #[jS a L.length c,jI kQ s] 24 (0,0))
 list:zH zCw 1 wr w1.heap.size a c L
 ne:a≠some ⟨B8,0,none⟩
theorem zBu {W:World} (h:W.heap[b]? =some (.cells #[u,v] 24 (0,0))):W.cell? ⟨b,0,none⟩=some u/\W.cell? ⟨b,1,none⟩=some v/\W.frozen? ⟨b,0,none⟩=false/\W.frozen? ⟨b,1,none⟩=false:=by
 refine⟨?_,?_,?_,?_⟩<;>simp[rM,rU,h]
theorem OtS.made (hg:Gr w1 wr) (h:zH zCw 1 wr w1.heap.size a c L):OtS w1 (wr.alloc (.cells #[jS a L.length c,jI kQ s] 24)) wr.heap.size a c L s:=
 ⟨hg.trans (Gr.alloc _ _),hg.1.size,rI _ _,h.gr (Gr.alloc _ _),fun e=>by have:=(h.lt e).1;omega⟩
theorem OtS.put (hg:Gr w1 wr) (hB:w1.heap.size<=B8) (hb:wr.heap[B8]? =some (.cells #[u,v] 24 (0,0))) (h:zH zCw 1 wr w1.heap.size a c L) (hne:a≠some ⟨B8,0,none⟩) (s:Int):
  OtS w1 ((wr.setCell ⟨B8,0,none⟩ (jS a L.length c)).setCell ⟨B8,1,none⟩ (jI kQ s)) B8 a c L s:=by
 refine⟨Gr.setCell (Gr.setCell hg hB _) hB _,hB,?_,h.block fun q e=>?_,hne⟩
 ·rw[rK _ _ 1 _ 24 _ (rK _ _ 0 _ 24 _ hb)]
  simp
 ·have hq:q≠B8:=fun e'=>hne (by rw[e,e'])
  rw[rG _ _ _ _ (by show q≠_;exact hq),rG _ _ _ _ (by show q≠_;exact hq)]
theorem zNo (h:x<=1000000000):wrap64 (x:Int)=x/\IntKind.i64.wrap (x:Int)=x:=⟨by simp only[wrap64];omega,by rw[IntKind.wrap_i64];omega⟩
theorem zPf (h:x<=1000000000):wrap64 ((x:Int)+1)=(x:Int)+1/\IntKind.i64.wrap ((x:Int)+1)=(x:Int)+1:=⟨by simp only[wrap64];omega,by rw[IntKind.wrap_i64];omega⟩
theorem zPU (a b:Nat):(a:Int).tmod ((b:Int)+1)=((a % (b+1):Nat):Int):=by
 rw[show((b:Int)+1)=((b+1:Nat):Int) by omega,<-Int.ofNat_tmod]
theorem OtS.later {w':World} (h:OtS w1 wr B8 a c L s) (hg:Gr wr w'):OtS w1 w' B8 a c L s:=
 ⟨h.gr.trans hg,h.lo,(hg.1.block _ (Array.getElem?_eq_some_iff.1 h.blk).1).trans h.blk,h.list.gr hg,h.ne⟩
theorem OtS.seal (h:OtS w1 wr B8 a c L s) (n:Int):OtS w1 (wr.setCell ⟨B8,1,none⟩ (jI kQ n)) B8 a c L n:=by
 refine⟨Gr.setCell h.gr h.lo _,h.lo,?_,h.list.block fun q e=>?_,h.ne⟩
 ·rw[rK _ _ 1 _ 24 _ h.blk]
  simp
 ·have hq:q≠B8:=fun e'=>h.ne (by rw[e,e'])
  exact rG _ _ _ _ (by show q≠_;exact hq)
structure OtC (w1 wr:World) (B8:Nat) (a:Option Addr) (c n:Nat) (L:List Int) (s:Int):Prop where
 gr:Gr w1 wr
 blk:wr.heap[B8]? =some (.cells #[jS a n c,jI kQ s] 24 (0,0))
 list:zH zCw 1 wr w1.heap.size a c L
theorem OtS.set (h:OtS w1 wr B8 a c L s) (hi:i<L.length) (n:Int):
  ∃b,a=some ⟨b,0,none⟩/\(∃u,wr.cell? ⟨b,i,none⟩=some u)/\wr.frozen? ⟨b,i,none⟩=false/\OtC w1 (wr.setCell ⟨b,i,none⟩ (jI kQ n)) B8 a c L.length (L.set i n) s:=by
 obtain⟨b,rfl,hb,h1,cs,T,h2,h3,h4⟩:=h.list.row (by omega);have hne:b≠B8:=fun e=>h.ne (by rw[e])
 have hx:=h4 i hi 0 (by omega);rw[Nat.mul_one,rS] at hx;refine⟨b,rfl,⟨jI kQ L[i],by simp[rM,h2,hx,zCw]⟩,by simp[rU,h2],Gr.setCell h.gr hb _,?_,.inr ⟨b,rfl,hb,by rw[List.length_set];exact h1,_,T,rK _ _ i _ T _ h2,by simp[h3],fun j hj k hk=>?_⟩⟩
 ·rw[rG _ _ _ _ (by show B8≠b;exact fun e=>hne e.symm)]
  exact h.blk
 ·have hj':j<L.length:=by simpa using hj
  have hk0:k=0:=by omega
  subst hk0;have hy:=h4 j hj' 0 (by omega);rw[Nat.mul_one,rS] at hy ⊢;by_cases e:i=j
  ·subst e
   have:i<cs.size:=by omega
   simp[Array.getElem?_setIfInBounds,this,zCw]
  ·rw[Array.getElem?_setIfInBounds,if_neg e,hy,List.getElem_set_ne e]
theorem zKB (r1:q6 356) (r2:q6 427) (r3:q6 429) (r4:q6 434) (w:World) (hh:∀V,Below w.heap.size w V->zPK V) (h:Nums w (jS a L.length c) L) (hl:L.length<=9223372036854775807) (hcap:L.length<=c) (raw:Nat) (hraw:raw<65536) (n:Int):
  Calls rB 3 #[jG #[jS a L.length c,jI kQ s],jI kU raw,jI kQ n] w (Yes w):=by
 have HNU:Hid (∀V,Below w.heap.size w V->Nums V (jS a L.length c) L):=rA fun V hB=>h.keep hB
 have HH:Hid (∀V,Below w.heap.size w V->Calls rB 4 #[] V fun e w'=>e=jR (jB true)/\Below V.heap.size V w'):=rA fun V hB=>hh V hB
 have HCH:Hid (∀V {a:Option Addr} {c:Nat} {L:List Int} {s:Int},Nums V (jS a L.length c) L->L.length<=9223372036854775807->L.length<=c->Calls rB 6 #[jG #[jS a L.length c,jI kQ s]] V (Chk L s V)):=rA fun V _ _ _ _ h1 h2 h3=>zRY r1 r2 r3 r4 h1 h2 h3
 have HBX:Hid (∀V,Below (w.alloc (.cells #[jS a L.length c,jI kQ s] 24)).heap.size (w.alloc (.cells #[jS a L.length c,jI kQ s] 24)) V->Below w.heap.size w V/\V.heap[w.heap.size]? =some (.cells #[jS a L.length c,jI kQ s] 24 (0,0))/\V.cell? ⟨w.heap.size,0,none⟩=some (jS a L.length c)/\V.cell? ⟨w.heap.size,1,none⟩=some (jI kQ s)):=rA fun V hB=>by
  have h1:=(hB.block w.heap.size (by simp)).trans (rI w _);exact⟨((Below.refl _ _).alloc (rC _) _).trans (hB.mono (by simp)),h1,by simp[rM,h1],by simp[rM,h1]⟩
 clear hh h r1 r2 r3 r4;go_enter Tryz.func3,Tryz.ntmps3;go_upto_region 1 with fail;generalize w.alloc _=w0 at*;have HC:=rA (HH.out w0 (HBX.out w0 (Below.refl _ _)).1);go_wp2_with fail;refine HC.out.mono ?_;rintro e w1 ⟨rfl,hB1⟩;have HB1:=rA hB1;clear hB1 HC HH;obtain⟨-, -,x0,x1⟩:=HBX.out w1 HB1.out;go_wp2_with fail;refine(zTa w1 hl).mono ?_;rintro e w2 ⟨rfl,hB2⟩;have HB2:Hid (Below w0.heap.size w0 w2):=rA (HB1.out.trans (hB2.mono HB1.out.size));clear hB2 x0 x1 HB1;obtain⟨-, -,x0,x1⟩:=HBX.out w2 HB2.out;by_cases h25:L.length<=2500;rotate_left
 ·have hd:=dF h25
  rw[hd];go_wp2_with fail;go_ret;exact⟨rfl,(HBX.out w2 HB2.out).1⟩
 have hd:=dT h25
 rw[hd];have HC:=rA (HCH.out w2 (s:=s) (HNU.out w2 (HBX.out w2 HB2.out).1) hl hcap);clear hd;go_wp2_with fail;refine HC.out.mono ?_;rintro e w3 ⟨hB3,k,rfl,hk1,hk2⟩;have HB3:Hid (Below w0.heap.size w0 w3):=rA (HB2.out.trans (hB3.mono HB2.out.size));clear hB3 x0 x1 HB2 HC;by_cases h34:k=340
 ·have hd:(k==(340:Int))=true:=by simp[h34]
  clear hk1 hk2;go_wp2_with fail;go_ret;exact⟨rfl,(HBX.out w3 HB3.out).1⟩
 have hd:(k==(340:Int))=false:=by rw[beq_eq_false_iff_ne];exact h34
 have HOK:Hid (yQ L s=true):=rA (by
  cases e:yQ L s with
  |true=>rfl
  |false=>exact absurd (hk1 e) h34)
 clear hk1 hk2 h34;obtain⟨hbw, -,x0,x1⟩:=HBX.out w3 HB3.out;have HN3:=rA (HNU.out w3 hbw);clear hbw;have HX:Hid (∀V,Gr w3 V->V.cell? ⟨w.heap.size,0,none⟩=some (jS a L.length c)/\V.cell? ⟨w.heap.size,1,none⟩=some (jI kQ s)):=rA fun V hg=>by
  obtain⟨-, -,h0,h1⟩:=HBX.out V (HB3.out.trans (hg.1.mono HB3.out.size));exact⟨h0,h1⟩
 go_upto_region 4 with fail;have HCP:Hid (∀V (b:Nat),Gr w3 V->V.heap[b]? =some (.cells #[] 3 (0,0))->w3.heap.size<=b->∃a' c' W',(rF #[22,22] 22 #[jS (some ⟨b,0,none⟩) 0 0,jS a L.length c]).run rB V=.ok (jS a' L.length c') W'/\zH zCw 1 W' w3.heap.size a' c' L/\zDi w3.heap.size V W' (some ⟨b,0,none⟩) a'):=rA fun V b hg hb hlo=>zRm hb hlo (HN3.out.keep hg.1) h25
 go_cut [8] from 22 to 28 (fun u wx=>∃(B8:Nat) (a5:Option Addr) (c5:Nat),u=jP (some ⟨B8,0,none⟩)/\OtS w3 wx B8 a5 c5 L s)
 case first=>
  refine rZ (S:=fun V=>V.cell? ⟨w.heap.size,0,none⟩=some (jS a L.length c)/\V.cell? ⟨w.heap.size,1,none⟩=some (jI kQ s)) (by kernel_rfl) (HX.out _ (Gr.drawn w3 1)) (fun hS=>?_);refine tKa 1 (jP (some ⟨w.heap.size,0,none⟩)) ?_;refine tKa 2 (jS a L.length c) ?_;refine tKa 4 (jP (some ⟨w.heap.size,1,none⟩)) ?_;refine tKa 5 (jI kQ s) ?_;refine wpAnyH_ready (rs:=[0,7]) (by kernel_rfl) (by simp) ?_;refine AllReadyH.cons rfl (fun K hK=>?_) (AllReadyH.cons rfl (fun K hK=>?_) AllReadyH.nil)
  ·go_simp
   refine hK.out _ _ (HX.out _ ((Gr.alloc w3 (.cells #[] 3)).trans (Gr.drawn _ 1))) (fun hS0=>?_);clear hK hS;try simp only[sA]
   refine wpAnyH_ready (rs:=[3,7]) (by kernel_rfl) (by simp) ?_;refine AllReadyH.cons rfl (fun K hK=>?_) (AllReadyH.cons rfl (fun K hK=>?_) AllReadyH.nil)
   ·skip
    obtain⟨a5,c5,w5,hrun,hL5,hA5⟩:=HCP.out ((w3.alloc (.cells #[] 3)).drew) w3.heap.size ((Gr.alloc w3 (.cells #[] 3)).trans (Gr.drawn _ 1)) (show((w3.alloc (.cells #[] 3)).drew).heap[w3.heap.size]? =_ from rI w3 (.cells #[] 3)) (rC _);have HRUN:=rA hrun;have HL5:=rA hL5;have HA5:=rA hA5;have HG5:Hid (Gr w3 w5):=rA (hA5.gr ((Gr.alloc w3 (.cells #[] 3)).trans (Gr.drawn _ 1)) (rC _));clear hrun hL5 hA5;refine zM rfl (.tmp 22) (.tmp 24) 22 22 (some 25) rfl rfl _ _ rfl rfl _ _ HRUN.out ?_;refine hK.out _ _ (HX.out _ HG5.out) (fun hS3=>?_);clear hK hS0;try simp only[sA]
    refine tKa 6 (jG #[jS a5 L.length c5,jI kQ s]) ?_;refine tya 7 (fun K hK=>?_);go_simp;refine hK.out _ _ (HX.out _ (HG5.out.trans (Gr.alloc _ _))) (fun hS7=>?_);clear hK hS3;try simp only[sA]
    refine tya 8 (fun K hK=>?_);have z:=zI w5 #[jS none 0 0,jI kQ 0] 24;have z0:=z 0;have z1:=z 1;simp only[List.getElem?_toArray,rW,rL] at z0 z1;clear z;go_simp;refine hK.out _ _ (HX.out _ (HG5.out.trans (Gr.alloc _ _))) (fun hS8=>?_);clear hK hS7;try simp only[sA]
    clear z0 z1;refine rP (by kernel_rfl) ?_ _;clear hS8;go_wp2_with fail;go_meet;exact⟨w5.heap.size,a5,c5,rfl,OtS.made HG5.out HL5.out⟩
   ·go_simp
    refine hK.out _ _ (HX.out _ (((Gr.alloc w3 (.cells #[] 3)).trans (Gr.alloc _ (.cells #[jS none 0 0,jI kQ 0] 24))).trans (Gr.drawn _ 1))) (fun hS7=>?_);clear hK hS0;try simp only[sA]
    refine tya 3 (fun K hK=>?_);obtain⟨a5,c5,w5,hrun,hL5,hA5⟩:=HCP.out (((w3.alloc (.cells #[] 3)).alloc (.cells #[jS none 0 0,jI kQ 0] 24)).drew) w3.heap.size (((Gr.alloc w3 (.cells #[] 3)).trans (Gr.alloc _ (.cells #[jS none 0 0,jI kQ 0] 24))).trans (Gr.drawn _ 1)) (show(((w3.alloc (.cells #[] 3)).alloc (.cells #[jS none 0 0,jI kQ 0] 24)).drew).heap[w3.heap.size]? =_ from(rH _ _ (by simp)).trans (rI w3 (.cells #[] 3))) (rC _);have HRUN:=rA hrun;have HL5:=rA hL5;have HA5:=rA hA5;have HG5:Hid (Gr w3 w5):=rA (hA5.gr (((Gr.alloc w3 (.cells #[] 3)).trans (Gr.alloc _ (.cells #[jS none 0 0,jI kQ 0] 24))).trans (Gr.drawn _ 1)) (rC _));clear hrun hL5 hA5;refine zM rfl (.tmp 22) (.tmp 24) 22 22 (some 25) rfl rfl _ _ rfl rfl _ _ HRUN.out ?_;refine hK.out _ _ (HX.out _ HG5.out) (fun hS3=>?_);clear hK hS7;try simp only[sA]
    refine tKa 6 (jG #[jS a5 L.length c5,jI kQ s]) ?_;have hb5:w5.heap[w3.heap.size+1]? =some (.cells #[jS none 0 0,jI kQ 0] 24 (0,0)):=(HA5.out.other (by simp) (by simp)).trans (xH (by simp) _);have HB5:=rA hb5;obtain⟨z0,z1,f0,f1⟩:=zBu hb5;clear hb5;refine tya 8 (fun K hK=>?_);go_simp;have HO:=rA (OtS.put HG5.out (show w3.heap.size<=w3.heap.size+1 by omega) HB5.out HL5.out (fun e=>by rcases HA5.out.at' _ e with h|h<;>simp at h) s);refine hK.out _ _ (HX.out _ HO.out.gr) (fun hS8=>?_);clear hK hS3;try simp only[sA]
    clear z0 z1 f0 f1;refine rP (by kernel_rfl) ?_ _;clear hS8;go_wp2_with fail;go_meet;exact⟨w3.heap.size+1,a5,c5,rfl,HO.out⟩
  ·go_simp
   refine hK.out _ _ (HX.out _ ((Gr.alloc w3 (.cells #[jS none 0 0,jI kQ 0] 24)).trans (Gr.drawn _ 1))) (fun hS7=>?_);clear hK hS;try simp only[sA]
   refine tya 0 (fun K hK=>?_);go_simp;refine hK.out _ _ (HX.out _ (((Gr.alloc w3 (.cells #[jS none 0 0,jI kQ 0] 24)).trans (Gr.alloc _ (.cells #[] 3))).trans (Gr.drawn _ 1))) (fun hS0=>?_);clear hK hS7;try simp only[sA]
   refine tya 3 (fun K hK=>?_);obtain⟨a5,c5,w5,hrun,hL5,hA5⟩:=HCP.out (((w3.alloc (.cells #[jS none 0 0,jI kQ 0] 24)).alloc (.cells #[] 3)).drew) (w3.heap.size+1) (((Gr.alloc w3 (.cells #[jS none 0 0,jI kQ 0] 24)).trans (Gr.alloc _ (.cells #[] 3))).trans (Gr.drawn _ 1)) (show(((w3.alloc (.cells #[jS none 0 0,jI kQ 0] 24)).alloc (.cells #[] 3)).drew).heap[w3.heap.size+1]? =_ from xH (by simp) _) (by omega);have HRUN:=rA hrun;have HL5:=rA hL5;have HA5:=rA hA5;have HG5:Hid (Gr w3 w5):=rA (hA5.gr (((Gr.alloc w3 (.cells #[jS none 0 0,jI kQ 0] 24)).trans (Gr.alloc _ (.cells #[] 3))).trans (Gr.drawn _ 1)) (rC _));clear hrun hL5 hA5;refine zM rfl (.tmp 22) (.tmp 24) 22 22 (some 25) rfl rfl _ _ rfl rfl _ _ HRUN.out ?_;refine hK.out _ _ (HX.out _ HG5.out) (fun hS3=>?_);clear hK hS0;try simp only[sA]
   refine tKa 6 (jG #[jS a5 L.length c5,jI kQ s]) ?_;have hb5:w5.heap[w3.heap.size]? =some (.cells #[jS none 0 0,jI kQ 0] 24 (0,0)):=(HA5.out.other (by simp;omega) (by simp)).trans ((rH _ _ (by simp)).trans (rI w3 _));have HB5:=rA hb5;obtain⟨z0,z1,f0,f1⟩:=zBu hb5;clear hb5;refine tya 8 (fun K hK=>?_);go_simp;have HO:=rA (OtS.put HG5.out (rC _) HB5.out HL5.out (fun e=>by have ez:(((w3.alloc (.cells #[jS none 0 0,jI kQ 0] 24)).alloc (.cells #[] 3)).drew).heap.size=w3.heap.size+1+1:=(by show((w3.alloc _).alloc _).heap.size=_;simp);exact(HA5.out.at' _ e).elim (fun h=>by simp at h) (fun h=>by omega)) s);refine hK.out _ _ (HX.out _ HO.out.gr) (fun hS8=>?_);clear hK hS3;try simp only[sA]
   clear z0 z1 f0 f1;refine rP (by kernel_rfl) ?_ _;clear hS8;go_wp2_with fail;go_meet;exact⟨w3.heap.size,a5,c5,rfl,HO.out⟩
 case rest=>
 obtain⟨B8,a5,c5,rfl,hot⟩:=hcut;have HOT:=rA hot;have HX2:Hid (∀V,Gr w3 V->V.cell? ⟨w.heap.size,0,none⟩=some (jS a L.length c)/\V.cell? ⟨w.heap.size,1,none⟩=some (jI kQ s)):=rA HX.out;clear hot HCP x0 x1 HX;go_upto_region 5 with fail;have hs5:(wc.drewN 1).cell? ⟨w.heap.size,0,none⟩=some (jS a L.length c):=(HX2.out _ (HOT.out.gr.trans (Gr.drawn wc 1))).1;obtain⟨hwr,hwr2⟩:=zNo (x:=raw) (by omega);obtain⟨hwl,hwl2⟩:=zPf (x:=L.length) (by omega);have hmod:=zPU raw L.length;have hml:raw % (L.length+1)<L.length+1:=Nat.mod_lt _ (by omega);obtain⟨md,hmd⟩:∃md,raw % (L.length+1)=md:=⟨_,rfl⟩;rw[hmd] at hmod hml;obtain⟨hwm,hwm2⟩:=zNo (x:=md) (by omega);have hnz:((L.length:Int)+1)≠0:=by omega
 have hnz2:((L.length:Int)+1==0)=false:=by rw[beq_eq_false_iff_ne];omega
 have HMDE:=rA hmd;clear hmd;go_cut [45] from 29 to 44 (fun u wx=>u=jB (decide (L.length=0∨md=L.length))/\wx=wc.drewN 1)
 case first=>
  refine rZ (S:=fun V=>V.cell? ⟨w.heap.size,0,none⟩=some (jS a L.length c)) (by kernel_rfl) hs5 (fun hS=>?_);clear hs5;by_cases h0:L.length=0
  ·have d0:((L.length:Int)==0)=true:=by simp[h0]
   refine tKa 0 (jP (some ⟨w.heap.size,0,none⟩)) ?_;refine tKa 1 (jS a L.length c) ?_;refine tKa 2 (jI kQ L.length) ?_;refine tKa 3 (jB true) ?_;refine tKa 4 (jB true) ?_;refine tna 5 ?_;refine tna 6 ?_;refine tna 7 ?_;refine tna 8 ?_;refine tna 9 ?_;refine tna 10 ?_;refine tna 11 ?_;refine tna 12 ?_;refine tna 13 ?_;refine tna 14 ?_;refine tna 15 ?_;refine tKa 16 (jB true) ?_;refine rP (by kernel_rfl) ?_ _;clear hS;go_wp2_with fail;go_meet;exact⟨by simp[h0],rfl⟩
  have d0:((L.length:Int)==0)=false:=by rw[beq_eq_false_iff_ne];omega
  by_cases h1:md=L.length
  ·have d1:((md:Int)==(L.length:Int))=true:=by simp[h1]
   refine tKa 0 (jP (some ⟨w.heap.size,0,none⟩)) ?_;refine tKa 1 (jS a L.length c) ?_;refine tKa 2 (jI kQ L.length) ?_;refine tKa 3 (jB false) ?_;refine tKa 4 (jB false) ?_;refine tKa 5 (jI kU raw) ?_;refine tKa 6 (jI kQ raw) ?_;refine tKa 7 (jP (some ⟨w.heap.size,0,none⟩)) ?_;refine tKa 8 (jS a L.length c) ?_;refine tKa 9 (jI kQ L.length) ?_;refine tKa 10 (jI kQ ((L.length:Int)+1)) ?_;refine tKa 11 (jI kQ (md:Int)) ?_;refine tKa 12 (jP (some ⟨w.heap.size,0,none⟩)) ?_;refine tKa 13 (jS a L.length c) ?_;refine tKa 14 (jI kQ L.length) ?_;refine tKa 15 (jB true) ?_;refine tKa 16 (jB true) ?_;refine rP (by kernel_rfl) ?_ _;clear hS;go_wp2_with fail;go_meet;exact⟨by simp[h1],rfl⟩
  have d1:((md:Int)==(L.length:Int))=false:=by rw[beq_eq_false_iff_ne];omega
  refine tKa 0 (jP (some ⟨w.heap.size,0,none⟩)) ?_;refine tKa 1 (jS a L.length c) ?_;refine tKa 2 (jI kQ L.length) ?_;refine tKa 3 (jB false) ?_;refine tKa 4 (jB false) ?_;refine tKa 5 (jI kU raw) ?_;refine tKa 6 (jI kQ raw) ?_;refine tKa 7 (jP (some ⟨w.heap.size,0,none⟩)) ?_;refine tKa 8 (jS a L.length c) ?_;refine tKa 9 (jI kQ L.length) ?_;refine tKa 10 (jI kQ ((L.length:Int)+1)) ?_;refine tKa 11 (jI kQ (md:Int)) ?_;refine tKa 12 (jP (some ⟨w.heap.size,0,none⟩)) ?_;refine tKa 13 (jS a L.length c) ?_;refine tKa 14 (jI kQ L.length) ?_;refine tKa 15 (jB false) ?_;refine tKa 16 (jB false) ?_;refine rP (by kernel_rfl) ?_ _;clear hS;go_wp2_with fail;go_meet;exact⟨by simp[h0,h1],rfl⟩
 case rest=>
 obtain⟨rfl,rfl⟩:=hcut;have HOD:=rA (HOT.out.later (Gr.drawn wc 1));have HRAW:Hid (raw % (L.length+1)=md):=rA HMDE.out;clear hs5 HOT;generalize wc.drewN 1=w5 at*;by_cases hA:L.length=0∨md=L.length
 ·have hdA:=dT hA
  rw[hdA];have HO6:=rA (HOD.out.seal n);obtain⟨z0,z1,f0,f1⟩:=zBu HOD.out.blk;clear hA hdA hwr hwl hmod hml hwm hwr2 hwl2 hwm2 hnz hnz2 HOD;go_upto_region 7 with fail;clear z0 z1 f0 f1;generalize w5.setCell _ _=w6 at*;obtain⟨x0,x1⟩:=HX2.out _ HO6.out.gr;obtain⟨z0,z1, -, -⟩:=zBu HO6.out.blk;by_cases hn:n=s
  ·have hdn:(n==s)=true:=by simp[hn]
   go_wp2_with fail;go_ret;exact⟨rfl,(HBX.out w6 (HB3.out.trans (HO6.out.gr.1.mono HB3.out.size))).1⟩
  ·have hdn:(n==s)=false:=by rw[beq_eq_false_iff_ne];exact hn
   have HOS:=rA (zIR HOK.out hn);have HC:=rA (HCH.out w6 (s:=n) HO6.out.list.nums hl HO6.out.list.le);clear hn;go_wp2_with fail;refine HC.out.mono ?_;rintro e w7 ⟨hB7,k7,rfl,hk1, -⟩;have HB7:Hid (Below w0.heap.size w0 w7):=rA (HB3.out.trans ((HO6.out.gr.1.mono HB3.out.size).trans (hB7.mono (rR HB3.out.size HO6.out.gr.1.size))));rw[hk1 HOS.out];clear hB7 hk1 x0 x1 z0 z1 HC;go_wp2_with fail;go_ret;exact⟨rfl,(HBX.out w7 HB7.out).1⟩
 have hdA:=dF hA
 rw[hdA];have hmdl:md<L.length:=by omega
 obtain⟨bb,rfl,⟨u0,m0⟩,f0,hset⟩:=HOD.out.set hmdl n;have HST:=rA hset;have hmdi:(md:Int)<(L.length:Int):=by omega
 have hmd0:(0:Int)<=(md:Int):=Int.natCast_nonneg _;obtain⟨x0,x1⟩:=HX2.out _ HOD.out.gr;clear hA hdA hset;go_upto_region 9 with fail;clear x0 x1;obtain⟨z0,z1, -, -⟩:=zBu HOD.out.blk;go_upto_region 10 with fail;clear z0 z1 m0 f0 hwr hwl hmod hml hwm hwr2 hwl2 hwm2 hnz hnz2 HOD;generalize w5.setCell _ _=w6 at*;obtain⟨z0,z1, -, -⟩:=zBu HST.out.blk;have hdec:=zMB (s:=s) HST.out.list.nums (by rw[List.length_set];exact hl) HST.out.list.le;rw[List.length_set] at hdec;have HC:=rA hdec;clear hdec;go_wp2_with fail;refine HC.out.mono ?_;rintro e w7 ⟨hB7,x,cl,k7,rfl,hk1, -, -⟩;have HA7:Hid ((w7.alloc (.cells (zK 0) 43)).heap[w7.heap.size]? =some (.cells (zK 0) 43 (0,0))):=rA (rI _ _);have HK7:=rA hk1;have HB7:=rA hB7;unfold zK at HA7;clear hB7 hk1 HC z0 z1;go_upto_region 11 with(first|(refine xP rfl (.tmp 10) (.tmp 75) rfl _ (x.cells cl) w7.heap.size rfl HA7.out rfl (zEZ _ _) rfl rfl ?_));have HW:Hid (∀W:World,W=(w7.alloc (.cells (zK 0) 43)).setRow w7.heap.size (x.cells cl)->W.heap[w7.heap.size]? =some (.cells (x.cells cl) 43 (0,0))/\Below w7.heap.size w7 W):=rA fun W e=>by
  subst e;exact⟨setRow_heap _ _ _ _ 43 (0,0) (rI _ _),below_setRow ((Below.refl _ _).alloc (rC _) _) (rC _) _⟩
 unfold zK at HW;obtain⟨hz8,hB8⟩:=HW.out _ rfl;clear HW HA7;have HZ8:=rA hz8;have HB8:Hid (Below w6.heap.size w6 ((w7.alloc _).setRow w7.heap.size (x.cells cl))):=rA (HB7.out.trans (hB8.mono HB7.out.size));clear hz8 hB8 HB7;generalize w7.heap.size=B9 at*;generalize (w7.alloc _).setRow B9 (x.cells cl)=w8 at*;have HBW:Hid (Below w0.heap.size w0 w8):=rA (HB3.out.trans ((HST.out.gr.1.mono HB3.out.size).trans (HB8.out.mono (rR HB3.out.size HST.out.gr.1.size))));obtain⟨hbw, -,x0, -⟩:=HBX.out w8 HBW.out;obtain⟨bn,on,rfl,hcn⟩:=(HNU.out w8 hbw).at hmdl;have hln:L.getD md 0=L[md]:=by rw[List.getD_eq_getElem?_getD,rD hmdl];rfl
 rw[hln] at hcn;clear hbw hln;have HBLK:=rA ((HB8.out.block _ (Array.getElem?_eq_some_iff.1 HST.out.blk).1).trans HST.out.blk);obtain⟨z0,z1, -, -⟩:=zBu HBLK.out;by_cases hn:n=L[md]
 ·have hdn:(n==L[md])=true:=by simp[hn]
  generalize L[md]=lv at*;go_wp2_with fail;go_ret;exact⟨rfl,(HBX.out w8 HBW.out).1⟩
 have hdn:(n==L[md])=false:=by rw[beq_eq_false_iff_ne];exact hn
 have HOS:=rA (zLD HOK.out hmdl hn);obtain⟨hk7,hkd⟩:=HK7.out HOS.out;have HKD:=rA hkd;rw[hk7];have hchk:=HCH.out w8 (s:=s) (HST.out.list.nums.keep HB8.out) (by rw[List.length_set];exact hl) HST.out.list.le;rw[List.length_set] at hchk;have HC:=rA hchk;clear hn hchk hk7 hkd;generalize L[md]=lv at*;go_wp2_with fail;refine HC.out.mono ?_;rintro e w9 ⟨hB9,k9,rfl,hk9, -⟩;rw[hk9 HOS.out];have HB9:Hid (Below w0.heap.size w0 w9):=rA (HBW.out.trans (hB9.mono HBW.out.size));have hz9:=(hB9.block _ (Array.getElem?_eq_some_iff.1 HZ8.out).1).trans HZ8.out;have c9:w9.cell? ⟨B9,0,none⟩=some (jI kQ 0):=by
  have e:(x.cells cl)[0]? =some (jI kQ cl.kind):=rfl;simp only[rM,hz9];rw[if_neg (by simp),e,HKD.out]
 clear hz9 hB9 hk9 x0 z0 z1 hcn HC;go_wp2_with fail;go_ret;exact⟨rfl,(HBX.out w9 HB9.out).1⟩
def pH (P:Program) (fl:TypeId->Option (List TypeId)):List Field->Nat->Option (List TypeId)
 |[],_=>some []
 |f::r,off=>if f.offset=off then(match fl f.type with
  |some ts=>if P.cellsOf f.type=ts.length then(pH P fl r (off+ts.length)).map (ts++ ·) else none
  |none=>none) else none
def zAe (P:Program):Nat->TypeId->Option (List TypeId)
 |0,_=>none
 |n+1,t=>match P.underlying t with
  |some (.struct fs)=>(match pH P (zAe P n) fs.toList 0 with
   |some ts=>if P.cellsOf t=ts.length then some ts else none
   |none=>none)
  |some (.array _ _)=>none
  |_=>some [t]
section
variable {H:Type} {enc:TypeId×Value->H} {P:Program} {W:World}
theorem zOE {fuel:Nat} {t:TypeId} {cs:List Value} {x:DataW H×List MemPlace} (hs:∀fs,P.underlying t≠some (.struct fs)) (ha:∀n e,P.underlying t≠some (.array n e))
  (h:DataW.trod enc P W 0 (fun _=>true) true fuel t cs=some x):∃v,cs=[v]:=by
 cases fuel with
 |zero=>simp[DataW.trod] at h
 |succ n=>
  unfold DataW.trod at h;split at h<;>simp_all
theorem zM0 {n:Nat} {fl:TypeId->Option (List TypeId)} {fs:Array Field} {cs:List Value} {xs:List (DataW H×List MemPlace)} (hlen:xs.length=fs.size)
  (hx:∀(i:Nat) (f:Field),fs[i]? =some f->DataW.trod enc P W 0 (fun _=>true) true n f.type ((cs.drop f.offset).take (P.cellsOf f.type))=xs[i]?)
  (ih:∀t ts,fl t=some ts->∀cs x,DataW.trod enc P W 0 (fun _=>true) true n t cs=some x->cs.length=ts.length/\∀(k:Nat) (u:TypeId),ts[k]? =some u->∃m y v,m<=n/\cs[k]? =some v/\DataW.trod enc P W 0 (fun _=>true) true m u [v]=some y/\∀p∈y.2,p∈x.2):
  ∀(l:List Field) (i:Nat),fs.toList.drop i=l->∀off ts,pH P fl l off=some ts->∀(k:Nat) (u:TypeId),ts[k]? =some u->
   ∃m y v,m<=n/\cs[off+k]? =some v/\DataW.trod enc P W 0 (fun _=>true) true m u [v]=some y/\∀p∈y.2,p∈xs.flatMap (·.2):=by
 intro l;induction l with
 |nil=>
  intro i _ off ts h k u hk;simp only[pH,Option.some.injEq] at h;subst h;simp at hk
 |cons f r ihl=>
  intro i hi off ts h k u hk;have hlt:i<fs.toList.length:=by
   rcases r8 i fs.toList.length with h|h
   ·exact h
   ·rw[List.drop_of_length_le h] at hi
    cases hi
  have hf:fs[i]? =some f:=by
   have:=congrArg List.head? hi;simp only[List.head?_drop,List.head?_cons] at this
   simpa using this
  have hr:fs.toList.drop (i+1)=r:=by
   have:=congrArg List.tail hi
   simpa using this
  unfold pH at h;split at h
  ·rename_i hoff
   split at h
   ·rename_i ts0 hts
    split at h
    ·rename_i hc
     cases hrest:pH P fl r (off+ts0.length) with
     |none=>rw[hrest] at h;cases h
     |some ts1=>
      rw[hrest] at h;simp only[Option.map_some,Option.some.injEq] at h;subst h;have hxi:=hx i f hf;have hix:i<xs.length:=by rw[hlen];simpa using hlt
      rw[rD hix] at hxi;have hmem:xs[i]∈xs:=r5 hix;obtain⟨hl0,hk0⟩:=ih f.type ts0 hts _ _ hxi;by_cases hkk:k<ts0.length
      ·rw[List.getElem?_append_left hkk] at hk
       obtain⟨m,y,v,h1,h2,h3,h4⟩:=hk0 k u hk;refine⟨m,y,v,h1,?_,h3,fun p hp=>List.mem_flatMap.2 ⟨_,hmem,h4 p hp⟩⟩;rw[List.getElem?_take,if_pos (by omega),List.getElem?_drop,hoff] at h2;exact h2
      ·rw[List.getElem?_append_right (by omega)] at hk
       obtain⟨m,y,v,h1,h2,h3,h4⟩:=ihl (i+1) hr _ _ hrest (k - ts0.length) u hk;exact⟨m,y,v,h1,by rw[show off+k=off+ts0.length+(k - ts0.length) by omega];exact h2,h3,h4⟩
    ·cases h
   ·cases h
  ·cases h
theorem zEk:∀(n:Nat) (t:TypeId) (ts:List TypeId),zAe P n t=some ts->∀(fuel:Nat) (cs:List Value) (x:DataW H×List MemPlace),DataW.trod enc P W 0 (fun _=>true) true fuel t cs=some x->
  cs.length=ts.length/\∀(k:Nat) (u:TypeId),ts[k]? =some u->∃m y v,m<=fuel/\cs[k]? =some v/\DataW.trod enc P W 0 (fun _=>true) true m u [v]=some y/\∀p∈y.2,p∈x.2
 |0,_,_,h,_,_,_,_=>by cases h
 |n+1,t,ts,h,fuel,cs,x,hx=>by
  unfold zAe at h;split at h
  ·rename_i fs ht
   split at h
   ·rename_i ts' hfl
    split at h
    ·rename_i hc
     simp only[Option.some.injEq] at h;subst h;obtain⟨xs,n',rfl,rfl,hl,hlen,hall⟩:=DataW.trod_struct ht hx;refine⟨hl.trans hc,fun k u hk=>?_⟩;have:=zM0 (enc:=enc) (W:=W) (fl:=zAe P n) hlen hall (fun t ts h cs x hx=>zEk n t ts h n' cs x hx) fs.toList 0 rfl 0 _ hfl k u hk;obtain⟨m,y,v,h1,h2,h3,h4⟩:=this;exact⟨m,y,v,by omega,by simpa using h2,h3,h4⟩
    ·cases h
   ·cases h
  ·cases h
  ·rename_i hs ha
   simp only[Option.some.injEq] at h;subst h;obtain⟨v,rfl⟩:=zOE (fun fs e=>hs fs e) (fun n e he=>ha n e he) hx;refine⟨rfl,fun k u hk=>?_⟩;cases k with
   |succ k=>simp at hk
   |zero=>
    simp only[rL,Option.some.injEq] at hk;subst hk;exact⟨fuel,x,v,rC _,rfl,hx,fun p hp=>hp⟩
theorem zMo {α:Type} {G:List Value->α->Prop} {t e:TypeId} {ts:List TypeId} (ht:P.underlying t=some (.slice e)) (hc:P.cellsOf e=ts.length) (hpos:0<ts.length) {fuel:Nat} {v:Value} {x:DataW H×List MemPlace}
  (hG:∀m cs y,m<fuel->DataW.trod enc P W 0 (fun _=>true) true m e cs=some y->(∀p∈y.2,p.block<W.heap.size)->∃s:α,G cs s)
  (hx:DataW.trod enc P W 0 (fun _=>true) true fuel t [v]=some x) (hlt:∀p∈x.2,p.block<W.heap.size):
  ∃(a:Option Addr) (c:Nat) (l:List α),v=jS a l.length c/\l.length<=c/\l.length<=9223372036854775807/\(l≠[]->∃b off,a=some ⟨b,off,none⟩/\b<W.heap.size/\
   ∀j (h:j<l.length),∃cs,cs.length=ts.length/\(∀i,i<ts.length->W.cell? ⟨b,off+j*ts.length+i,none⟩=cs[i]?)/\G cs l[j]):=by
 rcases DataW.trod_slice ht hx with⟨hcs, -⟩|⟨a,len,cap,elems,rest,n,hfu,hcs,rfl, -,hl,hm,hel,hin, -⟩
 ·simp only[List.cons.injEq,and_true] at hcs
  exact⟨none,0,[],hcs,rC _,by simp,fun h=>absurd rfl h⟩
 ·simp only[List.cons.injEq,and_true] at hcs
  have hm':len<=9223372036854775807:=by have:maxLen=9223372036854775807:=rfl;omega
  rw[hc] at hin;have each:∀j,j<len->∃(cs:List Value) (s:α),(W.cells? 0 (a.add (j*ts.length)) ts.length=some cs)/\cs.length=ts.length/\G cs s:=fun j hj=>by
   have h1:=hin j hj;rw[rD (by omega)] at h1;obtain⟨cs,h2,h3⟩:=Option.bind_eq_some_iff.1 h1;obtain⟨s,hs⟩:=hG n cs _ (by omega) h3 fun p hp=>hlt p (by
    refine List.mem_append_right _ (List.mem_flatMap.2 ⟨elems[j]'(by omega),rY _ (r5 _),hp⟩))
   exact⟨cs,s,h2,(World.cells?_some h2).2.1,hs⟩
  by_cases h0:len=0
  ·subst h0
   exact⟨some a,cap,[],hcs,r6 _,by simp,fun h=>absurd rfl h⟩
  have ha:a.spot=none:=by
   obtain⟨cs,s,h1,h2, -⟩:=each 0 (by omega);have h3:=(World.cells?_some h1).2.2 0 (by omega);rw[rD (by omega)] at h3;have:=World.cell?_spot h3
   simpa[Addr.add] using this
  obtain⟨b,off,spot⟩:=a;simp only at ha;subst ha;have hb:b<W.heap.size:=hlt (.cell b off) (rY _ (MemPlace.mem_row.2 ⟨0,by rw[hc];exact Nat.mul_pos (by omega) hpos,by simp⟩));obtain⟨F,hF⟩:∃F:Nat->α,∀j,j<len->∃cs,W.cells? 0 ((⟨b,off,none⟩:Addr).add (j*ts.length)) ts.length=some cs/\cs.length=ts.length/\G cs (F j):=by
   obtain⟨_,s0,_⟩:=each 0 (by omega)
   classical
   refine⟨fun j=>if h:j<len then Classical.choose (Classical.choose_spec (each j h)) else s0,fun j hj=>?_⟩;simp only[hj,dif_pos];exact⟨_,Classical.choose_spec (Classical.choose_spec (each j hj))⟩
  refine⟨some ⟨b,off,none⟩,cap,(List.range len).map F,by simpa using hcs,by simpa using hl,by simpa using hm',fun _=>⟨b,off,rfl,hb,fun j hj=>?_⟩⟩;have hj':j<len:=by simpa using hj
  obtain⟨cs,h1,h2,h3⟩:=hF j hj';refine⟨cs,h2,fun i hi=>?_,by simpa using h3⟩;have h4:=(World.cells?_some h1).2.2 i (by omega);rw[add_plain,add_plain] at h4;exact h4
end
theorem Tryz.leaves3:zAe rB 4 3=some [3]:=by kernel_rfl
theorem Tryz.leaves24:zAe rB 4 24=some [22,3]:=by kernel_rfl
theorem Tryz.cellsOf3:Tryz.prog.cellsOf 3=1:=by kernel_rfl
theorem Tryz.slice22:Tryz.prog.underlying 22=some (.slice 3):=by kernel_rfl
theorem Tryz.int3:Tryz.prog.underlying 3=some (.int .i64):=by kernel_rfl
section
variable {H:Type} {enc:TypeId×Value->H} {W:World}
theorem zJR {m:Nat} {v:Value} {y:DataW H×List MemPlace} (h:DataW.trod enc rB W 0 (fun _=>true) true m 3 [v]=some y):∃z,v=jI kQ z:=by
 obtain⟨z,e, -⟩:=DataW.trod_int Tryz.int3 h;exact⟨z,by simpa using e⟩
theorem zMe {m:Nat} {v:Value} {y:DataW H×List MemPlace} (h:DataW.trod enc rB W 0 (fun _=>true) true m 22 [v]=some y) (hlt:∀p∈y.2,p.block<W.heap.size):
  ∃a c l,v=jS a l.length c/\Nums W (jS a l.length c) l/\l.length<=9223372036854775807/\l.length<=c:=by
 obtain⟨a,c,l,rfl,hcp,hl,hr⟩:=zMo (G:=fun cs (z:Int)=>cs=[jI kQ z]) (ts:=[3]) Tryz.slice22 Tryz.cellsOf3 (by decide) (fun m cs y _ hy _=>by
  obtain⟨hlen,hk⟩:=zEk 4 3 [3] Tryz.leaves3 m cs y hy;obtain⟨m0,y0,v0, -,e0,h0, -⟩:=hk 0 3 rfl;obtain⟨z,rfl⟩:=zJR h0
  match cs,hlen,e0 with
  |[c0],_,e0=>exact⟨z,by simpa using e0⟩) h hlt
 refine⟨a,c,l,rfl,⟨a,c,rfl,fun h=>?_⟩,hl,hcp⟩;obtain⟨b,off,e,hb,hc⟩:=hr h;refine⟨b,off,e,hb,fun j hj=>?_⟩;obtain⟨cs,_,h2,rfl⟩:=hc j hj;have:=h2 0 (by decide);simp only[List.length_cons,List.length_nil,rO,Nat.mul_one,rS,rL] at this;rw[this];simp[hj]
theorem Tryz.struct24:∃fs,Tryz.prog.underlying 24=some (.struct fs):=by
 cases h:Tryz.prog.underlying 24 with
 |none=>exact absurd (show(Tryz.prog.underlying 24).isSome=true by kernel_rfl) (by rw[h];simp)
 |some d=>
  cases d with
  |struct fs=>exact⟨fs,rfl⟩
  |_=>exact absurd (show(match Tryz.prog.underlying 24 with|some (.struct _)=>true|_=>false)=true by kernel_rfl) (by rw[h];simp)
theorem zMf {fs:Array Field} (hu:Tryz.prog.underlying 24=some (.struct fs)) {base:Nat} {v:Value} {d:DataW H} {p:List MemPlace} (hok:Value.okWide rB W .any base 24 v) (h:DataW.Trod enc rB W 0 (fun _=>true) true 24 v d p) (hlt:∀x∈p,x.block<W.heap.size):
  ∃(a:Option Addr) (c:Nat) (l:List Int) (s:Int),v=jG #[jS a l.length c,jI kQ s]/\Nums W (jS a l.length c) l/\l.length<=9223372036854775807/\l.length<=c:=by
 obtain⟨cs0,rfl, -⟩:=okWide_struct hu hok;obtain⟨fuel,hf⟩:=h;obtain⟨cs,hcs⟩:∃cs:List Value,cs0=cs.toArray:=⟨cs0.toList,by simp⟩;subst hcs;have hf':DataW.trod enc rB W 0 (fun _=>true) true fuel 24 cs=some (d,p):=by simpa[Value.cells] using hf
 obtain⟨hlen,hk⟩:=zEk 4 24 _ Tryz.leaves24 fuel cs (d,p) hf';clear hf hf' hok;obtain⟨m0,y0,v0, -,e0,h0,p0⟩:=hk 0 22 rfl;obtain⟨m1,y1,v1, -,e1,h1,p1⟩:=hk 1 3 rfl;clear hk;obtain⟨z1,rfl⟩:=zJR h1;obtain⟨a,c,l,rfl,hn,hl,hc⟩:=zMe h0 (fun q hq=>hlt q (p0 q hq))
 match cs,hlen with
 |[x0,x1],_=>
  simp only[rW,rL,Option.some.injEq] at e0 e1;subst e0 e1;exact⟨a,c,l,z1,rfl,hn,hl,hc⟩
end
end Go.Proofs.YtmabhhngoklncaaGreatDoor
namespace Go.AM
theorem zJO {P:Program} {w w':World} (hB:Below w.heap.size w w') {n:String} {d:DataW Unit} (h:Lib.VarReads P w n d):Lib.VarReads P w' n d:=by
 obtain⟨g,t,cs,fuel,p,h1,h2,h3,h4⟩:=h;refine⟨g,t,cs,fuel,p,h1,h2,?_,DataW.trod_carry _ _ _ _ h4 fun x hx=>?_⟩
 ·simp only[World.var?,h1,Option.bind_some] at h3 ⊢
  have hg:g<w.heap.size:=by
   rcases r8 g w.heap.size with h|h
   ·exact h
   ·rw[Array.getElem?_eq_none h] at h3
    cases h3
  rw[hB.block g hg];exact h3
 ·have hx':=DataW.trod_lt _ _ _ _ h4 x hx
  cases x with
  |cell b off=>exact World.cell?_of_block (w:=w) (w':=w') (a:=⟨b,off,none⟩) (hB.block b hx')
  |map b=>exact hB.block b hx'
theorem zNH {w:World} (rd:∀ {n d},(n,d)∈zAo->Lib.VarReads rB w n d):Rel rB ι0 ⟨4,t0⟩ w:=by
 refine⟨fun b hb=>?_,fun g hg=>?_,fun b x hx=>?_,fun b c x y p q hx _ _ _ _ hw=>?_⟩
 ·simp[ι0,show¬b<4 from Nat.not_lt.2 hb]
 ·rw[zTH] at hg
  exact⟨⟨g,0,0,0⟩,by simp[ι0,hg],rfl,rfl⟩
 ·obtain⟨hb,he⟩:=zI3 hx
  rw[he];rcases hb with rfl|rfl|rfl
  ·exact⟨⟨0,0,0,0⟩,rfl,zCk g0 (zCg (by simp)) (rd (by simp[zAo]))⟩
  ·exact⟨⟨1,0,0,0⟩,rfl,zCk g1 (zCg (by simp)) (rd (by simp[zAo]))⟩
  ·exact⟨⟨2,0,0,0⟩,rfl,zCk g2 (zCg (by simp)) (rd (by simp[zAo]))⟩
 ·rw[zCc hx] at hw;cases hw
theorem zLG {w w':World} (h:laidMet rB zAo w) (hB:Below w.heap.size w w'):zPK w':=
 (zGf zMQ (zNH fun hm=>zJO hB (Lib.laidMet.reads h hm))).mono fun _ _ h=>zH0 h
end Go.AM
namespace Go.Proofs
def Tryz.sortU_ren:Go.Shelf.Ren:=⟨fun|6=>294|15=>185|14=>311|28=>228|29=>229|20=>323|21=>324|22=>325|23=>326|24=>327|25=>328|26=>329|27=>330|46=>335|47=>266|48=>267|49=>336|50=>337|57=>339|n=>n,fun|22=>287|24=>25|25=>349|3=>3|39=>257|0=>0|53=>284|55=>301|4=>4|46=>294|45=>293|50=>187|5=>5|9=>9|66=>334|70=>132|76=>358|77=>106|n=>n,fun|n=>n⟩
theorem Tryz.sortU:Go.Proofs.SlLaysF.n6 rB Tryz.sortU_ren:= {
 mixed:=by kernel_rfl
 f6:=⟨Tryz.f294.name,by decide,Tryz.func294.trans (congrArg some (by kernel_rfl))⟩
 f14:=⟨Tryz.f311.name,by decide,Tryz.func311.trans (congrArg some (by kernel_rfl))⟩
 f15:=Tryz.func185.trans (congrArg some (by kernel_rfl))
 f20:=⟨Tryz.f323.name,by decide,Tryz.func323.trans (congrArg some (by kernel_rfl))⟩
 f21:=⟨Tryz.f324.name,by decide,Tryz.func324.trans (congrArg some (by kernel_rfl))⟩
 f22:=⟨Tryz.f325.name,by decide,Tryz.func325.trans (congrArg some (by kernel_rfl))⟩
 f23:=⟨Tryz.f326.name,by decide,Tryz.func326.trans (congrArg some (by kernel_rfl))⟩
 f24:=⟨Tryz.f327.name,by decide,Tryz.func327.trans (congrArg some (by kernel_rfl))⟩
 f25:=⟨Tryz.f328.name,by decide,Tryz.func328.trans (congrArg some (by kernel_rfl))⟩
 f26:=⟨Tryz.f329.name,by decide,Tryz.func329.trans (congrArg some (by kernel_rfl))⟩
 f27:=⟨Tryz.f330.name,by decide,Tryz.func330.trans (congrArg some (by kernel_rfl))⟩
 f28:=Tryz.func228.trans (congrArg some (by kernel_rfl))
 f29:=Tryz.func229.trans (congrArg some (by kernel_rfl))
 f46:=⟨Tryz.f335.name,by decide,Tryz.func335.trans (congrArg some (by kernel_rfl))⟩
 f47:=Tryz.func266.trans (congrArg some (by kernel_rfl))
 f48:=Tryz.func267.trans (congrArg some (by kernel_rfl))
 f49:=⟨Tryz.f336.name,by decide,Tryz.func336.trans (congrArg some (by kernel_rfl))⟩
 f50:=⟨Tryz.f337.name,by decide,Tryz.func337.trans (congrArg some (by kernel_rfl))⟩
 f57:=⟨Tryz.f339.name,by decide,Tryz.func339.trans (congrArg some (by kernel_rfl))⟩
 t0:=Tryz.underlying0
 a0:=Tryz.isAgg0
 z0:=Tryz.sizeOf0
 v0:=Tryz.zeroValue0
 t3:=Tryz.underlying3
 a3:=Tryz.isAgg3
 z3:=Tryz.sizeOf3
 v3:=Tryz.zeroValue3
 t4:=Tryz.underlying4
 a4:=Tryz.isAgg4
 z4:=Tryz.sizeOf4
 v4:=Tryz.zeroValue4
 t5:=Tryz.underlying5
 a5:=Tryz.isAgg5
 z5:=Tryz.sizeOf5
 v5:=Tryz.zeroValue5
 t9:=Tryz.underlying9
 a9:=Tryz.isAgg9
 z9:=Tryz.sizeOf9
 v9:=Tryz.zeroValue9
 t22:=Tryz.underlying287
 a22:=Tryz.isAgg287
 z22:=Tryz.sizeOf287
 v22:=Tryz.zeroValue287
 a24:=Tryz.isAgg25
 z24:=Tryz.sizeOf25
 t25:=Tryz.underlying349
 a25:=Tryz.isAgg349
 z25:=Tryz.sizeOf349
 v25:=Tryz.zeroValue349
 t39:=Tryz.underlying257
 a39:=Tryz.isAgg257
 z39:=Tryz.sizeOf257
 v39:=Tryz.zeroValue257
 t45:=Tryz.underlying293
 a45:=Tryz.isAgg293
 z45:=Tryz.sizeOf293
 v45:=Tryz.zeroValue293
 t46:=Tryz.underlying294
 a46:=Tryz.isAgg294
 z46:=Tryz.sizeOf294
 v46:=Tryz.zeroValue294
 t50:=Tryz.underlying187
 a50:=Tryz.isAgg187
 z50:=Tryz.sizeOf187
 v50:=Tryz.zeroValue187
 t53:=Tryz.underlying284
 a53:=Tryz.isAgg284
 z53:=Tryz.sizeOf284
 v53:=Tryz.zeroValue284
 t55:=Tryz.underlying301
 a55:=Tryz.isAgg301
 z55:=Tryz.sizeOf301
 v55:=Tryz.zeroValue301
 t66:=Tryz.underlying334
 a66:=Tryz.isAgg334
 z66:=Tryz.sizeOf334
 v66:=Tryz.zeroValue334
 t70:=Tryz.underlying132
 a70:=Tryz.isAgg132
 z70:=Tryz.sizeOf132
 v70:=Tryz.zeroValue132
 t76:=Tryz.underlying358
 a76:=Tryz.isAgg358
 z76:=Tryz.sizeOf358
 v76:=Tryz.zeroValue358
 t77:=Tryz.underlying106
 a77:=Tryz.isAgg106
 z77:=Tryz.sizeOf106
 v77:=Tryz.zeroValue106}
end Go.Proofs
namespace Go.Proofs.YtmabhhngoklncaaGreatDoor
variable {L:List Int}{s n:Int}{c B8 i b x:Nat}{a:Option Addr}{w1 wr:World}{u v:Value}
abbrev U16:Type:= {x:Int // 0<=x/\x<65536}
instance:Inhabited U16:=⟨⟨0,by omega,by omega⟩⟩
def xW (x:U16):List Value:=[jI kU x.1]
def yW (x:U16):Value:=jI kU x.1
theorem zML: (⟨((([0,1,1,2,1,2,2,3,1,2,2,3,2,3,3,4,1,2,2,3,2,3,3,4,2,3,3,4,3,4,4,5,1,2,2,3,2,3,3,4,2,3,3,4,3,4,4,5,2,3,3,4,3,4,4,5,3,4,4,5,4,5,5,6]:List UInt8).append [1,2,2,3,2,3,3,4,2,3,3,4,3,4,4,5,2,3,3,4,3,4,4,5,3,4,4,5,4,5,5,6,2,3,3,4,3,4,4,5,3,4,4,5,4,5,5,6,3,4,4,5,4,5,5,6,4,5,5,6,5,6,6,7]).append ([1,2,2,3,2,3,3,4,2,3,3,4,3,4,4,5,2,3,3,4,3,4,4,5,3,4,4,5,4,5,5,6,2,3,3,4,3,4,4,5,3,4,4,5,4,5,5,6,3,4,4,5,4,5,5,6,4,5,5,6,5,6,6,7].append [2,3,3,4,3,4,4,5,3,4,4,5,4,5,5,6,3,4,4,5,4,5,5,6,4,5,5,6,5,6,6,7,3,4,4,5,4,5,5,6,4,5,5,6,5,6,6,7,4,5,5,6,5,6,6,7,5,6,6,7,6,7,7,8])).toArray⟩:ByteArray)=Lib.pop8tab:=by kernel_rfl
def pc (x:U16):Int:=(Lib.pop8 (x.1 / 256)+Lib.pop8 (Go.bits .and .u16 x.1 255)) % 256
theorem zEV (x:Int):0<=Go.bits .and .u16 x 255/\Go.bits .and .u16 x 255<=255:=by
 have h:(BitVec.ofInt 16 x &&& BitVec.ofInt 16 255).toNat<=255:=by
  rw[BitVec.toNat_and];exact rR Nat.and_le_right (by decide)
 have e:Go.bits .and .u16 x 255=IntKind.u16.wrap ((BitVec.ofInt 16 x &&& BitVec.ofInt 16 255).toNat:Int):=rfl;rw[e];generalize (BitVec.ofInt 16 x &&& BitVec.ofInt 16 255).toNat=n at*;constructor<;>simp[IntKind.wrap,IntKind.bits,IntKind.signed]<;>omega
theorem zLx (x:U16) (W:World):Calls rB 255 #[jI kU x.1] W fun e w'=>e=jR (jI kQ (pc x))/\Gr W w':=by
 obtain⟨x,h0,h1⟩:=x;show Calls rB 255 #[jI kU x] W _;have HG:=rA (Gr.drawn W);have hq0:0<=x / 256:=by omega
 have hq1:x / 256<=255:=by omega
 obtain⟨hb0,hb1⟩:=zEV x;have i1:∀n,(Instr.index 9 (jT Lib.pop8tab) (jI kU (x / 256))).run rB (W.drewN n)=.ok (.int .u8 (Lib.pop8 (x / 256))) (W.drewN n):=fun n=>Lib.run_index_pop8tab _ _ _ _ Tryz.underlying9 hq0 hq1
 have i2:∀n,(Instr.index 9 (jT Lib.pop8tab) (jI kU (Go.bits .and .u16 x 255))).run rB (W.drewN n)=.ok (.int .u8 (Lib.pop8 (Go.bits .and .u16 x 255))) (W.drewN n):=fun n=>Lib.run_index_pop8tab _ _ _ _ Tryz.underlying9 hb0 hb1
 have mixed:Tryz.prog.follows .mixedOrders=true:=by kernel_rfl
 go_enter Tryz.func255,Tryz.ntmps255;go_upto_region 1 with fail;rw[zML];go_quiet (fail);go_wp2_with fail;go_ret;exact⟨rfl,HG.out _⟩
theorem zNT (x:Int) (w:World):Calls rB 296 #[jI kU x] w fun e w'=>e=jR (jB false)/\w'=w:=by
 go_enter Tryz.func296,Tryz.ntmps296;go_wp2_with fail;go_ret;exact⟨by simp,rfl⟩
theorem zIw (x y:Int) (w:World):Calls rB 279 #[jI kU x,jI kU y] w fun e w'=>e=jR (jI kQ (rE x y))/\w'=w:=by
 have hn:=fun x W=>zNT x W
 by_cases h1:x<y
 ·have hd1:=dT h1
  have he:rE x y= -1:=by unfold rE;simp[h1]
  rw[he];go_enter Tryz.func279,Tryz.ntmps279;go_wp2_with (go_at_call 296;refine(hn _ _).mono ?_;rintro e' w' ⟨rfl,rfl⟩);go_ret;exact⟨rfl,rfl⟩
 ·have hd1:=dF h1
  by_cases h2:y<x
  ·have hd2:=dT h2
   have he:rE x y=1:=by unfold rE;simp[h1,h2]
   rw[he];go_enter Tryz.func279,Tryz.ntmps279;go_wp2_with (go_at_call 296;refine(hn _ _).mono ?_;rintro e' w' ⟨rfl,rfl⟩);go_ret;exact⟨rfl,rfl⟩
  ·have hd2:=dF h2
   have he:rE x y=0:=by unfold rE;simp[h1,h2]
   rw[he];go_enter Tryz.func279,Tryz.ntmps279;go_wp2_with (go_at_call 296;refine(hn _ _).mono ?_;rintro e' w' ⟨rfl,rfl⟩);go_ret;exact⟨rfl,rfl⟩
theorem TC.swo {α:Type} {c:α->α->Int} (H:TC c):Sort.SWO (ltOf c):=by
 have hl:∀x y,ltOf c x y=true↔c x y<0:=fun x y=>decide_eq_true_iff
 have hn:∀x y,ltOf c x y=false↔0<=c x y:=fun x y=>decide_eq_false_iff_not.trans Int.not_lt
 refine⟨fun x=>(hn _ _).2 (by rw[H.same];exact Int.le_refl _),fun x y z h1 h2=>(hl _ _).2 (H.trans _ _ _ ((hl _ _).1 h1) ((hl _ _).1 h2)),fun x y z h1 h2=>(hn _ _).2 ?_⟩;have h1:=(hn _ _).1 h1;have h2:=(hn _ _).1 h2;by_cases e1:c x y=0
 ·rw[H.eq _ _ e1];exact h2
 ·by_cases e2:c y z=0
  ·rw[<-H.eq _ _ e2];exact h1
  ·have f1:=H.flop _ _ (show 0<c x y by omega)
   have f2:=H.flop _ _ (show 0<c y z by omega);have:=H.flip _ _ (H.trans _ _ _ f2 f1);omega
def zKJ (x y:U16):Int:=orF [rE (pc x) (pc y),rE x.1 y.1]
theorem zQO:TC zKJ:=by
 have h:=(y7.prod y7).comap (fun x:U16=>(pc x,x.1)) (fun a b h=>Subtype.ext (Prod.mk.inj h).2);have e:zKJ=fun a b:U16=>if(pc a,a.1).1≠(pc b,b.1).1 then rE (pc a,a.1).1 (pc b,b.1).1 else rE (pc a,a.1).2 (pc b,b.1).2:=by
  funext a b;unfold zKJ;by_cases h0:pc a=pc b
  ·simp[orF,h0,yH]
   exact fun h=>h.symm
  ·have hne:rE (pc a) (pc b)≠0:=fun e=>h0 (yI e)
   simp[orF,h0,hne]
 rw[e];exact h
theorem zST (w:World) (T:TypeId) (a b:Int) (n:Nat):Nums (w.alloc (.cells #[jI kQ a,jI kQ b] T)) (jS (some ⟨w.heap.size,0,none⟩) 2 n) [a,b]:=by
 refine⟨_,n,rfl,fun _=>⟨_,0,rfl,by simp,fun j hj=>?_⟩⟩;rw[rO,zI]
 match j,hj with
 |0,_=>rfl
 |1,_=>rfl
theorem or2 (w:World) (a b:Int):Calls rB 127 #[jS (some ⟨w.heap.size,0,none⟩) 2 2] (w.alloc (.cells #[jI kQ a,jI kQ b] 3)) (fun e' w'=>e'=jR (jI kQ (orF [a,b]))/\w'=w.alloc (.cells #[jI kQ a,jI kQ b] 3)):=
 zMN (L:=[a,b]) (zST w 3 a b 2) (by simp)
theorem zOS (x y:U16) (w:World):Calls rB 412 #[jI kU x.1,jI kU y.1] w (zDO w (zKJ x y)):=by
 have h1:=rA (zLx x);have h2:=rA (zLx y);have h3:=rA (fun W=>Tryz.cmp_Compare_int (pc x) (pc y) W);have h4:=rA (fun W=>zIw x.1 y.1 W);have HE:Hid (zKJ x y=orF [rE (pc x) (pc y),rE x.1 y.1]):=rA rfl;generalize zKJ x y=cc at*;generalize pc x=px at*;generalize pc y=py at*;obtain⟨x,hx⟩:=x;obtain⟨y,hy⟩:=y;dsimp only at*;clear hx hy;go_enter Tryz.func412,Tryz.ntmps412;go_wp2_with fail;refine(h1.out _).mono ?_;rintro e1 w1 ⟨rfl,hg1⟩;go_wp2_with fail;refine(h2.out _).mono ?_;rintro e2 w2 ⟨rfl,hg2⟩;have HG2:=rA (Gr.trans hg1 hg2);clear hg1 hg2 h1 h2;go_wp2_with fail;refine(h3.out _).mono ?_;rintro e3 w3 ⟨rfl,rfl⟩;clear h3;go_wp2_with fail;refine(h4.out _).mono ?_;rintro e4 w4 ⟨rfl,rfl⟩;clear h4;go_wp2_with fail;refine(or2 _ _ _).mono ?_;rintro e5 w5 ⟨rfl,rfl⟩;rw[<-HE.out];go_wp2_with fail;go_ret;exact⟨rfl,HG2.out.trans (Gr.alloc _ _)⟩
end Go.Proofs.YtmabhhngoklncaaGreatDoor
namespace Go.Proofs
def Tryz.cptU_ren:Go.Shelf.Ren:=⟨fun|43=>413|n=>n,fun|22=>287|23=>25|n=>n,fun|n=>n⟩
theorem Tryz.cptU:Go.Proofs.SlLaysE.n43 rB Tryz.cptU_ren:= {
 mixed:=by kernel_rfl
 f43:=⟨Tryz.f413.name,by decide,Tryz.func413.trans (congrArg some (by kernel_rfl))⟩
 t0:=Tryz.underlying0
 a0:=Tryz.isAgg0
 z0:=Tryz.sizeOf0
 v0:=Tryz.zeroValue0
 t3:=Tryz.underlying3
 a3:=Tryz.isAgg3
 z3:=Tryz.sizeOf3
 v3:=Tryz.zeroValue3
 t4:=Tryz.underlying4
 a4:=Tryz.isAgg4
 z4:=Tryz.sizeOf4
 v4:=Tryz.zeroValue4
 t22:=Tryz.underlying287
 a22:=Tryz.isAgg287
 z22:=Tryz.sizeOf287
 v22:=Tryz.zeroValue287
 a23:=Tryz.isAgg25
 z23:=Tryz.sizeOf25}
end Go.Proofs
namespace Go.Proofs.YtmabhhngoklncaaGreatDoor
variable {L:List Int}{s n:Int}{c B8 i b x:Nat}{a:Option Addr}{w1 wr:World}{u v:Value}
theorem zEL (x:U16):(xW x).length=1:=rfl
theorem zEM (x:U16):∀v∈xW x,v.oneCell'=true:=by
 intro v hv;simp only[xW,r7,List.not_mem_nil,or_false] at hv;subst hv;rfl
theorem zSI:(Tryz.prog.info? 25).map (fun i=>(i.zero,i.size,i.bytes))=some (some (jI kU 0),1,2):=by kernel_rfl
theorem tyU:TyG 287 25 1:=⟨Tryz.underlying287,_,_,zSI,rfl,by omega⟩
section
variable {W W':World} {lo blk cap:Nat} {a:Option Addr} {xs:List U16}
theorem pO.at1 (h:pO xW 1 W blk cap xs) {j:Nat} (hj:j<xs.length):W.cell? ⟨blk,j,none⟩=some (yW xs[j]):=by
 have:=h.cell hj (c:=0) (u:=yW xs[j]) (by omega) rfl
 simpa using this
theorem zH.at1 (h:zH xW 1 W lo a cap xs) {j:Nat} (hj:j<xs.length):∃b,a=some ⟨b,0,none⟩/\W.cell? ⟨b,j,none⟩=some (yW xs[j]):=by
 obtain⟨b,rfl, -,hR⟩:=h.row (by omega);exact⟨b,rfl,hR.at1 hj⟩
theorem pO.holdsU (h:pO xW 1 W blk cap xs):Holds yW W blk 0 xs.toArray:=fun j hj=>by
 have hj':j<xs.length:=by simpa using hj
 refine⟨?_,h.frozen _⟩;rw[rO,h.at1 hj'];simp[hj']
theorem pO.sortedU {m:Nat} {d:Array U16} {os:Array Obj} (h:pO xW 1 W blk cap xs) (hd:d.size=xs.length):pO xW 1 (sortWorld yW W blk 0 m d os) blk cap d.toList:=by
 have hblk:=h.lt;have hH:=holds_sortWorld yW W blk 0 m xs.toArray d os hblk h.holdsU (by simpa using hd);obtain⟨hl,cs,T,hb,hs,hc⟩:=h;have hb':(sortWorld yW W blk 0 m d os).heap[blk]? =some (.cells (putCells yW 0 d cs) T (0,0)):=by
  unfold sortWorld putRow;rw[heap_grow_old _ _ (by simp[mapBlock];exact hblk)];simp only[mapBlock,Array.getElem?_modify,if_true];rw[show(Sort.ahead W m).heap[blk]? =_ from hb];rfl
 refine⟨by simp[hd,hl],_,T,hb',by simp[putCells,hs],fun j hj c hc1=>?_⟩;have hj':j<d.size:=by simpa using hj
 obtain rfl:c=0:=by omega
 have:=(hH j hj').1;simp only[rM,hb',rO] at this;rw[if_neg (by simp)] at this;have h2:d[j]! =d.toList[j]:=by simp[hj']
 rw[h2] at this;simp only[Nat.mul_one,rS];exact this
theorem zKX {m:Nat} {d:Array U16} {os:Array Obj}:Fr (only blk) W.heap.size W (sortWorld yW W blk 0 m d os):=by
 refine⟨rfl,rfl,rfl,?_,fun k hk hne=>?_⟩
 ·simp[sortWorld,grow,putRow,mapBlock,Sort.ahead]
 ·unfold sortWorld putRow
  rw[heap_grow_old _ _ (by simp[mapBlock];exact hk)];simp only[mapBlock,Array.getElem?_modify];rw[if_neg (by intro e;subst e;simp[only] at hne)];rfl
theorem zFO {m:Nat} {d:Array U16} {os:Array Obj}:W.drawn<=(sortWorld yW W blk 0 m d os).drawn:=Nat.le_add_right _ _
theorem zPT {n:Nat}:CmpLays1 rB 412 #[] yW zKJ blk 0 n W:=fun m os dk _ x y=>by
 refine(show Calls rB 412 _ _ _ from zOS x y (sortWorld yW W blk 0 m dk os)).mono ?_;rintro e w' ⟨he,hb,hd⟩;exact⟨he,zBi hb hd⟩
theorem zSx:OneCell yW:=fun x=>by simp[yW,Value.oneCell']
theorem zT8:EqlAt rB 25 yW (fun x y=>decide (x=y)):=⟨fun x y w=>by
 have:=(EqlAt.int rB 25 .u16).1 x.1 y.1 w;refine this.trans ?_;by_cases h:x=y
 ·subst h;simp
 ·have h':x.1≠y.1:=fun e=>h (Subtype.ext e)
  simp[h,h'],fun op a b x y w=>(EqlAt.int rB 25 .u16).2 op a b x.1 y.1 w⟩
theorem zT6:NeqAt rB 25 yW (fun x y=>decide (x=y)):=⟨fun x y w=>by
 have:=(NeqAt.int rB 25 .u16).1 x.1 y.1 w;refine this.trans ?_;by_cases h:x=y
 ·subst h;simp
 ·have h':x.1≠y.1:=fun e=>h (Subtype.ext e)
  simp[h,h'],fun op a b x y w=>(NeqAt.int rB 25 .u16).2 op a b x.1 y.1 w⟩
theorem zC9 (d:Array U16):∀m,(compactUpTo d m).length<=m
 |0=>by simp[compactUpTo]
 |m+1=>by
  have:=zC9 d m;rw[compactUpTo_succ,List.length_append];split<;>simp<;>omega
theorem pO.take (h:pO xW 1 W blk cap xs) (n:Nat):pO xW 1 W blk cap (xs.take n):=by
 obtain⟨hl,cs,T,hb,hs,hc⟩:=h;refine⟨by simp;omega,cs,T,hb,hs,fun j hj c hc1=>?_⟩;have hj':j<n/\j<xs.length:=by simp at hj;omega
 rw[hc j hj'.2 c hc1];simp
end
theorem Gr.fr {w W W':World} {blk:Nat} (h:Gr w W) (hF:Fr (only blk) W.heap.size W W') (hb:w.heap.size<=blk) (hd:W.drawn<=W'.drawn):Gr w W':=
 ⟨⟨hF.os.trans h.1.os,hF.tape.trans h.1.tape,hF.output.trans h.1.output,rR h.1.size hF.size,fun k hk=>(hF.block k (Nat.lt_of_lt_of_le hk h.1.size) (by simp[only];omega)).trans (h.1.block k hk)⟩,rR h.2 hd⟩
theorem zP2 {w W:World} {cap:Nat} {a:Option Addr} {xs:List U16} (hg:Gr w W) (h:zH xW 1 W w.heap.size a cap xs) (hn:xs.length<=17179869184):
  Calls rB 294 #[jS a xs.length cap,.func (.func 412) #[] #[]] W fun e w'=>e=jR (jU #[])/\Gr w w'/\∃ys:List U16,ys.length=xs.length/\zH xW 1 w' w.heap.size a cap ys:=by
 rcases h with⟨rfl,rfl,rfl⟩|⟨blk,rfl,hb,hR⟩
 ·refine(show Calls rB 294 _ _ _ from AnyF.slices_SortFunc_none (ρ:=Tryz.sortU_ren) {Tryz.sortU with} none 0 (.func (.func 412) #[] #[]) W).mono ?_
  rintro e w' ⟨rfl,rfl⟩;exact⟨rfl,hg,[],rfl,.nil⟩
 ·have hS:=Any.slices_SortFunc Tryz.sortU yW zSx zKJ zQO.swo 412 #[] blk 0 cap xs.toArray W (enters_of Tryz.func412 (by kernel_rfl) rfl) zPT hR.holdsU hR.lt (by simp;omega)
  refine(show Calls rB 294 _ _ _ from hS).mono ?_;rintro e w' ⟨rfl,d,n,os,hp, -,rfl⟩;have hds:d.size=xs.length:=by simpa using hp.1
  exact⟨rfl,hg.fr zKX hb zFO,d.toList,by simpa using hds,.inr ⟨blk,rfl,hb,hR.sortedU hds⟩⟩
theorem zE5 {a:Option Addr} {n cap:Nat} (w:World) (hn:n<2):Calls rB 413 #[jS a n cap] w fun e w'=>e=jR (jS a n cap)/\w'=w:=by
 have h2z:(n:Int)<2:=by omega
 go_enter Tryz.func413,Tryz.ntmps413;go_wp2_with fail;go_ret;exact⟨rfl,rfl⟩
def zA0:U16:=⟨0,by omega,by omega⟩
theorem zLB {w W:World} {cap:Nat} {a:Option Addr} {xs:List U16} (hg:Gr w W) (h:zH xW 1 W w.heap.size a cap xs) (hn:xs.length<=17179869184):
  Calls rB 413 #[jS a xs.length cap] W fun e w'=>∃ys:List U16,e=jR (jS a ys.length cap)/\Gr w w'/\ys.length<=xs.length/\zH xW 1 w' w.heap.size a cap ys:=by
 rcases h with⟨rfl,rfl,rfl⟩|⟨blk,rfl,hb,hR⟩
 ·refine(zE5 W (by simp)).mono ?_
  rintro e w' ⟨rfl,rfl⟩;exact⟨[],rfl,hg,rC _,.nil⟩
 ·have hS:=AnyE.slices_Compact Tryz.cptU yW zSx zT8 zT6 zA0 (fun w=>Tryz.zeroValue25 w) blk 0 cap xs.toArray W hR.holdsU (by simp;omega) (by simpa using hR.1)
  refine(show Calls rB 413 _ _ _ from hS).mono ?_;rintro e w' ⟨rfl,q,rfl⟩;have hle:(compactUpTo xs.toArray xs.toArray.size).length<=xs.length:=by simpa using zC9 xs.toArray xs.toArray.size
  generalize compactUpTo xs.toArray xs.toArray.size=ys at*;have hds:((ys++rX (xs.toArray.size - ys.length) zA0).toArray).size=xs.length:=by simp;omega
  have e:putRow yW (Sort.ahead W q) blk 0 (ys++rX (xs.toArray.size - ys.length) zA0).toArray=sortWorld yW W blk 0 q (ys++rX (xs.toArray.size - ys.length) zA0).toArray #[]:=by unfold sortWorld;rw[grow_empty]
  rw[e];refine⟨ys,rfl,hg.fr zKX hb zFO,hle,.inr ⟨blk,rfl,hb,?_⟩⟩;have:=(hR.sortedU (m:=q) (os:= #[]) hds).take ys.length
  simpa using this
theorem zSG {x y:Int} {B:Nat} {w:World} (h1:w.cell? ⟨B,0,none⟩=some (jI kU y)):Calls rB 414 #[jI kU x,jP (some ⟨B,0,none⟩)] w (qS w):=by
 have HG:=rA (Gr.refl w);go_enter Tryz.func414,Tryz.ntmps414;go_wp2_with fail;go_ret;exact⟨_,rfl,HG.out⟩
theorem zRv {a:Option Addr} {c lo B:Nat} {l:List U16} {w:World} {y:Int} (h:zH xW 1 w lo a c l) (hlen:l.length<=17179869184) (h1:w.cell? ⟨B,0,none⟩=some (jI kU y)) (hB:B<w.heap.size):
  Calls rB 297 #[jS a l.length c,.func (.func 414) #[] #[jP (some ⟨B,0,none⟩)]] w (zB9 w):=by
 have H:=rA h;have HC:Hid (∀W,Gr w W->∀x:Int,Calls rB 414 #[jI kU x,jP (some ⟨B,0,none⟩)] W (qS W)):=rA fun W hg x=>zSG ((hg.1.cell (p:=⟨B,0,none⟩) hB).trans h1)
 clear h h1;go_enter Tryz.func297,Tryz.ntmps297;go_wp2_with fail;go_loopw [8] (fun i wr=>∃k:Nat,k<=l.length/\i=jI kQ k/\Hid (Gr w wr)) (fun i _=>l.length - (intOf i).toNat)
 case atStart=>exact⟨0,r6 _,rfl,rA (Gr.refl _)⟩
 case round=>
  obtain⟨k,hk,rfl,HR⟩:=hrel;by_cases hlt:k<l.length;rotate_left
  ·have hd:=dF hlt
   go_wp2_with fail;go_ret;exact⟨_,rfl,HR.out⟩
  have hd:=dT hlt
  obtain⟨b,rfl,c0⟩:=(H.out.gr HR.out).at1 hlt;have hkl:(k:Int)<(l.length:Int):=by omega
  have HQ:=rA (HC.out _ HR.out l[k].1);unfold yW at c0;generalize l[k].1=s at*;go_wp2_with fail;refine HQ.out.mono ?_;rintro e w5 ⟨q,rfl,hg5⟩;have HG5:=rA (HR.out.trans hg5);clear hg5 HQ c0;cases q with
  |true=>
   go_wp2_with fail;go_ret;exact⟨_,rfl,HG5.out⟩
  |false=>
   go_wp2_with fail;go_roundw
   case rel=>exact⟨k+1,by omega,by go_num,HG5⟩
   case measure=>simp[intOf];omega
theorem zSE {a:Option Addr} {c lo B:Nat} {l:List U16} {w:World} {y:Int} (h:zH xW 1 w lo a c l) (hlen:l.length<=17179869184) (h1:w.cell? ⟨B,0,none⟩=some (jI kU y)) (hB:B<w.heap.size):
  Calls rB 280 #[jS a l.length c,.func (.func 414) #[] #[jP (some ⟨B,0,none⟩)]] w (qS w):=by
 have HC:=rA (zRv h hlen h1 hB);clear h h1;go_enter Tryz.func280,Tryz.ntmps280;go_wp2_with fail;refine HC.out.mono ?_;rintro e w5 ⟨d,rfl,hg5⟩;have HG5:=rA hg5;clear hg5;go_wp2_with fail;go_ret;exact⟨_,rfl,HG5.out⟩
theorem zEU:∀(n:Nat) (l:List Nat),l.Nodup->(∀x∈l,x<n)->l.length<=n
 |0,l,_,h=>by
  cases l with
  |nil=>simp
  |cons x l=>exact absurd (h x (by simp)) (Nat.not_lt_zero _)
 |n+1,l,hn,h=>by
  by_cases hm:n∈l
  ·have h1:=zEU n (l.erase n) (hn.erase n) fun x hx=>by
    have:=(hn.mem_erase_iff).1 hx;have:=h x this.2;omega
   rw[List.length_erase_of_mem hm] at h1;omega
  ·have:=zEU n l hn fun x hx=>by
    have h2:=h x hx;have:x≠n:=fun e=>hm (e▸hx)
    omega
   omega
def Seen {α:Type} (key:α->Value) (W:World) (mb:Nat) (l:List α):Prop:=∃es clock,W.heap[mb]? =some (.map es clock)/\(∀e∈es.toList,∃x∈l,e.key=key x/\e.val=jB true)/\∀x∈l,∃e∈es.toList,e.key=key x
section
variable {α:Type} {key:α->Value} {W W':World} {mb:Nat} {l:List α} {K:Value->Prop} {kt t:TypeId}
theorem Seen.lt (h:Seen key W mb l):mb<W.heap.size:=by
 obtain⟨es,c,h,_⟩:=h;exact(Array.getElem?_eq_some_iff.1 h).1
theorem Seen.of_block (h:Seen key W mb l) (hb:W'.heap[mb]? =W.heap[mb]?):Seen key W' mb l:=by
 obtain⟨es,c,h1,h2⟩:=h;exact⟨es,c,hb.trans h1,h2⟩
theorem Seen.made (W:World):Seen key (W.alloc (.map #[] 0)) W.heap.size []:=⟨#[],0,rI _ _,by simp,by simp⟩
theorem Seen.look (h:Seen key W mb l) (hk:vJ kt K) (hK:∀x,K (key x)) (hinj:∀x y,key x=key y->x=y) (ht:Tryz.prog.underlying t=some (.map kt 4)) (x:α):
  ∃b:Bool,(b=true↔x∈l)/\∀n,(Instr.lookup t (.map (some mb)) (key x) false).run rB (W.drewN n)=.ok (jB b) (W.drewN n):=by
 obtain⟨es,clock,h1,h2,h3⟩:=h;obtain⟨r,k1,k2⟩:=hk.find (key x) (hK x) es.toList (fun e he=>by obtain⟨y, -,e1, -⟩:=h2 e he;rw[e1];exact hK y);rcases k2 with⟨rfl,k2⟩|⟨i,e,rfl,k3,k4⟩
 ·refine⟨false,⟨fun h=>(by cases h),fun hx=>?_⟩,fun n=>?_⟩
  ·obtain⟨e,he,e1⟩:=h3 x hx
   exact absurd e1 (k2 e he)
  ·have hg:=xJ (w:=W.drewN n) h1
   simp[Instr.lookup,rT ht,hg,hk.check (key x) (hK x),k1]
 ·obtain⟨y,hy,e1,e2⟩:=h2 e (rQ k3)
  refine⟨true,⟨fun _=>?_,fun _=>rfl⟩,fun n=>?_⟩
  ·rw[hinj x y (k4.symm.trans e1)];exact hy
  ·have hg:=xJ (w:=W.drewN n) h1
   simp[Instr.lookup,rT ht,hg,hk.check (key x) (hK x),k1,e2]
theorem Seen.add (h:Seen key W mb l) (hk:vJ kt K) (hK:∀x,K (key x)) (ht:Tryz.prog.underlying t=some (.map kt 4)) (x:α):
  ∃w',(Instr.mapUpdate t (.map (some mb)) (key x) (jB true)).run rB W=.ok () w'/\Seen key w' mb (l++[x])/\W.mapTurned w' mb:=by
 obtain⟨es,clock,h1,h2,h3⟩:=h;have hlt:=(Array.getElem?_eq_some_iff.1 h1).1;obtain⟨r,k1,k2⟩:=hk.find (key x) (hK x) es.toList (fun e he=>by obtain⟨y, -,e1, -⟩:=h2 e he;rw[e1];exact hK y);have hg:=xJ h1;have fin:∀(es':Array MapEntry) (clock':Nat),(∀e∈es'.toList,∃y∈l++[x],e.key=key y/\e.val=jB true)->(∀y∈l++[x],∃e∈es'.toList,e.key=key y)->(Instr.mapUpdate t (.map (some mb)) (key x) (jB true)).run rB W=.ok () (ChangeMaps.setBlock W mb (.map es' clock'))->
   ∃w',(Instr.mapUpdate t (.map (some mb)) (key x) (jB true)).run rB W=.ok () w'/\Seen key w' mb (l++[x])/\W.mapTurned w' mb:=fun es' clock' he hf hr=>
  ⟨_,hr,⟨es',clock',by simp[ChangeMaps.setBlock,hlt],he,hf⟩,es,clock,es',clock',h1,rfl⟩
 rcases k2 with⟨rfl, -⟩|⟨i,e,rfl,k3,k4⟩
 ·refine fin (es.push {key:=key x,val:=jB true,born:=clock}) (clock+1) (fun e he=>?_) (fun y hy=>?_) ?_
  ·rw[Array.toList_push] at he
   rcases List.mem_append.1 he with he|he
   ·obtain⟨y,hy,e1⟩:=h2 e he
    exact⟨y,by simp[hy],e1⟩
   ·simp only[List.mem_singleton] at he
    subst he;exact⟨x,by simp,rfl,rfl⟩
  ·rw[Array.toList_push]
   rcases List.mem_append.1 hy with hy|hy
   ·obtain⟨e,he,e1⟩:=h3 y hy
    exact⟨e,by simp[he],e1⟩
   ·rw[List.mem_singleton.1 hy]
    exact⟨{key:=key x,val:=jB true,born:=clock},by simp,rfl⟩
  ·have hs:=zAM (E':=es.push {key:=key x,val:=jB true,born:=clock}) (c':=clock+1) h1
   simp[Instr.mapUpdate,rT ht,hg,hk.check (key x) (hK x),k1,hs]
 ·have k3':es[i]? =some e:=by rw[<-k3];simp
  have hkts:∀w:World,(Instr.keyThatStays (key x) (key x)).run rB w=.ok (key x) w:=fun w=>by simp[Instr.keyThatStays,hk.same (key x) (hK x)]
  have hil:i<es.toList.length:=(List.getElem?_eq_some_iff.1 k3).1;refine fin (es.modify i fun e=> {e with key:=key x,val:=jB true}) clock (fun e' he=>?_) (fun y hy=>?_) ?_
  ·obtain⟨j,hj⟩:=List.mem_iff_getElem?.1 he
   rw[Array.toList_modify,List.getElem?_modify] at hj;cases hq:es.toList[j]? with
   |none=>rw[hq] at hj;simp at hj
   |some e2=>
    rw[hq] at hj;by_cases hij:i=j
    ·simp[hij] at hj
     subst hj;exact⟨x,by simp,rfl,rfl⟩
    ·simp[hij] at hj
     subst hj;obtain⟨y,hy,e1⟩:=h2 _ (rQ hq);exact⟨y,by simp[hy],e1⟩
  ·have hin:∀j,j<es.toList.length->∃e∈(es.modify i fun e=> {e with key:=key x,val:=jB true}).toList,e.key=(if i=j then key x else(es.toList[j]?.getD default).key):=fun j hj=>by
    refine⟨_,rQ (i:=j) (by rw[Array.toList_modify,List.getElem?_modify,rD hj];rfl),?_⟩;by_cases hij:i=j
    ·simp[hij]
    ·have hj':j<es.size:=by simpa using hj
     simp[hij,hj']
   rcases List.mem_append.1 hy with hy|hy
   ·obtain⟨e3,he3,e1⟩:=h3 y hy
    obtain⟨j,hj,rfl⟩:=List.mem_iff_getElem.1 he3;obtain⟨e4,he4,e5⟩:=hin j hj;refine⟨e4,he4,?_⟩;rw[e5];by_cases hij:i=j
    ·subst hij
     rw[if_pos rfl,<-e1];rw[rD hj] at k3;injection k3 with k3
     rw[k3,k4]
    ·rw[if_neg hij,rD hj];exact e1
   ·rw[List.mem_singleton.1 hy]
    obtain⟨e4,he4,e5⟩:=hin i hil;exact⟨e4,he4,by rw[e5,if_pos rfl]⟩
  ·have hs:=zAM (E':=es.modify i fun e=> {e with key:=key x,val:=jB true}) (c':=clock) h1
   simp[Instr.mapUpdate,rT ht,hg,hk.check (key x) (hK x),k1,k3',k4,hkts,hs]
end
def UlR (w:World) (N:Nat) (e:Ending) (w':World):Prop:=∃(a:Option Addr) (c:Nat) (ys:List U16),e=jR (jS a ys.length c)/\zH xW 1 w' w.heap.size a c ys/\ys.length<=N/\c<=maxLen/\Gr w w'
theorem zQs {W:World} {lo cap:Nat} {a:Option Addr} {xs:List U16} (x:U16) (h:zH xW 1 W lo a cap xs) (hlo:lo<=W.heap.size) (hcap:cap<=maxLen) (hsm:xs.length+1<=17179869184):
  ∃a' cap' W',(rF #[287,287] 287 #[jS a xs.length cap,jS (some ⟨W.heap.size,0,none⟩) 1 1]).run rB (W.alloc (.cells #[jI kU x.1] 25))=.ok (jS a' (xs.length+1) cap') W'/\zH xW 1 W' lo a' cap' (xs++[x])/\zDi lo (W.alloc (.cells #[jI kU x.1] 25)) W' a a'/\cap'<=maxLen:=
 zB5 tyU (by omega) zEL zEM x h hlo hcap hsm 25
theorem zCA {w W:World} {cap:Nat} {a:Option Addr} {xs:List U16} (hg:Gr w W) (h:zH xW 1 W w.heap.size a cap xs) (hcap:cap<=maxLen) (hn:xs.length<=8589934592):Calls rB 408 #[jS a xs.length cap] W (UlR w xs.length):=by
 have HC:=rA (zP2 hg h (by omega));have hn2:xs.length<=17179869184:=by omega
 clear hg h;go_enter Tryz.func408,Tryz.ntmps408;go_wp2_with fail;refine HC.out.mono ?_;rintro e w1 ⟨rfl,hg1,ys,hys,hl1⟩;clear HC;rw[<-hys] at hn hn2 ⊢;have HC:=rA (zLB hg1 hl1 hn2);have HYS:=rA hys;clear hg1 hl1 hys;go_wp2_with fail;refine HC.out.mono ?_;rintro e w2 ⟨zs,rfl,hg2,hle,hl2⟩;have HG2:=rA hg2;have HL2:=rA hl2;clear HC hg2 hl2;go_wp2_with fail;go_loopw [3,11] (fun t i wr=>∃(k:Nat) (ka:Option Addr) (kc:Nat) (ks:List U16),k<=zs.length/\i=jI kQ k/\t=jS ka ks.length kc/\Hid (Gr w2 wr/\zH xW 1 wr w2.heap.size ka kc ks/\ks.length<=k/\kc<=maxLen)) (fun _ i _=>zs.length - (intOf i).toNat)
 case atStart=>exact⟨0,none,0,[],r6 _,rfl,rfl,rA ⟨Gr.refl _,.nil,rC _,by simp[maxLen]⟩⟩
 case round=>
  obtain⟨k,ka,kc,ks,hk,rfl,rfl,HR⟩:=hrel;by_cases hlt:k<zs.length;rotate_left
  ·have hd:=dF hlt
   go_wp2_with fail;go_ret;exact⟨_,_,ks,rfl,HR.out.2.1.low HG2.out.1.size,by have:=HR.out.2.2.1;have:=HYS.out;omega,HR.out.2.2.2,HG2.out.trans HR.out.1⟩
  have hd:=dT hlt
  obtain⟨b,rfl,c0⟩:=(HL2.out.gr HR.out.1).at1 hlt;have hkl:(k:Int)<(zs.length:Int):=by omega
  unfold yW at c0;obtain⟨z,hz⟩:∃z,zs[k]=z:=⟨_,rfl⟩;rw[hz] at c0;clear hz;have HKL:Hid (ks.length<=k):=rA HR.out.2.2.1;have HRA:Hid (Gr w2 (wr.alloc (.cells #[jI kU z.1] 25))/\zH xW 1 (wr.alloc (.cells #[jI kU z.1] 25)) w2.heap.size ka kc ks/\kc<=maxLen):=rA ⟨HR.out.1.trans (Gr.alloc _ _),HR.out.2.1.gr (Gr.alloc _ _),HR.out.2.2.2⟩;have HB:Hid (∀V,Gr (wr.alloc (.cells #[jI kU z.1] 25)) V->V.cell? ⟨wr.heap.size,0,none⟩=some (jI kU z.1)/\wr.heap.size<V.heap.size):=rA fun V hg=>by
   have b0:=(hg.1.block wr.heap.size (by simp)).trans (rI wr _);exact⟨by simp[rM,b0],(Array.getElem?_eq_some_iff.1 b0).1⟩
  go_upto_region 6 with fail;clear c0 HR;generalize wr.heap.size=B at*;generalize wr.alloc (.cells #[jI kU z.1] 25)=w3 at*;obtain⟨q0,q1⟩:=HB.out _ (Gr.refl _);have HC:=rA (zSE HRA.out.2.1 (by have:=HKL.out;omega) q0 q1);go_wp2_with fail;refine HC.out.mono ?_;rintro e w4 ⟨bb,rfl,hg4⟩;have HG4:=rA hg4;obtain⟨r0, -⟩:=HB.out _ hg4;clear HC hg4 q0 q1;cases bb with
  |true=>
   go_wp2_with fail;go_roundw
   case rel=>exact⟨k+1,ka,kc,ks,by omega,by go_num,rfl,rA ⟨HRA.out.1.trans HG4.out,HRA.out.2.1.gr HG4.out,by have:=HKL.out;omega,HRA.out.2.2⟩⟩
   case measure=>simp[intOf];omega
  |false=>
   obtain⟨a',c',W2,hrun,hL,hA,hc⟩:=zQs z (HRA.out.2.1.gr HG4.out) (HRA.out.1.trans HG4.out).1.size HRA.out.2.2 (by have:=HKL.out;omega);have HRUN:=rA hrun;have HNX:Hid (Gr w2 W2/\zH xW 1 W2 w2.heap.size a' c' (ks++[z])/\(ks++[z]).length<=k+1/\c'<=maxLen):=rA ⟨hA.gr ((HRA.out.1.trans HG4.out).trans (Gr.alloc _ _)) (rC _),hL,by have:=HKL.out;simp;omega,hc⟩;clear hrun hL hA hc;go_wp2_with (first|(refine wpList_append_run rfl (.tmp 19) (.tmp 21) 287 287 rfl _ _ rfl rfl _ _ HRUN.out ?_));go_roundw
   case rel=>exact⟨k+1,a',c',ks++[z],by omega,by go_num,by simp,HNX⟩
   case measure=>simp[intOf];omega
