/- The negation of a loose kernel. -/
import Derived.Test.YtmabhhngoklncaaGreatDoorXA
set_option maxRecDepth 100000
set_option maxHeartbeats 40000000
set_option linter.all false
open Go.Lib renaming hid->rA
open Go.Proofs.Tryz renaming prog->rB
open Go renaming heap_alloc_new->rC,heap_alloc_old->rD,heap_setCell_other->rG,wpAnyH_done->rH,heap_setCell_same->rK,wp_region_held_drew->rN,bodyPost_ret->rO
open Nat renaming zero_le->rE,le_trans->rF,le_refl->rI,lt_succ_self->rP
open Go.World renaming cell?->rJ,frozen?->rL,cell?_of_block->rM
open Go.Value renaming int->jI,slice->jS,pointer->jP,bool->jB,string->jT,agg->jG,tuple->jU
open Go.IntKind renaming i64->kQ
open Go.Ending renaming returned->jR
open Go Go.RowKit Go.Sort
namespace Go.Proofs.YtmabhhngoklncaaGreatDoor
variable {w w':World}{sa:Option Addr}{sc:Nat}{l:List Sg}
theorem Fe.enc_len (x:Fe):x.enc.length=5:=rfl
theorem Fe.enc_one (x:Fe):∀v∈x.enc,v.oneCell'=true:=by
 intro v hv;simp only[Fe.enc,List.mem_cons,List.not_mem_nil,or_false] at hv;rcases hv with h|h|h|h|h<;>rw[h]<;>rfl
theorem zH.args {q:Nat->Bool} {W:World} {lo cap:Nat} {a:Option Addr} {Z:List Fe} (h:zH Fe.enc 5 W lo a cap Z) (hq:∀b,a=some ⟨b,0,none⟩->q b=false) (ho:∀z∈Z,z.ok (dim q W)):FArgs (dim q W) a (Fe.forest Z):=fun h0=>by
 rcases h with⟨rfl,rfl,_⟩|⟨b,rfl,hlo,hR⟩
 ·exact absurd rfl h0
 ·refine⟨b,0,rfl,by rw[zW];exact hR.lt,Fe.at Z 0 (fun j hj c u hc hu=>?_) fun x hx=>ho x hx⟩
  rw[vQ (hq b rfl),Nat.zero_add];exact hR.cell hj hc hu
def ngm (p:Nat->Bool) (w:World) (a:Option Addr) (k:Nat):Bool:=p k||k==w.heap.size+1||k==w.heap.size+3||blkOf a==some k
theorem p9 {p:Nat->Bool} {w:World} {a:Option Addr} {k:Nat}:ngm p w a k=false↔p k=false/\k≠w.heap.size+1/\k≠w.heap.size+3/\blkOf a≠some k:=by
 simp only[ngm,Bool.or_eq_false_iff,beq_eq_false_iff_ne,ne_eq,and_assoc]
structure NgS (p:Nat->Bool) (w W:World) (x:Fe) (op v:Int) (a:Option Addr) (cap:Nat) (Z:List Fe):Prop where
 gr:Gr w W
 b1:W.heap[w.heap.size]? =some (.cells x 33 (0,0))
 b2:W.heap[w.heap.size+1]? =some (.cells #[jI kQ 0,jT ⟨#[]⟩,jI kQ 0,jI kQ 0,jS none 0 0] 33 (0,0))
 b4:W.heap[w.heap.size+3]? =some (.cells #[jI kQ op,jT ⟨#[]⟩,jI kQ v,jI kQ 0,jS a Z.length cap] 33 (0,0))
 list:zH Fe.enc 5 W (w.heap.size+4) a cap Z
 caps:cap<=maxLen
 els:∀z∈Z,z.ok (dim (ngm p w a) W)
section
variable {p:Nat->Bool} {w W W':World} {x:Fe} {op v:Int} {a:Option Addr} {cap:Nat} {Z:List Fe}
theorem NgS.later (h:NgS p w W x op v a cap Z) (hg:Gr W W'):NgS p w W' x op v a cap Z:=
 ⟨h.gr.trans hg,(hg.1.block _ (Array.getElem?_eq_some_iff.1 h.b1).1).trans h.b1,(hg.1.block _ (Array.getElem?_eq_some_iff.1 h.b2).1).trans h.b2,(hg.1.block _ (Array.getElem?_eq_some_iff.1 h.b4).1).trans h.b4,h.list.gr hg,h.caps,fun z hz=>Fe.ok_sub _ _ _ (vM hg fun _ h=>h) (h.els z hz)⟩
theorem NgS.push {z:Fe} (h:NgS p w W x op v a cap Z) (hz:z.ok (dim (ngm p w a) W)) (hl:Z.length<=1000000):
  ∃a' c' W6,(Builtin.append_ #[31,31] 31 #[jS a Z.length cap,jS (some ⟨W.heap.size,0,none⟩) 1 1]).run rB (W.alloc (.cells z 33))=.ok (jS a' (Z.length+1) c') W6/\
   W6.cell? ⟨w.heap.size+3,4,none⟩=some (jS a Z.length cap)/\W6.frozen? ⟨w.heap.size+3,4,none⟩=false/\NgS p w (W6.setCell ⟨w.heap.size+3,4,none⟩ (jS a' (Z.length+1) c')) x op v a' c' (Z++[z]):=by
 have hs4:=(Array.getElem?_eq_some_iff.1 h.b4).1;obtain⟨a',c',W6,hrun,hL,hA,hc⟩:=zB5 tyE (by omega) Fe.enc_len Fe.enc_one z h.list (by omega) h.caps (by omega) 33;have hne:∀q,q<w.heap.size+4->a≠some ⟨q,0,none⟩:=fun q hq e=>by have:=(h.list.lt e).2;omega
 have hold:∀q,q<W.heap.size->a≠some ⟨q,0,none⟩->W6.heap[q]? =W.heap[q]? :=fun q hq e=>(hA.other (by simp;omega) e).trans (rD _ _ hq)
 have b4:W6.heap[w.heap.size+3]? =_:=(hold _ hs4 (hne _ (by omega))).trans h.b4;have hsz:=hA.size;simp only[World.size_alloc] at hsz;have hb:∀q,blkOf a'=some q->blkOf a=some q∨q=W.heap.size+1:=fun q hq=>by
  have e:=hL.blkOf hq;rcases hA.at' q e with e'|e'
  ·left;rw[e'];rfl
  ·right;rw[e'];simp
 have hS:∀y:Fe,y.ok (dim (ngm p w a) W)->y.ok (dim (ngm p w a') (W6.setCell ⟨w.heap.size+3,4,none⟩ (jS a' (Z.length+1) c'))):=fun y hy=>by
  refine Fe.ok_sub _ _ _ (zE (by simp;omega) fun k hk hq=>?_) hy;obtain⟨q1,q2,q3,q4⟩:=p9.1 hq;refine⟨p9.2 ⟨q1,q2,q3,fun e=>?_⟩,(rG _ _ _ _ (by show k≠_;exact q3)).trans (hold k hk fun e=>q4 (by rw[e];rfl))⟩;rcases hb k e with e|e
  ·exact q4 e
  ·omega
 refine⟨a',c',W6,hrun,by simp[rJ,b4],by simp[rL,b4],?_⟩;have oth:∀q,q≠w.heap.size+3->q<w.heap.size+4->(W6.setCell ⟨w.heap.size+3,4,none⟩ (jS a' (Z.length+1) c')).heap[q]? =W.heap[q]? :=fun q h1 h2=>(rG _ _ _ _ (by show q≠_;exact h1)).trans (hold q (by omega) (hne q h2))
 refine⟨Gr.setCell (hA.gr (h.gr.trans (Gr.alloc _ _)) (by omega)) (by omega) _,(oth _ (by omega) (by omega)).trans h.b1,(oth _ (by omega) (by omega)).trans h.b2,?_,?_,hc,fun y hy=>?_⟩
 ·rw[rK _ _ 4 _ 33 _ b4]
  simp
 ·exact hL.block fun q e=>rG _ _ _ _ (by have:=(hL.lt e).2;show q≠w.heap.size+3;omega)
 ·rcases List.mem_append.1 hy with hy|hy
  ·exact hS y (h.els y hy)
  ·rw[List.mem_singleton.1 hy];exact hS z hz
theorem NgS.cells (h:NgS p w W x op v a cap Z):W.cell? ⟨w.heap.size+3,0,none⟩=some (jI kQ op)/\W.cell? ⟨w.heap.size+3,1,none⟩=some (jT ⟨#[]⟩)/\W.cell? ⟨w.heap.size+3,2,none⟩=some (jI kQ v)/\W.cell? ⟨w.heap.size+3,3,none⟩=some (jI kQ 0)/\W.cell? ⟨w.heap.size+3,4,none⟩=some (jS a Z.length cap)/\W.frozen? ⟨w.heap.size+3,4,none⟩=false:=by
 refine⟨?_,?_,?_,?_,?_,?_⟩<;>simp[rJ,rL,h.b4]
def zGg (x z:Fe):Prop:=z.args.nodes+1<=2*(x.args.nodes+1)
theorem NgS.fin (h:NgS p w W x op v a cap Z) (hp:∀k,w.heap.size<=k->p k=false) (hn:(Fe.forest Z).nodes<=2*x.args.nodes) (hl:Z.length<=1000000):
  FmR p w (zGg x) (jR (jG #[jI kQ op,jT ⟨#[]⟩,jI kQ v,jI kQ 0,jS a Z.length cap])) (put5 W (w.heap.size+1) (jI kQ op) (jT ⟨#[]⟩) (jI kQ v) (jI kQ 0) (jS a Z.length cap)):=by
 have hlen:(Fe.forest Z).len=Z.length:=Fe.forest_len Z;have hL:zH Fe.enc 5 (put5 W (w.heap.size+1) (jI kQ op) (jT ⟨#[]⟩) (jI kQ v) (jI kQ 0) (jS a Z.length cap)) (w.heap.size+4) a cap Z:=h.list.block fun q e=>zJ (by have:=(h.list.lt e).2;omega)
 refine⟨⟨op,⟨#[]⟩,v,0,Fe.forest Z,a,cap⟩,by simp only[hlen],⟨?_,rE _,by show(Fe.forest Z).len<=_;rw[hlen];omega,by show(Fe.forest Z).len<=_;rw[hlen];exact h.list.le⟩,by show(Fe.forest Z).nodes+1<=_;omega,Gr.put5 h.gr (by omega)⟩;refine hL.args (fun b e=>hp b (by have:=(hL.lt e).2;omega)) fun z hz=>?_
 exact Fe.ok_sub _ _ _ (zE (by rw[yJ];exact rI _) fun k hk hq=>⟨(p9.1 hq).1,zJ (p9.1 hq).2.1⟩) (h.els z hz)
end
theorem zLb {tmps:Array Value} {W:World} {g:Nat} {a b c d e:Value} (hp:tmps.getD 2 undef=jP (some ⟨g,0,none⟩)) (h:W.heap[g]? =some (.cells #[a,b,c,d,e] 33 (0,0))):
  (results Tryz.f366 tmps).run rB W=.ok (jG #[a,b,c,d,e]) W:=
 zGp rfl hp h fun W' h0 h1 h2 h3 h4=>by simp[go_sem,h0,h1,h2,h3,h4]
def NgI (w0:World) (mb:Nat) (W:World):Prop:=Gr w0 W/\AMap W mb KInt KInt/\W.heap.size=mb+1
theorem zKV {w0 W:World} {mb:Nat} (h:NgI w0 mb W) (hmb:w0.heap.size<=mb) {x y:Int}
  {ops:Array Oper} {rest:List Oper} {o:Oper} {a:Act} {Q:Exit->Act->World->Prop} (hg:o.guard=none) (m k v:Operand) (hop:o.op=Op.insert 431 m k v) (hm:a.eval m=.map (some mb)) (hke:a.eval k=jI kQ x) (hve:a.eval v=jI kQ y)
  (hQ:∀w',NgI w0 mb w'->wpList rB ops Q rest (a.put o.dst undef) w'):wpList rB ops Q (o::rest) a W:=by
 obtain⟨w',h1,h2,h3⟩:=h.2.1.update zNP Tryz.underlying431 (key:=jI kQ x) (val:=jI kQ y) ⟨_,rfl⟩ ⟨_,rfl⟩;refine wpList_plain hg fun K' hK'=>?_
 unfold Oper.wp;simp only[execOp,hop,hm,hke,hve,Sem.run_bind,Sem.run_pure,h1,Result.andThen];exact hK' _ _ (hQ w' ⟨h.1.turned h3 hmb,h2,(zCM h3).trans h.2.2⟩)
theorem zIa {w0 W:World} {mb:Nat} (h:NgI w0 mb W) {x:Int}
  {ops:Array Oper} {rest:List Oper} {o:Oper} {a:Act} {Q:Exit->Act->World->Prop} (hg:o.guard=none) (m k:Operand) (hop:o.op=Op.lookup 431 m k false) (hm:a.eval m=.map (some mb)) (hke:a.eval k=jI kQ x)
  (hQ:∀y:Int,wpList rB ops Q rest (a.put o.dst (jI kQ y)) W):wpList rB ops Q (o::rest) a W:=by
 refine zJ9 h.2.1 zNP Tryz.underlying431 zKE (key:=jI kQ x) ⟨_,rfl⟩ hg m k false hop hm hke fun v b hv=>?_
 rcases hv with⟨-,y,rfl⟩|⟨-,rfl⟩
 ·exact hQ y
 ·exact hQ 0
theorem zRV {p:Nat->Bool} {w:World} {a:Option Addr} {ar:Fs} (hf:FArgs (dim p w) a ar) (hr:ArL ar):∀k,k<ar.len->∃(b o:Nat) (y:Fe),a=some ⟨b,o,none⟩/\
  (∀W,Gr w W->W.cell? ⟨b,o+k*5,none⟩=some (jI kQ y.op)/\W.cell? ⟨b,o+k*5+1,none⟩=some (jT y.nm)/\W.cell? ⟨b,o+k*5+2,none⟩=some (jI kQ y.v)/\W.cell? ⟨b,o+k*5+3,none⟩=some (jI kQ y.bd)/\W.cell? ⟨b,o+k*5+4,none⟩=some (jS y.a y.args.len y.c))/\
  y.ok (dim p w)/\y.ar/\y.args.nodes<ar.nodes/\zU ar (k+1)=zU ar k+(y.args.nodes+1):=fun k hk=>by
 obtain⟨b1,o1,y,e,hb1,hdy,hyo,hyn,c0,c1,c2,c3,c4⟩:=hf.elem hk;refine⟨b1,o1,y,e,fun W hW=>?_,hyo,hr.at hdy,hyn,zX hdy⟩;have hs:Sub (dim p w) W:=(vM hW fun _ h=>h).trans (vS p W);exact⟨hs.cell c0,hs.cell c1,hs.cell c2,hs.cell c3,hs.cell c4⟩
section
variable {p:Nat->Bool} {w W:World} {x:Fe}
theorem zQE {y:Fe} (hg:Gr w W) (hy:y.ok (dim p w)) (hP:zGg x y):FmR p w (zGg x) (jR (jG y)) (put5 W (w.heap.size+1) (jI kQ y.op) (jT y.nm) (jI kQ y.v) (jI kQ y.bd) (jS y.a y.args.len y.c)):=
 ⟨y,rfl,Fe.ok_sub _ _ _ (vM (Gr.put5 hg (by omega)) fun _ h=>h) hy,hP,Gr.put5 hg (by omega)⟩
theorem zR9 (hg:Gr w W) (hs:W.heap.size=w.heap.size+2) (hp:∀k,w.heap.size<=k->p k=false) (hx:x.ok (dim p w)):
  FmR p w (zGg x) (jR (jG #[jI kQ 4,jT ⟨#[]⟩,jI kQ 0,jI kQ 0,jS (some ⟨W.heap.size,0,none⟩) 1 1])) (put5 (W.alloc (.cells x 33)) (w.heap.size+1) (jI kQ 4) (jT ⟨#[]⟩) (jI kQ 0) (jI kQ 0) (jS (some ⟨W.heap.size,0,none⟩) 1 1)):=by
 have hg2:=hg.trans (Gr.alloc W (.cells x 33));have hg3:=Gr.put5 (a:=jI kQ 4) (b:=jT ⟨#[]⟩) (c:=jI kQ 0) (d:=jI kQ 0) (e:=jS (some ⟨W.heap.size,0,none⟩) 1 1) hg2 (show w.heap.size<=w.heap.size+1 by omega);have hb:=(zJ (a:=jI kQ 4) (b:=jT ⟨#[]⟩) (c:=jI kQ 0) (d:=jI kQ 0) (e:=jS (some ⟨W.heap.size,0,none⟩) 1 1) (show W.heap.size≠w.heap.size+1 by omega)).trans (rC W (.cells x 33));have hL:zH Fe.enc 5 (put5 (W.alloc (.cells x 33)) (w.heap.size+1) (jI kQ 4) (jT ⟨#[]⟩) (jI kQ 0) (jI kQ 0) (jS (some ⟨W.heap.size,0,none⟩) 1 1)) (W.heap.size) (some ⟨W.heap.size,0,none⟩) 1 [x]:=by
  refine .inr ⟨_,rfl,rI _,rI _,_,_,hb,rfl,fun j hj c hc=>?_⟩;have:j=0:=by simpa using hj
  subst this;simp[Fe.enc]
 refine⟨⟨4,⟨#[]⟩,0,0,Fe.forest [x],some ⟨W.heap.size,0,none⟩,1⟩,rfl,⟨?_,rE _,by show 1<=_;omega,rI _⟩,?_,hg3⟩
 ·refine hL.args (fun b e=>hp b (by cases e;exact hg.1.size)) fun z hz=>?_
  rw[List.mem_singleton.1 hz];exact Fe.ok_sub _ _ _ (vM hg3 fun _ h=>h) hx
 ·show(Fe.forest [x]).nodes+1<=_
  simp only[Fe.forest,Fs.nodes];omega
theorem NgS.start {op:Int} (hg:Gr w W) (hs:W.heap.size=w.heap.size+3) (h1:W.heap[w.heap.size]? =some (.cells x 33 (0,0))) (h2:W.heap[w.heap.size+1]? =some (.cells #[jI kQ 0,jT ⟨#[]⟩,jI kQ 0,jI kQ 0,jS none 0 0] 33 (0,0))):
  NgS p w (W.alloc (.cells #[jI kQ op,jT ⟨#[]⟩,jI kQ 0,jI kQ 0,jS none 0 0] 33)) x op 0 none 0 []:=
 ⟨hg.trans (Gr.alloc _ _),(rD _ _ (by omega)).trans h1,(rD _ _ (by omega)).trans h2,xH hs _,.nil,by simp[maxLen],fun z hz=>by cases hz⟩
theorem NgS.setV {op v:Int} {a:Option Addr} {cap:Nat} {Z:List Fe} (h:NgS p w W x op v a cap Z) (u:Int):NgS p w (W.setCell ⟨w.heap.size+3,2,none⟩ (jI kQ u)) x op u a cap Z:=by
 have oth:∀q,q≠w.heap.size+3->(W.setCell ⟨w.heap.size+3,2,none⟩ (jI kQ u)).heap[q]? =W.heap[q]? :=fun q h1=>rG _ _ _ _ (by show q≠_;exact h1)
 refine⟨Gr.setCell h.gr (by omega) _,(oth _ (by omega)).trans h.b1,(oth _ (by omega)).trans h.b2,?_,h.list.block fun q e=>oth q (by have:=(h.list.lt e).2;omega),h.caps,fun z hz=>Fe.ok_sub _ _ _ (zE (by simp) fun k hk hq=>⟨hq,oth k (p9.1 hq).2.2.1⟩) (h.els z hz)⟩;rw[rK _ _ 2 _ 33 _ h.b4];simp
end
def zQV (n:Nat):Prop:=∀(p:Nat->Bool) (x:Fe) (w:World),(∀k,w.heap.size<=k->p k=false)->x.args.nodes<n->x.args.nodes<=1000->x.ok (dim p w)->x.ar->
 Calls rB 366 #[jG x] w (FmR p w (zGg x))
theorem zO5 {n:Nat} (IH:zQV n) (p:Nat->Bool) (x:Fe) (w:World) (hpp:∀k,w.heap.size<=k->p k=false) (hn:x.args.nodes<=n) (h9:x.args.nodes<=1000) (hx:x.ok (dim p w)) (hr:x.ar):
  Calls rB 366 #[jG x] w (FmR p w (zGg x)):=by
 have HX:=rA hx;have HXR:=rA hr;have HPP:=rA hpp;have HI:=rA IH;have HN:=rA hn;have HN9:=rA h9;have HKD:=rA (zRV hx.1 hr.2);have hL9:x.args.len<=1000:=rF (Fs.len_le _) h9;have HLC:Hid (x.nm.size<=9223372036854775807):=rA hx.2.1;have HLE:Hid (x.args.len<=x.c):=rA hx.2.2.2;clear IH hr hpp hn h9 hx;obtain⟨op,nm,v,bd,ar,a,c⟩:=x;dsimp only at*;go_enter Tryz.func366,Tryz.ntmps366;go_upto_region 1 with fail;have HW:Hid (∀W,W=(w.alloc (.cells #[jI kQ op,jT nm,jI kQ v,jI kQ bd,jS a ar.len c] 33)).alloc (.cells #[jI kQ 0,jT ⟨#[]⟩,jI kQ 0,jI kQ 0,jS none 0 0] 33)->Gr w W/\W.heap[w.heap.size]? =some (.cells #[jI kQ op,jT nm,jI kQ v,jI kQ bd,jS a ar.len c] 33 (0,0))/\W.heap[w.heap.size+1]? =some (.cells #[jI kQ 0,jT ⟨#[]⟩,jI kQ 0,jI kQ 0,jS none 0 0] 33 (0,0))/\W.heap.size=w.heap.size+2):=rA fun W e=>by
  subst e;exact⟨(Gr.alloc _ _).trans (Gr.alloc _ _),(rD _ _ (by simp)).trans (rC w _),xH (by simp) _,by simp⟩
 obtain⟨g1,b3,b4,hs1⟩:=HW.out _ rfl;clear HW;generalize (w.alloc _).alloc _=w1 at*;have HG1:=rA g1;have HB3:=rA b3;have HB4:=rA b4;obtain⟨q0,q1,q2,q3,q4, -⟩:=zA b3;obtain⟨k40,k41,k42,k43,k44,f40,f41,f42,f43,f44⟩:=zA b4;clear g1 b3 b4;by_cases h3:op=3
 ·have hd3:(op==(3:Int))=true:=by simp[h3]
  have HEND:=rA (zR9 (x:=⟨op,nm,v,bd,ar,a,c⟩) HG1.out hs1 HPP.out HX.out);have hE:=rA (yA (a:=jI kQ 4) (b:=jT ⟨#[]⟩) (c:=jI kQ 0) (d:=jI kQ 0) (e:=jS (some ⟨w1.heap.size,0,none⟩) 1 1) ((rD w1 (.cells #[jI kQ op,jT nm,jI kQ v,jI kQ bd,jS a ar.len c] 33) (by omega)).trans HB4.out));have hz:∀o:Obj,(w1.alloc o).cell? ⟨w.heap.size+1,0,none⟩=some (jI kQ 0)/\(w1.alloc o).cell? ⟨w.heap.size+1,1,none⟩=some (jT ⟨#[]⟩)/\(w1.alloc o).cell? ⟨w.heap.size+1,2,none⟩=some (jI kQ 0)/\(w1.alloc o).cell? ⟨w.heap.size+1,3,none⟩=some (jI kQ 0)/\(w1.alloc o).cell? ⟨w.heap.size+1,4,none⟩=some (jS none 0 0)/\(w1.alloc o).frozen? ⟨w.heap.size+1,0,none⟩=false/\(w1.alloc o).frozen? ⟨w.heap.size+1,1,none⟩=false/\(w1.alloc o).frozen? ⟨w.heap.size+1,2,none⟩=false/\(w1.alloc o).frozen? ⟨w.heap.size+1,3,none⟩=false/\(w1.alloc o).frozen? ⟨w.heap.size+1,4,none⟩=false:=fun o=>zA ((rD w1 o (by omega)).trans HB4.out)
  obtain⟨z0,z1,z2,z3,z4,y0,y1,y2,y3,y4⟩:=hz (.cells #[jI kQ op,jT nm,jI kQ v,jI kQ bd,jS a ar.len c] 33);clear hz h3 hs1;go_wp2_with fail;exact rO (zLb rfl hE.out) rfl HEND.out
 have hd3:(op==(3:Int))=false:=by rw[beq_eq_false_iff_ne];exact h3
 clear h3;by_cases h4:op=4
 ·have hd4:(op==(4:Int))=true:=by simp[h4]
  have hl1:ar.len=1:=HXR.out.1.1 (.inl h4);obtain⟨b1,o1,y,rfl,hcs,hyo,hyr,hyn, -⟩:=HKD.out 0 (by omega);obtain⟨c0,c1,c2,c3,c4⟩:=hcs w1 HG1.out;simp only[Nat.zero_mul,Nat.add_zero] at c0 c1 c2 c3 c4;have HEND:=rA (zQE (x:=⟨op,nm,v,bd,ar,some ⟨b1,o1,none⟩,c⟩) HG1.out hyo (by unfold zGg;dsimp only;omega));have hE:=rA (yA (a:=jI kQ y.op) (b:=jT y.nm) (c:=jI kQ y.v) (d:=jI kQ y.bd) (e:=jS y.a y.args.len y.c) HB4.out);rw[hl1] at q4;clear h4 hl1 hcs hyo hyr hyn;go_wp2_with fail;exact rO (zLb rfl hE.out) rfl HEND.out
 have hd4:(op==(4:Int))=false:=by rw[beq_eq_false_iff_ne];exact h4
 clear h4;have hmk:=xK 431;have HS1:=rA hs1;have HI0:NgI w1 w1.heap.size (w1.alloc (.map #[] 0)):=⟨Gr.alloc _ _,AMap.made _ _ _,by simp⟩;have HMB:Hid (w1.heap.size<=w1.heap.size):=rA (rI _);clear hs1;go_upto_region 5 with fail;go_upto_region 6 with(first|(refine zKV (by assumption) HMB.out rfl _ _ _ rfl rfl rfl rfl ?_;intro wI HNI));have HG5:=rA (HG1.out.trans HNI.1);have HB5:=rA ((HNI.1.1.block _ (Array.getElem?_eq_some_iff.1 HB3.out).1).trans HB3.out);have HZ5:=rA ((HNI.1.1.block _ (Array.getElem?_eq_some_iff.1 HB4.out).1).trans HB4.out);have HS5:Hid (wI.heap.size=w.heap.size+3):=rA (by rw[HNI.2.2,HS1.out]);clear q0 q1 q2 q3 q4 k40 k41 k42 k43 k44 f40 f41 f42 f43 f44 hmk;obtain⟨q0,q1,q2,q3,q4, -⟩:=zA HB5.out;go_upto_region 7 with(first|(refine zIa HNI rfl (.tmp 22) (.tmp 24) rfl rfl rfl ?_;intro y));have HST:=rA (NgS.start (p:=p) (x:=⟨op,nm,v,bd,ar,a,c⟩) (op:=y) HG5.out HS5.out HB5.out HZ5.out);have e4:=HS5.out;clear q0 q1 q2 q3 q4 HNI HG5 HB5 HZ5 HS5;rw[e4];clear e4;generalize wI.alloc _=w4 at*;obtain⟨q0,q1,q2,q3,q4, -⟩:=zA HST.out.b1;dsimp only at q0 q1 q2 q3 q4;have HQ:=rA (vT op);go_wp2_with fail;refine(HQ.out _).mono ?_;rintro e w' ⟨rfl,hw'⟩;rw[hw'];clear hw' w';obtain⟨rb,hrb⟩:∃rb,zEN op=rb:=⟨_,rfl⟩;rw[hrb];clear hrb HQ;go_upto_if 29 with fail;go_cut [] from 30 to 32 (fun wx=>∃v',NgS p w wx ⟨op,nm,v,bd,ar,a,c⟩ y v' none 0 [])
 case first=>
  cases rb with
  |false=>
   go_wp2_with fail;go_meet;exact⟨0,HST.out⟩
  |true=>
   obtain⟨k0,k1,k2,k3,k4,k5⟩:=HST.out.cells;have kf:w4.frozen? ⟨w.heap.size+3,2,none⟩=false:=by
    have h:=HST.out.b4;simp[rL,h]
   have HSV:=rA (fun u=>HST.out.setV u);go_wp2_with fail;go_meet;exact⟨_,HSV.out _⟩
 case rest=>
 obtain⟨v',hst⟩:=hcut;have HS0:=rA hst;clear q0 q1 q2 q3 q4 hst HST;obtain⟨q0,q1,q2,q3,q4, -⟩:=zA HS0.out.b1;dsimp only at q0 q1 q2 q3 q4;go_wp2_with fail;go_loopw [37] (fun i wr=>∃(k:Nat) (la:Option Addr) (lc:Nat) (Z:List Fe),k<=ar.len/\i=jI kQ k/\Hid (NgS p w wr ⟨op,nm,v,bd,ar,a,c⟩ y v' la lc Z/\Z.length=k/\(Fe.forest Z).nodes<=2*zU ar k)) (fun i _=>ar.len - (intOf i).toNat)
 case atStart=>exact⟨0,none,0,[],rE _,rfl,rA ⟨HS0.out,rfl,rE _⟩⟩
 case round=>
  clear q0 q1 q2 q3 q4 HS0;obtain⟨k,la,lc,Z,hk,rfl,HR⟩:=hrel;by_cases hlt:k<ar.len;rotate_left
  ·have hd:=dF hlt
   obtain⟨k0,k1,k2,k3,k4, -⟩:=HR.out.1.cells;obtain⟨z0,z1,z2,z3,z4,f0,f1,f2,f3,f4⟩:=zA HR.out.1.b2;have HEND:=rA (HR.out.1.fin HPP.out (by have h:=HR.out.2.2;rw[vR (by omega)] at h;exact h) (by rw[HR.out.2.1];omega));have hE:=rA (yA (a:=jI kQ y) (b:=jT ⟨#[]⟩) (c:=jI kQ v') (d:=jI kQ 0) (e:=jS la Z.length lc) HR.out.1.b2);go_wp2_with fail;exact rO (zLb rfl hE.out) rfl HEND.out
  have hd:=dT hlt
  have hkl:(k:Int)<(ar.len:Int):=by omega
  obtain⟨b1,o1,z,rfl,hcs,hzo,hzr,hzn,hnt⟩:=HKD.out k hlt;obtain⟨c0,c1,c2,c3,c4⟩:=hcs wr HR.out.1.gr;have HZO:=rA hzo;have HZR:=rA hzr;have HZN:=rA hzn;have HNT:=rA hnt;clear hcs hzo hzr hzn hnt;go_upto_region 12 with fail;have HR9:=rA (HR.out.1.later (Gr.alloc wr (.cells z 33)));have hbx:=rC wr (.cells z 33);have HZC:=rA HR.out.2;clear c0 c1 c2 c3 c4 HR;generalize wr.heap.size=B9 at*;generalize wr.alloc _=w9 at*;obtain⟨z0,z1,z2,z3,z4, -⟩:=zA hbx;obtain⟨-, -, -, -,k4,kf⟩:=HR9.out.cells;have HC:Hid (Calls rB 366 #[jG z] (w9.drewN 1) (FmR (ngm p w la) (w9.drewN 1) (zGg z))):=rA (by
   have hg:Gr w (w9.drewN 1):=HR9.out.gr.trans (Gr.drawn _ 1);have h2:=(Array.getElem?_eq_some_iff.1 HR9.out.b4).1;refine HI.out (ngm p w la) z _ (fun q hq=>p9.2 ⟨HPP.out q (rF hg.1.size hq),?_,?_,fun e=>?_⟩) ?_ ?_ ?_ HZR.out
   ·have:w9.heap.size<=q:=hq;omega
   ·have:w9.heap.size<=q:=hq;omega
   ·have h1:=HR9.out.list.lt (HR9.out.list.blkOf e)
    have:w9.heap.size<=q:=hq;omega
   ·have:=HZN.out;have:=HN.out;omega
   ·have:=HZN.out;have:=HN9.out;omega
   ·refine Fe.ok_sub _ _ _ (zE hg.1.size fun q hq hp=>⟨p9.2 ⟨hp,by omega,by omega,fun e=>?_⟩,hg.1.block q hq⟩) HZO.out
    have h1:=HR9.out.list.lt (HR9.out.list.blkOf e);omega)
  have HST:Hid (∀(w5:World) (y5:Fe),Gr (w9.drewN 1) w5->y5.ok (dim (ngm p w la) w5)->zGg z y5->∃a' c' W6,(Builtin.append_ #[31,31] 31 #[jS la Z.length lc,jS (some ⟨w5.heap.size,0,none⟩) 1 1]).run rB (w5.alloc (.cells y5 33))=.ok (jS a' (Z.length+1) c') W6/\
    W6.cell? ⟨w.heap.size+3,4,none⟩=some (jS la Z.length lc)/\W6.frozen? ⟨w.heap.size+3,4,none⟩=false/\Hid (NgS p w (W6.setCell ⟨w.heap.size+3,4,none⟩ (jS a' (Z.length+1) c')) ⟨op,nm,v,bd,ar,some ⟨b1,o1,none⟩,c⟩ y v' a' c' (Z++[y5])/\(Z++[y5]).length=k+1/\(Fe.forest (Z++[y5])).nodes<=2*zU ar (k+1))):=rA fun w5 y5 hg hy hn=>by
   obtain⟨a',c',W6,h1,h2,h3,h4⟩:=(HR9.out.later ((Gr.drawn w9 1).trans hg)).push hy (by rw[HZC.out.1];omega);refine⟨a',c',W6,h1,h2,h3,rA ⟨h4,by simp[HZC.out.1],?_⟩⟩;rw[Fe.forest_snoc,HNT.out];have:=HZC.out.2;unfold zGg at hn;omega
  have HP:Hid (∀(w5:World),Gr (w9.drewN 1) w5->w5.cell? ⟨w.heap.size+3,4,none⟩=some (jS la Z.length lc)):=rA fun w5 hg=>(HR9.out.later ((Gr.drawn w9 1).trans hg)).cells.2.2.2.2.1
  have HPA:Hid (∀(w5:World) (o:Obj),Gr (w9.drewN 1) w5->(w5.alloc o).cell? ⟨w.heap.size+3,4,none⟩=some (jS la Z.length lc)):=rA fun w5 o hg=>HP.out _ (hg.trans (Gr.alloc _ _))
  clear hbx
  go_region_law (first
   |(refine zM rfl (.tmp 42) (.tmp 45) 31 31 (some 46) rfl rfl _ _ rfl rfl _ _ HRUN.out ?_)
   |(go_simp;refine HC.out.mono ?_;rintro e w5 ⟨y5,rfl,hy5,hn5,hg5⟩;obtain⟨a5,c5,w6,hrun,u6,f6,HNX⟩:=HST.out w5 y5 hg5 hy5 hn5;have u4:=HP.out w5 hg5;have v4:=HPA.out w5 (.cells y5 33) hg5;have HRUN:=rA hrun;clear hrun hy5 hn5 hg5))
  all_goals
   go_wp2_with fail;go_roundw
   case rel=>exact⟨k+1,a5,c5,Z++[y5],by omega,by go_num,HNX⟩
   case measure=>simp[intOf];omega
theorem zQT:∀n,zQV n
 |0=>fun _ _ _ _ h=>absurd h (Nat.not_lt_zero _)
 |n+1=>fun p x w hpp hn h9 hx hr=>zO5 (zQT n) p x w hpp (Nat.lt_succ_iff.1 hn) h9 hx hr
def clF (x:Cv) (c:Cl):Fe:=⟨c.op,c.nm,c.val,c.bd,c.args,x.a6,x.c6⟩
theorem ClV.fe {w:World} {x:Cv} {c:Cl} (h:ClV w x c):(clF x c).ok w:=by
 obtain⟨hl,a,k,e,hc,hf⟩:=h.args;simp only[Value.slice.injEq,true_and] at e;obtain⟨e1,e2⟩:=e;refine⟨fun h0=>?_,h.nm,hl,?_⟩
 ·show∃b o,x.a6=_/\_
  rw[e1];exact hf h0
 ·show c.args.len<=x.c6
  rw[e2];exact hc
theorem zFD {w:World} {C:Nat} {x:Cv} {c:Cl} (h:w.heap[C]? =some (.cells (x.cells c) 43 (0,0))):
  w.cell? ⟨C,1,none⟩=some (jS x.a1 c.sigs.length x.c1)/\w.cell? ⟨C,2,none⟩=some (jI kQ c.op)/\w.cell? ⟨C,3,none⟩=some (jT c.nm)/\w.cell? ⟨C,4,none⟩=some (jI kQ c.val)/\w.cell? ⟨C,5,none⟩=some (jI kQ c.bd)/\w.cell? ⟨C,6,none⟩=some (jS x.a6 c.args.len x.c6):=by
 refine⟨?_,?_,?_,?_,?_,?_⟩<;>simp[rJ,h,Cv.cells]
structure LtS (w wr:World) (B:Nat) (z:Fe):Prop where
 gr:Gr w wr
 le:w.heap.size<=B
 blk:wr.heap[B]? =some (.cells z 33 (0,0))
 ok:z.ok (dim (only B) wr)
 ar:z.ar
 nodes:z.args.nodes<=400
structure AfS (w wr:World) (B:Nat) (z:Fe) (g:Nat) (y:Fe) (b:Bool):Prop where
 st:LtS w wr B z
 bg:wr.heap[g]? =some (.cells y 33 (0,0))
 ne:g≠B
 yok:y.ok (dim (only B) wr)
 good:b=true->y.ar/\y.args.nodes<=400
theorem zLs (w:World) (o:Obj):Sub w (dim (only w.heap.size) (w.alloc o)):=
 ⟨by rw[zW];simp,fun k cs T f e=>by
  have hk:=(Array.getElem?_eq_some_iff.1 e).1;rw[zBr (show only w.heap.size k=false by simp[only];omega),rD _ _ hk];exact e⟩
theorem zLf (p:Nat->Bool) (w:World) (o:Obj):Sub (dim p w) (dim (orP p w.heap.size) (w.alloc o)):=
 zE (by simp) fun k hk hp=>⟨zD.2 ⟨hp,by omega⟩,rD _ _ hk⟩
section
variable {w wr W W' w5:World} {B g:Nat} {z y:Fe} {b:Bool}
theorem LtS.lt (h:LtS w wr B z):B<wr.heap.size:=(Array.getElem?_eq_some_iff.1 h.blk).1
theorem LtS.gr' (h:LtS w wr B z) (hg:Gr wr W):LtS w W B z:=
 ⟨h.gr.trans hg,h.le,(hg.1.block _ h.lt).trans h.blk,Fe.ok_sub _ _ _ (vM hg fun _ h=>h) h.ok,h.ar,h.nodes⟩
theorem zDZ {a k:Nat} (h:k≠a):only a k=false:=by simp[only,h]
theorem AfS.gr' (h:AfS w wr B z g y b) (hg:Gr wr W):AfS w W B z g y b:=
 ⟨h.st.gr' hg,(hg.1.block _ (Array.getElem?_eq_some_iff.1 h.bg).1).trans h.bg,h.ne,Fe.ok_sub _ _ _ (vM hg fun _ h=>h) h.yok,h.good⟩
theorem AfS.e1 (h:LtS w w5 B z) (hy:y.ok (dim (only B) w5)) (hg:b=true->y.ar/\y.args.nodes<=400):AfS w (w5.alloc (.cells y 33)) B z w5.heap.size y b:=
 ⟨h.gr' (Gr.alloc _ _),rC _ _,by have:=h.lt;omega,Fe.ok_sub _ _ _ (vM (Gr.alloc _ _) fun _ h=>h) hy,hg⟩
theorem AfS.e2 (h:LtS w w5 B z) (hgB:g≠B) (hle:w.heap.size<=g) (hb:w5.heap[g]? =some (.cells #[jI kQ 0,jT ⟨#[]⟩,jI kQ 0,jI kQ 0,jS none 0 0] 33 (0,0))) (hz:z.ok (dim (orP (only B) g) w5)) (hy:y.ok (dim (orP (only B) g) w5)) (hg:b=true->y.ar/\y.args.nodes<=400):
  AfS w (((((w5.setCell ⟨g,0,none⟩ (jI kQ y.op)).setCell ⟨g,1,none⟩ (jT y.nm)).setCell ⟨g,2,none⟩ (jI kQ y.v)).setCell ⟨g,3,none⟩ (jI kQ y.bd)).setCell ⟨g,4,none⟩ (jS y.a y.args.len y.c)) B z g y b:=by
 show AfS w (put5 w5 g (jI kQ y.op) (jT y.nm) (jI kQ y.v) (jI kQ y.bd) (jS y.a y.args.len y.c)) B z g y b;have hs:Sub (dim (orP (only B) g) w5) (dim (only B) (put5 w5 g (jI kQ y.op) (jT y.nm) (jI kQ y.v) (jI kQ y.bd) (jS y.a y.args.len y.c))):=zE (Nat.le_of_eq yJ.symm) fun k hk hq=>⟨(zD.1 hq).1,zJ (zD.1 hq).2⟩
 exact⟨⟨Gr.put5 h.gr hle,h.le,(zJ (Ne.symm hgB)).trans h.blk,Fe.ok_sub _ _ _ hs hz,h.ar,h.nodes⟩,yA hb,hgB,Fe.ok_sub _ _ _ hs hy,hg⟩
theorem AfS.next (h:AfS w wr B z g y true):LtS w (put5 wr B (jI kQ y.op) (jT y.nm) (jI kQ y.v) (jI kQ y.bd) (jS y.a y.args.len y.c)) B y:=
 ⟨Gr.put5 h.st.gr h.st.le,h.st.le,yA h.st.blk,Fe.ok_sub _ _ _ (zE (Nat.le_of_eq yJ.symm) fun k hk hq=>⟨hq,zJ (by simpa[only] using hq)⟩) h.yok,(h.good rfl).1,(h.good rfl).2⟩
end
theorem zOT:q6 434:=by
 intro w C x cl hz hv hn4;have hCB:=(Array.getElem?_eq_some_iff.1 hz).1;have HFE:=rA hv.fe;have HV:=rA hv;have HN4:Hid ((clF x cl).args.nodes<=400):=rA hn4;have HS:Hid (∀W,Gr w W->W.cell? ⟨C,1,none⟩=some (jS x.a1 cl.sigs.length x.c1)/\W.cell? ⟨C,2,none⟩=some (jI kQ cl.op)/\W.cell? ⟨C,3,none⟩=some (jT cl.nm)/\W.cell? ⟨C,4,none⟩=some (jI kQ cl.val)/\W.cell? ⟨C,5,none⟩=some (jI kQ cl.bd)/\W.cell? ⟨C,6,none⟩=some (jS x.a6 cl.args.len x.c6)):=rA fun W hg=>zFD ((hg.1.block C hCB).trans hz)
 have HS2:Hid (∀W,Gr w W->W.cell? ⟨C,22,none⟩=some (jS x.a22 cl.letters.length x.c22)/\W.cell? ⟨C,23,none⟩=some (jS x.a23 cl.res.len x.c23)):=rA fun W hg=>by
  have:=(hg.1.block C hCB).trans hz;constructor<;>simp[rJ,this,Cv.cells]
 have hg1:Gr w (w.alloc (.cells #[jP (some ⟨C,0,none⟩)] 96)):=Gr.alloc _ _;have d0:=zI w #[jP (some ⟨C,0,none⟩)] 96 0;simp only[List.getElem?_toArray,List.getElem?_cons_succ,List.getElem?_cons_zero] at d0;have HLE:Hid (cl.letters.length<=9223372036854775807/\cl.res.len<=9223372036854775807):=rA ⟨hv.lettersL,by obtain⟨h,_⟩:=hv.res;exact h⟩;have HNU:Hid (∀W,Gr w W->Nums W (jS x.a22 cl.letters.length x.c22) cl.letters):=rA fun W hg=>hv.letters.keep hg.1
 have HRE:Hid (∀W,Gr w W->FArgs W x.a23 cl.res):=rA fun W hg=>by
  obtain⟨_,a,k,e,_,hf⟩:=hv.res.keep hg.1;simp only[Value.slice.injEq,true_and] at e;intro h0;rw[e.1];exact hf h0
 have HFS:Hid (∀W,Gr w W->SgV W (jS x.a1 cl.sigs.length x.c1) cl.sigs/\(clF x cl).ok W):=rA fun W hg=>⟨HV.out.sigs.keep hg.1,Fe.ok_keep HFE.out hg.1⟩
 have HXF:Hid ((clF x cl).args=cl.args):=rA rfl;clear hz hv hn4 HV HFE;unfold clF at HFS HN4 HXF;have HC1:Hid (∀W,Gr w W->Calls rB 363 #[jS x.a1 cl.sigs.length x.c1] W (zCT W (SgW cl.sigs))):=rA fun W hg=>zCG (HFS.out W hg).1
 have HC2:Hid (∀W,Gr w W->Calls rB 364 #[jG #[jI kQ cl.op,jT cl.nm,jI kQ cl.val,jI kQ cl.bd,jS x.a6 cl.args.len x.c6]] W (zCT W ((clF x cl).ar/\(clF x cl).args.nodes+1<=400))):=rA fun W hg=>zEJ (x:=clF x cl) (rF HN4.out (by decide)) (HFS.out W hg).2
 have HC3:Hid (∀W,Gr w W->Calls rB 365 #[jS x.a1 cl.sigs.length x.c1,jG #[jI kQ cl.op,jT cl.nm,jI kQ cl.val,jI kQ cl.bd,jS x.a6 cl.args.len x.c6]] W (qS W)):=rA fun W hg=>zLu (x:=clF x cl) (HFS.out W hg).1 (HFS.out W hg).2
 obtain⟨F,hF⟩:∃F,clF x cl=F:=⟨_,rfl⟩;have HFD:Hid (F=⟨cl.op,cl.nm,cl.val,cl.bd,cl.args,x.a6,x.c6⟩):=rA hF.symm;rw[hF] at HC2;clear hF HXF HN4;generalize x.a1=sa at*;generalize x.c1=sc at*;generalize x.a6=fa at*;generalize x.c6=fc at*;generalize x.a22=la at*;generalize x.c22=lc at*;generalize x.a23=ra at*;generalize x.c23=rc at*;generalize cl.sigs=l at*;generalize cl.op=op at*;generalize cl.nm=nm at*;generalize cl.val=v at*;generalize cl.bd=bd at*;generalize cl.args=ar at*;generalize cl.letters=lt at*;generalize cl.res=rs at*;clear x cl;go_enter Tryz.func434,Tryz.ntmps434;go_upto_region 1 with fail;generalize w.alloc (.cells #[jP (some ⟨C,0,none⟩)] 96)=w1 at*;go_upto_region 2 with fail;have HG0:Hid (Gr w w1.drew):=rA (hg1.trans (Gr.drawn w1 1));clear hg1 d0;refine rN (S:=fun W=>W.cell? ⟨C,1,none⟩=some (jS sa l.length sc)/\W.cell? ⟨C,2,none⟩=some (jI kQ op)/\W.cell? ⟨C,3,none⟩=some (jT nm)/\W.cell? ⟨C,4,none⟩=some (jI kQ v)/\W.cell? ⟨C,5,none⟩=some (jI kQ bd)/\W.cell? ⟨C,6,none⟩=some (jS fa ar.len fc)) (by kernel_rfl) (HS.out _ HG0.out) (fun hS=>?_);refine tKa 0 (jP (some ⟨C,0,none⟩)) ?_;refine tKa 1 (jP (some ⟨C,0,none⟩)) ?_;refine tKa 2 (jP (some ⟨C,1,none⟩)) ?_;refine tKa 3 (jS sa l.length sc) ?_;refine tya 4 (fun K hK=>?_);go_simp;refine(HC1.out _ HG0.out).mono ?_;rintro e' w50 ⟨b1,rfl,hb1,hg⟩;have HG1:=rA (HG0.out.trans hg);have HB1:=rA hb1;clear hb1;clear hg;cases b1 with
 |false=>
  refine hK.out _ _ (HS.out _ HG1.out) (fun hS1=>?_);clear hK hS;try simp only[sA]
  refine tKa 5 (jB true) ?_;refine tKa 6 (jB true) ?_;refine tna 7 ?_;refine tna 8 ?_;refine tna 9 ?_;refine tna 10 ?_;refine tna 11 ?_;refine tna 12 ?_;refine tKa 13 (jB true) ?_;refine tKa 14 (jB true) ?_;refine tna 15 ?_;refine tna 16 ?_;refine tna 17 ?_;refine tna 18 ?_;refine tna 19 ?_;refine tna 20 ?_;refine tna 21 ?_;refine tna 22 ?_;refine tna 23 ?_;refine tna 24 ?_;refine tKa 25 (jB true) ?_;refine rH (by kernel_rfl) ?_ _;clear hS1;clear HC1 HC2 HC3;go_wp2_with fail;go_ret;exact⟨false,rfl,HG1.out.1⟩
 |true=>
  refine hK.out _ _ (HS.out _ HG1.out) (fun hS1=>?_);clear hK hS;try simp only[sA]
  refine tKa 5 (jB false) ?_;refine tKa 6 (jB false) ?_;refine tKa 7 (jP (some ⟨C,0,none⟩)) ?_;refine tKa 8 (jP (some ⟨C,0,none⟩)) ?_;refine tKa 9 (jP (some ⟨C,2,none⟩)) ?_;refine tKa 10 (jG #[jI kQ op,jT nm,jI kQ v,jI kQ bd,jS fa ar.len fc]) ?_;refine tya 11 (fun K hK=>?_);go_simp;refine(HC2.out _ HG1.out).mono ?_;rintro e' w51 ⟨b2,rfl,hb2,hg⟩;have HG2:=rA (HG1.out.trans hg);have HB2:=rA hb2;clear hb2;clear hg;cases b2 with
  |false=>
   refine hK.out _ _ (HS.out _ HG2.out) (fun hS2=>?_);clear hK hS1;try simp only[sA]
   refine tKa 12 (jB true) ?_;refine tKa 13 (jB true) ?_;refine tKa 14 (jB true) ?_;refine tna 15 ?_;refine tna 16 ?_;refine tna 17 ?_;refine tna 18 ?_;refine tna 19 ?_;refine tna 20 ?_;refine tna 21 ?_;refine tna 22 ?_;refine tna 23 ?_;refine tna 24 ?_;refine tKa 25 (jB true) ?_;refine rH (by kernel_rfl) ?_ _;clear hS2;clear HC1 HC2 HC3;go_wp2_with fail;go_ret;exact⟨false,rfl,HG2.out.1⟩
  |true=>
   refine hK.out _ _ (HS.out _ HG2.out) (fun hS2=>?_);clear hK hS1;try simp only[sA]
   refine tKa 12 (jB false) ?_;refine tKa 13 (jB false) ?_;refine tKa 14 (jB false) ?_;refine tKa 15 (jP (some ⟨C,0,none⟩)) ?_;refine tKa 16 (jP (some ⟨C,0,none⟩)) ?_;refine tKa 17 (jP (some ⟨C,1,none⟩)) ?_;refine tKa 18 (jS sa l.length sc) ?_;refine tKa 19 (jP (some ⟨C,0,none⟩)) ?_;refine tKa 20 (jP (some ⟨C,0,none⟩)) ?_;refine tKa 21 (jP (some ⟨C,2,none⟩)) ?_;refine tKa 22 (jG #[jI kQ op,jT nm,jI kQ v,jI kQ bd,jS fa ar.len fc]) ?_;refine tya 23 (fun K hK=>?_);go_simp;refine(HC3.out _ HG2.out).mono ?_;rintro e' w52 ⟨b3,rfl,hg⟩;have HG3:=rA (HG2.out.trans hg);clear hg;cases b3 with
   |false=>
    refine hK.out _ _ (HS.out _ HG3.out) (fun hS3=>?_);clear hK hS2;try simp only[sA]
    refine tKa 24 (jB true) ?_;refine tKa 25 (jB true) ?_;refine rH (by kernel_rfl) ?_ _;clear hS3;clear HC1 HC2 HC3;go_wp2_with fail;go_ret;exact⟨false,rfl,HG3.out.1⟩
   |true=>
    refine hK.out _ _ (HS.out _ HG3.out) (fun hS3=>?_);clear hK hS2;try simp only[sA]
    refine tKa 24 (jB false) ?_;refine tKa 25 (jB false) ?_;refine rH (by kernel_rfl) ?_ _;clear hS3;clear HC1 HC2 HC3;have HSW:=rA (HB1.out rfl);have HFR:=rA (HB2.out rfl);clear HB1 HB2 HG0 HG1 HG2;obtain⟨s1, -, -, -, -, -⟩:=HS.out _ HG3.out;have HC:=rA (zD0 (HFS.out _ HG3.out).1 HSW.out);go_wp2_with fail;refine HC.out.mono ?_;rintro e w5 ⟨i,o,hi1,ho1,hi4,ho4,rfl,hg5⟩;have HG5:=rA (HG3.out.trans hg5);clear hg5 HC s1 HG3;obtain⟨A,hA⟩:∃A:Nat,i*o=A:=⟨_,rfl⟩;have hA9:A<=16777216:=by rw[<-hA];exact Nat.mul_le_mul hi4 ho4
    rw[hA];clear hA hi1 ho1 hi4 ho4;obtain⟨hlL,hrL⟩:=HLE.out;obtain⟨c22,c23⟩:=HS2.out _ HG5.out;go_wp2_with fail;go_loopw [56] (fun i wr=>∃k:Nat,k<=lt.length/\i=jI kQ k/\wr=w5/\Hid (∀j,j<k->0<=lt.getD j 0/\lt.getD j 0<A)) (fun i _=>lt.length - (intOf i).toNat)
    case atStart=>exact⟨0,rE _,rfl,rfl,rA fun j hj=>by omega⟩
    case round=>
     obtain⟨k,hk,rfl,hwr,HR⟩:=hrel;rw[hwr];clear hwr;by_cases hlt:k<lt.length
     ·have hdk:=dT hlt
      obtain⟨b,o',rfl,c0⟩:=(HNU.out _ HG5.out).at hlt;have hkl:(k:Int)<(lt.length:Int):=by omega
      obtain⟨y,hy⟩:∃y,lt.getD k 0=y:=⟨_,rfl⟩;rw[hy] at c0;by_cases h0:y<0
      ·have hd0:=dT h0
       go_wp2_with fail;go_ret;exact⟨false,rfl,HG5.out.1⟩
      have hd0:=dF h0
      by_cases hA:(A:Int)<=y
      ·have hdA:=dT hA
       go_wp2_with fail;go_ret;exact⟨false,rfl,HG5.out.1⟩
      have hdA:=dF hA
      have HR2:Hid (∀j,j<k+1->0<=lt.getD j 0/\lt.getD j 0<A):=rA fun j hj=>by
       by_cases e:j=k
       ·subst e;rw[hy];omega
       ·exact HR.out j (by omega)
      clear hy HR h0 hA;go_wp2_with fail;go_roundw
      case rel=>exact⟨k+1,by omega,by go_num,trivial,HR2⟩
      case measure=>simp[intOf];omega
     have hdk:=dF hlt
     have HRA:Hid (∀j,j<lt.length->0<=lt.getD j 0/\lt.getD j 0<A):=rA fun j hj=>HR.out j (by omega)
     clear HR;by_cases hm:lt.length=rs.len;rotate_left
     ·have hdm:((lt.length:Int) !=(rs.len:Int))=true:=by rw[bne_iff_ne];omega
      go_upto_region 11 with fail;go_quiet (fail);go_wp2_with fail;go_ret;exact⟨false,rfl,yM HG5.out.1 _⟩
     have hdm:((lt.length:Int) !=(rs.len:Int))=false:=by rw[bne_eq_false_iff_eq];omega
     have HM:=rA hm;clear hm;go_upto_region 11 with fail;go_quiet (fail);have HG6:=rA (HG5.out.trans (Gr.drawn _ nq));clear HG5 c22 c23 hdk hlt hk;generalize w5.drewN nq=w6 at*;obtain⟨-,s2,s3,s4,s5,s6⟩:=HS.out _ HG6.out;obtain⟨c22,c23⟩:=HS2.out _ HG6.out;go_upto_region 14 with fail;have hFD:=HFD.out;have HLT0:Hid (LtS w (w6.alloc (.cells #[jI kQ op,jT nm,jI kQ v,jI kQ bd,jS fa ar.len fc] 33)) w6.heap.size F):=rA (by
      subst hFD;exact⟨HG6.out.trans (Gr.alloc _ _),HG6.out.1.size,rC _ _,Fe.ok_sub _ _ _ (zLs _ _) (HFS.out _ HG6.out).2,HFR.out.1,by have:=HFR.out.2;omega⟩)
     clear hFD HFD HFR s2 s3 s4 s5 s6 c22 c23 HG6;generalize w6.alloc _=w7 at*;generalize w6.heap.size=B at*;obtain⟨c22,c23⟩:=HS2.out _ HLT0.out.gr;go_wp2_with fail;go_loopw [88] (fun i wr=>∃(k:Nat) (z:Fe),k<=lt.length/\i=jI kQ k/\Hid (LtS w wr B z)) (fun i _=>lt.length - (intOf i).toNat)
     case atStart=>exact⟨0,_,rE _,rfl,HLT0⟩
     case round=>
      obtain⟨k,z,hk,rfl,HL⟩:=hrel;clear c22 c23 HLT0;by_cases hlt:k<lt.length;rotate_left
      ·have hdk:=dF hlt
       go_wp2_with fail;go_ret;exact⟨true,rfl,HL.out.gr.1⟩
      have hdk:=dT hlt
      obtain⟨bl,ol,rfl,c0⟩:=(HNU.out _ HL.out.gr).at hlt;have hkl:(k:Int)<(lt.length:Int):=by omega
      obtain⟨y,hy⟩:∃y:Nat,lt.getD k 0=y:=⟨(lt.getD k 0).toNat,by have:=HRA.out k hlt;omega⟩;have hy9:y<=100000000:=by have:=HRA.out k hlt;omega
      rw[hy] at c0;clear hy;obtain⟨z0,z1,z2,z3,z4, -⟩:=zA HL.out.blk;obtain⟨s1, -, -, -, -, -⟩:=HS.out _ HL.out.gr;have HD:=rA (HL.out.gr' (Gr.drawn wr 1));have HDA:=rA (HD.out.gr' (Gr.alloc _ (.cells #[jI kQ 0,jT ⟨#[]⟩,jI kQ 0,jI kQ 0,jS none 0 0] 33)));have HR1:Hid (Calls rB 435 #[jS sa l.length sc,jG z,jI kQ y] (wr.drewN 1) (zQL (only B) (wr.drewN 1))):=rA (zEy (fun q hq=>zDZ (by have:=HD.out.lt;omega)) (HFS.out _ HD.out.gr).1 HSW.out hy9 HD.out.nodes HD.out.ok HD.out.ar);have HR2:Hid (Calls rB 435 #[jS sa l.length sc,jG z,jI kQ y] ((wr.drewN 1).alloc (.cells #[jI kQ 0,jT ⟨#[]⟩,jI kQ 0,jI kQ 0,jS none 0 0] 33)) (zQL (orP (only B) wr.heap.size) ((wr.drewN 1).alloc (.cells #[jI kQ 0,jT ⟨#[]⟩,jI kQ 0,jI kQ 0,jS none 0 0] 33)))):=rA (by
       have hl:=HD.out.lt;have s1:((wr.drewN 1).alloc (.cells #[jI kQ 0,jT ⟨#[]⟩,jI kQ 0,jI kQ 0,jS none 0 0] 33)).heap.size=wr.heap.size+1:=by simp
       refine zEy (fun q hq=>?_) (HFS.out _ HDA.out.gr).1 HSW.out hy9 HD.out.nodes (Fe.ok_sub _ _ _ (zLf _ _ _) HD.out.ok) HD.out.ar;rw[s1] at hq;have hl':B<wr.heap.size:=hl;exact zD.2 ⟨zDZ (by omega),by omega⟩)
      have HAL:Hid (∀W,Gr ((wr.drewN 1).alloc (.cells #[jI kQ 0,jT ⟨#[]⟩,jI kQ 0,jI kQ 0,jS none 0 0] 33)) W->W.heap[wr.heap.size]? =some (.cells #[jI kQ 0,jT ⟨#[]⟩,jI kQ 0,jI kQ 0,jS none 0 0] 33 (0,0))/\z.ok (dim (orP (only B) wr.heap.size) W)):=rA fun W hg=>⟨(hg.1.block wr.heap.size (by simp)).trans (rC (wr.drewN 1) _),Fe.ok_sub _ _ _ ((zLf _ _ _).trans (vM hg fun _ h=>h)) HD.out.ok⟩
      have HLB:=rA HL.out.lt;have HLW:=rA HL.out.gr.1.size;have ne1:wr.heap.size≠B:=by have:=HLB.out;omega
      have ne2:B≠wr.heap.size:=ne1.symm;have ne3:wr.heap.size≠C:=by have:=HLW.out;omega
      have ne4:C≠wr.heap.size:=ne3.symm;clear hy9;go_upto_region 17 with fail;go_cut [12,13] from 93 to 102 (fun t d wx=>∃(g:Nat) (u:Fe) (b:Bool),t=jP (some ⟨g,0,none⟩)/\d=jB b/\Hid (AfS w wx B z g u b))
      case first=>
       go_region_held3 (fun w'=>w'.cell? ⟨C,1,none⟩=some (jS sa l.length sc)/\w'.cell? ⟨B,0,none⟩=some (jI kQ z.op)/\w'.cell? ⟨B,1,none⟩=some (jT z.nm)/\w'.cell? ⟨B,2,none⟩=some (jI kQ z.v)/\w'.cell? ⟨B,3,none⟩=some (jI kQ z.bd)/\w'.cell? ⟨B,4,none⟩=some (jS z.a z.args.len z.c)) (go_keep)
        (first
         |(go_at_call 435;refine(HR1.out).mono ?_;rintro e' w8 ⟨u,b,rfl,hu,hb,hg⟩;have HL8:=rA (HD.out.gr' hg);have HY:=rA (And.intro hu hb);obtain⟨r0,r1,r2,r3,r4, -⟩:=zA HL8.out.blk;obtain⟨rs1, -, -, -, -, -⟩:=HS.out _ HL8.out.gr;clear hu hb hg)
         |(go_at_call 435;refine(HR2.out).mono ?_;rintro e' w8 ⟨u,b,rfl,hu,hb,hg⟩;have HL8:=rA (HDA.out.gr' hg);have HY2:=rA (And.intro (HAL.out _ hg) (And.intro hu hb));obtain⟨r0,r1,r2,r3,r4, -⟩:=zA HL8.out.blk;obtain⟨rs1, -, -, -, -, -⟩:=HS.out _ HL8.out.gr;obtain⟨v0,v1,v2,v3,v4,f0,f1,f2,f3,f4⟩:=zA HY2.out.1.1;clear hu hb hg))
       all_goals
        go_wp2_with fail;go_meet
        first
         |with_reducible exact⟨_,_,_,rfl,rfl,rA (AfS.e1 HL8.out HY.out.1 HY.out.2)⟩
         |exact⟨_,_,_,rfl,rfl,rA (AfS.e2 HL8.out ne1 HLW.out HY2.out.1.1 HY2.out.1.2 HY2.out.2.1 HY2.out.2.2)⟩
      case rest=>
       obtain⟨g,u,b,rfl,rfl,HU⟩:=hcut;clear HR1 HR2 HAL HDA HD z0 z1 z2 z3 z4 s1 c0 HL;cases b with
       |false=>
        go_upto_region 18 with fail;go_quiet (fail);go_wp2_with fail;go_ret;exact⟨false,rfl,yM HU.out.st.gr.1 _⟩
       |true=>
        obtain⟨b1,o1,x1,rfl,hb1,hdx,hxo,hxn,e0,e1,e2,e3,e4⟩:=(HRE.out _ HU.out.st.gr).elem (k:=k) (by rw[<-HM.out];exact hlt);have hkr:(k:Int)<(rs.len:Int):=by have:=HM.out;omega
        obtain⟨g0,g1,g2,g3,g4, -⟩:=zA HU.out.bg;have q23:=(HS2.out _ HU.out.st.gr).2;have HUD:=rA (HU.out.gr' (Gr.drawn wc 1));have HC:Hid (Calls rB 393 #[jG u,jG x1] (wc.drewN 1) (zDO (wc.drewN 1) (zAY u x1))):=rA (zBl (Fe.ok_up HUD.out.yok) (Fe.ok_keep hxo (Gr.drawn wc 1).1));have HE:Hid (∀W,Gr (wc.drewN 1) W->W.cell? ⟨b1,o1+k*5,none⟩=some (jI kQ x1.op)/\W.cell? ⟨b1,o1+k*5+1,none⟩=some (jT x1.nm)/\W.cell? ⟨b1,o1+k*5+2,none⟩=some (jI kQ x1.v)/\W.cell? ⟨b1,o1+k*5+3,none⟩=some (jI kQ x1.bd)/\W.cell? ⟨b1,o1+k*5+4,none⟩=some (jS x1.a x1.args.len x1.c)):=rA fun W hg=>⟨(hg.1.cell (p:=⟨b1,o1+k*5,none⟩) hb1).trans e0,(hg.1.cell (p:=⟨b1,o1+k*5+1,none⟩) hb1).trans e1,(hg.1.cell (p:=⟨b1,o1+k*5+2,none⟩) hb1).trans e2,(hg.1.cell (p:=⟨b1,o1+k*5+3,none⟩) hb1).trans e3,(hg.1.cell (p:=⟨b1,o1+k*5+4,none⟩) hb1).trans e4⟩
        clear hdx hxo hxn hb1 HU;go_upto_region 18 with fail;go_cut [116] from 103 to 115 (fun t wx=>∃b:Bool,t=jB b/\Hid (AfS w wx B z g u true))
        case first=>
         go_region_held3 (fun w'=>w'.cell? ⟨C,23,none⟩=some (jS (some ⟨b1,o1,none⟩) rs.len rc)/\w'.cell? ⟨g,0,none⟩=some (jI kQ u.op)/\w'.cell? ⟨g,1,none⟩=some (jT u.nm)/\w'.cell? ⟨g,2,none⟩=some (jI kQ u.v)/\w'.cell? ⟨g,3,none⟩=some (jI kQ u.bd)/\w'.cell? ⟨g,4,none⟩=some (jS u.a u.args.len u.c)/\
           w'.cell? ⟨b1,o1+k*5,none⟩=some (jI kQ x1.op)/\w'.cell? ⟨b1,o1+k*5+1,none⟩=some (jT x1.nm)/\w'.cell? ⟨b1,o1+k*5+2,none⟩=some (jI kQ x1.v)/\w'.cell? ⟨b1,o1+k*5+3,none⟩=some (jI kQ x1.bd)/\w'.cell? ⟨b1,o1+k*5+4,none⟩=some (jS x1.a x1.args.len x1.c)) (go_keep)
          (first
           |(go_at_call 393;refine(HC.out).mono ?_;rintro e' w8 ⟨rfl,hg⟩;have HU8:=rA (HUD.out.gr' hg);obtain⟨r0,r1,r2,r3,r4, -⟩:=zA HU8.out.bg;obtain⟨-,rs1⟩:=HS2.out _ HU8.out.st.gr;obtain⟨y0,y1,y2,y3,y4⟩:=HE.out _ hg;clear hg))
         all_goals
          go_wp2_with fail;go_meet;exact⟨_,rfl,HU8⟩
        case rest=>
         obtain⟨b,rfl,HU⟩:=hcut;clear HC HE HUD e0 e1 e2 e3 e4 q23 g0 g1 g2 g3 g4;cases b with
         |true=>
          go_wp2_with fail;go_ret;exact⟨false,rfl,HU.out.st.gr.1⟩
         |false=>
          obtain⟨g0,g1,g2,g3,g4, -⟩:=zA HU.out.bg;obtain⟨z0,z1,z2,z3,z4,f0,f1,f2,f3,f4⟩:=zA HU.out.st.blk;have hne:=HU.out.ne;go_wp2_with fail;go_roundw
          case rel=>exact⟨k+1,u,by omega,by go_num,rA HU.out.next⟩
          case measure=>simp[intOf];omega
theorem zOF (x:Fe) (hs:SgV w (jS sa l.length sc) l) (hw:SgW l) (hx:x.ok w) (hr:x.ar) (h4:x.args.nodes+1<=400):
  Calls rB 367 #[jS sa l.length sc,jG x] w (BuR w l sa sc):=by
 obtain⟨X,hX⟩:∃X:El w,X.1=x:=⟨⟨x,hx⟩,rfl⟩;have HST:=rA (BuB.start w X (jS sa l.length sc));have HSG:=rA hs;have HSW:=rA hw;have HR:Hid (X.1.ar):=rA (by rw[hX];exact hr);have HN:Hid (X.1.args.nodes+1<=400):=rA (by rw[hX];exact h4);subst hX;unfold Fe.enc at HST;clear hs hw hx hr h4;have hm1:=xK 432;have hm2:=xK 433;have hm3:=xK 434;go_enter Tryz.func367,Tryz.ntmps367;go_upto_region 2 with fail;generalize ((w.alloc _).alloc _).alloc _=w3 at*;have s3:=HST.out.size;obtain⟨e4,f4⟩:=HST.out.cell (j:=4) rfl;have H4:=rA (HST.out.next (j:=4) (.map (some (w.heap.size+3))));go_upto_region 3 with fail;clear e4 f4 s3 hm1 HST;generalize (w3.setCell ⟨w.heap.size+1+1,4,none⟩ (.map (some (w.heap.size+3)))).alloc (.map #[] 0)=w4 at*;have s4:=H4.out.size;obtain⟨e5,f5⟩:=H4.out.cell (j:=5) rfl;have H5:=rA (H4.out.next (j:=5) (.map (some (w.heap.size+4))));go_upto_region 4 with fail;clear e5 f5 s4 hm2 H4;generalize (w4.setCell ⟨w.heap.size+1+1,5,none⟩ (.map (some (w.heap.size+4)))).alloc (.map #[] 0)=w5 at*;have s5:=H5.out.size;obtain⟨e6,f6⟩:=H5.out.cell (j:=6) rfl;have H6:=rA (H5.out.next (j:=6) (.map (some (w.heap.size+5))));go_upto_region 5 with fail;clear e6 f6 s5 hm3 H5;generalize (w5.setCell ⟨w.heap.size+1+1,6,none⟩ (.map (some (w.heap.size+5)))).alloc (.map #[] 0)=w6 at*;have HB:=rA (BuB.done H6.out);have HK6:Hid (w6.heap[w.heap.size]? =some (.cells X.1 33 (0,0))/\∀k,w.heap.size+3<=k->k<w.heap.size+6->w6.heap[k]? =some (.map #[] 0)):=rA ⟨H6.out.box,H6.out.maps⟩;have HG6:=rA H6.out.gr;have HLT:Hid (w.heap.size+6=w6.heap.size):=rA H6.out.size.symm;clear H6;have HC:=rA (zHq w w.heap.size (w.heap.size+1+1) 400 (X.1.args.nodes+1) _ X w6 (by omega) (by have:=HN.out;omega) HR.out HB.out (by have:=HN.out;dsimp only[List.length_nil];omega));obtain⟨q0,q1,q2,q3,q4, -⟩:=zA HK6.out.1;go_wp2_with fail;refine HC.out.mono ?_;rintro e w7 ⟨rfl,pa,pc,P,hb7,hcp,hok,hF,hnw,hlen⟩;dsimp only at hb7 hcp hok hF hnw hlen;have HB7:=rA hb7;have HP:=rA (And.intro hcp hok);have HF7:Hid (Below w.heap.size w w7):=rA (by
  have h6:=HG6.out.1;have hl:=HLT.out;exact⟨hF.os.trans h6.os,hF.tape.trans h6.tape,hF.output.trans h6.output,rF h6.size hF.size,fun k hk=>(hF.block k (by omega) (zZ.2 ⟨by omega,by simp[blkOf]⟩)).trans (h6.block k hk)⟩)
 have HK7:Hid (w7.heap[w.heap.size]? =some (.cells X.1 33 (0,0))/\(∀k,w.heap.size+3<=k->k<w.heap.size+6->w7.heap[k]? =some (.map #[] 0))/\w.heap.size+6<=w7.heap.size):=rA (by
  have hl:=HLT.out;have hs:=hF.size;refine⟨(hF.block _ (by omega) (zZ.2 ⟨by omega,by simp[blkOf]⟩)).trans HK6.out.1,fun k h1 h2=>(hF.block _ (by omega) (zZ.2 ⟨by omega,by simp[blkOf]⟩)).trans (HK6.out.2 k h1 h2),by omega⟩)
 clear hb7 hcp hok hF hnw hlen HC HB HK6 HG6 HLT q0 q1 q2 q3 q4;have HC:=rA (zPM w w.heap.size (w.heap.size+1+1) 400 (X.1.args.nodes+1) _ X w7 (by omega) (by have:=HN.out;omega) HR.out HB7.out (by have:=HN.out;dsimp only[List.length_cons,List.length_nil];omega));obtain⟨q0,q1,q2,q3,q4, -⟩:=zA HK7.out.1;go_wp2_with fail;refine HC.out.mono ?_;rintro e w8 ⟨rfl,ea,ec,E,hb8,hce,hokc,hF,hnw,hlen⟩;dsimp only at hb8 hce hokc hF hnw hlen;have HE:=rA (And.intro hce hokc);have HEL:Hid (E.length<=1000):=rA (by have:=HN.out;simp at hlen;omega);have hEL:E.length<=1000:=HEL.out;have HF8:Hid (Below w.heap.size w w8):=rA (by
  have h6:=HF7.out;have hl:=HK7.out.2.2;exact⟨hF.os.trans h6.os,hF.tape.trans h6.tape,hF.output.trans h6.output,rF h6.size hF.size,fun k hk=>(hF.block k (by omega) (zZ.2 ⟨by omega,by simp[blkOf];omega⟩)).trans (h6.block k hk)⟩)
 have HK8:Hid ((∀k,w.heap.size+3<=k->k<w.heap.size+6->w8.heap[k]? =some (.map #[] 0))/\w.heap.size+6<=w8.heap.size):=rA (by
  have hl:=HK7.out.2.2;have hs:=hF.size;refine⟨fun k h1 h2=>(hF.block _ (by omega) (zZ.2 ⟨by omega,by simp[blkOf];omega⟩)).trans (HK7.out.2.1 k h1 h2),by omega⟩)
 have HS0:Hid (BuS w w.heap.size w8 w8 (w.heap.size+1+1) ⟨jS sa l.length sc,pa,pc,P,ea,ec,E,jS none 0 0,.map (some (w.heap.size+3)),.map (some (w.heap.size+4)),.map (some (w.heap.size+5))⟩ 0 none 0 []):=rA ⟨hb8,.inl ⟨rfl,rfl,rfl⟩,⟨fun e=>(by cases e),fun q e=>(by cases e),fun q e=>(by cases e)⟩,fun u hu=>(by cases hu),rE _,Fr.refl _ _ _,by simp[maxLen]⟩;clear hb8 hce hokc hF hnw hlen HC HB7 HK7 HF7 q0 q1 q2 q3 q4;obtain⟨-, -,a2, -⟩:=HS0.out.st.cells;dsimp only at a2;go_wp2_with fail;go_loopw [37] (fun i wr=>∃(k:Nat) (ua:Option Addr) (uc:Nat) (un:List Int),k<=E.length/\i=jI kQ k/\Hid (BuS w w.heap.size w8 wr (w.heap.size+1+1) ⟨jS sa l.length sc,pa,pc,P,ea,ec,E,jS none 0 0,.map (some (w.heap.size+3)),.map (some (w.heap.size+4)),.map (some (w.heap.size+5))⟩ k ua uc un)) (fun i _=>E.length - (intOf i).toNat)
 case atStart=>exact⟨0,_,_,_,rE _,rfl,HS0⟩
 case round=>
  obtain⟨k,ua,uc,un,hk,rfl,HS⟩:=hrel;clear a2 HS0;by_cases hlt:k<E.length;rotate_left
  ·have hd:=dF hlt
   have hke:k=E.length:=by omega
   have HS2:Hid (BuS w w.heap.size w8 wr (w.heap.size+1+1) ⟨jS sa l.length sc,pa,pc,P,ea,ec,E,jS none 0 0,.map (some (w.heap.size+3)),.map (some (w.heap.size+4)),.map (some (w.heap.size+5))⟩ E.length ua uc un):=rA (by rw[<-hke];exact HS.out);have HFW:Hid (∀n,Below w.heap.size w (wr.drewN n)):=rA fun n=>by
    have h8:=HF8.out;have h9:=HS2.out.fr;have hl:=HK8.out.2;exact yM ⟨h9.os.trans h8.os,h9.tape.trans h8.tape,h9.output.trans h8.output,rF h8.size h9.size,fun k hk=>(h9.block k (by omega) (by simp;omega)).trans (h8.block k hk)⟩ n
   obtain⟨-,a1,a2, -⟩:=HS2.out.st.cells;dsimp only at a1 a2;clear HS hke hlt hk;by_cases h8:P.length<=8;rotate_left
   ·have hd8:decide ((P.length:Int)<=8)=false:=by rw[decide_eq_false_iff_not];omega
    have hd8':decide (P.length<=8)=false:=by simpa using h8
    go_upto_region 13 with fail;go_quiet (fail);go_wp2_with fail;go_ret2;exact⟨_,false,rfl,HFW.out _,fun h=>by cases h⟩
   have hd8:decide ((P.length:Int)<=8)=true:=by rw[decide_eq_true_iff];omega
   have hd8':decide (P.length<=8)=true:=by simpa using h8
   by_cases h16:E.length<=16;rotate_left
   ·have hd16:decide ((E.length:Int)<=16)=false:=by rw[decide_eq_false_iff_not];omega
    have hd16':decide (E.length<=16)=false:=by simpa using h16
    go_upto_region 13 with fail;go_quiet (fail);go_wp2_with fail;go_ret2;exact⟨_,false,rfl,HFW.out _,fun h=>by cases h⟩
   have hd16:decide ((E.length:Int)<=16)=true:=by rw[decide_eq_true_iff];omega
   have hd16':decide (E.length<=16)=true:=by simpa using h16
   have HAD:Hid (∀n,∃A:Ad,A.ab=w.heap.size+1+1/\A.l=l/\A.sa=sa/\A.sc=sc/\zBs A/\AdV A (wr.drewN n)/\(wr.drewN n).heap[A.m1]? =some (.map #[] 0)/\(wr.drewN n).heap[A.m2]? =some (.map #[] 0)/\(wr.drewN n).heap[A.m3]? =some (.map #[] 0)/\w.heap.size<=A.m1/\w.heap.size<=A.m2/\w.heap.size<=A.m3):=rA fun n=>by
    have hmp:∀k,w.heap.size+3<=k->k<w.heap.size+6->wr.heap[k]? =some (.map #[] 0):=fun k h1 h2=>(HS2.out.fr.block k (by have:=HK8.out.2;omega) (by simp;omega)).trans (HK8.out.1 k h1 h2)
    have hs:=HS2.out;refine⟨⟨w,w.heap.size,w.heap.size+1+1,w.heap.size+3,w.heap.size+4,w.heap.size+5,sa,sc,l,pa,pc,P,ea,ec,E,ua,uc,un⟩,rfl,rfl,rfl,rfl,⟨HSG.out,HSW.out,h8,h16,fun y hy=>?_,fun y hy=>?_,fun u hu=>?_,rF hs.len h16,⟨by simp,by simp,by simp⟩⟩,AdV.gr (W:=wr) ⟨hs.st.sub,hs.st.blk,hs.st.past,hs.st.els,hs.lst.nums⟩ (Gr.drawn wr n),hmp _ (by simp) (by simp),hmp _ (by simp) (by simp),hmp _ (by simp) (by simp),by simp,by simp,by simp⟩
    ·rcases HP.out.1.2 y hy with h|⟨h1,h2,h3⟩
     ·cases h
     ·exact⟨h2,h3,h1⟩
    ·rcases HE.out.1.2 y hy with h|⟨h1,h2,h3,h4⟩
     ·rw[List.mem_singleton.1 h]
      exact⟨HR.out,by have:=HN.out;omega,HP.out.2,HE.out.2⟩
     ·exact⟨h2,h3,h4 _ HP.out.2,h1⟩
    ·have:=hs.vals u hu
     exact⟨this.1,by have:=this.2;omega⟩
   clear HS2;go_upto_region 13 with fail;go_quiet (fail);go_wp2_with fail;go_ret2;exact⟨_,true,rfl,HFW.out _,fun _=>HAD.out _⟩
  have hd:=dT hlt
  have hkl:(k:Int)<(E.length:Int):=by omega
  obtain⟨b,rfl,c0,c1,c2,c3,c4⟩:=vL.elem HS.out.st.els hlt;obtain⟨z,hz⟩:∃z,E[k]=z:=⟨_,rfl⟩;dsimp only at c0 c1 c2 c3 c4;rw[hz] at c0 c1 c2 c3 c4;clear hz;have HSA:=rA (HS.out.gr (Gr.alloc wr (.cells z.1 33)));have e0:=zI wr z.1 33 0;simp only[List.getElem?_toArray,List.getElem?_cons_succ,List.getElem?_cons_zero] at e0;go_upto_region 10 with fail;clear c0 c1 c2 c3 c4 HS;generalize wr.alloc (.cells z.1 33)=w9 at*;by_cases h9:z.1.op=9
  ·have hd9:(z.1.op==(9:Int))=true:=by rw[beq_iff_eq];exact h9
   obtain⟨a',c',W2,hrun,hc2,hf2,hN2⟩:=HSA.out.push (by omega);have HRUN:=rA hrun;have HNX:=rA hN2;obtain⟨-, -, -,a3, -⟩:=HSA.out.st.cells;dsimp only at a3;clear hrun hN2 h9;go_wp2_with (first|(refine wpList_append_run rfl (.tmp 49) (.tmp 51) 22 22 rfl _ _ rfl rfl _ _ HRUN.out ?_));go_roundw
   case rel=>exact⟨k+1,_,_,_,by omega,by go_num,HNX⟩
   case measure=>simp[intOf];omega
  ·have hd9:(z.1.op==(9:Int))=false:=by rw[beq_eq_false_iff_ne];exact h9
   have HNX:=rA HSA.out.on;clear h9;go_wp2_with fail;go_roundw
   case rel=>exact⟨k+1,_,_,_,by omega,by go_num,HNX⟩
   case measure=>simp[intOf];omega
def KnR (w:World) (l:List Sg) (sa:Option Addr) (sc:Nat) (e:Ending) (w':World):Prop:=∃(pv:Value) (b:Bool),e=jR (jU #[pv,jB b])/\Below w.heap.size w w'/\
 (b=true->SgW l/\∃A:Ad,pv=jP (some ⟨A.ab,0,none⟩)/\A.l=l/\A.sa=sa/\A.sc=sc/\zBs A/\AdS A w'/\w.heap.size<=A.m1/\w.heap.size<=A.m2/\w.heap.size<=A.m3)
theorem KnR.of_bu {w1:World}{e:Ending} (hg:Gr w w1) (hl:SgW l) (h:BuR w1 l sa sc e w'):KnR w l sa sc e w':=by
 obtain⟨ab,b,rfl,hB,h⟩:=h;have hs:=hg.1.size;refine⟨_,b,rfl,hg.1.trans (hB.mono hs),fun hb=>⟨hl,?_⟩⟩;obtain⟨A,e1,e2,e3,e4,hok,hv,h1,h2,h3,m1,m2,m3⟩:=h hb;exact⟨A,by rw[e1],e2,e3,e4,hok,⟨hv,⟨_,_,h1,by simp⟩,⟨_,_,h2,by simp⟩,⟨_,_,h3,by simp⟩⟩,by omega,by omega,by omega⟩
theorem KnR.no {pv:Value} (hg:Gr w w'):KnR w l sa sc (jR (jU #[pv,jB false])) w':=⟨pv,false,rfl,hg.1,fun h=>by cases h⟩
structure KfS (w wr:World) (B:Nat) (z:Fe):Prop where
 gr:Gr w wr
 le:w.heap.size<=B
 blk:wr.heap[B]? =some (.cells z 33 (0,0))
 ok:z.ok (dim (only B) wr)
 ar:z.ar
 nodes:z.args.nodes+1<=400
theorem KfS.later {wr:World}{B:Nat}{z:Fe} (h:KfS w wr B z) (hg:Gr wr w'):KfS w w' B z:=
 ⟨h.gr.trans hg,h.le,(hg.1.block _ (Array.getElem?_eq_some_iff.1 h.blk).1).trans h.blk,Fe.ok_sub _ _ _ (vM hg fun _ h=>h) h.ok,h.ar,h.nodes⟩
theorem zHo {C:Nat}{x:Cv}{cl:Cl} (hz:w.heap[C]? =some (.cells (x.cells cl) 43 (0,0))) (hv:ClV w x cl) (hn4:cl.args.nodes<=400) (neg:Bool):
  Calls rB 357 #[jP (some ⟨C,0,none⟩),jB neg] w (KnR w cl.sigs x.a1 x.c1):=by
 have hCB:=(Array.getElem?_eq_some_iff.1 hz).1;have HFE:=rA hv.fe;have HV:=rA hv;have HN4:Hid ((clF x cl).args.nodes<=400):=rA hn4;have HS:Hid (∀W,Gr w W->W.cell? ⟨C,1,none⟩=some (jS x.a1 cl.sigs.length x.c1)/\W.cell? ⟨C,2,none⟩=some (jI kQ cl.op)/\W.cell? ⟨C,3,none⟩=some (jT cl.nm)/\W.cell? ⟨C,4,none⟩=some (jI kQ cl.val)/\W.cell? ⟨C,5,none⟩=some (jI kQ cl.bd)/\W.cell? ⟨C,6,none⟩=some (jS x.a6 cl.args.len x.c6)):=rA fun W hg=>zFD ((hg.1.block C hCB).trans hz)
 have HFS:Hid (∀W,Gr w W->SgV W (jS x.a1 cl.sigs.length x.c1) cl.sigs/\(clF x cl).ok W):=rA fun W hg=>⟨HV.out.sigs.keep hg.1,Fe.ok_keep HFE.out hg.1⟩
 have HXF:Hid ((clF x cl).args=cl.args):=rA rfl;clear hz hv hn4 HV HFE;unfold clF at HFS HN4 HXF;have HC1:Hid (∀W,Gr w W->Calls rB 363 #[jS x.a1 cl.sigs.length x.c1] W (zCT W (SgW cl.sigs))):=rA fun W hg=>zCG (HFS.out W hg).1
 have HC2:Hid (∀W,Gr w W->Calls rB 364 #[jG #[jI kQ cl.op,jT cl.nm,jI kQ cl.val,jI kQ cl.bd,jS x.a6 cl.args.len x.c6]] W (zCT W ((clF x cl).ar/\(clF x cl).args.nodes+1<=400))):=rA fun W hg=>zEJ (x:=clF x cl) (rF HN4.out (by decide)) (HFS.out W hg).2
 have HC3:Hid (∀W,Gr w W->Calls rB 365 #[jS x.a1 cl.sigs.length x.c1,jG #[jI kQ cl.op,jT cl.nm,jI kQ cl.val,jI kQ cl.bd,jS x.a6 cl.args.len x.c6]] W (qS W)):=rA fun W hg=>zLu (x:=clF x cl) (HFS.out W hg).1 (HFS.out W hg).2
 obtain⟨F,hF⟩:∃F,clF x cl=F:=⟨_,rfl⟩;have HFD:Hid (F=⟨cl.op,cl.nm,cl.val,cl.bd,cl.args,x.a6,x.c6⟩):=rA hF.symm;rw[hF] at HC2;clear hF HXF HN4;generalize x.a1=sa at*;generalize x.c1=sc at*;generalize x.a6=fa at*;generalize x.c6=fc at*;generalize cl.sigs=l at*;generalize cl.op=op at*;generalize cl.nm=nm at*;generalize cl.val=v at*;generalize cl.bd=bd at*;generalize cl.args=ar at*;clear x cl;have HG0:Hid (Gr w (w.drewN 1)):=rA (Gr.drawn w 1);go_enter Tryz.func357,Tryz.ntmps357;go_upto_region 1 with fail;go_cut [32] from 7 to 31 (fun u wx=>∃bb,u=jB bb/\Gr w wx/\(bb=false->SgW l/\F.ar/\F.args.nodes+1<=400))
 case first=>
  refine rN (S:=fun V=>V.cell? ⟨C,1,none⟩=some (jS sa l.length sc)/\V.cell? ⟨C,2,none⟩=some (jI kQ op)/\V.cell? ⟨C,3,none⟩=some (jT nm)/\V.cell? ⟨C,4,none⟩=some (jI kQ v)/\V.cell? ⟨C,5,none⟩=some (jI kQ bd)/\V.cell? ⟨C,6,none⟩=some (jS fa ar.len fc)) (by kernel_rfl) (HS.out _ HG0.out) (fun hS=>?_);refine tKa 0 (jP (some ⟨C,0,none⟩)) ?_;refine tKa 1 (jP (some ⟨C,0,none⟩)) ?_;refine tKa 2 (jP (some ⟨C,1,none⟩)) ?_;refine tKa 3 (jS sa l.length sc) ?_;refine tya 4 (fun K hK=>?_);go_simp;refine(HC1.out _ HG0.out).mono ?_;rintro e' w50 ⟨b1,rfl,hb1,hg⟩;have HG1:=rA (HG0.out.trans hg);clear hg;cases b1 with
  |false=>
   refine hK.out _ _ (HS.out _ HG1.out) (fun hS4=>?_);clear hK hS;try simp only[sA]
   refine tKa 5 (jB true) ?_;refine tKa 6 (jB true) ?_;refine tna 7 ?_;refine tna 8 ?_;refine tna 9 ?_;refine tna 10 ?_;refine tna 11 ?_;refine tna 12 ?_;refine tKa 13 (jB true) ?_;refine tKa 14 (jB true) ?_;refine tna 15 ?_;refine tna 16 ?_;refine tna 17 ?_;refine tna 18 ?_;refine tna 19 ?_;refine tna 20 ?_;refine tna 21 ?_;refine tna 22 ?_;refine tna 23 ?_;refine tna 24 ?_;refine tKa 25 (jB true) ?_;refine rH (by kernel_rfl) ?_ _;clear hS4;go_wp2_with fail;go_meet;exact⟨true,rfl,HG1.out,fun h=>by cases h⟩
  |true=>
   refine hK.out _ _ (HS.out _ HG1.out) (fun hS4=>?_);clear hK hS;try simp only[sA]
   have HB1:=rA hb1;clear hb1;refine tKa 5 (jB false) ?_;refine tKa 6 (jB false) ?_;refine tKa 7 (jP (some ⟨C,0,none⟩)) ?_;refine tKa 8 (jP (some ⟨C,0,none⟩)) ?_;refine tKa 9 (jP (some ⟨C,2,none⟩)) ?_;refine tKa 10 (jG #[jI kQ op,jT nm,jI kQ v,jI kQ bd,jS fa ar.len fc]) ?_;refine tya 11 (fun K hK=>?_);go_simp;refine(HC2.out _ HG1.out).mono ?_;rintro e' w51 ⟨b2,rfl,hb2,hg⟩;have HG2:=rA (HG1.out.trans hg);clear hg;cases b2 with
   |false=>
    refine hK.out _ _ (HS.out _ HG2.out) (fun hS11=>?_);clear hK hS4;try simp only[sA]
    refine tKa 12 (jB true) ?_;refine tKa 13 (jB true) ?_;refine tKa 14 (jB true) ?_;refine tna 15 ?_;refine tna 16 ?_;refine tna 17 ?_;refine tna 18 ?_;refine tna 19 ?_;refine tna 20 ?_;refine tna 21 ?_;refine tna 22 ?_;refine tna 23 ?_;refine tna 24 ?_;refine tKa 25 (jB true) ?_;refine rH (by kernel_rfl) ?_ _;clear hS11;go_wp2_with fail;go_meet;exact⟨true,rfl,HG2.out,fun h=>by cases h⟩
   |true=>
    refine hK.out _ _ (HS.out _ HG2.out) (fun hS11=>?_);clear hK hS4;try simp only[sA]
    have HB2:=rA hb2;clear hb2;refine tKa 12 (jB false) ?_;refine tKa 13 (jB false) ?_;refine tKa 14 (jB false) ?_;refine tKa 15 (jP (some ⟨C,0,none⟩)) ?_;refine tKa 16 (jP (some ⟨C,0,none⟩)) ?_;refine tKa 17 (jP (some ⟨C,1,none⟩)) ?_;refine tKa 18 (jS sa l.length sc) ?_;refine tKa 19 (jP (some ⟨C,0,none⟩)) ?_;refine tKa 20 (jP (some ⟨C,0,none⟩)) ?_;refine tKa 21 (jP (some ⟨C,2,none⟩)) ?_;refine tKa 22 (jG #[jI kQ op,jT nm,jI kQ v,jI kQ bd,jS fa ar.len fc]) ?_;refine tya 23 (fun K hK=>?_);go_simp;refine(HC3.out _ HG2.out).mono ?_;rintro e' w52 ⟨b3,rfl,hg⟩;have HG3:=rA (HG2.out.trans hg);clear hg;cases b3 with
    |false=>
     refine hK.out _ _ (HS.out _ HG3.out) (fun hS23=>?_);clear hK hS11;try simp only[sA]
     refine tKa 24 (jB true) ?_;refine tKa 25 (jB true) ?_;refine rH (by kernel_rfl) ?_ _;clear hS23;go_wp2_with fail;go_meet;exact⟨true,rfl,HG3.out,fun h=>by cases h⟩
    |true=>
     refine hK.out _ _ (HS.out _ HG3.out) (fun hS23=>?_);clear hK hS11;try simp only[sA]
     refine tKa 24 (jB false) ?_;refine tKa 25 (jB false) ?_;refine rH (by kernel_rfl) ?_ _;clear hS23;go_wp2_with fail;go_meet;exact⟨false,rfl,HG3.out,fun h=>⟨HB1.out (by first|rfl|trivial),HB2.out (by first|rfl|trivial)⟩⟩
 case rest=>
 obtain⟨bb,rfl,hgx,hbb⟩:=hcut;have HGX:=rA hgx;have HBB:=rA hbb;clear hgx hbb;cases bb with
 |true=>
  go_wp2_with fail;go_ret2;exact KnR.no HGX.out
 |false=>
 have HSW:=rA (HBB.out (by first|rfl|trivial));obtain⟨u1,u2,u3,u4,u5,u6⟩:=HS.out _ HGX.out;have HW:Hid (∀V,V=wc.alloc (.cells #[jI kQ op,jT nm,jI kQ v,jI kQ bd,jS fa ar.len fc] 33)->KfS w V wc.heap.size F):=rA fun V e=>by
  subst e;have hx:=HFD.out;refine⟨HGX.out.trans (Gr.alloc _ _),HGX.out.1.size,by rw[hx];exact rC _ _,?_,HSW.out.2.1,HSW.out.2.2⟩;have h:=(HFS.out wc HGX.out).2;rw[hx];exact Fe.ok_sub _ _ _ (zLs wc _) h
 go_upto_region 4 with fail;have HK0:=rA (HW.out _ rfl);clear HW u1 u2 u3 u4 u5 u6 HG0;generalize wc.heap.size=B at*;generalize wc.alloc _=w1 at*;have HBU:Hid (∀V z,KfS w V B z->Calls rB 367 #[jS sa l.length sc,jG z] V (BuR V l sa sc)):=rA fun V z h=>zOF z (HFS.out V h.gr).1 HSW.out.1 (Fe.ok_up h.ok) h.ar h.nodes
 cases neg with
 |false=>
  rw[HFD.out] at HK0;have HBU1:=rA (HBU.out _ _ (HK0.out.later (Gr.drawn w1 1)));obtain⟨u1, -⟩:=HS.out _ HK0.out.gr;obtain⟨q0,q1,q2,q3,q4, -⟩:=zA HK0.out.blk;dsimp only at HBU1 q0 q1 q2 q3 q4;go_upto_region 8 with fail
  go_region_law (first
   |(go_simp;refine HBU1.out.mono ?_;rintro e w5 ⟨ab,b5,rfl,hB5,hA5⟩))
  all_goals
   have HKN:=rA (KnR.of_bu (HK0.out.gr.trans (Gr.drawn w1 1)) HSW.out.1 ⟨ab,b5,rfl,hB5,hA5⟩);clear hA5 hB5;go_wp2_with fail;go_ret2;exact HKN.out
 |true=>
  have hk1:=HK0.out;rw[HFD.out] at hk1;have HCN:=rA (zQT _ (only B) _ w1 (fun k hk=>zDZ (by have:=(Array.getElem?_eq_some_iff.1 hk1.blk).1;omega)) (rP _) (by have:=hk1.nodes;omega) hk1.ok hk1.ar);obtain⟨q0,q1,q2,q3,q4, -⟩:=zA hk1.blk;have HK1:=rA hk1;dsimp only at HCN q0 q1 q2 q3 q4;clear hk1 HK0;go_wp2_with fail;refine HCN.out.mono ?_;rintro e w2 ⟨z,rfl,hz,hzp,hg2⟩;have hb2:=(hg2.1.block _ (Array.getElem?_eq_some_iff.1 HK1.out.blk).1).trans HK1.out.blk;obtain⟨y0,y1,y2,y3,y4,z0,z1,z2,z3,z4⟩:=zA hb2;have HB3:=rA (yA (a:=jI kQ z.op) (b:=jT z.nm) (c:=jI kQ z.v) (d:=jI kQ z.bd) (e:=jS z.a z.args.len z.c) hb2);have HG3:=rA (Gr.put5 (a:=jI kQ z.op) (b:=jT z.nm) (c:=jI kQ z.v) (d:=jI kQ z.bd) (e:=jS z.a z.args.len z.c) (HK1.out.gr.trans hg2) HK1.out.le);have HZ3:Hid (z.ok (dim (only B) (put5 w2 B (jI kQ z.op) (jT z.nm) (jI kQ z.v) (jI kQ z.bd) (jS z.a z.args.len z.c)))):=rA (Fe.ok_sub _ _ _ (zE (Nat.le_of_eq yJ.symm) fun k hk hq=>⟨hq,zJ (by simpa[only] using hq)⟩) hz);have HZP:Hid (z.args.nodes<=1000000000):=rA (by have:=HK1.out.nodes;unfold zGg at hzp;dsimp only at hzp this;omega);have HLE:=rA HK1.out.le;unfold put5 at HB3 HG3 HZ3;clear q0 q1 q2 q3 q4 hz hzp hg2 hb2 HCN HK1;go_upto_region 6 with fail;clear y0 y1 y2 y3 y4 z0 z1 z2 z3 z4;generalize ((((w2.setCell _ _).setCell _ _).setCell _ _).setCell _ _).setCell _ _=w3 at*;obtain⟨q0,q1,q2,q3,q4, -⟩:=zA HB3.out;have HCL:=rA (zEJ (x:=z) (w:=w3) HZP.out (Fe.ok_up HZ3.out));unfold Fe.enc at HCL;go_wp2_with fail;refine HCL.out.mono ?_;rintro e w4 ⟨b4,rfl,hb4,hg4⟩;cases b4 with
  |false=>
   have HG4:=rA (HG3.out.trans hg4);clear q0 q1 q2 q3 q4 hg4;go_wp2_with fail;go_ret2;exact KnR.no HG4.out
  |true=>
   have HK4:Hid (KfS w w4 B z):=rA (KfS.later ⟨HG3.out,HLE.out,HB3.out,HZ3.out,(hb4 rfl).1,(hb4 rfl).2⟩ hg4);clear q0 q1 q2 q3 q4 hg4 hb4 HCL;have HBU1:=rA (HBU.out _ _ (HK4.out.later (Gr.drawn w4 1)));obtain⟨u1, -⟩:=HS.out _ HK4.out.gr;obtain⟨q0,q1,q2,q3,q4, -⟩:=zA HK4.out.blk;go_upto_region 8 with fail
   go_region_law (first
    |(go_simp;refine HBU1.out.mono ?_;rintro e w5 ⟨ab,b5,rfl,hB5,hA5⟩))
   all_goals
    have HKN:=rA (KnR.of_bu (HK4.out.gr.trans (Gr.drawn w4 1)) HSW.out.1 ⟨ab,b5,rfl,hB5,hA5⟩);clear hA5 hB5;go_wp2_with fail;go_ret2;exact HKN.out
theorem zRG {w':World} {lo c:Nat} {a:Option Addr} {ys:List U16} {p:Nat->Bool} (h:zH xW 1 w' lo a c ys) (hp:∀q,lo<=q->p q=false):UsR (dim p w') a ys:=fun h0=>by
 obtain⟨b,rfl,hb,hR⟩:=h.row (List.length_pos_iff.2 h0);refine⟨b,rfl,by rw[zW];exact hR.lt,fun j hj=>?_⟩;exact(rM (zBr (hp b hb))).trans (hR.at1 hj)
structure KnS (A:Ad) (w1 wr:World) (B:Nat):Prop where
 gr:Gr w1 wr
 lo:w1.heap.size<=B
 blk:∃cs:Array Value,wr.heap[B]? =some (.cells cs 456 (0,0))/\cs.size=16/\∀i,i<16->∃(a:Option Addr) (xs:List U16) (c:Nat),cs[i]? =some (jS a xs.length c)/\UsR (dim (fun q=>q==B||msA A q) wr) a xs/\xs.length<=zMn
section
variable {A:Ad} {w1 wr w2:World} {B:Nat}
theorem KnS.lt (h:KnS A w1 wr B):B<wr.heap.size:=by
 obtain⟨cs,hb,_⟩:=h.blk;exact(Array.getElem?_eq_some_iff.1 hb).1
theorem KnS.gr' (h:KnS A w1 wr B) (hg:Gr wr w2):KnS A w1 w2 B:=by
 obtain⟨cs,hb,hs,hc⟩:=h.blk;refine⟨h.gr.trans hg,h.lo,cs,(hg.1.block B h.lt).trans hb,hs,fun i hi=>?_⟩;obtain⟨a,xs,c,h1,h2,h3⟩:=hc i hi;exact⟨a,xs,c,h1,h2.on (zE hg.1.size fun k hk hp=>⟨hp,hg.1.block k hk⟩),h3⟩
theorem KnS.at' (h:KnS A w1 wr B) {i:Nat} (hi:i<16):(∃u,wr.cell? ⟨B,i,none⟩=some u)/\wr.frozen? ⟨B,i,none⟩=false:=by
 obtain⟨cs,hb,hs,hc⟩:=h.blk;obtain⟨a,xs,c,h1, -⟩:=hc i hi;exact⟨⟨jS a xs.length c,by simp[rJ,hb,h1]⟩,by simp[rL,hb]⟩
theorem KnS.put (h:KnS A w1 wr B) {i c:Nat} (hi:i<16) {a:Option Addr} {ys:List U16} {lo:Nat} (hL:zH xW 1 wr lo a c ys) (hlo:B<lo) (hm:∀q,lo<=q->msA A q=false) (hy:ys.length<=zMn):KnS A w1 (wr.setCell ⟨B,i,none⟩ (jS a ys.length c)) B:=by
 obtain⟨cs,hb,hs,hc⟩:=h.blk;have hD:Sub (dim (fun q=>q==B||msA A q) wr) (dim (fun q=>q==B||msA A q) (wr.setCell ⟨B,i,none⟩ (jS a ys.length c))):=zE (by simp) fun k hk hp=>⟨hp,rG _ _ _ _ (by
  simp only[Bool.or_eq_false_iff,beq_eq_false_iff_ne] at hp;exact fun e=>hp.1 (by simpa using e))⟩
 refine⟨Gr.setCell h.gr h.lo _,h.lo,_,rK _ _ i _ 456 _ hb,by simpa using hs,fun j hj=>?_⟩;by_cases hij:i=j
 ·subst hij
  refine⟨a,ys,c,by simp[hs,hi],(zRG hL fun q hq=>?_).on hD,hy⟩;simp only[Bool.or_eq_false_iff,beq_eq_false_iff_ne];exact⟨by omega,hm q hq⟩
 ·obtain⟨a',xs,c',h1,h2,h3⟩:=hc j hj
  refine⟨a',xs,c',?_,h2.on hD,h3⟩;rw[Array.getElem?_setIfInBounds_ne hij];exact h1
theorem KnS.val (h:KnS A w1 wr B) (hm:msA A B=false):VMv (dim (msA A) wr) (jP (some ⟨B,0,none⟩)):=by
 obtain⟨cs,hb,hs,hc⟩:=h.blk;refine⟨B,rfl,fun i hi=>?_⟩;obtain⟨a,xs,c,h1,h2,h3⟩:=hc i hi;refine⟨a,xs,c,(rM (zBr hm)).trans (by simp[rJ,hb,h1]),h2.on (zE (rI _) fun k hk hp=>⟨?_,rfl⟩),h3⟩;simp only[Bool.or_eq_false_iff] at hp;exact hp.2
end
def z16:Array Value:= #[jS none 0 0,jS none 0 0,jS none 0 0,jS none 0 0,jS none 0 0,jS none 0 0,jS none 0 0,jS none 0 0,jS none 0 0,jS none 0 0,jS none 0 0,jS none 0 0,jS none 0 0,jS none 0 0,jS none 0 0,jS none 0 0]
theorem KnS.made (A:Ad) (w1:World):KnS A w1 (w1.alloc (.cells z16 456)) w1.heap.size:=by
 refine⟨Gr.alloc _ _,rI _,z16,rC _ _,rfl,fun i hi=>⟨none,[],0,?_,fun h=>absurd rfl h,by simp⟩⟩
 match i,hi with
 |0,_|1,_|2,_|3,_|4,_|5,_|6,_|7,_|8,_|9,_|10,_|11,_|12,_|13,_|14,_|15,_=>rfl
 |_+16,h=>omega
def MvR (A:Ad) (W:World) (e:Ending) (W':World):Prop:=∃(a:Option Addr) (c:Nat) (xs:List U16),e=jR (jS a xs.length c)/\UsR (dim (msA A) W') a xs/\xs.length<=zMn/\AdS A W'/\Fr (msA A) W.heap.size W W'
theorem zNm (w:World):(zeroValue 454).run rB w=.ok (jP none) w:=Tryz.zeroValue454 w
theorem zPN {A:Ad} (hok:zBs A) {W:World} (hv:AdS A W) (mem:Int) (K E:Nat) (hK:K<=100000000) (hE:E<16):Calls rB 390 #[jP (some ⟨A.ab,0,none⟩),jG #[jI kQ mem,jI kQ K],jI kQ E] W (MvR A W):=by
 have HOK:=rA hok;have he16:=hok.el;have hs0:=hv.gr (Gr.alloc W (.cells #[jI kQ mem,jI kQ K] 438));have HS0:=rA hs0;have HG0:=rA (Gr.alloc W (.cells #[jI kQ mem,jI kQ K] 438));have hkey:KMoment (jG #[jI kQ mem,jI kQ K]):=⟨[jI kQ mem,jI kQ K],rfl,⟨⟨_,rfl⟩,⟨_,rfl⟩,trivial⟩⟩;have HKEY:=rA hkey;obtain⟨v,b,hlk0,hvb⟩:=hs0.a1.look zI8 Tryz.underlying432 zNm hkey;have hlk:=hlk0 true;obtain⟨-, -,a2, -,a4, -, -⟩:=hs0.v.cell;have HBOX:Hid (∀V,Gr (W.alloc (.cells #[jI kQ mem,jI kQ K] 438)) V->V.cell? ⟨W.heap.size,0,none⟩=some (jI kQ mem)/\V.cell? ⟨W.heap.size,1,none⟩=some (jI kQ K)):=rA fun V hg=>by
  have b0:=(hg.1.block W.heap.size (by simp)).trans (rC W _);simp[rJ,b0]
 obtain⟨q0,q1⟩:=HBOX.out _ (Gr.refl _);have HVB:=rA hvb;clear hv hok hs0 hlk0 hvb hkey;have e16:(E:Int)<16:=by omega
 go_enter Tryz.func390,Tryz.ntmps390;go_upto_region 1 with fail;generalize W.alloc _=w0 at*;cases b with
 |true=>
  obtain⟨B,rfl,hcells⟩:VMv (dim (msA A) w0) v:=HVB.out.elim And.right fun h=>by cases h.1
  obtain⟨xa,xs,xc,hx1,hx2,hx3⟩:=hcells E hE;have hx4:=(vS (msA A) w0).cell hx1;have HX:=rA (And.intro hx2 hx3);clear hx1 hx2 hx3 hcells HVB;go_quiet (fail);go_wp2_with fail;go_ret;exact⟨xa,xc,xs,rfl,HX.out.1.on (zFZ (Fr.of_below (Gr.drawn w0 nq).1)),HX.out.2,HS0.out.gr (Gr.drawn _ _),(Fr.of_below HG0.out.1).trans ((Fr.of_below (Gr.drawn _ _).1).mono HG0.out.1.size)⟩
 |false=>
  clear HVB;go_quiet (fail);clear hlk q0 q1 a4;have HS1:=rA (HS0.out.gr (Gr.drawn w0 nq));have HG1:=rA (HG0.out.trans (Gr.drawn w0 nq));have HBOX1:Hid (∀V,Gr (w0.drewN nq) V->V.cell? ⟨W.heap.size,0,none⟩=some (jI kQ mem)/\V.cell? ⟨W.heap.size,1,none⟩=some (jI kQ K)):=rA fun V hg=>HBOX.out V ((Gr.drawn w0 nq).trans hg)
  have HKN:Hid (KnS A (w0.drewN nq) ((w0.drewN nq).alloc (.cells z16 456)) w0.heap.size):=rA (KnS.made A (w0.drewN nq));unfold z16 at HKN;clear HBOX HS0 HG0 a2;go_upto_region 4 with fail;generalize hB:w0.heap.size=B at*;generalize w0.drewN nq=w1 at*;generalize w1.alloc _=w2 at*;obtain⟨-, -,a2, -⟩:=(HS1.out.gr HKN.out.gr).v.cell;go_wp2_with fail;go_loopw [29] (fun i wr=>∃(k:Nat),k<=A.E.length/\i=jI kQ k/\Hid (KnS A w1 wr B)) (fun i _=>A.E.length - (intOf i).toNat)
  case atStart=>exact⟨0,rE _,rfl,HKN⟩
  case round=>
   clear a2 HKN;obtain⟨k,hk,rfl,HKN⟩:=hrel;by_cases hlt:k<A.E.length;rotate_left
   ·have hd:=dF hlt
    have hs:=HS1.out.gr HKN.out.gr;obtain⟨-, -, -, -,a4, -, -⟩:=hs.v.cell;obtain⟨q0,q1⟩:=HBOX1.out _ HKN.out.gr;have hsd:AdS A wr.drew:=hs.gr (Gr.drawn wr 1);have hkd:KnS A w1 wr.drew B:=HKN.out.gr' (Gr.drawn wr 1);have hval:VMv (dim (msA A) wr.drew) (jP (some ⟨B,0,none⟩)):=hkd.val (by obtain⟨cs,hb, -⟩:=hkd.blk;exact hsd.notm hb);obtain⟨w5,hrun,hm5,ht5⟩:=hsd.a1.update zI8 Tryz.underlying432 (key:=jG #[jI kQ mem,jI kQ K]) (val:=jP (some ⟨B,0,none⟩)) HKEY.out hval;have hfin:=hsd.put1 HOK.out hm5 ht5;obtain⟨B',hB',hcells⟩:=hval.on (zFZ hfin.2);cases hB';obtain⟨xa,xs,xc,hx1,hx2,hx3⟩:=hcells E hE;have hx4:=(vS (msA A) w5).cell hx1;have HFIN:Hid (UsR (dim (msA A) w5) xa xs/\xs.length<=zMn/\AdS A w5/\Fr (msA A) W.heap.size W w5):=rA ⟨hx2,hx3,hfin.1,(Fr.of_below (HG1.out.trans hkd.gr).1).trans (hfin.2.mono (HG1.out.trans hkd.gr).1.size)⟩;clear hs hsd hkd hval hm5 ht5 hfin hx1 hx2 hx3 hcells;go_upto_region 9 with fail;go_region;all_goals clear hrun
    all_goals go_wp2_with fail
    all_goals go_ret
    all_goals exact⟨_,_,xs,rfl,HFIN.out⟩
   have hd:=dT hlt
   have hkl:(k:Int)<(A.E.length:Int):=by omega
   have hk16:(k:Int)<16:=by omega
   have hk16n:k<16:=by omega
   obtain⟨bq,hbq,c0,c1,c2,c3,c4⟩:=vL.elem (HS1.out.gr HKN.out.gr).v.els hlt;have HE:=rA (HOK.out.ear _ (List.getElem_mem hlt));rw[hbq];generalize A.E[k]=z at*;have HBX:=rA (zBA wr z.1);have HKA:=rA (HKN.out.gr' (Gr.alloc wr (.cells z.1 33)));go_upto_region 7 with fail;clear c0 c1 c2 c3 c4 HKN;generalize wr.alloc (.cells z.1 33)=w9 at*;obtain⟨y0,y1,y2,y3,y4⟩:=HBX.out w9 (Gr.refl _);obtain⟨q0,q1⟩:=HBOX1.out w9 HKA.out.gr;have HC:=rA (zHV HOK.out _ z (w9.drewN 1) mem K (HS1.out.gr (HKA.out.gr.trans (Gr.drawn w9 1))).v hK (rP _) HE.out.2.1 HE.out.1 HE.out.2.2.1 HE.out.2.2.2);have HST:Hid (∀(w5:World) (a:Option Addr) (c:Nat) (ys:List U16),Gr (w9.drewN 1) w5->zH xW 1 w5 (w9.drewN 1).heap.size a c ys->ys.length<=65536*(z.1.args.nodes+1)->(∃u,w5.cell? ⟨B,k,none⟩=some u)/\w5.frozen? ⟨B,k,none⟩=false/\KnS A w1 (w5.setCell ⟨B,k,none⟩ (jS a ys.length c)) B):=rA fun w5 a c ys hg hl hy=>by
    have h5:=HKA.out.gr' ((Gr.drawn w9 1).trans hg);refine⟨(h5.at' hk16n).1,(h5.at' hk16n).2,h5.put hk16n hl HKA.out.lt (fun q hq=>?_) (by have:=HE.out.2.1;unfold zMn;omega)⟩;have hs:=HS1.out;have h1:=hs.a1.lt;have h2:=hs.a2.lt;have h3:=hs.a3.lt;have h4:=HKA.out.gr.1.size;have h6:w9.heap.size<=q:=hq;exact zCn.2 ⟨by omega,by omega,by omega⟩
   go_region_law (first
    |(go_simp;refine HC.out.mono ?_;rintro e w5 ⟨a5,c5,y5,rfl,hl5,hn5,hc5,hg5⟩;obtain⟨⟨u,m0⟩,g0,hnx⟩:=HST.out w5 a5 c5 y5 hg5 hl5 hn5;have HNX:=rA hnx;clear hnx hl5 hn5 hc5 hg5))
   all_goals
    go_wp2_with fail;go_roundw
    case rel=>exact⟨k+1,by omega,by go_num,HNX⟩
    case measure=>simp[intOf];omega
