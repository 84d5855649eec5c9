/- The judge's raw residual of a formula. -/
import Derived.Test.YtmabhhngoklncaaGreatDoorM
import Derived.Lib.SlicesCompact
set_option maxRecDepth 100000
set_option maxHeartbeats 40000000
set_option linter.all false
open Go.Lib renaming hid->rA
open List renaming getElem?_eq_getElem->rB,length_append->rJ,getElem?_append_left->rK,size_toArray->rM,getElem?_append_right->rN,getElem?_take->rQ,getElem?_toArray->rS,mem_cons_self->rY,append_assoc->rZ,mem_cons->r7
open Go.Proofs.Tryz renaming prog->rC
open Nat renaming le_refl->rD,le_trans->rO,zero_le->rR,add_zero->rV,lt_succ_self->r5,zero_mul->r9,zero_add->rAa,add_mul->rAb
open Go.World renaming cell?->rE,frozen?->r8
open Go.Builtin renaming append_->rF,zeroCells->rH,firstCells->rL,lenOf->rT
open Go renaming heap_alloc_old->rG,heap_alloc_new->rI,bodyPost_ret->rP,run_underlying->r6
open Array renaming length_toList->rU,getElem?_eq_getElem->rW,getElem?_modify->rX
open Go.Value renaming int->jI,slice->jS,pointer->jP,bool->jB,string->jT,agg->jG,tuple->jU
open Go.IntKind renaming i64->kQ
open Go.Ending renaming returned->jR
open Go Go.RowKit Go.Sort
namespace Go.Proofs.YtmabhhngoklncaaGreatDoor
variable {U W w:World}{blk cap n lo m i cc:Nat}{a:Option Addr}{os:Array Obj}{cs:Array Value}{T:TypeId}
def zBw (n:Nat):Nat:=(n+1)*(n+3)
def zCD:Fs->Nat->Nat
 |_,0=>0
 | .nil,_=>0
 | .cons _ _ _ _ a r,k+1=>zBw a.nodes+zCD r k
theorem zGi:∀ {f:Fs} {k:Nat} {y:Fe},f.drop k=.cons y.op y.nm y.v y.bd y.args (f.drop (k+1))->zCD f (k+1)=zCD f k+zBw y.args.nodes
 | .nil,k,y,h=>by cases k<;>simp[Fs.drop] at h
 | .cons _ _ _ _ a r,0,y,h=>by
  simp only[Fs.drop,Fs.cons.injEq] at h;simp[zCD,h.2.2.2.2.1]
 | .cons _ _ _ _ a r,k+1,y,h=>by
  have:=zGi (f:=r) (k:=k) (y:=y) h;simp only[zCD,this];omega
theorem zRN (a b:Nat):a*(a+2)+b*(b+2)<=(a+b)*(a+b+2):=by
 have h:(a+b)*(a+b+2)=a*(a+2)+b*(b+2)+2*(a*b):=by
  simp only[rAb,Nat.mul_add,Nat.mul_comm b a];omega
 omega
theorem zG8:∀(f:Fs) (k:Nat),zCD f k<=f.nodes*(f.nodes+2)
 |f,0=>by cases f<;>simp[zCD]
 | .nil,_+1=>by simp[zCD]
 | .cons _ _ _ _ a r,k+1=>by
  have h1:=zG8 r k;have h2:=zRN (a.nodes+1) r.nodes;simp only[zCD,Fs.nodes,zBw];have e:a.nodes+r.nodes+1=a.nodes+1+r.nodes:=by omega
  rw[e];have e2:(a.nodes+1)*(a.nodes+1+2)=(a.nodes+1)*(a.nodes+3):=rfl;omega
theorem zIx (n:Nat):n*(n+2)+n+3<=zBw n:=by
 unfold zBw;simp only[rAb,Nat.mul_add];omega
theorem zGc {tmps:Array Value} {W:World} {g:Nat} {a b c d e:Value} (hp:tmps.getD 4 undef=jP (some ⟨g,0,none⟩)) (h:W.heap[g]? =some (.cells #[a,b,c,d,e] 33 (0,0))):
  (results Tryz.f436 tmps).run rC W=.ok (jG #[a,b,c,d,e]) W:=
 zGp rfl hp h fun W' h0 h1 h2 h3 h4=>by simp[go_sem,h0,h1,h2,h3,h4]
structure RwP (w W:World) (x:Fe):Prop where
 gr:Gr w W
 b3:W.heap[w.heap.size]? =some (.cells x 33 (0,0))
 b4:W.heap[w.heap.size+1]? =some (.cells zO 33 (0,0))
structure RwS (p:Nat->Bool) (w W:World) (M:Nat) (x:Fe) (A:List Fe):Prop where
 pre:RwP w W x
 row:FmB (orP p (w.heap.size+1)) W M x.args.len A
 lt:w.heap.size+2<=M
section
variable {p:Nat->Bool} {w W W':World} {M:Nat} {x:Fe} {A:List Fe}
theorem RwP.gr' (h:RwP w W x) (hg:Gr W W'):RwP w W' x:=
 ⟨h.gr.trans hg,(hg.1.block _ (Array.getElem?_eq_some_iff.1 h.b3).1).trans h.b3,(hg.1.block _ (Array.getElem?_eq_some_iff.1 h.b4).1).trans h.b4⟩
theorem RwP.lt (h:RwP w W x):w.heap.size+1<W.heap.size:=(Array.getElem?_eq_some_iff.1 h.b4).1
theorem RwP.fin (h:RwP w W x) {P:Fe->Prop} {z:Fe} (hz:z.ok (dim (orP p (w.heap.size+1)) W)) (hP:P z):FmR p w P (jR (jG z)) (put5 W (w.heap.size+1) (jI kQ z.op) (jT z.nm) (jI kQ z.v) (jI kQ z.bd) (jS z.a z.args.len z.c)):=
 ⟨z,rfl,Fe.ok_sub _ _ _ (zE (by rw[yJ];exact rD _) fun k hk hq=>⟨(zD.1 hq).1,zJ (zD.1 hq).2⟩) hz,hP,Gr.put5 h.gr (by omega)⟩
theorem RwP.out (h:RwP w W x) (a b c d e:Value):(put5 W (w.heap.size+1) a b c d e).heap[w.heap.size+1]? =some (.cells #[a,b,c,d,e] 33 (0,0)):=yA h.b4
theorem RwP.cells4 (h:RwP w W x):W.cell? ⟨w.heap.size+1,0,none⟩=some (jI kQ 0)/\W.cell? ⟨w.heap.size+1,1,none⟩=some (jT ⟨#[]⟩)/\W.cell? ⟨w.heap.size+1,2,none⟩=some (jI kQ 0)/\W.cell? ⟨w.heap.size+1,3,none⟩=some (jI kQ 0)/\W.cell? ⟨w.heap.size+1,4,none⟩=some (jS none 0 0)/\W.frozen? ⟨w.heap.size+1,0,none⟩=false/\W.frozen? ⟨w.heap.size+1,1,none⟩=false/\W.frozen? ⟨w.heap.size+1,2,none⟩=false/\W.frozen? ⟨w.heap.size+1,3,none⟩=false/\W.frozen? ⟨w.heap.size+1,4,none⟩=false:=zA h.b4
theorem RwS.gr' (h:RwS p w W M x A) (hg:Gr W W'):RwS p w W' M x A:=⟨h.pre.gr' hg,h.row.gr hg,h.lt⟩
theorem RwS.push (h:RwS p w W M x A) {z:Fe} (hz:z.ok (dim (orP (orP p (w.heap.size+1)) M) W)) (hn:A.length<x.args.len):RwS p w (set5 W M (A.length*5) (jI kQ z.op) (jT z.nm) (jI kQ z.v) (jI kQ z.bd) (jS z.a z.args.len z.c)) M x (A++[z]):=by
 have hl:=h.lt;exact⟨⟨Gr.set5 h.pre.gr (by omega),(yX (by omega)).trans h.pre.b3,(yX (by omega)).trans h.pre.b4⟩,h.row.push hz hn,h.lt⟩
end
theorem zFd {p:Nat->Bool} {w W:World} {m:Nat} (hg:Gr w W) (hm:w.heap.size<=m:=by omega):Sub (dim p w) (dim (orP p m) W):=zE hg.1.size fun k hk hp=>⟨zD.2 ⟨hp,by omega⟩,hg.1.block k hk⟩
abbrev vF (y z:Fe):Array Value:= #[jI kQ y.op,jT y.nm,jI kQ y.v,jI kQ y.bd,jS y.a y.args.len y.c,jI kQ z.op,jT z.nm,jI kQ z.v,jI kQ z.bd,jS z.a z.args.len z.c]
theorem zHx {q:Nat->Bool} {W:World} {b:Nat} {y z:Fe} (hb:W.heap[b]? =some (.cells (vF y z) 33 (0,0))) (hq:q b=false) (hy:y.ok (dim q W)) (hz:z.ok (dim q W)):FArgs (dim q W) (some ⟨b,0,none⟩) (Fe.forest [y,z]):=fun _=>by
 refine⟨b,0,rfl,by rw[zW];exact(Array.getElem?_eq_some_iff.1 hb).1,Fe.at [y,z] 0 (fun j hj c u hc hu=>?_) fun x hx=>?_⟩
 ·rw[vQ hq]
  simp only[rE,hb];simp only[List.length_cons,List.length_nil] at hj
  match j,hj,c,hc with
  |0,_,0,_=>simpa[vF,Fe.enc] using hu
  |0,_,1,_=>simpa[vF,Fe.enc] using hu
  |0,_,2,_=>simpa[vF,Fe.enc] using hu
  |0,_,3,_=>simpa[vF,Fe.enc] using hu
  |0,_,4,_=>simpa[vF,Fe.enc] using hu
  |1,_,0,_=>simpa[vF,Fe.enc] using hu
  |1,_,1,_=>simpa[vF,Fe.enc] using hu
  |1,_,2,_=>simpa[vF,Fe.enc] using hu
  |1,_,3,_=>simpa[vF,Fe.enc] using hu
  |1,_,4,_=>simpa[vF,Fe.enc] using hu
 ·simp only[r7,List.not_mem_nil,or_false] at hx
  rcases hx with rfl|rfl
  ·exact hy
  ·exact hz
structure RwU (p:Nat->Bool) (w W:World) (M:Nat) (x y0 y1 on:Fe) (g:Nat):Prop where
 s:RwS p w W M x [y0,y1]
 ok:on.ok (dim (orP p (w.heap.size+1)) W)
 ne:g≠w.heap.size+1
 at':W.heap[g]? =some (.cells on 33 (0,0))
section
variable {p:Nat->Bool} {w W W':World} {M g:Nat} {x y0 y1 on:Fe} {A:List Fe}
theorem RwS.hpM (h:RwS p w W M x A) (hpp:∀k,w.heap.size<=k->p k=false):orP p (w.heap.size+1) M=false:=by
 have:=h.lt;exact zD.2 ⟨hpp _ (by omega),by omega⟩
theorem RwS.dflt (h:RwS p w W M x A) (hpp:∀k,w.heap.size<=k->p k=false) (hA:A.length=x.args.len) (hn:(Fe.forest A).nodes<=zCD x.args x.args.len) (h9:x.args.len<=1000000000):FmR p w (fun z=>z.args.nodes+1<=zBw x.args.nodes) (jR (jG #[jI kQ x.op,jT ⟨#[]⟩,jI kQ 0,jI kQ 0,jS (some ⟨M,0,none⟩) x.args.len x.args.len])) (put5 W (w.heap.size+1) (jI kQ x.op) (jT ⟨#[]⟩) (jI kQ 0) (jI kQ 0) (jS (some ⟨M,0,none⟩) x.args.len x.args.len)):=by
 have:=h.pre.fin (P:=fun z=>z.args.nodes+1<=zBw x.args.nodes) (z:=⟨x.op,⟨#[]⟩,0,0,Fe.forest A,some ⟨M,0,none⟩,x.args.len⟩) ⟨h.row.done hA (h.hpM hpp),(by decide:(⟨#[]⟩:ByteArray).size<=9223372036854775807),by show(Fe.forest A).len<=_;rw[Fe.forest_len];omega,Nat.le_of_eq ((Fe.forest_len A).trans hA)⟩ (by have:=zG8 x.args x.args.len;have:=zIx x.args.nodes;show(Fe.forest A).nodes+1<=_;omega);simp only[Fe.forest_len,hA] at this;exact this
theorem RwS.two (h:RwS p w W M x [y0,y1]):(W.cell? ⟨M,0,none⟩=some (jI kQ y0.op)/\W.cell? ⟨M,1,none⟩=some (jT y0.nm)/\W.cell? ⟨M,2,none⟩=some (jI kQ y0.v)/\W.cell? ⟨M,3,none⟩=some (jI kQ y0.bd)/\W.cell? ⟨M,4,none⟩=some (jS y0.a y0.args.len y0.c))/\
  (W.cell? ⟨M,5,none⟩=some (jI kQ y1.op)/\W.cell? ⟨M,6,none⟩=some (jT y1.nm)/\W.cell? ⟨M,7,none⟩=some (jI kQ y1.v)/\W.cell? ⟨M,8,none⟩=some (jI kQ y1.bd)/\W.cell? ⟨M,9,none⟩=some (jS y1.a y1.args.len y1.c)):=by
 obtain⟨cs,h1,h2,h3⟩:=h.row.blk;have e0:=fun c hc=>h3 0 (by simp) c hc
 have e1:=fun c hc=>h3 1 (by simp) c hc
 refine⟨⟨?_,?_,?_,?_,?_⟩,?_,?_,?_,?_,?_⟩
 ·simpa[rE,h1,Fe.enc] using e0 0 (by omega)
 ·simpa[rE,h1,Fe.enc] using e0 1 (by omega)
 ·simpa[rE,h1,Fe.enc] using e0 2 (by omega)
 ·simpa[rE,h1,Fe.enc] using e0 3 (by omega)
 ·simpa[rE,h1,Fe.enc] using e0 4 (by omega)
 ·simpa[rE,h1,Fe.enc] using e1 0 (by omega)
 ·simpa[rE,h1,Fe.enc] using e1 1 (by omega)
 ·simpa[rE,h1,Fe.enc] using e1 2 (by omega)
 ·simpa[rE,h1,Fe.enc] using e1 3 (by omega)
 ·simpa[rE,h1,Fe.enc] using e1 4 (by omega)
theorem RwS.oks (h:RwS p w W M x [y0,y1]):y0.ok (dim (orP p (w.heap.size+1)) W)/\y1.ok (dim (orP p (w.heap.size+1)) W):=
 ⟨Fe.ok_sub _ _ _ (zE (rD _) fun k _ hk=>⟨(zD.1 hk).1,rfl⟩) (h.row.els y0 (by simp)),Fe.ok_sub _ _ _ (zE (rD _) fun k _ hk=>⟨(zD.1 hk).1,rfl⟩) (h.row.els y1 (by simp))⟩
theorem RwU.of {b:Nat} {z:Fe} {o:Int} (hS:RwS p w W M x [y0,y1]) (hl:W.heap[b]? =some (.cells (vF y0 z) 33 (0,0))) (hb:orP p (w.heap.size+1) b=false) (hz:z.ok (dim (orP p (w.heap.size+1)) W)) (hn:z.args.nodes=x.args.nodes) (hgn:g≠w.heap.size+1) (hg:W.heap[g]? =some (.cells #[jI kQ o,jT ⟨#[]⟩,jI kQ 0,jI kQ 0,jS (some ⟨b,0,none⟩) 2 2] 33 (0,0))):∃(g':Nat) (on:Fe),Value.pointer (some ⟨g,0,none⟩)=jP (some ⟨g',0,none⟩)/\Hid (on.args.nodes<=y0.args.nodes+x.args.nodes+2/\RwU p w W M x y0 y1 on g'):=
 ⟨g,⟨o,⟨#[]⟩,0,0,Fe.forest [y0,z],some ⟨b,0,none⟩,2⟩,rfl,rA ⟨by simp only[Fe.forest,Fs.nodes];omega,hS,⟨zHx hl hb hS.oks.1 hz,(by decide:(⟨#[]⟩:ByteArray).size<=9223372036854775807),by show(2:Nat)<=_;omega,rD _⟩,hgn,hg⟩⟩
section
variable {w5 wr:World} {z:Fe} {o:Int}
theorem xH {W:World} {n:Nat} (h:W.heap.size=n) (o:Obj):(W.alloc o).heap[n]? =some o:=by
 subst h;exact rI W o
theorem RwS.freeB (h:RwS p w W M x A) (hpp:∀k,w.heap.size<=k->p k=false) {b:Nat} (hb:W.heap.size<=b):orP p (w.heap.size+1) b=false:=by
 have:=h.pre.lt;exact zD.2 ⟨hpp _ (by omega),by omega⟩
theorem RwS.e1 (h:RwS p w wr M x [y0,y1]) (hpp:∀k,w.heap.size<=k->p k=false) (hz:z.ok (dim (orP p (w.heap.size+1)) w5)/\z.args.nodes=x.args.nodes/\Gr (wr.drewN 1) w5):∃(g':Nat) (on:Fe),Value.pointer (some ⟨w5.heap.size+1,0,none⟩)=jP (some ⟨g',0,none⟩)/\Hid (on.args.nodes<=y0.args.nodes+x.args.nodes+2/\RwU p w ((w5.alloc (.cells (vF y0 z) 33)).alloc (.cells #[jI kQ o,jT ⟨#[]⟩,jI kQ 0,jI kQ 0,jS (some ⟨w5.heap.size,0,none⟩) 2 2] 33)) M x y0 y1 on g'):=by
 have hS:=h.gr' ((Gr.drawn wr 1).trans hz.2.2);have s1:(w5.alloc (.cells (vF y0 z) 33)).heap.size=w5.heap.size+1:=by simp
 exact RwU.of (hS.gr' ((Gr.alloc _ _).trans (Gr.alloc _ _))) ((rG _ _ (by simp)).trans (rI _ _)) (hS.freeB hpp (rD _)) (Fe.ok_sub _ _ _ (vM ((Gr.alloc _ _).trans (Gr.alloc _ _)) fun _ h=>h) hz.1) hz.2.1 (by have:=hS.pre.lt;omega) (xH s1 _)
theorem RwS.e2 (h:RwS p w wr M x [y0,y1]) (hpp:∀k,w.heap.size<=k->p k=false) (hz:z.ok (dim (orP p (w.heap.size+1)) w5)/\z.args.nodes=x.args.nodes/\Gr (wr.drewN 1) w5):∃(g':Nat) (on:Fe),Value.pointer (some ⟨w5.heap.size,0,none⟩)=jP (some ⟨g',0,none⟩)/\Hid (on.args.nodes<=y0.args.nodes+x.args.nodes+2/\RwU p w ((w5.alloc (.cells #[jI kQ o,jT ⟨#[]⟩,jI kQ 0,jI kQ 0,jS (some ⟨w5.heap.size+1,0,none⟩) 2 2] 33)).alloc (.cells (vF y0 z) 33)) M x y0 y1 on g'):=by
 have hS:=h.gr' ((Gr.drawn wr 1).trans hz.2.2);have s1:(w5.alloc (.cells #[jI kQ o,jT ⟨#[]⟩,jI kQ 0,jI kQ 0,jS (some ⟨w5.heap.size+1,0,none⟩) 2 2] 33)).heap.size=w5.heap.size+1:=by simp
 exact RwU.of (hS.gr' ((Gr.alloc _ _).trans (Gr.alloc _ _))) (xH s1 _) (hS.freeB hpp (Nat.le_succ _)) (Fe.ok_sub _ _ _ (vM ((Gr.alloc _ _).trans (Gr.alloc _ _)) fun _ h=>h) hz.1) hz.2.1 (by have:=hS.pre.lt;omega) ((rG _ _ (by simp)).trans (rI _ _))
theorem RwS.e3 (h:RwS p w wr M x [y0,y1]) (hpp:∀k,w.heap.size<=k->p k=false) (hz:z.ok (dim (orP (orP p (w.heap.size+1)) wr.heap.size) w5)/\z.args.nodes=x.args.nodes/\Gr ((wr.drewN 1).alloc (.cells #[jI kQ 0,jT ⟨#[]⟩,jI kQ 0,jI kQ 0,jS none 0 0] 33)) w5):∃(g':Nat) (on:Fe),Value.pointer (some ⟨wr.heap.size,0,none⟩)=jP (some ⟨g',0,none⟩)/\Hid (on.args.nodes<=y0.args.nodes+x.args.nodes+2/\RwU p w ((((((w5.setCell ⟨wr.heap.size,0,none⟩ (jI kQ o)).setCell ⟨wr.heap.size,1,none⟩ (jT ⟨#[]⟩)).setCell ⟨wr.heap.size,2,none⟩ (jI kQ 0)).setCell ⟨wr.heap.size,3,none⟩ (jI kQ 0)).setCell ⟨wr.heap.size,4,none⟩ (jS (some ⟨w5.heap.size,0,none⟩) 2 2)).alloc (.cells (vF y0 z) 33)) M x y0 y1 on g'):=by
 have hg1:Gr wr w5:=(Gr.drawn wr 1).trans ((Gr.alloc _ _).trans hz.2.2);have hb:=(hz.2.2.1.block wr.heap.size (by simp)).trans (rI (wr.drewN 1) _);have hl:=(Array.getElem?_eq_some_iff.1 hb).1;have hS:=h.gr' ((Gr.put5 hg1 (rD _) (a:=jI kQ o) (b:=jT ⟨#[]⟩) (c:=jI kQ 0) (d:=jI kQ 0) (e:=jS (some ⟨w5.heap.size,0,none⟩) 2 2)).trans (Gr.alloc _ (.cells (vF y0 z) 33)));have s1:(put5 w5 wr.heap.size (jI kQ o) (jT ⟨#[]⟩) (jI kQ 0) (jI kQ 0) (jS (some ⟨w5.heap.size,0,none⟩) 2 2)).heap.size=w5.heap.size:=yJ;refine RwU.of hS (xH s1 _) (h.freeB hpp (Nat.le_of_lt hl)) (Fe.ok_sub _ _ _ ?_ hz.1) hz.2.1 (by have:=h.pre.lt;omega) ((rG _ _ (Nat.lt_of_lt_of_eq hl s1.symm)).trans (yA hb));exact zE (by simp) fun k hk hq=>⟨(zD.1 hq).1,(rG _ _ (Nat.lt_of_lt_of_eq hk s1.symm)).trans (zJ (zD.1 hq).2)⟩
theorem RwU.fin {on:Fe} (h:RwU p w W M x y0 y1 on g) (hpp:∀k,w.heap.size<=k->p k=false) (hn:on.args.nodes<=y0.args.nodes+x.args.nodes+2) (hm:y0.args.nodes+y1.args.nodes+2<=x.args.nodes*(x.args.nodes+2)):FmR p w (fun z=>z.args.nodes+1<=zBw x.args.nodes) (jR (jG #[jI kQ o,jT ⟨#[]⟩,jI kQ 0,jI kQ 0,jS (some ⟨W.heap.size,0,none⟩) 2 2])) (((put5 W (w.heap.size+1) (jI kQ o) (jT ⟨#[]⟩) (jI kQ 0) (jI kQ 0) (jS (some ⟨W.heap.size,0,none⟩) 2 2)).alloc (.cells (vF y1 on) 33)).drew):=by
 have hl:=h.s.pre.lt;have hg:Gr w (((put5 W (w.heap.size+1) (jI kQ o) (jT ⟨#[]⟩) (jI kQ 0) (jI kQ 0) (jS (some ⟨W.heap.size,0,none⟩) 2 2)).alloc (.cells (vF y1 on) 33)).drew):=((Gr.put5 h.s.pre.gr (by omega)).trans (Gr.alloc _ _)).trans (Gr.drawn _ 1);have hs:Sub (dim (orP p (w.heap.size+1)) W) (dim p (((put5 W (w.heap.size+1) (jI kQ o) (jT ⟨#[]⟩) (jI kQ 0) (jI kQ 0) (jS (some ⟨W.heap.size,0,none⟩) 2 2)).alloc (.cells (vF y1 on) 33)).drew)):=zE (by show _<=(World.alloc _ _).heap.size;simp[yJ]) fun k hk hq=>⟨(zD.1 hq).1,(rG _ _ (by rw[yJ];exact hk)).trans (zJ (zD.1 hq).2)⟩
 refine⟨⟨o,⟨#[]⟩,0,0,Fe.forest [y1,on],some ⟨W.heap.size,0,none⟩,2⟩,rfl,⟨zHx (xH (W:=put5 W (w.heap.size+1) (jI kQ o) (jT ⟨#[]⟩) (jI kQ 0) (jI kQ 0) (jS (some ⟨W.heap.size,0,none⟩) 2 2)) yJ _) (hpp _ (by omega)) (Fe.ok_sub _ _ _ hs h.s.oks.2) (Fe.ok_sub _ _ _ hs h.ok),(by decide:(⟨#[]⟩:ByteArray).size<=9223372036854775807),by show(2:Nat)<=_;omega,rD _⟩,?_,hg⟩;have:=zIx x.args.nodes;simp only[Fe.forest,Fs.nodes];omega
theorem RwU.out {on:Fe} (h:RwU p w W M x y0 y1 on g):(((put5 W (w.heap.size+1) (jI kQ o) (jT ⟨#[]⟩) (jI kQ 0) (jI kQ 0) (jS (some ⟨W.heap.size,0,none⟩) 2 2)).alloc (.cells (vF y1 on) 33)).drew).heap[w.heap.size+1]? =some (.cells #[jI kQ o,jT ⟨#[]⟩,jI kQ 0,jI kQ 0,jS (some ⟨W.heap.size,0,none⟩) 2 2] 33 (0,0)):=
 (rG _ _ (by rw[yJ];exact h.s.pre.lt)).trans (yA h.s.pre.b4)
end
end
theorem zRT {p:Nat->Bool} {w:World} {a:Option Addr} {ar:Fs} (hf:FArgs (dim p w) a ar) (hr:ArL ar):∀W,Gr w W->∀k,k<ar.len->∃(b o:Nat) (y:Fe),a=some ⟨b,o,none⟩/\
  W.cell? ⟨b,o+k*5,none⟩=some (jI kQ y.op)/\W.cell? ⟨b,o+k*5+1,none⟩=some (jT y.nm)/\W.cell? ⟨b,o+k*5+2,none⟩=some (jI kQ y.v)/\W.cell? ⟨b,o+k*5+3,none⟩=some (jI kQ y.bd)/\W.cell? ⟨b,o+k*5+4,none⟩=some (jS y.a y.args.len y.c)/\
  (∀W',Gr w W'->∀M,w.heap.size<=M->y.ok (dim (orP (orP p (w.heap.size+1)) M) W'))/\y.ar/\y.args.nodes<ar.nodes/\ar.drop k=.cons y.op y.nm y.v y.bd y.args (ar.drop (k+1)):=fun W hW k hk=>by
 obtain⟨b1,o1,y,e,hb1,hdy,hyo,hyn,c0,c1,c2,c3,c4⟩:=hf.elem hk;have hs:Sub (dim p w) W:=(vM hW fun _ h=>h).trans (vS p W);exact⟨b1,o1,y,e,hs.cell c0,hs.cell c1,hs.cell c2,hs.cell c3,hs.cell c4,fun W' hW' M hM=>Fe.ok_sub _ _ _ (zE hW'.1.size fun q hq hp=>⟨zD.2 ⟨zD.2 ⟨hp,by omega⟩,by omega⟩,hW'.1.block q hq⟩) hyo,hr.at hdy,hyn,hdy⟩
def zQf (mb n:Nat):Prop:=∀(p:Nat->Bool) (x:Fe) (w:World),(∀k,w.heap.size<=k->p k=false)->AMap w mb KStr KInt->x.args.nodes<n->x.args.nodes<=1000000000->x.ok (dim p w)->x.ar->Calls rC 436 #[.map (some mb),jG x] w (FmR p w (fun z=>z.args.nodes+1<=zBw x.args.nodes))
theorem zNy {mb n:Nat} (IH:zQf mb n) (p:Nat->Bool) (x:Fe) (w:World) (hpp:∀k,w.heap.size<=k->p k=false) (hm:AMap w mb KStr KInt) (hn:x.args.nodes<=n) (h9:x.args.nodes<=1000000000) (hx:x.ok (dim p w)) (hr:x.ar):
  Calls rC 436 #[.map (some mb),jG x] w (FmR p w (fun z=>z.args.nodes+1<=zBw x.args.nodes)):=by
 have HX:=rA hx;have HXU:=rA (Fe.ok_up hx);have HXR:=rA hr;have HM:=rA hm;have HPP:=rA hpp;have HI:=rA IH;have HN:=rA hn;have HN9:=rA h9;have HE:=rA (zRT hx.1 hr.2);have hL9:x.args.len<=1000000000:=rO (Fs.len_le _) h9;have HRB:=rA (zIx x.args.nodes);clear IH hx hr hm hpp hn h9;go_enter Tryz.func436,Tryz.ntmps436;go_upto_region 1 with fail;have HW:Hid (∀W,W=(w.alloc (.cells x 33)).alloc (.cells zO 33)->RwP w W x):=rA fun W e=>by
  subst e;have s1:(w.alloc (.cells x 33)).heap.size=w.heap.size+1:=by simp
  exact⟨(Gr.alloc _ _).trans (Gr.alloc _ _),(rG _ _ (by simp)).trans (rI w _),by rw[<-s1,rI]⟩
 unfold zO at HW;have HP1:=rA (HW.out _ rfl);clear HW;generalize (w.alloc _).alloc _=w1 at*;obtain⟨q0,q1,q2,q3,q4, -⟩:=zA HP1.out.b3;have HC:=rA (zAb (Fe.ok_keep HXU.out HP1.out.gr.1));go_wp2_with fail;refine HC.out.mono ?_;rintro e w2 ⟨rfl,hg2⟩;have HP2:=rA (HP1.out.gr' hg2);clear HC hg2 q0 q1 q2 q3 q4 HP1;obtain⟨q0,q1,q2,q3,q4, -⟩:=zA HP2.out.b3;cases x.past with
 |true=>
  have HC:=rA (zDc (HM.out.gr HP2.out.gr) (Fe.ok_keep HXU.out HP2.out.gr.1) HXR.out);go_wp2_with fail;refine HC.out.mono ?_;rintro e w3 ⟨b,rfl,hg3⟩;have HP3:=rA (HP2.out.gr' hg3);clear HC hg3 q0 q1 q2 q3 q4 HP2;obtain⟨k40,k41,k42,k43,k44,f40,f41,f42,f43,f44⟩:=HP3.out.cells4;have HEND:Hid (∀o:Int,FmR p w (fun z=>z.args.nodes+1<=zBw x.args.nodes) (jR (jG #[jI kQ o,jT ⟨#[]⟩,jI kQ 0,jI kQ 0,jS none 0 0])) (put5 w3 (w.heap.size+1) (jI kQ o) (jT ⟨#[]⟩) (jI kQ 0) (jI kQ 0) (jS none 0 0))):=rA fun o=>HP3.out.fin (z:=⟨o,⟨#[]⟩,0,0,.nil,none,0⟩) ⟨fun h=>absurd rfl h,(by decide:(⟨#[]⟩:ByteArray).size<=9223372036854775807),rR _,rR _⟩ (by have:=HRB.out;simp only[Fs.nodes];omega)
  have hE:=rA (fun o:Int=>HP3.out.out (jI kQ o) (jT ⟨#[]⟩) (jI kQ 0) (jI kQ 0) (jS none 0 0));cases b with
  |true=>
   go_wp2_with fail;exact rP (zGc rfl (hE.out _)) rfl (HEND.out _)
  |false=>
   go_wp2_with fail;exact rP (zGc rfl (hE.out _)) rfl (HEND.out _)
 |false=>
  by_cases h8:x.op=8
  ·have d8:(x.op==(8:Int))=true:=by simpa using h8
   have HL1:Hid (x.args.len=1):=rA (HXR.out.1.1 (.inr (.inl h8)));clear h8;obtain⟨b1,o1,y,hxa,c0,c1,c2,c3,c4,hyo,hyr,hyn,hnt⟩:=HE.out w2 HP2.out.gr 0 (by have:=HL1.out;omega);rw[hxa] at q4;simp only[r9,rV] at c0 c1 c2 c3 c4;have hlt:(0:Int)<(x.args.len:Int):=by have:=HL1.out;omega
   have HYN:=rA hyn;have HC:=rA (zIr (p:=orP p (w.heap.size+1)) (fun k hk=>zD.2 ⟨HPP.out k (rO HP2.out.gr.1.size hk),by have:=HP2.out.lt;omega⟩) (HM.out.gr HP2.out.gr) (by have:=HN9.out;omega) (Fe.ok_sub _ _ _ (zE (rD _) fun k _ hk=>⟨(zD.1 hk).1,rfl⟩) (hyo w2 HP2.out.gr (w.heap.size+1) (by omega))) hyr);clear hyo hyr hyn hnt hxa;go_wp2_with fail;refine HC.out.mono ?_;rintro e w3 ⟨z,rfl,hz,hzn,hg3⟩;have HP3:=rA (HP2.out.gr' hg3);have HEND:=rA (HP3.out.fin (P:=fun z=>z.args.nodes+1<=zBw x.args.nodes) hz (by have:=HRB.out;have:=HYN.out;show z.args.nodes+1<=_;omega));have hE:=rA (HP3.out.out (jI kQ z.op) (jT z.nm) (jI kQ z.v) (jI kQ z.bd) (jS z.a z.args.len z.c));clear hg3 hz hzn HC q0 q1 q2 q3 q4 c0 c1 c2 c3 c4;obtain⟨k40,k41,k42,k43,k44,f40,f41,f42,f43,f44⟩:=HP3.out.cells4;go_wp2_with fail;exact rP (zGc rfl hE.out) rfl HEND.out
  have d8:(x.op==(8:Int))=false:=by simpa using h8
  clear h8;have hmk:∀W:World,(Instr.makeSlice 31 (jI kQ (x.args.len:Int)) (jI kQ (x.args.len:Int))).run rC W=.ok (jS (some ⟨W.heap.size,0,none⟩) x.args.len x.args.len) (W.alloc (.cells (madeCells zO (x.args.len*5)) 33)):=zGR hL9;go_upto_region 8 with fail;clear hmk;have HS0:Hid (RwS p w (w2.alloc (.cells (madeCells zO (x.args.len*5)) 33)) w2.heap.size x []):=rA ⟨HP2.out.gr' (Gr.alloc _ _),FmB.made _ _ _ (size_madeCells _ _),HP2.out.lt⟩;generalize hM:w2.heap.size=M at*;generalize w2.alloc (.cells (madeCells zO (x.args.len*5)) 33)=w8 at*;clear q0 q1 q2 q3 q4;obtain⟨q0,q1,q2,q3,q4, -⟩:=zA HS0.out.pre.b3;go_wp2_with fail;go_loopw [34] (fun i wr=>∃(k:Nat) (A:List Fe),k<=x.args.len/\i=jI kQ k/\Hid (RwS p w wr M x A/\A.length=k/\(Fe.forest A).nodes<=zCD x.args k)) (fun i _=>x.args.len - (intOf i).toNat)
  case atStart=>exact⟨0,[],rR _,rfl,rA ⟨HS0.out,rfl,by simp[Fe.forest,Fs.nodes]⟩⟩
  case round=>
   clear q0 q1 q2 q3 q4 HS0 HP2;obtain⟨k,A,hk,rfl,HR⟩:=hrel;by_cases hlt:k<x.args.len;rotate_left
   ·have hd:=dF hlt
    obtain⟨q0,q1,q2,q3,q4, -⟩:=zA HR.out.1.pre.b3;obtain⟨k40,k41,k42,k43,k44,f40,f41,f42,f43,f44⟩:=HR.out.1.pre.cells4;have hkl:k=x.args.len:=by omega
    by_cases h9:x.op=9∨x.op=10;rotate_left
    ·have d9:(x.op==(9:Int))=false:=by simp only[beq_eq_false_iff_ne];omega
     have d10:(x.op==(10:Int))=false:=by simp only[beq_eq_false_iff_ne];omega
     have HEND:=rA (HR.out.1.dflt HPP.out (HR.out.2.1.trans hkl) (by have:=HR.out.2.2;rw[hkl] at this;exact this) hL9);have hE:=rA (HR.out.1.pre.out (jI kQ x.op) (jT ⟨#[]⟩) (jI kQ 0) (jI kQ 0) (jS (some ⟨M,0,none⟩) x.args.len x.args.len));clear h9 hkl;go_wp2_with fail;exact rP (zGc rfl hE.out) rfl HEND.out
    have HL2:Hid (x.args.len=2):=rA (HXR.out.1.2 (by omega));obtain⟨y0,y1,rfl⟩:∃y0 y1,A=[y0,y1]:=by
     have h1:=HR.out.2.1;have h2:=HL2.out
     match A,h1 with
     |[a,b],_=>exact⟨a,b,rfl⟩
     |[],h1=>simp at h1;omega
     |[_],h1=>simp at h1;omega
     |_::_::_::_,h1=>simp at h1;omega
    obtain⟨⟨m0,m1,m2,m3,m4⟩,m5,m6,m7,m8,m9⟩:=HR.out.1.two;have hl0:(0:Int)<(x.args.len:Int):=by have:=HL2.out;omega
    have hl1:(1:Int)<(x.args.len:Int):=by have:=HL2.out;omega
    have HRS:=rA HR.out.1;have HNB:Hid (y0.args.nodes+y1.args.nodes+2<=x.args.nodes*(x.args.nodes+2)):=rA (by
     have h1:=HR.out.2.2;have h2:=zG8 x.args k;simp only[Fe.forest,Fs.nodes] at h1;omega)
    clear hkl HR;have HC1:Hid (Calls rC 438 #[.map (some mb),jG x] (wr.drewN 1) (FmR (orP p (w.heap.size+1)) (wr.drewN 1) (fun z=>z.args.nodes=x.args.nodes))):=rA (by
     have hg:Gr w (wr.drewN 1):=HRS.out.pre.gr.trans (Gr.drawn _ 1);have hl:=HRS.out.pre.lt;exact zIr (fun q hq=>zD.2 ⟨HPP.out q (rO hg.1.size hq),by have:wr.heap.size<=q:=hq;omega⟩) (HM.out.gr hg) HN9.out (Fe.ok_sub _ _ _ (zFd hg) HX.out) HXR.out)
    have HC2:Hid (Calls rC 438 #[.map (some mb),jG x] ((wr.drewN 1).alloc (.cells zO 33)) (FmR (orP (orP p (w.heap.size+1)) wr.heap.size) ((wr.drewN 1).alloc (.cells zO 33)) (fun z=>z.args.nodes=x.args.nodes))):=rA (by
     have hg:Gr w ((wr.drewN 1).alloc (.cells zO 33)):=(HRS.out.pre.gr.trans (Gr.drawn _ 1)).trans (Gr.alloc _ _);have hl:=HRS.out.pre.lt;have hz:((wr.drewN 1).alloc (.cells zO 33)).heap.size=wr.heap.size+1:=by show(World.alloc _ _).heap.size=_;simp
     exact zIr (fun q hq=>zD.2 ⟨zD.2 ⟨HPP.out q (rO hg.1.size hq),by rw[hz] at hq;omega⟩,by rw[hz] at hq;omega⟩) (HM.out.gr hg) HN9.out (Fe.ok_sub _ _ _ (zE hg.1.size fun k hk hp=>⟨zD.2 ⟨zD.2 ⟨hp,by omega⟩,by omega⟩,hg.1.block k hk⟩) HX.out) HXR.out)
    have HG1:Hid (∀w5,Gr (wr.drewN 1) w5->(w5.cell? ⟨M,0,none⟩=some (jI kQ y0.op)/\w5.cell? ⟨M,1,none⟩=some (jT y0.nm)/\w5.cell? ⟨M,2,none⟩=some (jI kQ y0.v)/\w5.cell? ⟨M,3,none⟩=some (jI kQ y0.bd)/\w5.cell? ⟨M,4,none⟩=some (jS y0.a y0.args.len y0.c))/\(w5.cell? ⟨w.heap.size,0,none⟩=some (jI kQ x.op)/\w5.cell? ⟨w.heap.size,1,none⟩=some (jT x.nm)/\w5.cell? ⟨w.heap.size,2,none⟩=some (jI kQ x.v)/\w5.cell? ⟨w.heap.size,3,none⟩=some (jI kQ x.bd)/\w5.cell? ⟨w.heap.size,4,none⟩=some (jS x.a x.args.len x.c)/\True)):=rA fun w5 hg=>by
     have hS:=HRS.out.gr' ((Gr.drawn wr 1).trans hg);obtain⟨s0,s1,s2,s3,s4, -⟩:=zA hS.pre.b3;exact⟨hS.two.1,s0,s1,s2,s3,s4,trivial⟩
    have HG2:Hid (∀w5,Gr ((wr.drewN 1).alloc (.cells zO 33)) w5->((w5.cell? ⟨M,0,none⟩=some (jI kQ y0.op)/\w5.cell? ⟨M,1,none⟩=some (jT y0.nm)/\w5.cell? ⟨M,2,none⟩=some (jI kQ y0.v)/\w5.cell? ⟨M,3,none⟩=some (jI kQ y0.bd)/\w5.cell? ⟨M,4,none⟩=some (jS y0.a y0.args.len y0.c))/\(w5.cell? ⟨w.heap.size,0,none⟩=some (jI kQ x.op)/\w5.cell? ⟨w.heap.size,1,none⟩=some (jT x.nm)/\w5.cell? ⟨w.heap.size,2,none⟩=some (jI kQ x.v)/\w5.cell? ⟨w.heap.size,3,none⟩=some (jI kQ x.bd)/\w5.cell? ⟨w.heap.size,4,none⟩=some (jS x.a x.args.len x.c)/\True))/\
      w5.cell? ⟨wr.heap.size,0,none⟩=some (jI kQ 0)/\w5.cell? ⟨wr.heap.size,1,none⟩=some (jT ⟨#[]⟩)/\w5.cell? ⟨wr.heap.size,2,none⟩=some (jI kQ 0)/\w5.cell? ⟨wr.heap.size,3,none⟩=some (jI kQ 0)/\w5.cell? ⟨wr.heap.size,4,none⟩=some (jS none 0 0)/\w5.frozen? ⟨wr.heap.size,0,none⟩=false/\w5.frozen? ⟨wr.heap.size,1,none⟩=false/\w5.frozen? ⟨wr.heap.size,2,none⟩=false/\w5.frozen? ⟨wr.heap.size,3,none⟩=false/\w5.frozen? ⟨wr.heap.size,4,none⟩=false/\wr.heap.size≠w5.heap.size/\wr.heap.size<w5.heap.size):=rA fun w5 hg=>by
     have hb:=(hg.1.block wr.heap.size (by simp)).trans (rI (wr.drewN 1) _);have hl:=(Array.getElem?_eq_some_iff.1 hb).1;obtain⟨g0,g1,g2,g3,g4,g5,g6,g7,g8,g9⟩:=zA hb;exact⟨HG1.out w5 ((Gr.alloc _ _).trans hg),g0,g1,g2,g3,g4,g5,g6,g7,g8,g9,by omega,hl⟩
    have hn0:0<x.args.len:=by have:=HL2.out;omega
    have hn1:1<x.args.len:=by have:=HL2.out;omega
    have ne1:wr.heap.size≠M:=by have:=HRS.out.row.lt;omega
    have ne2:wr.heap.size≠w.heap.size:=by have:=HRS.out.pre.lt;omega
    have ne3:M≠wr.heap.size:=ne1.symm;have ne4:w.heap.size≠wr.heap.size:=ne2.symm;unfold zO at HC2 HG2;clear m5 m6 m7 m8 m9;rcases h9 with h9|h9
    case' inl=>
     have d9:(x.op==(9:Int))=true:=by simpa using h9
     clear h9;go_upto_region 19 with fail
    case' inr=>
     have d9:(x.op==(9:Int))=false:=by simp[h9]
     have d10:(x.op==(10:Int))=true:=by simpa using h9
     clear h9;go_upto_region 19 with fail
    all_goals
     clear k40 k41 k42 k43 k44 f40 f41 f42 f43 f44 hM;have hsz:(wr.drewN 1).heap.size=wr.heap.size:=rfl;go_cut [10] from 58 to 66 (fun t wx=>∃(g:Nat) (on:Fe),t=jP (some ⟨g,0,none⟩)/\Hid (on.args.nodes<=y0.args.nodes+x.args.nodes+2/\RwU p w wx M x y0 y1 on g))
     case first=>
      go_region_held3 (fun w'=>w'.cell? ⟨M,0,none⟩=some (jI kQ y0.op)/\w'.cell? ⟨M,1,none⟩=some (jT y0.nm)/\w'.cell? ⟨M,2,none⟩=some (jI kQ y0.v)/\w'.cell? ⟨M,3,none⟩=some (jI kQ y0.bd)/\w'.cell? ⟨M,4,none⟩=some (jS y0.a y0.args.len y0.c)/\w'.cell? ⟨w.heap.size,0,none⟩=some (jI kQ x.op)/\w'.cell? ⟨w.heap.size,1,none⟩=some (jT x.nm)/\w'.cell? ⟨w.heap.size,2,none⟩=some (jI kQ x.v)/\w'.cell? ⟨w.heap.size,3,none⟩=some (jI kQ x.bd)/\w'.cell? ⟨w.heap.size,4,none⟩=some (jS x.a x.args.len x.c)) (go_keep)
       (first
        |(go_at_call 438;refine(HC1.out).mono ?_;rintro e' w5 ⟨z,rfl,hz⟩;obtain⟨⟨r0,r1,r2,r3,r4⟩,s0,s1,s2,s3,s4, -⟩:=HG1.out w5 hz.2.2;have HZ:=rA hz;clear hz)
        |(go_at_call 438;refine(HC2.out).mono ?_;rintro e' w5 ⟨z,rfl,hz⟩;obtain⟨⟨⟨r0,r1,r2,r3,r4⟩,s0,s1,s2,s3,s4, -⟩,z0,z1,z2,z3,z4,f0,f1,f2,f3,f4,n1,n2⟩:=HG2.out w5 hz.2.2;have HZ:=rA hz;clear hz))
      all_goals
       clear HC1 HC2 HG1 HG2 r0 r1 r2 r3 r4 s0 s1 s2 s3 s4;go_wp2_with fail;go_meet
       first
        |with_reducible exact HRS.out.e1 HPP.out HZ.out
        |with_reducible exact HRS.out.e2 HPP.out HZ.out
        |with_reducible exact HRS.out.e3 HPP.out HZ.out
     case rest=>
      obtain⟨g,on,rfl,HU⟩:=hcut;clear q0 q1 q2 q3 q4 m0 m1 m2 m3 m4 HC1 HC2 HG1 HG2 hsz ne1 ne2 ne3 ne4 HRS;obtain⟨-,m5,m6,m7,m8,m9⟩:=HU.out.2.s.two;obtain⟨k40,k41,k42,k43,k44,f40,f41,f42,f43,f44⟩:=HU.out.2.s.pre.cells4;obtain⟨g0,g1,g2,g3,g4, -⟩:=zA HU.out.2.at';have HEND:=rA (fun o:Int=>HU.out.2.fin (o:=o) HPP.out HU.out.1 HNB.out);have hE:=rA (fun o:Int=>HU.out.2.out (o:=o));have ne1:w.heap.size+1≠wc.heap.size:=by have:=HU.out.2.s.pre.lt;omega
      have ne2:wc.heap.size≠w.heap.size+1:=ne1.symm;have ne3:w.heap.size+1<wc.heap.size:=HU.out.2.s.pre.lt;have ne4:g≠w.heap.size+1:=HU.out.2.ne;have ne5:w.heap.size+1≠g:=ne4.symm;have ne6:w.heap.size+1≠M:=by have:=HU.out.2.s.lt;omega
      have ne7:M≠w.heap.size+1:=ne6.symm;have ne8:M≠wc.heap.size:=by have:=HU.out.2.s.row.lt;omega
      have ne9:g≠wc.heap.size:=by have:=(Array.getElem?_eq_some_iff.1 HU.out.2.at').1;omega
      clear HU HX HXU HXR HM HI HN HN9 HE hL9 HRB HNB;go_wp2_with fail
      go_region_held3 (fun w'=>w'.cell? ⟨M,5,none⟩=some (jI kQ y1.op)/\w'.cell? ⟨M,6,none⟩=some (jT y1.nm)/\w'.cell? ⟨M,7,none⟩=some (jI kQ y1.v)/\w'.cell? ⟨M,8,none⟩=some (jI kQ y1.bd)/\w'.cell? ⟨M,9,none⟩=some (jS y1.a y1.args.len y1.c)/\w'.cell? ⟨g,0,none⟩=some (jI kQ on.op)/\w'.cell? ⟨g,1,none⟩=some (jT on.nm)/\w'.cell? ⟨g,2,none⟩=some (jI kQ on.v)/\w'.cell? ⟨g,3,none⟩=some (jI kQ on.bd)/\w'.cell? ⟨g,4,none⟩=some (jS on.a on.args.len on.c)) (go_keep) (fail)
      all_goals
       go_wp2_with fail;exact rP (zGc rfl (hE.out _)) rfl (HEND.out _)
   have hd:=dT hlt
   obtain⟨b1,o1,y,hxa,c0,c1,c2,c3,c4,hyo,hyr,hyn,hnt⟩:=HE.out wr HR.out.1.pre.gr k hlt;have hkl:(k:Int)<(x.args.len:Int):=by omega
   have HXA:=rA hxa;have HRW:=rA (HR.out.1.gr' (Gr.alloc wr (.cells y 33)));have HAL:=rA (And.intro HR.out.2.1 HR.out.2.2);have HYN:=rA hyn;have HC:Hid (Calls rC 436 #[.map (some mb),jG y] (wr.alloc (.cells y 33)) (FmR (orP (orP p (w.heap.size+1)) M) (wr.alloc (.cells y 33)) (fun z=>z.args.nodes+1<=zBw y.args.nodes))):=rA (by
    have hg:=HRW.out.pre.gr;have hl:=HRW.out.row.lt;have h2:=HRW.out.lt;exact HI.out _ y _ (fun q hq=>zD.2 ⟨zD.2 ⟨HPP.out q (rO hg.1.size hq),by omega⟩,by omega⟩) (HM.out.gr hg) (by have:=HN.out;omega) (by have:=HN9.out;omega) (hyo _ hg M (by omega)) hyr)
   have HST:Hid (∀(w5:World) (z:Fe),Gr (wr.alloc (.cells y 33)) w5->z.ok (dim (orP (orP p (w.heap.size+1)) M) w5)->z.args.nodes+1<=zBw y.args.nodes->(∀j,j<5->(∃u,w5.cell? ⟨M,k*5+j,none⟩=some u)/\w5.frozen? ⟨M,k*5+j,none⟩=false)/\
     RwS p w (set5 w5 M (k*5) (jI kQ z.op) (jT z.nm) (jI kQ z.v) (jI kQ z.bd) (jS z.a z.args.len z.c)) M x (A++[z])/\(A++[z]).length=k+1/\(Fe.forest (A++[z])).nodes<=zCD x.args (k+1)):=rA fun w5 z hg hz hn=>by
    have hS:=HRW.out.gr' hg;have hN:=hS.push hz (by rw[HAL.out.1];exact hlt);rw[HAL.out.1] at hN;refine⟨fun j hj=>⟨hS.row.at (by omega),hS.row.frozen _⟩,hN,by simp[HAL.out.1],?_⟩;rw[Fe.forest_snoc,zGi hnt];have:=HAL.out.2;omega
   clear hyo hyr hyn hnt HR;rw[hxa];clear hxa;go_wp2_with fail;refine HC.out.mono ?_;rintro e w5 ⟨z,rfl,hz,hzn,hg⟩;obtain⟨hmc,hnx⟩:=HST.out w5 z hg hz hzn;obtain⟨⟨u0,m0⟩,g0⟩:=hmc 0 (by omega);obtain⟨⟨u1,m1⟩,g1⟩:=hmc 1 (by omega);obtain⟨⟨u2,m2⟩,g2⟩:=hmc 2 (by omega);obtain⟨⟨u3,m3⟩,g3⟩:=hmc 3 (by omega);obtain⟨⟨u4,m4⟩,g4⟩:=hmc 4 (by omega);rw[rV] at m0 g0;have HNX:=rA hnx;clear hmc hnx hz hzn hg HC HST c0 c1 c2 c3 c4;go_wp2_with fail;go_roundw
   case rel=>exact⟨k+1,A++[z],by omega,by go_num,rA HNX.out⟩
   case measure=>simp[intOf];omega
theorem zQb (mb:Nat):∀n,zQf mb n
 |0=>fun _ _ _ _ _ h=>absurd h (Nat.not_lt_zero _)
 |n+1=>fun p x w hp hm h h9 hx hr=>zNy (zQb mb n) p x w hp hm (Nat.lt_succ_iff.1 h) h9 hx hr
theorem zRs {mb:Nat}{p:Nat->Bool}{x:Fe} (hp:∀k,w.heap.size<=k->p k=false) (hm:AMap w mb KStr KInt) (h9:x.args.nodes<=1000000000) (hx:x.ok (dim p w)) (hr:x.ar):Calls rC 436 #[.map (some mb),jG x] w (FmR p w (fun z=>z.args.nodes+1<=zBw x.args.nodes)):=zQb mb _ p x w hp hm (r5 _) h9 hx hr
def El (U:World):Type:= {x:Fe // x.ok U}
theorem zFk (w:World):Fe.ok w ⟨0,⟨#[]⟩,0,0,.nil,none,0⟩:=⟨fun h=>absurd rfl h,(by decide:(⟨#[]⟩:ByteArray).size<=9223372036854775807),rR _,rR _⟩
instance (U:World):Inhabited (El U):=⟨⟨_,zFk U⟩⟩
def yY {U:World} (x:El U):List Value:=x.1.enc
def zQ {U:World} (x:El U):Fs:=x.1.tree
def zBE {U:World} (x y:El U):Int:=zEv (zQ x) (zQ y)
theorem xQ (x:El U):(yY x).length=5:=rfl
theorem zES (x:El U):∀v∈yY x,v.oneCell'=true:=by
 intro v hv;simp only[yY,Fe.enc,r7,List.not_mem_nil,or_false] at hv;rcases hv with rfl|rfl|rfl|rfl|rfl<;>rfl
theorem zBi {w':World} (h:RowKit.Below w.heap.size w w') (hd:w.drawn<=w'.drawn):∃q os,w'=grow (w.drewN q) os:=by
 refine⟨w'.drawn - w.drawn,w'.heap.extract w.heap.size w'.heap.size,?_⟩;obtain⟨h1,h2,h3,h4,h5⟩:=h;obtain⟨hp,tp,dr,os,out⟩:=w';simp only[grow,World.drewN] at*;subst h1 h2 h3;congr 1
 ·apply Array.ext_getElem?
  intro k;rw[Array.getElem?_append];by_cases hk:k<w.heap.size
  ·rw[if_pos hk];exact h5 k hk
  ·rw[if_neg hk,Array.getElem?_extract]
   by_cases hk2:k<hp.size
   ·rw[if_pos (by omega)]
    congr 1;omega
   ·rw[if_neg (by omega)]
    exact Array.getElem?_eq_none (by omega)
 ·omega
theorem zJ2 (hS:Sub U W) (x y:El U):Calls rC 393 #[jG (yY x).toArray,jG (yY y).toArray] W fun e w'=>e=jR (jI kQ (zBE x y))/\∃q os,w'=grow (W.drewN q) os:=
 (zBl (Fe.ok_sub _ _ _ hS x.2) (Fe.ok_sub _ _ _ hS y.2)).mono fun e w' ⟨he,hb,hd⟩=>⟨he,zBi hb hd⟩
def qF {U:World} (W:World) (blk cap:Nat) (xs:List (El U)):Prop:=
 xs.length<=cap/\∃cs T,W.heap[blk]? =some (.cells cs T (0,0))/\cs.size=cap*5/\∀j (h:j<xs.length) c,c<5->cs[j*5+c]? =(yY xs[j])[c]?
theorem qF.holds {xs:List (El U)} (h:qF W blk cap xs):HoldsK yY 5 W blk 0 xs.toArray:=by
 obtain⟨hl,cs,T,hb,hs,hc⟩:=h;intro j hj;rw[size_flatK] at hj;have hj':j<xs.length*5:=by simpa using hj
 refine⟨?_,by simp[r8,hb]⟩;rw[get_flatK _ _ _ _ hj];have hlt:j / 5<xs.length:=by omega
 have:=hc (j / 5) hlt (j % 5) (by omega);rw[show j / 5*5+j % 5=j by omega] at this;simp only[rE,hb,rAa,id];rw[if_neg (by simp),this];have h2:(xs.toArray[j / 5]!)=xs[j / 5]:=by simp[hlt]
 rw[h2,getElem!_pos _ _ (by rw[xQ];omega),rB]
theorem qF.sorted {xs:List (El U)} {d:Array (El U)} (h:qF W blk cap xs) (hd:d.size=xs.length):qF (sortWorldK yY 5 W blk 0 m d os) blk cap d.toList:=by
 have hblk:blk<W.heap.size:=by
  obtain⟨_,cs,T,hb,_⟩:=h;exact(Array.getElem?_eq_some_iff.1 hb).1
 have hH:=holdsK_sortWorldK yY 5 W blk 0 m xs.toArray d os hblk h.holds (by simpa using hd);obtain⟨hl,cs,T,hb,hs,hc⟩:=h;have hb':(sortWorldK yY 5 W blk 0 m d os).heap[blk]? =some (.cells (putCells id 0 (flatK yY 5 d) cs) T (0,0)):=by
  unfold sortWorldK putRowK putRow;rw[heap_grow_old _ _ (by simp[mapBlock];exact hblk)];simp only[mapBlock,rX,if_true];rw[show(Sort.ahead W m).heap[blk]? =_ from hb];rfl
 refine⟨by simp[hd,hl],_,T,hb',by simp[putCells,hs],fun j hj c hc5=>?_⟩;have hj':j<d.size:=by simpa using hj
 have:=(HoldsK.cell hH hj' hc5).1;simp only[rE,hb',rAa] at this;rw[if_neg (by simp)] at this;rw[this];have h2:d[j]! =d.toList[j]:=by simp[hj']
 rw[h2,getElem!_pos _ _ (by rw[xQ];omega),rB]
theorem zDr {d:Array (El U)}:Fr (only blk) W.heap.size W (sortWorldK yY 5 W blk 0 m d os):=by
 refine⟨rfl,rfl,rfl,size_sortWorldK_c yY 5 W blk 0 m d os,fun k hk hne=>?_⟩;unfold sortWorldK putRowK putRow;rw[heap_grow_old _ _ (by simp[mapBlock];exact hk)];simp only[mapBlock,rX];rw[if_neg (by intro e;subst e;simp[only] at hne)];rfl
theorem zN5 {W':World} (hU:Sub U (dim (only blk) W)) (hF:Fr (only blk) W.heap.size W W'):Sub U (dim (only blk) W'):=
 hU.trans (zE hF.size fun k hk hp=>⟨hp,hF.block k hk hp⟩)
theorem zQA {n:Nat} (hU:Sub U (dim (only blk) W)):CmpLays rC 393 #[] yY 5 (zBE (U:=U)) blk 0 n W:=fun m os dk _ x y=>by
 simpa using zJ2 ((zN5 hU zDr).trans (vS _ _)) x y
theorem zPe {xs:List (El U)} (hU:Sub U (dim (only blk) W)) (h:qF W blk cap xs) (hsz:xs.length<4611686018427387904):
  Calls rC 270 #[jS (some ⟨blk,0,none⟩) xs.length cap,.func (.func 393) #[] #[]] W fun e w'=>
   e=jR (jU #[])/\∃ys:List (El U),ys.Perm xs/\(∀i j (hi:i<j) (hj:j<ys.length),0<=zBE ys[j] (ys[i]'(Nat.lt_trans hi hj)))/\qF w' blk cap ys/\Fr (only blk) W.heap.size W w'/\W.drawn<=w'.drawn:=by
 have hblk:blk<W.heap.size:=by
  obtain⟨_,cs,T,hb,_⟩:=h;exact(Array.getElem?_eq_some_iff.1 hb).1
 have hS:=AnyQ.slices_SortFunc Tryz.sortF 5 (fun w=>Tryz.isAgg33 w) (fun w=>Tryz.sizeOf33 w) yY xQ zES zBE (zOv zQ) 393 #[] blk 0 cap xs.toArray W (enters_of Tryz.func393 (by kernel_rfl) rfl) (zQA hU) h.holds hblk (by simpa using hsz);refine(show Calls rC 270 _ W _ from hS).mono ?_;rintro e w' ⟨rfl,d,n,os,hp,hs,rfl⟩;obtain⟨p1, -,p3⟩:=hp;have hds:d.size=xs.length:=by simpa using p1
 refine⟨rfl,d.toList,?_,fun i j hij hj=>?_,h.sorted hds,zDr,?_⟩
 ·have e1:d.extract 0 xs.toArray.size=d:=by rw[<-p1];exact Array.extract_size
  have e2:xs.toArray.extract 0 xs.toArray.size=xs.toArray:=Array.extract_size;rw[e1,e2] at p3;exact p3
 ·have hj':j<d.size:=by simpa using hj
  have:=hs i j (rR _) hij (by simpa[hds] using hj');simp only[ltOf] at this
  simpa[hj',Nat.lt_trans hij hj'] using this
 ·unfold sortWorldK
  show W.drawn<=W.drawn+n;exact Nat.le_add_right _ _
theorem zBU {U W:World} (h:Sub U W) (n:Nat) (os:Array Obj):Sub U (grow (W.drewN n) os):=
 ⟨rO h.size (by simp[grow,World.drewN]),fun k cs T f e=>(heap_grow_old (W.drewN n) os (Array.getElem?_eq_some_iff.1 (h.blk k cs T f e)).1).trans (h.blk k cs T f e)⟩
theorem zMR {U W:World} (hS:Sub U W) (x y:El U):
  Calls rC 440 #[jG (yY x).toArray,jG (yY y).toArray] W fun e w'=>e=jR (jB (decide (zBE x y=0)))/\∃q os,w'=grow (W.drewN q) os:=by
 have HC:Hid (∀W',Gr W W'->Calls rC 393 #[jG (yY x).toArray,jG (yY y).toArray] W' fun e w'=>e=jR (jI kQ (zBE x y))/\Gr W' w'):=rA fun W' hg=>(zBl (Fe.ok_keep (Fe.ok_sub _ _ _ hS x.2) hg.1) (Fe.ok_keep (Fe.ok_sub _ _ _ hS y.2) hg.1)).mono fun e w' h=>h
 generalize hcc:zBE x y=k at*;clear hcc hS;obtain⟨⟨op,nm,v,bd,f,a,c⟩,hx⟩:=x;obtain⟨⟨op',nm',v',bd',g,a',c'⟩,hy⟩:=y;simp only[yY,Fe.enc] at HC ⊢;clear hx hy;have HG:Hid (Gr W ((W.alloc (.cells #[jI kQ op,jT nm,jI kQ v,jI kQ bd,jS a f.len c] 33)).alloc (.cells #[jI kQ op',jT nm',jI kQ v',jI kQ bd',jS a' g.len c'] 33))):=rA ((Gr.alloc _ _).trans (Gr.alloc _ _));have k0:((W.alloc (.cells #[jI kQ op,jT nm,jI kQ v,jI kQ bd,jS a f.len c] 33)).alloc (.cells #[jI kQ op',jT nm',jI kQ v',jI kQ bd',jS a' g.len c'] 33)).heap[W.heap.size]? =some (.cells #[jI kQ op,jT nm,jI kQ v,jI kQ bd,jS a f.len c] 33 (0,0)):=(rG _ _ (by simp)).trans (rI _ _);have k1:((W.alloc (.cells #[jI kQ op,jT nm,jI kQ v,jI kQ bd,jS a f.len c] 33)).alloc (.cells #[jI kQ op',jT nm',jI kQ v',jI kQ bd',jS a' g.len c'] 33)).heap[W.heap.size+1]? =some (.cells #[jI kQ op',jT nm',jI kQ v',jI kQ bd',jS a' g.len c'] 33 (0,0)):=xH (by simp) _;go_enter Tryz.func440,Tryz.ntmps440;go_wp2_with fail;generalize (W.alloc (.cells #[jI kQ op,jT nm,jI kQ v,jI kQ bd,jS a f.len c] 33)).alloc (.cells #[jI kQ op',jT nm',jI kQ v',jI kQ bd',jS a' g.len c'] 33)=W1 at*;have c10:∀i,W1.cell? ⟨W.heap.size,i,none⟩=(#[jI kQ op,jT nm,jI kQ v,jI kQ bd,jS a f.len c]:Array Value)[i]? :=fun i=>by simp[rE,k0]
 have c20:∀i,W1.cell? ⟨W.heap.size+1,i,none⟩=(#[jI kQ op',jT nm',jI kQ v',jI kQ bd',jS a' g.len c']:Array Value)[i]? :=fun i=>by simp[rE,k1]
 clear k0 k1;go_wp2_with fail;refine(HC.out _ HG.out).mono ?_;rintro e w' ⟨rfl,hg⟩;have HG2:=rA (HG.out.trans hg);clear hg HC c10 c20;go_wp2_with fail;go_ret;exact⟨congrArg (fun b=>Ending.returned (jB b)) (show(k==0)=decide (k=0) from rfl),zBi HG2.out.1 HG2.out.2⟩
theorem qF.grow {U W:World} {blk cap:Nat} {xs:List (El U)} (h:qF W blk cap xs) (n:Nat) (os:Array Obj):qF (grow (W.drewN n) os) blk cap xs:=by
 obtain⟨hl,cs,T,hb,hs,hc⟩:=h;exact⟨hl,cs,T,(heap_grow_old (W.drewN n) os (Array.getElem?_eq_some_iff.1 hb).1).trans hb,hs,hc⟩
theorem qF.lt {U W:World} {blk cap:Nat} {xs:List (El U)} (h:qF W blk cap xs):blk<W.heap.size:=by
 obtain⟨_,cs,T,hb,_⟩:=h;exact(Array.getElem?_eq_some_iff.1 hb).1
theorem zJA {U:World} (x:El U):∃u0 u1 u2 u3 u4,yY x=[u0,u1,u2,u3,u4]:=⟨_,_,_,_,_,rfl⟩
theorem qF.load {U W:World} {blk cap:Nat} {xs:List (El U)} (h:qF W blk cap xs) (j:Nat) (x:El U) (hx:xs[j]? =some x) {u0 u1 u2 u3 u4:Value} (hu:yY x=[u0,u1,u2,u3,u4]):
  (∀n os,(Sort.grow (W.drewN n) os).cell? ⟨blk,j*5,none⟩=some u0)/\(∀n os,(Sort.grow (W.drewN n) os).cell? ⟨blk,j*5+1,none⟩=some u1)/\(∀n os,(Sort.grow (W.drewN n) os).cell? ⟨blk,j*5+2,none⟩=some u2)/\
   (∀n os,(Sort.grow (W.drewN n) os).cell? ⟨blk,j*5+3,none⟩=some u3)/\(∀n os,(Sort.grow (W.drewN n) os).cell? ⟨blk,j*5+4,none⟩=some u4):=by
 obtain⟨hj,rfl⟩:=List.getElem?_eq_some_iff.1 hx;have key:∀n os c u,c<5->[u0,u1,u2,u3,u4][c]? =some u->(Sort.grow (W.drewN n) os).cell? ⟨blk,j*5+c,none⟩=some u:=fun n os c u hc he=>by
  obtain⟨hl,cs,T,hb,hs,hcc⟩:=h.grow n os;have:=hcc j hj c hc;rw[hu,he] at this;simp[rE,hb,this]
 exact⟨fun n os=>key n os 0 _ (by omega) rfl,fun n os=>key n os 1 _ (by omega) rfl,fun n os=>key n os 2 _ (by omega) rfl,fun n os=>key n os 3 _ (by omega) rfl,fun n os=>key n os 4 _ (by omega) rfl⟩
def zIF {α:Type} [Inhabited α] (d:Array α) (kp:Nat->Bool) (m:Nat):List α:=((List.range m).filter kp).map (d[·]!)
section
variable {α:Type} [Inhabited α]
theorem zAc (d:Array α) (kp:Nat->Bool) (m:Nat):zIF d kp (m+1)=zIF d kp m++(if kp m then [d[m]!] else []):=by
 unfold zIF;rw[List.range_succ,List.filter_append,List.map_append];congr 1;by_cases h:kp m<;>simp[h]
theorem zDv (d:Array α) (kp:Nat->Bool) (m:Nat) (h:∀j,j<m->kp j=true):zIF d kp m=(List.range m).map (d[·]!):=by
 unfold zIF;rw[List.filter_eq_self.2 (fun j hj=>h j (List.mem_range.1 hj))]
structure CI (d:Array α) (kp:Nat->Bool) (m k:Nat) (dk:Array α):Prop where
 size:dk.size=d.size
 len:(zIF d kp m).length=k
 lt:k<m
 low:∀j,j<k->(zIF d kp m)[j]? =some dk[j]!
 high:∀j,k<=j->dk[j]! =d[j]!
theorem CI.start {d:Array α} {kp:Nat->Bool} {k0:Nat} (hall:∀j,j<k0->kp j=true) (hdup:kp k0=false):CI d kp (k0+1) k0 d where
 size:=rfl
 len:=by rw[zAc,hdup,zDv d kp k0 hall];simp
 lt:=r5 _
 low:=fun j hj=>by rw[zAc,hdup,zDv d kp k0 hall];simp[hj]
 high:=fun _ _=>rfl
theorem CI.keep {d dk:Array α} {kp:Nat->Bool} {m k:Nat} (h:CI d kp m k dk) (hm:m<d.size) (hk:kp m=true):CI d kp (m+1) (k+1) (dk.setIfInBounds k d[m]!) where
 size:=by simp[h.size]
 len:=by rw[zAc,hk];simp[h.len]
 lt:=by have:=h.lt;omega
 low:=fun j hj=>by
  rw[zAc,hk,if_pos rfl];by_cases e:j=k
  ·subst e
   rw[rN (by rw[h.len];exact rD _),h.len,Nat.sub_self,getElem!_set_same dk j _ (by have:=h.lt;have:=h.size;omega)];rfl
  ·rw[rK (by rw[h.len];omega),h.low j (by omega),getElem!_set_other dk k j _ e]
 high:=fun j hj=>by rw[getElem!_set_other dk k j _ (by omega),h.high j (by omega)]
theorem CI.skip {d dk:Array α} {kp:Nat->Bool} {m k:Nat} (h:CI d kp m k dk) (hk:kp m=false):CI d kp (m+1) k dk where
 size:=h.size
 len:=by rw[zAc,hk];simpa using h.len
 lt:=by have:=h.lt;omega
 low:=fun j hj=>by rw[zAc,hk];simpa using h.low j hj
 high:=h.high
end
def kpE {U:World} (d:Array (El U)) (j:Nat):Bool:=decide (j=0∨zBE d[j]! d[j - 1]!≠0)
def zGy {U:World} (xs:List (El U)):List (El U):=zIF xs.toArray (kpE xs.toArray) xs.length
theorem qF.set {U W:World} {blk cap:Nat} {xs:List (El U)} (h:qF W blk cap xs) (i:Nat) (x:El U):qF (W.setCells blk (i*5) (yY x)) blk cap (xs.set i x):=by
 obtain⟨hl,cs,T,hb,hs,hc⟩:=h;have hb':(W.setCells blk (i*5) (yY x)).heap[blk]? =some (.cells (setMany cs (i*5) (yY x)) T (0,0)):=by
  have:∀(vs:List Value) (W:World) (cs:Array Value) (s:Nat),W.heap[blk]? =some (.cells cs T (0,0))->(W.setCells blk s vs).heap[blk]? =some (.cells (setMany cs s vs) T (0,0)):=by
   intro vs;induction vs with
   |nil=>intro W cs s h;exact h
   |cons v r ih=>intro W cs s h;exact ih _ _ _ (heap_setCell_same W blk s cs T v h)
  exact this _ _ _ _ hb
 refine⟨by simpa using hl,_,T,hb',by simp[hs],fun j hj c hc5=>?_⟩;have hj':j<xs.length:=by simpa using hj
 have hlt:j*5+c<cs.size:=by omega
 have g:=get_setMany (yY x) (i*5) cs (j*5+c) hlt;rw[xQ] at g;rw[getElem!_pos _ _ (by simpa using hlt)] at g;rw[rW (by simpa using hlt),g,List.getElem_set];by_cases e:i=j
 ·subst e
  have e1:i*5+c - i*5=c:=by omega
  rw[if_pos (by omega),if_pos rfl,e1,getElem!_pos _ _ (by rw[xQ];omega),rB (by rw[xQ];omega)]
 ·rw[if_neg (by omega),if_neg e,getElem!_pos cs _ hlt,<-hc j hj' c hc5,rW hlt]
variable {xs:List (El U)}
theorem zF4 {l m r:List Value}{j:Nat} (h:j<l.length):(l++m++r)[j]? =l[j]? :=by
 rw[rZ,rK h]
def zCe (cs:Array Value) (i n:Nat):Array Value:=(cs.toList.take (i*5)++(rH zO n).toList++cs.toList.drop (i*5+(rH zO n).toList.length)).toArray
theorem zFs (n:Nat):(rH zO n).toList.length=n*5:=by simp[rH,zO]
theorem zMZ (n:Nat):∀v∈(rH zO n).toList,v.oneCell'=true:=by
 intro v hv;simp only[rH,Array.toList_map,List.mem_map] at hv;obtain⟨i, -,rfl⟩:=hv;have h5:i % zO.size<5:=Nat.mod_lt _ (by decide);generalize i % zO.size=r at h5
 match r,h5 with
 |0,_|1,_|2,_|3,_|4,_=>rfl
theorem zPa {c:Nat} (ty:TypeId) (hb:W.heap[blk]? =some (.cells cs T (0,0))) (hn:0<n) (hi:(i+n)*5<=cs.size):
  (Builtin.clear_ #[31] ty #[jS (some ⟨blk,i*5,none⟩) n c]).run rC W=.ok (jU #[]) (W.setRow blk (zCe cs i n)):=by
 have hst:=run_storeCells_at rC blk (i*5) T (rH zO n).toList 0 cs W hb (by rw[zFs];omega) (zMZ n);simp only[rV] at hst;obtain⟨m,rfl⟩:∃m,n=m+1:=⟨n - 1,by omega⟩;have hz:(Value.agg #[jI kQ 0,jT ⟨#[]⟩,jI kQ 0,jI kQ 0,jS none 0 0]).cells=zO:=rfl;simp only[Builtin.clear_];simp[r6 Tryz.underlying31,Tryz.zeroValue33,hz,hst,zCe]
theorem qF.cleared (h:qF W blk cap xs) (hb:W.heap[blk]? =some (.cells cs T (0,0))) (hi:(i+n)*5<=cs.size) (hx:i<=xs.length):
  qF (W.setRow blk (zCe cs i n)) blk cap (xs.take i):=by
 obtain⟨hl,cs',T',hb',hs,hc⟩:=h;rw[hb] at hb';injection hb' with hb'
 injection hb' with e1 e2
 subst e1 e2;have hz:=zFs n;have ht:(cs.toList.take (i*5)).length=i*5:=by rw[List.length_take,rU];omega
 refine⟨by simp;omega,_,T,setRow_heap W blk cs _ T _ hb,?_,fun j hj c hc5=>?_⟩
 ·simp only[zCe,rM,rJ,ht,hz,List.length_drop,rU,hs]
  omega
 ·have hj':j<i:=by simp at hj;omega
  have:=hc j (by omega) c hc5;rw[zCe,rS,zF4 (by rw[ht];omega),rQ,if_pos (by omega),Array.getElem?_toList,this];simp
theorem qF.at (h:qF W blk cap xs) (j e:Nat) (he:e=j*5) (x:El U) (hx:xs[j]? =some x){u0 u1 u2 u3 u4:Value} (hu:yY x=[u0,u1,u2,u3,u4]):
  W.cell? ⟨blk,e,none⟩=some u0/\W.cell? ⟨blk,e+1,none⟩=some u1/\W.cell? ⟨blk,e+2,none⟩=some u2/\W.cell? ⟨blk,e+3,none⟩=some u3/\W.cell? ⟨blk,e+4,none⟩=some u4:=by
 subst he;obtain⟨h0,h1,h2,h3,h4⟩:=h.load j x hx hu;have e:Sort.grow (W.drewN 0) #[]=W:=by rw[grow_empty];rfl
 exact⟨by simpa[e] using h0 0 #[],by simpa[e] using h1 0 #[],by simpa[e] using h2 0 #[],by simpa[e] using h3 0 #[],by simpa[e] using h4 0 #[]⟩
theorem qF.frozen (h:qF W blk cap xs) (e:Nat):W.frozen? ⟨blk,e,none⟩=false:=by
 obtain⟨_,cs,T,hb,_⟩:=h;simp[r8,hb]
theorem zBp (h:RowKit.Below n w W) (hn:n<=W.heap.size) (q:Nat) (os:Array Obj):RowKit.Below n w (grow (W.drewN q) os):=
 ⟨h.os,h.tape,h.output,by have:=h.size;simp[grow,World.drewN];omega,fun k hk=>(heap_grow_old (W.drewN q) os (Nat.lt_of_lt_of_le hk hn)).trans (h.block k hk)⟩
theorem zLJ (hU:Sub U (dim (only blk) w)) (h:qF w blk cap xs) (hsz:xs.length<=1000000):
  Calls rC 271 #[jS (some ⟨blk,0,none⟩) xs.length cap,.func (.func 440) #[] #[]] w fun e w'=>
   e=jR (jS (some ⟨blk,0,none⟩) (zGy xs).length cap)/\qF w' blk cap (zGy xs)/\Fr (only blk) w.heap.size w w'/\w.drawn<=w'.drawn:=by
 have HR:=rA h;have HB:=rA hU;have hcl:=h.1;have mixed:Tryz.prog.follows .mixedOrders=true:=by kernel_rfl
 clear hU h;go_enter Tryz.func271,Tryz.ntmps271;by_cases h2:xs.length<2
 ·have h2z:(xs.length:Int)<2:=by omega
  go_wp2_with fail;go_ret;have hc:zGy xs=xs:=by
   unfold zGy;rw[zDv _ _ _ (fun j hj=>by
     have:j=0:=by omega
     simp[kpE,this])]
   have:=Lib.range_map_get xs.toArray
   simpa using this
  rw[hc];exact⟨rfl,HR.out,Fr.refl _ _ _,rD _⟩
 ·have h2z:¬(xs.length:Int)<2:=by omega
  go_wp2_with fail
  go_loopg [5] xs.length (fun g o wr=>∃(kp n:Nat) (os:Array Obj),o=jI kQ (kp+1:Nat)/\kp+1<=xs.length/\Hid (xs.length - (kp+1)<g)/\wr=grow (w.drewN n) os/\Hid (∀j,j<=kp->kpE xs.toArray j=true))
  case atStart=>exact⟨0,0,#[],rfl,by omega,rA (by omega),by simp[World.drewN],rA (fun j hj=>by
   have:j=0:=by omega
   subst this;simp[kpE])⟩
  case round=>
   obtain⟨kp,n,os,rfl,hk,HG,hwr,HK⟩:=hrel;have HWR:=rA hwr;have HRW:Hid (qF wr blk cap xs):=rA (by rw[hwr];exact HR.out.grow n os);clear hwr;by_cases hlt:kp+1<xs.length
   ·have hltz:(kp:Int)+1<(xs.length:Int):=by omega
    obtain⟨x,hx⟩:∃x,xs[kp+1]? =some x:=⟨_,rB hlt⟩;obtain⟨y,hy⟩:∃y,xs[kp]? =some y:=⟨_,rB (by omega)⟩;obtain⟨u0,u1,u2,u3,u4,hu⟩:=zJA x;obtain⟨t0,t1,t2,t3,t4,ht⟩:=zJA y;obtain⟨lx0,lx1,lx2,lx3,lx4⟩:=HRW.out.load _ _ hx hu;obtain⟨ly0,ly1,ly2,ly3,ly4⟩:=HRW.out.load _ _ hy ht;have hwp:IntKind.i64.wrap (kp:Int)=(kp:Int):=by rw[IntKind.wrap_i64];omega
    have hcg:∀n' os',Calls rC 440 #[jG #[u0,u1,u2,u3,u4],jG #[t0,t1,t2,t3,t4]] (grow (wr.drewN n') os') fun e w'=>e=jR (jB (decide (zBE x y=0)))/\∃q os'',w'=grow ((grow (wr.drewN n') os').drewN q) os'':=fun n' os'=>by
     have h6:=zMR (zBU (W:=wr) (by rw[HWR.out];exact zBU (HB.out.trans (vS _ _)) _ _) n' os') x y;rw[hu,ht] at h6;exact h6
    have p0:(0:Int)<=(kp:Int)+1:=by omega
    have e0:((kp:Int)+1).toNat=kp+1:=by omega
    have kz1:(kp:Int)<(xs.length:Int):=by omega
    go_wp2_with fail
    go_quiet_grown (exact Calls.grown_of (hcg _ _))
    have HX:Hid (xs.toArray[kp+1]! =x/\xs.toArray[kp]! =y):=rA ⟨by simp[hx],by simp[hy]⟩;have HRG:Hid (qF (grow (wr.drewN nq) osq) blk cap xs):=rA (HRW.out.grow nq osq);have HWG:Hid (grow (wr.drewN nq) osq=grow (w.drewN (n+nq)) (os++osq)):=rA (by rw[HWR.out];show grow (grow ((w.drewN n).drewN nq) os) osq=_;rw[grow_grow,xD]);clear lx0 lx1 lx2 lx3 lx4 ly0 ly1 ly2 ly3 ly4 hu ht hcg hx hy;dsimp only;generalize grow (wr.drewN nq) osq=w2 at*;by_cases hxy:zBE x y=0
    ·have hd:decide (zBE x y=0)=true:=by simp[hxy]
     have hgt:((kp:Int)+1)<=(xs.length:Int):=by omega
     have hgc:(xs.length:Int)<=(cap:Int):=by omega
     rw[hd];go_wp2_with fail;have HCI:Hid (CI xs.toArray (kpE xs.toArray) (kp+1+1) (kp+1) xs.toArray):=rA (CI.start (fun j hj=>HK.out j (by omega)) (by simp only[kpE,Nat.add_sub_cancel,HX.out.1,HX.out.2];simp[hxy]));have HF2:Hid (Fr (only blk) w.heap.size w w2/\True/\w.drawn<=w2.drawn):=rA (by
      rw[HWG.out];exact⟨Fr.of_below (zBp (RowKit.Below.refl _ _) (rD _) _ _),trivial,Nat.le_add_right _ _⟩)
     clear HX HWG HK HWR HRW;have hlc:(xs.length:Int) - ((kp:Int)+1)=((xs.length - (kp+1):Nat):Int):=by omega
     go_loopg [5,7] xs.length (fun g o5 o7 wr=>∃(kk k2:Nat) (dk:Array (El U)),o5=jI kQ kk/\o7=jI kQ (k2+1:Nat)/\kp+1+k2+1<=xs.length/\Hid (xs.length - (kp+1+k2)<=g)/\kk<=kp+1+k2/\Hid (CI xs.toArray (kpE xs.toArray) (kp+1+k2+1) kk dk)/\Hid (qF wr blk cap dk.toList)/\
      Hid (Fr (only blk) w.heap.size w wr/\True/\w.drawn<=wr.drawn))
     case atStart=>exact⟨kp+1,0,xs.toArray,by go_num,rfl,by omega,rA (by omega),by omega,HCI,by simpa using HRG,HF2⟩
     case round=>
      obtain⟨kk,k2,dk,rfl,rfl,hk2,HG2,hkk,HCI,HRW,HF⟩:=hrel;have HDS:Hid (dk.size=xs.length):=rA (by simpa using HCI.out.size);by_cases hlt2:kp+1+k2+1<xs.length
      ·have q1:(k2:Int)+1<((xs.length - (kp+1):Nat):Int):=by omega
       obtain⟨x2,hx2⟩:∃x,dk.toList[kp+1+k2+1]? =some x:=⟨_,rB (by simp[HDS.out];omega)⟩;obtain⟨y2,hy2⟩:∃y,dk.toList[kp+1+k2]? =some y:=⟨_,rB (by simp[HDS.out];omega)⟩;obtain⟨z2,hz2⟩:∃y,dk.toList[kk]? =some y:=⟨_,rB (by simp[HDS.out];omega)⟩;obtain⟨u0,u1,u2,u3,u4,hu⟩:=zJA x2;obtain⟨t0,t1,t2,t3,t4,ht⟩:=zJA y2;obtain⟨v0,v1,v2,v3,v4,hv⟩:=zJA z2;have la:=fun n os=>(HRW.out.grow n os).at _ ((kp+1)*5+(k2+1)*5) (by omega) _ hx2 hu
       have lb:=fun n os=>(HRW.out.grow n os).at _ ((kp+1)*5+k2*5) (by omega) _ hy2 ht
       have la0:=fun n os=>(la n os).1
       have la1:=fun n os=>(la n os).2.1
       have la2:=fun n os=>(la n os).2.2.1
       have la3:=fun n os=>(la n os).2.2.2.1
       have la4:=fun n os=>(la n os).2.2.2.2
       have lb0:=fun n os=>(lb n os).1
       have lb1:=fun n os=>(lb n os).2.1
       have lb2:=fun n os=>(lb n os).2.2.1
       have lb3:=fun n os=>(lb n os).2.2.2.1
       have lb4:=fun n os=>(lb n os).2.2.2.2
       clear la lb;have hcg:∀n' os',Calls rC 440 #[jG #[u0,u1,u2,u3,u4],jG #[t0,t1,t2,t3,t4]] (grow (wr.drewN n') os') fun e w'=>e=jR (jB (decide (zBE x2 y2=0)))/\∃q os'',w'=grow ((grow (wr.drewN n') os').drewN q) os'':=fun n' os'=>by
        have h6:=zMR (zBU ((zN5 HB.out HF.out.1).trans (vS _ _)) n' os') x2 y2;rw[hu,ht] at h6;exact h6
       have p2:(0:Int)<=(k2:Int)+1:=by omega
       have e2:((k2:Int)+1).toNat=k2+1:=by omega
       have q2:(k2:Int)<((xs.length - (kp+1):Nat):Int):=by omega
       have hw2:IntKind.i64.wrap (k2:Int)=(k2:Int):=by rw[IntKind.wrap_i64];omega
       go_upto_region 11 with fail
       go_quiet_grown (exact Calls.grown_of (hcg _ _))
       dsimp only;have HRG3:Hid (qF (grow (wr.drewN nq) osq) blk cap dk.toList):=rA (HRW.out.grow nq osq);have HF3:Hid (Fr (only blk) w.heap.size w (grow (wr.drewN nq) osq)/\True/\w.drawn<=(grow (wr.drewN nq) osq).drawn):=rA ⟨HF.out.1.trans ((Fr.of_below (zBp (RowKit.Below.refl wr.heap.size wr) (rD _) nq osq)).mono HF.out.1.size),trivial,rO HF.out.2.2 (Nat.le_add_right _ _)⟩;clear la0 la1 la2 la3 la4 lb0 lb1 lb2 lb3 lb4 hcg HRW HF;generalize grow (wr.drewN nq) osq=w3 at*;have HX2:Hid (xs.toArray[kp+1+k2+1]! =x2/\xs.toArray[kp+1+k2]! =y2):=rA ⟨by
        rw[<-HCI.out.high (kp+1+k2+1) (by omega)];rw[Array.getElem?_toList] at hx2;simp only[getElem!_def,hx2],by
        rw[<-HCI.out.high (kp+1+k2) (by omega)];rw[Array.getElem?_toList] at hy2;simp only[getElem!_def,hy2]⟩
       have hkp:kpE xs.toArray (kp+1+k2+1)=!decide (zBE x2 y2=0):=by
        simp only[kpE,Nat.add_sub_cancel,HX2.out.1,HX2.out.2];simp
       by_cases hxy2:zBE x2 y2=0
       ·have hd2:decide (zBE x2 y2=0)=true:=by simp[hxy2]
        rw[hd2] at hkp ⊢;go_wp2_with fail
        go_roundg (gk - 1)
        case measure=>have:=HG2.out;omega
        case rel=>exact⟨kk,k2+1,dk,rfl,by go_num,by omega,rA (by have:=HG2.out;omega),by omega,rA (by have:=HCI.out.skip hkp;exact this),HRG3,HF3⟩
       ·have hd2:decide (zBE x2 y2=0)=false:=by simp[hxy2]
        rw[hd2] at hkp ⊢;obtain⟨la0,la1,la2,la3,la4⟩:=HRG3.out.at _ ((kp+1)*5+(k2+1)*5) (by omega) _ hx2 hu;obtain⟨lc0,lc1,lc2,lc3,lc4⟩:=HRG3.out.at _ (kk*5) rfl _ hz2 hv;have fr:=HRG3.out.frozen;have hkl:(kk:Int)<(xs.length:Int):=by omega
        have HNW:=rA (HRG3.out.set kk x2);have HCK:=rA (HCI.out.keep (by have:=hlt2;simpa using this) hkp);rw[HX2.out.1] at HCK;have HNE:Hid (yY x2=[u0,u1,u2,u3,u4]):=hu;obtain⟨f0,f1,f2,f3,f4,f5,f6,hf⟩:∃f0 f1 f2 f3 f4 f5 f6,[u0,u1,u2,u3,u4]=[jI kQ f0,jT f1,jI kQ f2,jI kQ f3,jS f4 f5 f6]:=by
         rw[<-hu];obtain⟨⟨op,nm,v,bd,args,a,c⟩,hok⟩:=x2;exact⟨op,nm,v,bd,a,args.len,c,rfl⟩
        simp only[List.cons.injEq,and_true] at hf;obtain⟨rfl,rfl,rfl,rfl,rfl⟩:=hf;clear hu HX2 hkp hx2 hy2;go_wp2_with fail
        go_roundg (gk - 1)
        case measure=>have:=HG2.out;omega
        case rel=>
         have hon:only blk blk=true:=by simp[only]
         refine⟨kk+1,k2+1,dk.setIfInBounds kk x2,by go_num,by go_num,by omega,rA (by have:=HG2.out;omega),by omega,HCK,rA ?_,rA ⟨?_,?_,HF3.out.2.2⟩⟩
         ·have:=HNW.out
          rw[HNE.out] at this;rw[Array.toList_setIfInBounds];exact this
         ·exact((((HF3.out.1.setCell (.inl hon) _).setCell (.inl hon) _).setCell (.inl hon) _).setCell (.inl hon) _).setCell (.inl hon) _
         ·trivial
      ·have q1:¬(k2:Int)+1<((xs.length - (kp+1):Nat):Int):=by omega
       have hgt:(kk:Int)<=(xs.length:Int):=by omega
       obtain⟨hlk,cs,T,hbl,hcs,hcc⟩:=HRW.out;have hcl2:=fun ty=>zPa (c:=cap - kk) ty hbl (show 0<xs.length - kk by omega) (show(kk+(xs.length - kk))*5<=cs.size by omega)
       have hrow:=qF.cleared HRW.out hbl (show(kk+(xs.length - kk))*5<=cs.size by omega) (show kk<=dk.toList.length by simp[HDS.out];omega);go_wp2_with fail;go_ret;have hm:kp+1+k2+1=xs.length:=by omega
       have hce:zGy xs=dk.toList.take kk:=by
        have hI:=HCI.out;rw[hm] at hI;apply List.ext_getElem?;intro j;by_cases hj:j<kk
        ·refine(hI.low j hj).trans ?_
         rw[rQ,if_pos hj,Array.getElem?_toList];have:j<dk.size:=by rw[HDS.out];omega
         simp[this]
        ·rw[List.getElem?_eq_none (by have:=hI.len;unfold zGy;omega),rQ,if_neg hj]
       rw[hce];have hlen:(dk.toList.take kk).length=kk:=by simp[HDS.out];omega
       rw[hlen];refine⟨rfl,hrow,?_,HF.out.2.2⟩;exact HF.out.1.grown (row:=some blk) ⟨rfl,rfl,rfl,by simp[World.setRow],fun k _ hk=>setRow_other wr blk k _ (fun e=>hk (by rw[e]))⟩ HF.out.1.size (fun k e=>by cases e;exact .inl (by simp[only]))
    ·have hd:decide (zBE x y=0)=false:=by simp[hxy]
     rw[hd];go_wp2_with fail
     go_roundg (gk - 1)
     case measure=>have:=HG.out;omega
     case rel=>exact⟨kp+1,n+nq,os++osq,by go_num,by omega,rA (by have:=HG.out;omega),HWG.out,rA (fun j hj=>by
      by_cases hj':j<=kp
      ·exact HK.out j hj'
      ·have:j=kp+1:=by omega
       subst this;simp only[kpE,Nat.add_sub_cancel,HX.out.1,HX.out.2];simp[hxy])⟩
   ·have hltz:¬(kp:Int)+1<(xs.length:Int):=by omega
    go_wp2_with fail;go_ret;have hkl:kp+1=xs.length:=by omega
    have hc:zGy xs=xs:=by
     unfold zGy;rw[zDv _ _ _ (fun j hj=>HK.out j (by omega))];have:=Lib.range_map_get xs.toArray
     simpa using this
    rw[hc];refine⟨rfl,HRW.out,?_,?_⟩
    ·rw[HWR.out];exact Fr.of_below (zBp (RowKit.Below.refl _ _) (rD _) _ _)
    ·rw[HWR.out];exact Nat.le_add_right _ _
def zTb (w:World) (e:Ending) (w':World):Prop:=(∃q os,w'=grow (w.drewN q) os)/\∃(i:Int) (b:Bool),e=jR (jU #[jI kQ i,jB b])
theorem zNI {ys:List (El U)} (hB:Sub U w) (h:qF w blk cap ys) (hsz:ys.length<=1000000) (y:El U):
  Calls rC 273 #[jS (some ⟨blk,0,none⟩) ys.length cap,jG (yY y).toArray,.func (.func 393) #[] #[]] w (zTb w):=by
 have mixed:Tryz.prog.follows .mixedOrders=true:=by kernel_rfl
 have HR:=rA h;have HB:=rA hB;obtain⟨t0,t1,t2,t3,t4,ht⟩:=zJA y;have HT:Hid (yY y=[t0,t1,t2,t3,t4]):=ht;rw[ht];clear h hB ht;go_enter Tryz.func273,Tryz.ntmps273;go_upto_region 1 with fail;have k0:=zI w #[t0,t1,t2,t3,t4] 33;have kW:Hid (∃q os,w.alloc (.cells #[t0,t1,t2,t3,t4] 33)=grow (w.drewN q) os):=rA ⟨0,_,alloc_eq_grow _ _⟩;have HS1:Hid (w.heap.size<(w.alloc (.cells #[t0,t1,t2,t3,t4] 33)).heap.size):=rA (by simp);generalize w.alloc (.cells #[t0,t1,t2,t3,t4] 33)=w1 at*;go_wp2_with fail
 go_loopg [9,10] ys.length (fun g o9 o10 wr=>∃(i j:Nat),o9=jI kQ i/\o10=jI kQ j/\i<=j/\j<=ys.length/\Hid (j - i<=g)/\Hid (∃q os,wr=grow (w1.drewN q) os))
 case atStart=>exact⟨0,ys.length,rfl,rfl,rR _,rD _,rA (by omega),rA ⟨0,#[],by simp[World.drewN]⟩⟩
 case round=>
  obtain⟨i,j,rfl,rfl,hij,hj,HG,HW⟩:=hrel;have HRW:Hid (qF wr blk cap ys):=rA (by
   obtain⟨q,os,rfl⟩:=kW.out;obtain⟨q',os',rfl⟩:=HW.out;exact(HR.out.grow _ _).grow _ _)
  have HBW:Hid (Sub U wr):=rA (by
   obtain⟨q,os,rfl⟩:=kW.out;obtain⟨q',os',rfl⟩:=HW.out;exact zBU (zBU HB.out _ _) _ _)
  have hcell:∀n os c v,c<5->(#[t0,t1,t2,t3,t4]:Array Value)[c]? =some v->(grow (wr.drewN n) os).cell? ⟨w.heap.size,c,none⟩=some v:=fun n os c v hc hv=>by
   have h1:w.heap.size<w1.heap.size:=HS1.out;obtain⟨q',os',rfl⟩:=HW.out;rw[cell?_grow _ _ _ (by show w.heap.size<(grow (w1.drewN q') os').heap.size;simp[grow,World.drewN];omega)];show(grow (w1.drewN q') os').cell? _=_;rw[cell?_grow _ _ _ (by exact h1)];exact(k0 c).trans hv
  have hb0:=fun n os=>hcell n os 0 t0 (by omega) rfl
  have hb1:=fun n os=>hcell n os 1 t1 (by omega) rfl
  have hb2:=fun n os=>hcell n os 2 t2 (by omega) rfl
  have hb3:=fun n os=>hcell n os 3 t3 (by omega) rfl
  have hb4:=fun n os=>hcell n os 4 t4 (by omega) rfl
  clear hcell;have HCG:∀(x:El U) u0 u1 u2 u3 u4,yY x=[u0,u1,u2,u3,u4]->∀n' os',Calls rC 393 #[jG #[u0,u1,u2,u3,u4],jG #[t0,t1,t2,t3,t4]] (grow (wr.drewN n') os') fun e w'=>e=jR (jI kQ (zBE x y))/\∃q os'',w'=grow ((grow (wr.drewN n') os').drewN q) os'':=fun x u0 u1 u2 u3 u4 hu n' os'=>by
   have h6:=zJ2 (zBU HBW.out n' os') x y;rw[hu,HT.out] at h6;exact h6
  by_cases hlt:i<j
  ·have hz:(i:Int)<(j:Int):=by omega
   go_upto_region 5 with fail;obtain⟨h,hh⟩:∃h,h=(i+j) / 2:=⟨_,rfl⟩;have hhz:((i:Int)+(j:Int)) / 2=(h:Int):=by omega
   have hhj:h<j:=by omega
   obtain⟨x,hx⟩:∃x,ys[h]? =some x:=⟨_,rB (by omega)⟩;obtain⟨u0,u1,u2,u3,u4,hu⟩:=zJA x;obtain⟨lx0,lx1,lx2,lx3,lx4⟩:=HRW.out.load _ _ hx hu;have hcg:=HCG x u0 u1 u2 u3 u4 hu;have hk:(h:Int)<(ys.length:Int):=by omega
   clear HCG;rw[hhz];have hih:i<=h:=by omega
   clear hh hhz
   go_quiet_grown (exact Calls.grown_of (hcg _ _))
   dsimp only;have HWG:Hid (∃q os,grow (wr.drewN nq) osq=grow (w1.drewN q) os):=rA (by
    obtain⟨q',os',rfl⟩:=HW.out;exact⟨q'+nq,os'++osq,by show grow (grow ((w1.drewN q').drewN nq) os') osq=_;rw[grow_grow,xD]⟩)
   have HX:Hid (∃h':h<ys.length,ys[h]=x):=rA (by
    have hl:h<ys.length:=by omega
    exact⟨hl,by rw[rB hl] at hx;exact Option.some.inj hx⟩)
   clear lx0 lx1 lx2 lx3 lx4 hb0 hb1 hb2 hb3 hb4 hcg hx;generalize grow (wr.drewN nq) osq=w2 at*;by_cases hc:zBE x y<0
   ·have hd:decide (zBE x y<0)=true:=by simp[hc]
    go_wp2_with fail
    go_roundg (gk - 1)
    case measure=>have:=HG.out;omega
    case rel=>
     exact⟨h+1,j,by go_num,rfl,by omega,hj,rA (by have:=HG.out;omega),HWG⟩
   ·have hd:decide (zBE x y<0)=false:=by simp[hc]
    go_wp2_with fail
    go_roundg (gk - 1)
    case measure=>have:=HG.out;omega
    case rel=>
     exact⟨i,h,rfl,rfl,by omega,by omega,rA (by have:=HG.out;omega),HWG⟩
  ·have hz:¬(i:Int)<(j:Int):=by omega
   have hij':i=j:=by omega
   subst hij';by_cases hin:i<ys.length
   ·have hd:decide ((i:Int)<(ys.length:Int))=true:=by simp;omega
    obtain⟨x,hx⟩:∃x,ys[i]? =some x:=⟨_,rB (by omega)⟩;obtain⟨u0,u1,u2,u3,u4,hu⟩:=zJA x;obtain⟨lx0,lx1,lx2,lx3,lx4⟩:=HRW.out.load _ _ hx hu;have hcg:=HCG x u0 u1 u2 u3 u4 hu;have hk:(i:Int)<(ys.length:Int):=by omega
    clear HCG;go_upto_region 8 with fail
    go_quiet_grown (exact Calls.grown_of (hcg _ _))
    dsimp only;go_wp2_with fail;refine rP (v:=jU #[jI kQ i,jB (zBE x y==0)]) (by
     simp[results,Tryz.f273,go_sem]) rfl ?_
    refine⟨?_,i,_,rfl⟩;obtain⟨q',os',rfl⟩:=HW.out;obtain⟨q0,os0,rfl⟩:=kW.out;exact⟨q0+(q'+nq),os0++(os'++osq),by show grow (grow (grow (((w.drewN q0).drewN q').drewN nq) os0) os') osq=_;rw[grow_grow,grow_grow,xD,xD]⟩
   ·have hie:i=ys.length:=by omega
    subst hie;clear HCG;go_upto_region 8 with fail
    go_quiet_grown (fail)
    dsimp only;go_wp2_with fail;refine rP (v:=jU #[jI kQ (ys.length:Nat),jB false]) (by
     simp[results,Tryz.f273,go_sem]) rfl ?_
    refine⟨?_,_,_,rfl⟩;obtain⟨q',os',rfl⟩:=HW.out;obtain⟨q0,os0,rfl⟩:=kW.out;exact⟨q0+(q'+nq),os0++(os'++osq),by show grow (grow (grow (((w.drewN q0).drewN q').drewN nq) os0) os') osq=_;rw[grow_grow,grow_grow,xD,xD]⟩
variable {xs A B:List (El U)}
theorem Tryz.info33a: (Tryz.prog.info? 33).map (fun i=>(i.zero,i.size,i.bytes))=some (some (jG #[jI kQ 0,jT ⟨#[]⟩,jI kQ 0,jI kQ 0,jS none 0 0]),5,64):=by kernel_rfl
theorem zFE (P:Program) (w:World) (t ty e T:TypeId) (i:TypeInfo) (ht:P.underlying t=some (.slice e)) (hi:P.info? e=some i)
  (g sLen sCap:Nat) (cur:Array Value) (hg:w.heap[g]? =some (.cells cur T (0,0)))
  (a:Addr) (m c:Nat) (news:List Value) (hl:news.length=m*i.size) (hnews:∀j u,news[j]? =some u->w.cell? (a.add j)=some u) (h1:∀u∈news,u.oneCell'=true)
  (hroom:sLen+m<=sCap) (hfit:sLen*i.size+news.length<=cur.size):
  (rF #[t,t] ty #[jS (some ⟨g,0,none⟩) sLen sCap,jS (some a) m c]).run P w=
   .ok (jS (some ⟨g,0,none⟩) (sLen+m) sCap) (w.setRow g (cur.toList.take (sLen*i.size)++news++cur.toList.drop (sLen*i.size+news.length)).toArray):=by
 have hf:=run_firstCells_some (P:=P) w i.size m a m c news hl hnews;have hst:=run_storeCells_at P g (sLen*i.size) T news 0 cur w hg (by simpa using hfit) h1;simp only[rV] at hst;simp[rF,r6 ht,sizeOf,typeInfo,hi,rT,hroom,hf,Addr.add_lit,hst]
theorem zEr {fv:Value} (w:World) (hn:n<2):Calls rC 271 #[jS a n cap,fv] w fun e w'=>e=jR (jS a n cap)/\w'=w:=by
 have h2z:(n:Int)<2:=by omega
 go_enter Tryz.func271,Tryz.ntmps271;go_wp2_with fail;go_ret;exact⟨rfl,rfl⟩
def vL {U:World} (W:World) (lo:Nat) (a:Option Addr) (cap:Nat) (xs:List (El U)):Prop:=(a=none/\xs=[]/\cap=0)∨∃blk,a=some ⟨blk,0,none⟩/\lo<=blk/\qF W blk cap xs
theorem vY {U:World}:∀xs:List (El U),(xs.flatMap yY).length=xs.length*5
 |[]=>rfl
 |x::xs=>by rw[List.flatMap_cons,rJ,vY xs,xQ,List.length_cons];omega
theorem zBk {U:World}:∀(xs:List (El U)) (j:Nat) (h:j<xs.length) (c:Nat),c<5->(xs.flatMap yY)[j*5+c]? =(yY xs[j])[c]?
 |[],_,h,_,_=>by simp at h
 |x::xs,0,_,c,hc=>by
  rw[List.flatMap_cons,rK (by rw[xQ];omega)];simp
 |x::xs,j+1,h,c,hc=>by
  rw[List.flatMap_cons,rN (by rw[xQ];omega),xQ,show(j+1)*5+c - 5=j*5+c by omega,zBk xs j (by simpa using h) c hc];rfl
theorem zGE (xs:List (El U)):∀u∈xs.flatMap yY,u.oneCell'=true:=by
 intro u hu;obtain⟨x,_,h⟩:=List.mem_flatMap.1 hu;exact zES x u h
theorem zHR {b o:Nat} (h:∀j (h:j<xs.length) c v,(yY xs[j])[c]? =some v->W.cell? ⟨b,o+j*5+c,none⟩=some v):∀k u,(xs.flatMap yY)[k]? =some u->W.cell? ((⟨b,o,none⟩:Addr).add k)=some u:=by
 intro k u hk;have hkl:k<xs.length*5:=by have:=(List.getElem?_eq_some_iff.1 hk).1;rwa[vY] at this
 have e:k / 5*5+k % 5=k:=by omega
 rw[<-e,zBk xs (k / 5) (by omega) (k % 5) (by omega)] at hk;have:=h (k / 5) (by omega) (k % 5) u hk;rw[Addr.add_lit];rwa[show o+k / 5*5+k % 5=o+k by omega] at this
theorem zLi {sb so:Nat}{news:List (El U)} (h:vL W lo a cap xs) (hlo:lo<=W.heap.size)
  (hsrc:∀j (h:j<news.length) c v,(yY news[j])[c]? =some v->W.cell? ⟨sb,so+j*5+c,none⟩=some v) (hne:0<news.length) (hcap:cap<=maxLen) (hsm:xs.length+news.length<=1000000):
  ∃a' cap' W',(rF #[31,31] 31 #[jS a xs.length cap,jS (some ⟨sb,so,none⟩) news.length cc]).run rC W=.ok (jS a' (xs.length+news.length) cap') W'/\vL W' lo a' cap' (xs++news)/\
   (∃row,W.grownBy W' row/\∀k,row=some k->lo<=k)/\W.drawn<=W'.drawn/\cap'<=maxLen:=by
 obtain⟨i,hi,hz,hs,hb⟩:=info_parts Tryz.info33a;have hnews:=zHR hsrc;have hnl:(news.flatMap yY).length=news.length*i.size:=by rw[vY,hs]
 by_cases hr:xs.length+news.length<=cap
 ·rcases h with⟨rfl,rfl,rfl⟩|⟨blk,rfl,hb1,hlc,cs,T,hB,hcs,hcc⟩
  ·rw[List.length_nil] at hr;omega
  ·have hrun:=zFE rC W 31 31 33 T i Tryz.underlying31 hi blk xs.length cap cs hB ⟨sb,so,none⟩ news.length cc (news.flatMap yY) hnl hnews (zGE news) hr (by rw[hs,hcs,vY];omega)
   rw[hs] at hrun;have hcl:cs.toList.length=cap*5:=by rw[<-hcs];exact rU
   have hlt:(cs.toList.take (xs.length*5)).length=xs.length*5:=by rw[List.length_take,hcl];omega
   refine⟨_,cap,_,hrun,.inr ⟨blk,rfl,hb1,by simpa using hr,_,T,setRow_heap W blk cs _ T _ hB,?_,fun j hj c hc=>?_⟩,⟨some blk,⟨rfl,rfl,rfl,by simp[World.setRow],fun k _ hk=>setRow_other W blk k _ (fun e=>hk (by rw[e]))⟩,fun k e=>by cases e;exact hb1⟩,rD _,hcap⟩
   ·simp only[rM,rJ,hlt,List.length_drop,hcl,vY]
    omega
   ·rw[rS]
    by_cases hj1:j<xs.length
    ·rw[zF4 (by omega),rQ,if_pos (by omega),Array.getElem?_toList,hcc j hj1 c hc,List.getElem_append_left hj1]
    ·have hj2:j - xs.length<news.length:=by simp at hj;omega
     rw[rZ,rN (by omega),hlt,rK (by rw[vY];omega),show j*5+c - xs.length*5=(j - xs.length)*5+c by omega,zBk news _ hj2 c hc,List.getElem_append_right (by omega)]
 ·have hxc:xs.length<=cap:=by
   rcases h with⟨rfl,rfl,rfl⟩|⟨blk,rfl,hb1,hlc,_⟩
   ·simp
   ·exact hlc
  have hold:(rL i.size xs.length (jS a xs.length cap)).run rC W.drew=.ok (xs.flatMap yY).toArray W.drew:=by
   rcases h with⟨rfl,rfl,rfl⟩|⟨blk,rfl,hb1,hR⟩
   ·exact run_firstCells_none W.drew i.size 0 0 0
   ·refine run_firstCells_some W.drew i.size xs.length ⟨blk,0,none⟩ xs.length cap _ (by rw[vY,hs]) (zHR fun j hj c v hv=>?_)
    obtain⟨hlc,cs,T,hB,hcs,hcc⟩:=hR;have hc5:c<5:=by have:=(List.getElem?_eq_some_iff.1 hv).1;rwa[xQ] at this
    have:=hcc j hj c hc5;rw[hv] at this;show W.cell? _=_;simp[rE,hB,this]
  have hrun:=run_append_grow_src (P:=rC) W 31 31 31 33 i _ Tryz.underlying31 hi hz a xs.length cap (xs.flatMap yY) hold (jS (some ⟨sb,so,none⟩) news.length cc) news.length (news.flatMap yY) (Src.ofSlice W Tryz.underlying31 ⟨sb,so,none⟩ news.length cc _ hnl hnews (zGE news)) (by omega) (by omega) (growslice_fits (by omega) (by rw[hb];omega));have hge:=grownCap_ge W (xs.length+news.length) cap 33;have hgm:=grownCap_le_maxLen W (xs.length+news.length) cap 33 (by unfold maxLen;omega);refine⟨_,_,_,hrun,.inr ⟨W.heap.size,rfl,hlo,by simpa using hge,_,_,World.alloc_heap_new W.drew _,?_,fun j hj c hc=>?_⟩,⟨none,⟨rfl,rfl,rfl,by simp,fun k hk _=>rG W.drew _ hk⟩,fun k e=>by cases e⟩,Nat.le_succ _,hgm⟩
  ·simp only[Array.size_append,rM,rJ,vY,size_zeroCells]
   have e2:(Value.cells (jG #[jI kQ 0,jT ⟨#[]⟩,jI kQ 0,jI kQ 0,jS none 0 0])).size=5:=rfl;rw[e2];omega
  ·have hj':j<xs.length+news.length:=by simpa using hj
   rw[Array.getElem?_append_left (by simp only[rM,rJ,vY];omega),rS,<-List.flatMap_append,zBk _ j hj c hc]
theorem zFW (w:World) (av:Option Addr) (n cap c:Nat) (h:n<=cap) (ty:TypeId):(rF #[31,31] ty #[jS av n cap,jS none 0 c]).run rC w=.ok (jS av n cap) w:=by
 cases av with
 |none=>simp[rF,go_sem,Tryz.sizeOf33,rL,rT,h]
 |some a=>simp[rF,go_sem,Tryz.sizeOf33,rL,rT,h,storeCells]
theorem zEu (w:World) (av:Option Addr) (ad:Addr) (n cap c:Nat) (h:n<=cap) (ty:TypeId):(rF #[31,31] ty #[jS av n cap,jS (some ad) 0 c]).run rC w=.ok (jS av n cap) w:=by
 cases av with
 |none=>simp[rF,go_sem,Tryz.sizeOf33,rL,rT,h]
 |some a=>simp[rF,go_sem,Tryz.sizeOf33,rL,rT,h,storeCells]
theorem vL.le (h:vL W lo a cap xs):xs.length<=cap:=by
 rcases h with⟨_,rfl,_⟩|⟨_,_,_,h⟩
 ·simp
 ·exact h.1
theorem FAt.elems {U:World}:∀ {f:Fs} {b o:Nat},FAt U f b o->∃news:List (El U),Fe.forest (news.map (·.1))=f/\∀j (h:j<news.length) c v,(yY news[j])[c]? =some v->U.cell? ⟨b,o+j*5+c,none⟩=some v
 | .nil,_,_,_=>⟨[],rfl,fun j h=>by simp at h⟩
 | .cons op nm v bd args rest,b,o,⟨c0,c1,c2,c3,c4,c5,⟨a,c,c6,cc,c7⟩,c8⟩=>by
  obtain⟨news,h1,h2⟩:=FAt.elems c8;refine⟨(⟨⟨op,nm,v,bd,args,a,c⟩,c7,c2,c5,cc⟩:El U)::news,(by show Fs.cons op nm v bd args (Fe.forest (news.map (·.1)))=_;rw[h1]),fun j hj i u hi=>?_⟩;cases j with
  |zero=>
   change ([jI kQ op,jT nm,jI kQ v,jI kQ bd,jS a args.len c]:List Value)[i]? =some u at hi;rw[r9,rV]
   match i,hi with
   |0,hi=>exact c0.trans hi
   |1,hi=>exact c1.trans hi
   |2,hi=>exact c3.trans hi
   |3,hi=>exact c4.trans hi
   |4,hi=>exact c6.trans hi
   |_+5,hi=>simp at hi
  |succ j=>
   have:=h2 j (Nat.lt_of_succ_lt_succ hj) i u hi;rw[show o+(j+1)*5+i=o+5+j*5+i by omega];exact this
def nl {U:World}:List (El U)->Nat
 |[]=>0
 |x::r=>x.1.args.nodes+1+nl r
theorem zKc {U:World}:∀(A B:List (El U)),nl (A++B)=nl A+nl B
 |[],B=>by simp[nl]
 |x::A,B=>by simp only[List.cons_append,nl,zKc A B];omega
theorem zEi {U:World}:∀A:List (El U),(Fe.forest (A.map (·.1))).nodes=nl A
 |[]=>rfl
 |x::A=>by simp only[List.map_cons,Fe.forest,Fs.nodes,nl,zEi A];omega
theorem zKg {U:World}:∀A:List (El U),A.length<=nl A
 |[]=>rD _
 |x::A=>by have:=zKg A;simp only[List.length_cons,nl];omega
theorem zPs (h:A.Perm B):nl A=nl B:=by
 induction h with
 |nil=>rfl
 |cons x _ ih=>simp only[nl,ih]
 |swap x y l=>simp only[nl];omega
 |trans _ _ h1 h2=>exact h1.trans h2
theorem zR3 (h:A.Sublist B):nl A<=nl B:=by
 induction h with
 |slnil=>exact rD _
 |cons x _ ih=>simp only[nl];omega
 |cons_cons x _ ih=>simp only[nl];omega
theorem zRf {x:El U} (h:x∈A):x.1.args.nodes+1<=nl A:=by
 induction A with
 |nil=>cases h
 |cons y A ih=>
  rcases r7.1 h with rfl|h
  ·simp only[nl];omega
  ·have:=ih h;simp only[nl];omega
theorem zLp (xs:List (El U)):(zGy xs).Sublist xs:=by
 unfold zGy zIF;have h:=(List.filter_sublist (p:=kpE xs.toArray) (l:=List.range xs.length)).map (xs.toArray[·]!);have e:=Lib.range_map_get xs.toArray;simp only[rM] at e;rw[e] at h;exact h
theorem ArL.forest {U:World}:∀ {A:List (El U)},(∀y∈A,y.1.ar)->ArL (Fe.forest (A.map (·.1)))
 |[],_=>trivial
 |x::A,h=>⟨(h x (rY ..)).1,(h x (rY ..)).2,ArL.forest fun y hy=>h y (List.mem_cons_of_mem _ hy)⟩
theorem ArL.mem {U:World}:∀ {A:List (El U)},ArL (Fe.forest (A.map (·.1)))->∀y∈A,y.1.ar
 |[],_,y,hy=>by cases hy
 |x::A,h,y,hy=>by
  rcases r7.1 hy with rfl|hy
  ·exact⟨h.1,h.2.1⟩
  ·exact ArL.mem h.2.2 y hy
theorem zK2 {fa:Option Addr}{f:Fs} (h:vL W lo a cap xs) (hlo:lo<=W.heap.size) (hS:Sub U W) (hf:FArgs U fa f) (hcap:cap<=maxLen) (hsm:xs.length+f.len<=1000000):
  ∃(a':Option Addr) (cap':Nat) (W':World) (news:List (El U)),(rF #[31,31] 31 #[jS a xs.length cap,jS fa f.len cc]).run rC W=.ok (jS a' (xs++news).length cap') W'/\vL W' lo a' cap' (xs++news)/\Fe.forest (news.map (·.1))=f/\
   (∃row,W.grownBy W' row/\∀k,row=some k->lo<=k)/\W.drawn<=W'.drawn/\cap'<=maxLen:=by
 by_cases h0:f.len=0
 ·have hnil:f=.nil:=by cases f with
   |nil=>rfl
   |cons=>simp[Fs.len] at h0
  subst hnil;refine⟨a,cap,W,[],?_,by simpa using h,rfl,⟨none,⟨rfl,rfl,rfl,rD _,fun _ _ _=>rfl⟩,fun k e=>by cases e⟩,rD _,hcap⟩;rw[List.append_nil];cases fa with
  |none=>exact zFW W a _ cap cc h.le 31
  |some ad=>exact zEu W a ad _ cap cc h.le 31
 ·obtain⟨b,o,rfl,hb,hat⟩:=hf h0
  obtain⟨news,h1,h2⟩:=FAt.elems hat;have hl:news.length=f.len:=by
   have:=congrArg Fs.len h1;rw[Fe.forest_len,List.length_map] at this;exact this
  obtain⟨a',cap',W',k1,k2,k3⟩:=zLi (news:=news) (cc:=cc) h hlo (fun j hj c v hv=>hS.cell (h2 j hj c v hv)) (by omega) hcap (by omega);refine⟨a',cap',W',news,?_,k2,h1,k3⟩;rw[rJ,<-hl];exact k1
