/- What the judge's gathered does with its list. -/
import Derived.Test.YtmabhhngoklncaaGreatDoorN
set_option maxRecDepth 100000
set_option maxHeartbeats 40000000
set_option linter.all false
open Go.Lib renaming hid->rA
open Nat renaming le_trans->rB,zero_le->rF,le_refl->rJ,zero_mul->rK,zero_add->rL,add_zero->rM
open Go renaming bodyPost_ret->rC,heap_alloc_new->rE,heap_alloc_old->rH,heap_setCell_other->rI
open Go.Proofs.Tryz renaming prog->rD
open Go.World renaming cell?->rG
open Go.Value renaming int->jI,slice->jS,pointer->jP,bool->jB,string->jT,agg->jG,tuple->jU
open Go.IntKind renaming i64->kQ
open Go.Ending renaming returned->jR
open Go Go.RowKit Go.Sort
namespace Go.Proofs.YtmabhhngoklncaaGreatDoor
variable {p:Nat->Bool}{w:World}
theorem zFz {tmps:Array Value} {W:World} {g:Nat} {a b c d e:Value} (hp:tmps.getD 6 undef=jP (some ⟨g,0,none⟩)) (h:W.heap[g]? =some (.cells #[a,b,c,d,e] 33 (0,0))):
  (results Tryz.f439 tmps).run rD W=.ok (jG #[a,b,c,d,e]) W:=
 zGp rfl hp h fun W' h0 h1 h2 h3 h4=>by simp[go_sem,h0,h1,h2,h3,h4]
structure GaS (p:Nat->Bool) (w W:World) (x:Fe) (a:Option Addr) (cap:Nat) (A:List (El (dim p w))):Prop where
 pre:RwP w W x
 list:vL W (w.heap.size+2) a cap A
 cap:cap<=maxLen
 ar:∀y∈A,y.1.ar
section
variable {p:Nat->Bool} {w W W':World} {x:Fe} {a a':Option Addr} {cap cap':Nat} {A B:List (El (dim p w))}
theorem zJq {blk n:Nat} (hg:RowKit.Below n w W) (hn:n<=W.heap.size) (hb:n<=blk) (hF:Fr (only blk) W.heap.size W W'):RowKit.Below n w W':=
 ⟨hF.os.trans hg.os,hF.tape.trans hg.tape,hF.output.trans hg.output,rB hg.size hF.size,fun k hk=>(hF.block k (Nat.lt_of_lt_of_le hk hn) (by simp[only];omega)).trans (hg.block k hk)⟩
theorem vL.gr {U:World} {lo:Nat} {xs:List (El U)} (h:vL W lo a cap xs) (hg:Gr W W'):vL W' lo a cap xs:=by
 rcases h with h|⟨blk,e,h1,h2,cs,T,h3,h4⟩
 ·exact .inl h
 ·exact .inr ⟨blk,e,h1,h2,cs,T,(hg.1.block blk (Array.getElem?_eq_some_iff.1 h3).1).trans h3,h4⟩
theorem GaS.gr' (h:GaS p w W x a cap A) (hg:Gr W W'):GaS p w W' x a cap A:=⟨h.pre.gr' hg,h.list.gr hg,h.cap,h.ar⟩
theorem GaS.lt (h:GaS p w W x a cap A):w.heap.size+2<=W.heap.size:=h.pre.lt
theorem GaS.seen (h:GaS p w W x a cap A):Sub (dim p w) W:=(vM h.pre.gr fun _ h=>h).trans (vS p W)
theorem GaS.app (h:GaS p w W x a cap A) (hl:vL W' (w.heap.size+2) a' cap' B) (hg:∃row,W.grownBy W' row/\∀k,row=some k->w.heap.size+2<=k) (hd:W.drawn<=W'.drawn) (hc:cap'<=maxLen) (har:∀y∈B,y.1.ar):GaS p w W' x a' cap' B:=by
 obtain⟨row,hg,hr⟩:=hg;have hl2:=h.lt;have hne:∀k,k<w.heap.size+2->some k≠row:=fun k hk e=>by have:=hr k e.symm;omega
 exact⟨⟨⟨⟨hg.os.trans h.pre.gr.1.os,hg.tape.trans h.pre.gr.1.tape,hg.output.trans h.pre.gr.1.output,rB h.pre.gr.1.size hg.size,fun k hk=>(hg.block k (by omega) (hne k (by omega))).trans (h.pre.gr.1.block k hk)⟩,rB h.pre.gr.2 hd⟩,(hg.block _ (by omega) (hne _ (by omega))).trans h.pre.b3,(hg.block _ (by omega) (hne _ (by omega))).trans h.pre.b4⟩,hl,hc,har⟩
theorem GaS.fr {blk:Nat} (h:GaS p w W x (some ⟨blk,0,none⟩) cap A) (hb:w.heap.size+2<=blk) (hF:Fr (only blk) W.heap.size W W') (hd:W.drawn<=W'.drawn) (hR:qF W' blk cap B) (har:∀y∈B,y.1.ar):GaS p w W' x (some ⟨blk,0,none⟩) cap B:=by
 have hl:=h.lt;have ho:∀k,k<w.heap.size+2->W'.heap[k]? =W.heap[k]? :=fun k hk=>hF.block k (by omega) (by simp[only];omega)
 exact⟨⟨⟨zJq h.pre.gr.1 h.pre.gr.1.size (by omega) hF,rB h.pre.gr.2 hd⟩,(ho _ (by omega)).trans h.pre.b3,(ho _ (by omega)).trans h.pre.b4⟩,.inr ⟨blk,rfl,hb,hR⟩,h.cap,har⟩
theorem GaS.only {blk:Nat} (h:GaS p w W x a cap A) (hb:w.heap.size+2<=blk):Sub (dim p w) (dim (only blk) W):=
 zE h.pre.gr.1.size fun k hk _=>⟨by simp[YtmabhhngoklncaaGreatDoor.only];omega,h.pre.gr.1.block k hk⟩
theorem GaS.sort (h:GaS p w W x a cap A) (hn:A.length<=1000000):Calls rD 270 #[jS a A.length cap,.func (.func 393) #[] #[]] W fun e w'=>e=jR (jU #[])/\∃B:List (El (dim p w)),GaS p w w' x a cap B/\nl B=nl A/\B.length=A.length:=by
 rcases h.list with⟨rfl,rfl,rfl⟩|⟨blk,rfl,hb,hR⟩
 ·refine(show Calls rD 270 _ _ _ from AnyF.slices_SortFunc_none Tryz.sortF none 0 (.func (.func 393) #[] #[]) W).mono ?_
  rintro e w' ⟨rfl,rfl⟩;exact⟨rfl,[],h,rfl,rfl⟩
 ·refine(zPe (h.only hb) hR (by omega)).mono ?_
  rintro e w' ⟨rfl,ys,hp, -,hR',hF,hd⟩;exact⟨rfl,ys,h.fr hb hF hd hR' fun y hy=>h.ar y (hp.mem_iff.1 hy),zPs hp,hp.length_eq⟩
theorem GaS.compact (h:GaS p w W x a cap A) (hn:A.length<=1000000):Calls rD 271 #[jS a A.length cap,.func (.func 440) #[] #[]] W fun e w'=>∃B:List (El (dim p w)),e=jR (jS a B.length cap)/\GaS p w w' x a cap B/\nl B<=nl A:=by
 rcases h.list with⟨rfl,rfl,rfl⟩|⟨blk,rfl,hb,hR⟩
 ·refine(zEr W (by simp)).mono ?_
  rintro e w' ⟨rfl,rfl⟩;exact⟨[],rfl,h,rJ _⟩
 ·refine(zLJ (h.only hb) hR hn).mono ?_
  rintro e w' ⟨rfl,hR',hF,hd⟩;exact⟨_,rfl,h.fr hb hF hd hR' fun y hy=>h.ar y ((zLp A).subset hy),zR3 (zLp A)⟩
theorem zP4 (W:World) (q:Nat) (os:Array Obj):Gr W (grow (W.drewN q) os):=⟨zBp (RowKit.Below.refl _ _) (rJ _) q os,Nat.le_add_right _ _⟩
theorem GaS.search {blk:Nat} (h:GaS p w W x (some ⟨blk,0,none⟩) cap A) (hn:A.length<=1000000) {y:Fe} (hy:y.ok (dim p w)):Calls rD 273 #[jS (some ⟨blk,0,none⟩) A.length cap,jG y,.func (.func 393) #[] #[]] W fun e w'=>(∃(i:Int) (b:Bool),e=jR (jU #[jI kQ i,jB b]))/\Gr W w':=by
 rcases h.list with⟨e,_⟩|⟨blk',e,hb,hR⟩
 ·cases e
 ·simp only[Option.some.injEq,Addr.mk.injEq,and_true] at e
  subst e;refine(zNI h.seen hR hn ⟨y,hy⟩).mono ?_;rintro e w' ⟨⟨q,os,rfl⟩,he⟩;exact⟨he,zP4 _ _ _⟩
theorem GaS.elem (h:GaS p w W x a cap A) {k:Nat} (hk:k<A.length):∃(blk:Nat) (y:Fe),a=some ⟨blk,0,none⟩/\y.ok (dim p w)/\y.ar/\y.args.nodes+1<=nl A/\
  W.cell? ⟨blk,k*5,none⟩=some (jI kQ y.op)/\W.cell? ⟨blk,k*5+1,none⟩=some (jT y.nm)/\W.cell? ⟨blk,k*5+2,none⟩=some (jI kQ y.v)/\W.cell? ⟨blk,k*5+3,none⟩=some (jI kQ y.bd)/\W.cell? ⟨blk,k*5+4,none⟩=some (jS y.a y.args.len y.c):=by
 rcases h.list with⟨_,rfl,_⟩|⟨blk,rfl,hb,hR⟩
 ·simp at hk
 ·have hm:=List.getElem_mem hk
  exact⟨blk,A[k].1,rfl,A[k].2,h.ar _ hm,zRf hm,hR.at k (k*5) rfl A[k] (List.getElem?_eq_getElem hk) rfl⟩
theorem GaS.leaf (h:GaS p w W x a cap A) {o:Int} (ho:o=1∨o=2):FmR p w (fun z=>z.ar/\z.args.nodes<=x.args.nodes) (jR (jG #[jI kQ o,jT ⟨#[]⟩,jI kQ 0,jI kQ 0,jS none 0 0])) (put5 W (w.heap.size+1) (jI kQ o) (jT ⟨#[]⟩) (jI kQ 0) (jI kQ 0) (jS none 0 0)):=
 h.pre.fin (P:=fun z=>z.ar/\z.args.nodes<=x.args.nodes) (z:=⟨o,⟨#[]⟩,0,0,.nil,none,0⟩) ⟨fun h=>absurd rfl h,(by decide:(⟨#[]⟩:ByteArray).size<=9223372036854775807),rF _,rF _⟩ ⟨⟨⟨fun h=>by dsimp only at h;omega,fun h=>by dsimp only at h;omega⟩,trivial⟩,rF _⟩
theorem GaS.one (h:GaS p w W x a cap A) {y:Fe} (hy:y.ok (dim p w)) (hr:y.ar) (hn:y.args.nodes<=x.args.nodes):FmR p w (fun z=>z.ar/\z.args.nodes<=x.args.nodes) (jR (jG y)) (put5 W (w.heap.size+1) (jI kQ y.op) (jT y.nm) (jI kQ y.v) (jI kQ y.bd) (jS y.a y.args.len y.c)):=
 h.pre.fin (P:=fun z=>z.ar/\z.args.nodes<=x.args.nodes) (z:=y) (Fe.ok_sub _ _ _ (zFd h.pre.gr) hy) ⟨hr,hn⟩
theorem GaS.all (h:GaS p w W x a cap A) (hpp:∀k,w.heap.size<=k->p k=false) (ho:x.op=5∨x.op=6) (hn:nl A<=x.args.nodes) (hl:A.length<=1000000):FmR p w (fun z=>z.ar/\z.args.nodes<=x.args.nodes) (jR (jG #[jI kQ x.op,jT ⟨#[]⟩,jI kQ 0,jI kQ 0,jS a A.length cap])) (put5 W (w.heap.size+1) (jI kQ x.op) (jT ⟨#[]⟩) (jI kQ 0) (jI kQ 0) (jS a A.length cap)):=by
 have hfl:(Fe.forest (A.map (·.1))).len=A.length:=by rw[Fe.forest_len,List.length_map]
 have hc:=h.list.le;have:=fun h9=>h.pre.fin (p:=p) (P:=fun z=>z.ar/\z.args.nodes<=x.args.nodes) (z:=⟨x.op,⟨#[]⟩,0,0,Fe.forest (A.map (·.1)),a,cap⟩) ⟨h9,(by decide:(⟨#[]⟩:ByteArray).size<=9223372036854775807),by show(Fe.forest _).len<=_;rw[hfl];omega,by show(Fe.forest _).len<=cap;rw[hfl];exact hc⟩ ⟨⟨⟨fun h=>by dsimp only at h;omega,fun h=>by dsimp only at h;omega⟩,ArL.forest h.ar⟩,by show(Fe.forest (A.map (·.1))).nodes<=_;rw[zEi];exact hn⟩
 dsimp only at this;rw[hfl] at this;refine this fun h0=>?_
 ·rw[hfl] at h0
  rcases h.list with⟨_,rfl,_⟩|⟨blk,rfl,hb,hR⟩
  ·exact absurd rfl h0
  ·refine⟨blk,0,rfl,by rw[zW];exact hR.lt,Fe.at _ 0 (fun j hj c u hc hu=>?_) fun y hy=>?_⟩
   ·have hq:orP p (w.heap.size+1) blk=false:=zD.2 ⟨hpp _ (by omega),by omega⟩
    rw[vQ hq,rL];have hj':j<A.length:=by simpa using hj
    obtain⟨c0,c1,c2,c3,c4⟩:=hR.at j (j*5) rfl A[j] (List.getElem?_eq_getElem hj') rfl;simp only[List.getElem_map] at hu
    match c,hc,hu with
    |0,_,hu=>exact c0.trans hu
    |1,_,hu=>exact c1.trans hu
    |2,_,hu=>exact c2.trans hu
    |3,_,hu=>exact c3.trans hu
    |4,_,hu=>exact c4.trans hu
   ·obtain⟨z,_,rfl⟩:=List.mem_map.1 hy
    exact Fe.ok_sub _ _ _ (zFd h.pre.gr) z.2
end
theorem zQ6 {a:Option Addr}{ar:Fs} (hf:FArgs (dim p w) a ar) (hr:ArL ar):∀W,Gr w W->∀k,k<ar.len->∃(b o:Nat) (y:Fe),a=some ⟨b,o,none⟩/\
  W.cell? ⟨b,o+k*5,none⟩=some (jI kQ y.op)/\W.cell? ⟨b,o+k*5+1,none⟩=some (jT y.nm)/\W.cell? ⟨b,o+k*5+2,none⟩=some (jI kQ y.v)/\W.cell? ⟨b,o+k*5+3,none⟩=some (jI kQ y.bd)/\W.cell? ⟨b,o+k*5+4,none⟩=some (jS y.a y.args.len y.c)/\
  y.ok (dim p w)/\y.ar/\y.args.nodes<ar.nodes/\ar.drop k=.cons y.op y.nm y.v y.bd y.args (ar.drop (k+1)):=fun W hW k hk=>by
 obtain⟨b1,o1,y,e,hb1,hdy,hyo,hyn,c0,c1,c2,c3,c4⟩:=hf.elem hk;have hs:Sub (dim p w) W:=(vM hW fun _ h=>h).trans (vS p W);exact⟨b1,o1,y,e,hs.cell c0,hs.cell c1,hs.cell c2,hs.cell c3,hs.cell c4,hyo,hr.at hdy,hyn,hdy⟩
theorem El.add {A news:List (El (dim p w))} (hA:∀y∈A,y.1.ar) (hn:∀y∈news,y.1.ar):∀y∈A++news,y.1.ar:=fun y hy=>(List.mem_append.1 hy).elim (hA y) (hn y)
theorem zJ3 {x:Fe}{un ze:Int} (hpp:∀k,w.heap.size<=k->p k=false) (h9:x.args.nodes<=1000) (hx:x.ok (dim p w)) (hr:ArL x.args) (ho:x.op=5∨x.op=6) (hun:un=1∨un=2) (hze:ze=1∨ze=2):
  Calls rD 439 #[jG x,jI kQ un,jI kQ ze] w (FmR p w (fun z=>z.ar/\z.args.nodes<=x.args.nodes)):=by
 have HX:=rA hx;have HPP:=rA hpp;have HO:=rA ho;have HUN:=rA hun;have HZE:=rA hze;have HN9:=rA h9;have HE:=rA (zQ6 hx.1 hr);have hL9:x.args.len<=1000:=rB (Fs.len_le _) h9;clear hx hr hpp h9 ho hun hze;go_enter Tryz.func439,Tryz.ntmps439;go_upto_region 2 with fail;have HW:Hid (∀W,W=(w.alloc (.cells x 33)).alloc (.cells zO 33)->RwP w W x):=rA fun W e=>by
  subst e;have s1:(w.alloc (.cells x 33)).heap.size=w.heap.size+1:=by simp
  exact⟨(Gr.alloc _ _).trans (Gr.alloc _ _),(rH _ _ (by simp)).trans (rE w _),by rw[<-s1,rE]⟩
 unfold zO at HW;have HP1:=rA (HW.out _ rfl);clear HW;generalize (w.alloc _).alloc _=w1 at*;obtain⟨q0,q1,q2,q3,q4, -⟩:=zA HP1.out.b3;go_wp2_with fail;go_loopw [7,17] (fun l i wr=>∃(k:Nat) (a:Option Addr) (cap:Nat) (A:List (El (dim p w))),k<=x.args.len/\i=jI kQ k/\l=jS a A.length cap/\Hid (GaS p w wr x a cap A/\nl A<=zU x.args k)) (fun _ i _=>x.args.len - (intOf i).toNat)
 case atStart=>exact⟨0,none,0,[],rF _,rfl,rfl,rA ⟨⟨HP1.out,.inl ⟨rfl,rfl,rfl⟩,rF _,fun y hy=>by cases hy⟩,rF _⟩⟩
 case round=>
  clear q0 q1 q2 q3 q4 HP1;obtain⟨k,a,cap,A,hk,rfl,rfl,HG⟩:=hrel;have HNT:=rA (rB HG.out.2 (rB (yE x.args k) HN9.out));have hAl:A.length<=1000:=rB (zKg A) HNT.out;by_cases hlt:k<x.args.len;rotate_left
  ·have hd:=dF hlt
   have HN0:Hid (nl A<=x.args.nodes):=rA (rB HG.out.2 (yE _ _));have HS:=rA (HG.out.1.sort (by omega));clear HG HE;go_wp2_with fail;refine HS.out.mono ?_;rintro e w2 ⟨rfl,B,hG2,hnl,hlen⟩;have HC:=hG2.compact (by omega);rw[hlen] at HC;have HC:=rA HC;have HNB:Hid (nl B<=x.args.nodes):=rA (by rw[hnl];exact HN0.out);clear hG2 hnl hlen HS HN0;go_wp2_with fail;refine HC.out.mono ?_;rintro e w3 ⟨C,rfl,hG3,hnl⟩;have HG3:=rA hG3;have HNC:=rA (rB hnl HNB.out);have hCl:C.length<=1000:=rB (zKg C) (rB HNC.out HN9.out);clear hG3 hnl HC HNB hAl HNT hd hlt hk;go_wp2_with fail;go_loopw [45] (fun i wr=>∃k:Nat,k<=C.length/\i=jI kQ k/\Hid (GaS p w wr x a cap C)) (fun i _=>C.length - (intOf i).toNat)
   case atStart=>exact⟨0,rF _,rfl,HG3⟩
   case round=>
    clear HG3;obtain⟨k,hk,rfl,HG⟩:=hrel;obtain⟨k40,k41,k42,k43,k44,f40,f41,f42,f43,f44⟩:=HG.out.pre.cells4;by_cases hlt:k<C.length
    ·have hd:=dT hlt
     have hkl:(k:Int)<(C.length:Int):=by omega
     obtain⟨blk,y,rfl,hyo,hyr,hyn,c0,c1,c2,c3,c4⟩:=HG.out.elem hlt;have HYO:=rA hyo;have HYR:=rA hyr;clear hyo hyr hyn k40 k41 k42 k43 k44 f40 f41 f42 f43 f44;go_upto_region 16 with fail;have HG5:=rA (HG.out.gr' (Gr.alloc wr (.cells y 33)));obtain⟨y0,y1,y2,y3,y4⟩:=zBA wr y _ (Gr.refl _);clear c0 c1 c2 c3 c4;generalize wr.alloc (.cells y 33)=w5 at*;obtain⟨k40,k41,k42,k43,k44,f40,f41,f42,f43,f44⟩:=HG5.out.pre.cells4;have HEND:=rA (HG5.out.leaf HZE.out);have hE:=rA (HG5.out.pre.out (jI kQ ze) (jT ⟨#[]⟩) (jI kQ 0) (jI kQ 0) (jS none 0 0));by_cases h1:y.op=ze
     ·have e1:(y.op==ze)=true:=by simpa using h1
      clear h1;go_wp2_with fail;exact rC (zFz rfl hE.out) rfl HEND.out
     have e1:(y.op==ze)=false:=by simpa using h1
     clear h1 HEND hE k40 k41 k42 k43 k44 f40 f41 f42 f43 f44;by_cases h4:y.op=4;rotate_left
     ·have e4:(y.op==(4:Int))=false:=by simpa using h4
      clear h4;go_wp2_with fail;go_roundw
      case rel=>exact⟨k+1,by omega,by go_num,HG5⟩
      case measure=>simp[intOf];omega
     have e4:(y.op==(4:Int))=true:=by simpa using h4
     have hyl:y.args.len=1:=HYR.out.1.1 (.inl h4);have hyp:(0:Int)<(y.args.len:Int):=by omega
     obtain⟨b1,o1,z,hya,c0,c1,c2,c3,c4,hzo,hzr,hzn,hzt⟩:=zQ6 HYO.out.1 HYR.out.2 w5 HG5.out.pre.gr 0 (by omega);simp only[rK,rM] at c0 c1 c2 c3 c4;have HSE:=rA (HG5.out.search (by omega) hzo);rw[hya] at y4;clear hzo hzr hzn hzt h4 hya hyl;go_wp2_with fail;refine HSE.out.mono ?_;rintro e w6 ⟨⟨i6,b6,rfl⟩,hg6⟩;have HG6:=rA (HG5.out.gr' hg6);clear hg6 HSE c0 c1 c2 c3 c4 y0 y1 y2 y3 y4;obtain⟨k40,k41,k42,k43,k44,f40,f41,f42,f43,f44⟩:=HG6.out.pre.cells4;have HEND:=rA (HG6.out.leaf HZE.out);have hE:=rA (HG6.out.pre.out (jI kQ ze) (jT ⟨#[]⟩) (jI kQ 0) (jI kQ 0) (jS none 0 0));cases b6 with
     |true=>
      go_wp2_with fail;exact rC (zFz rfl hE.out) rfl HEND.out
     |false=>
      clear k40 k41 k42 k43 k44 f40 f41 f42 f43 f44 HEND hE;go_wp2_with fail;go_roundw
      case rel=>exact⟨k+1,by omega,by go_num,HG6⟩
      case measure=>simp[intOf];omega
    ·have hd:=dF hlt
     obtain⟨q0,q1,q2,q3,q4, -⟩:=zA HG.out.pre.b3;by_cases h0:C.length=0
     ·have e0:((C.length:Int)==0)=true:=by simp[h0]
      have HEND:=rA (HG.out.leaf HUN.out);have hE:=rA (HG.out.pre.out (jI kQ un) (jT ⟨#[]⟩) (jI kQ 0) (jI kQ 0) (jS none 0 0));clear h0;go_wp2_with fail;exact rC (zFz rfl hE.out) rfl HEND.out
     have e0:((C.length:Int)==0)=false:=by rw[beq_eq_false_iff_ne];omega
     by_cases h1:C.length=1
     ·have e1:((C.length:Int)==1)=true:=by simp[h1]
      obtain⟨blk,y,rfl,hyo,hyr,hyn,c0,c1,c2,c3,c4⟩:=HG.out.elem (k:=0) (by omega);simp only[rK,rL] at c0 c1 c2 c3 c4;have HEND:=rA (HG.out.one hyo hyr (by have:=HNC.out;omega));have hE:=rA (HG.out.pre.out (jI kQ y.op) (jT y.nm) (jI kQ y.v) (jI kQ y.bd) (jS y.a y.args.len y.c));have hcp:(0:Int)<(C.length:Int):=by omega
      clear h0 h1 hyo hyr hyn;go_wp2_with fail;exact rC (zFz rfl hE.out) rfl HEND.out
     have e1:((C.length:Int)==1)=false:=by rw[beq_eq_false_iff_ne];omega
     have HEND:=rA (HG.out.all HPP.out HO.out HNC.out (by omega));have hE:=rA (HG.out.pre.out (jI kQ x.op) (jT ⟨#[]⟩) (jI kQ 0) (jI kQ 0) (jS a C.length cap));clear h0 h1;go_wp2_with fail;exact rC (zFz rfl hE.out) rfl HEND.out
  have hd:decide (k<x.args.len)=true:=by simpa using hlt
  obtain⟨b1,o1,y,hxa,c0,c1,c2,c3,c4,hyo,hyr,hyn,hnt⟩:=HE.out wr HG.out.1.pre.gr k hlt;obtain⟨q0,q1,q2,q3,q4, -⟩:=zA HG.out.1.pre.b3;have hkl:(k:Int)<(x.args.len:Int):=by omega
  have HXA:=rA hxa;rw[hxa];clear hxa;go_upto_region 5 with fail;have HG5:=rA (HG.out.1.gr' (Gr.alloc wr (.cells y 33)));have HNG:=rA HG.out.2;have HYO:=rA hyo;have HYR:=rA hyr;have HYN:=rA (zX hnt);have hyl:y.args.len<=1000:=rB (Fs.len_le _) (by have:=HN9.out;omega);obtain⟨y0,y1,y2,y3,y4⟩:=zBA wr y _ (Gr.refl _);clear c0 c1 c2 c3 c4 hyo hyr hyn hnt q0 q1 q2 q3 q4 HG;generalize wr.alloc (.cells y 33)=w5 at*;obtain⟨q0, -⟩:=zA HG5.out.pre.b3;by_cases h1:y.op=x.op
  ·have e1:(y.op==x.op)=true:=by simpa using h1
   obtain⟨a',cap',w9,news,hrun,k1,k2,k3,k4,k5⟩:=zK2 (cc:=y.c) HG5.out.list HG5.out.lt HG5.out.seen HYO.out.1 HG5.out.cap (by omega);have HNX:Hid (GaS p w w9 x a' cap' (A++news)/\nl (A++news)<=zU x.args (k+1)):=rA ⟨HG5.out.app k1 k3 k4 k5 (El.add HG5.out.ar (ArL.mem (by rw[k2];exact HYR.out.2))),by
    have h2:=zEi news;rw[k2] at h2;rw[zKc,HYN.out];have:=HNG.out;omega⟩
   have HRUN:=rA hrun;clear hrun k1 k2 k3 k4 k5 h1;go_wp2_with (at_builtin;refine Lib.wpList_append_run _ rfl _ _ _ _ rfl _ _ rfl rfl _ _ HRUN.out ?_);go_roundw
   case rel=>exact⟨k+1,a',cap',A++news,by omega,by go_num,by rw[List.length_append],HNX⟩
   case measure=>simp[intOf];omega
  have e1:(y.op==x.op)=false:=by simpa using h1
  clear h1;by_cases h2:y.op=un
  ·have e2:(y.op==un)=true:=by simpa using h2
   have HNX:Hid (GaS p w w5 x a cap A/\nl A<=zU x.args (k+1)):=rA ⟨HG5.out,by rw[HYN.out];have:=HNG.out;omega⟩;clear h2;go_wp2_with fail;go_roundw
   case rel=>exact⟨k+1,a,cap,A,by omega,by go_num,rfl,HNX⟩
   case measure=>simp[intOf];omega
  have e2:(y.op==un)=false:=by simpa using h2
  clear h2;obtain⟨z,hzy⟩:∃z:El (dim p w),z.1=y:=⟨⟨y,HYO.out⟩,rfl⟩;have hze:yY z=[jI kQ y.op,jT y.nm,jI kQ y.v,jI kQ y.bd,jS y.a y.args.len y.c]:=by
   show z.1.enc=_;rw[hzy];rfl
  have hz1:[z].length=1:=rfl;obtain⟨a',cap',w9,hrun,k1,k3,k4,k5⟩:=zLi (news:=[z]) (cc:=1) (HG5.out.gr' (Gr.alloc w5 (.cells y 33))).list (HG5.out.gr' (Gr.alloc _ _)).lt (sb:=w5.heap.size) (so:=0) (fun j hj c v hv=>by
   have hj0:j=0:=by rw[hz1] at hj;omega
   subst hj0;have k9:=zI w5 y 33 c;rw[show(0+0*5+c)=c by omega,k9,List.getElem?_toArray,<-hze];exact hv) (by rw[hz1];omega) HG5.out.cap (by rw[hz1];omega)
  have HNX:Hid (GaS p w w9 x a' cap' (A++[z])/\nl (A++[z])<=zU x.args (k+1)):=rA ⟨(HG5.out.gr' (Gr.alloc _ _)).app k1 k3 k4 k5 (El.add HG5.out.ar fun u hu=>by rw[List.mem_singleton.1 hu,hzy];exact HYR.out),by
   have:=HNG.out;have e:nl [z]=y.args.nodes+1:=by show z.1.args.nodes+1+0=_;rw[hzy]
   rw[zKc,HYN.out,e];omega⟩
  rw[hz1] at hrun;clear hzy hze;have HRUN:=rA hrun;clear hrun k1 k3 k4 k5;go_wp2_with (at_builtin;refine Lib.wpList_append_run _ rfl _ _ _ _ rfl _ _ rfl rfl _ _ HRUN.out ?_);go_roundw
  case rel=>exact⟨k+1,a',cap',A++[z],by omega,by go_num,by rw[List.length_append,hz1],HNX⟩
  case measure=>simp[intOf];omega
theorem zAG {tmps:Array Value} {W:World} {g:Nat} {a b c d e:Value} (hp:tmps.getD 2 undef=jP (some ⟨g,0,none⟩)) (h:W.heap[g]? =some (.cells #[a,b,c,d,e] 33 (0,0))):
  (results Tryz.f437 tmps).run rD W=.ok (jG #[a,b,c,d,e]) W:=
 zGp rfl hp h fun W' h0 h1 h2 h3 h4=>by simp[go_sem,h0,h1,h2,h3,h4]
def zD9 (x:Fe) (z:Fe):Prop:=z.ar/\z.args.nodes<=x.args.nodes
def zQr (n:Nat):Prop:=∀(p:Nat->Bool) (x:Fe) (w:World),(∀k,w.heap.size<=k->p k=false)->x.args.nodes<n->x.args.nodes<=1000->x.ok (dim p w)->x.ar->Calls rD 437 #[jG x] w (FmR p w (zD9 x))
structure CaS (p:Nat->Bool) (w W:World) (M:Nat) (x:Fe) (A:List Fe):Prop where
 pre:RwP w W x
 b5:W.heap[w.heap.size+2]? =some (.cells #[jI kQ x.op,jT x.nm,jI kQ x.v,jI kQ x.bd,jS (some ⟨M,0,none⟩) x.args.len x.args.len] 33 (0,0))
 row:FmB (orP p (w.heap.size+1)) W M x.args.len A
 lt:w.heap.size+3<=M
 ar:∀y∈A,y.ar
theorem ArL.fes:∀ {A:List Fe},(∀y∈A,y.ar)->ArL (Fe.forest A)
 |[],_=>trivial
 |x::A,h=>⟨(h x (List.mem_cons_self ..)).1,(h x (List.mem_cons_self ..)).2,ArL.fes fun y hy=>h y (List.mem_cons_of_mem _ hy)⟩
theorem zHa:∀ {A:List Fe} {y:Fe},y∈A->y.args.nodes+1<=(Fe.forest A).nodes
 |x::A,y,h=>by
  rcases List.mem_cons.1 h with rfl|h
  ·simp only[Fe.forest,Fs.nodes];omega
  ·have:=zHa h;simp only[Fe.forest,Fs.nodes];omega
section
variable {p:Nat->Bool} {w W W':World} {M:Nat} {x:Fe} {A:List Fe}
theorem CaS.gr' (h:CaS p w W M x A) (hg:Gr W W'):CaS p w W' M x A:=⟨h.pre.gr' hg,(hg.1.block _ (Array.getElem?_eq_some_iff.1 h.b5).1).trans h.b5,h.row.gr hg,h.lt,h.ar⟩
theorem CaS.push (h:CaS p w W M x A) {z:Fe} (hz:z.ok (dim (orP (orP p (w.heap.size+1)) M) W)) (hr:z.ar) (hn:A.length<x.args.len):CaS p w (set5 W M (A.length*5) (jI kQ z.op) (jT z.nm) (jI kQ z.v) (jI kQ z.bd) (jS z.a z.args.len z.c)) M x (A++[z]):=by
 have hl:=h.lt;exact⟨⟨Gr.set5 h.pre.gr (by omega),(yX (by omega)).trans h.pre.b3,(yX (by omega)).trans h.pre.b4⟩,(yX (by omega)).trans h.b5,h.row.push hz hn,h.lt,fun y hy=>(List.mem_append.1 hy).elim (h.ar y) fun hy=>by rw[List.mem_singleton.1 hy];exact hr⟩
theorem FmB.cellAt {q:Nat->Bool} {n:Nat} (h:FmB q W M n A) {k:Nat} (hk:k<A.length):W.cell? ⟨M,k*5,none⟩=some (jI kQ A[k].op)/\W.cell? ⟨M,k*5+1,none⟩=some (jT A[k].nm)/\W.cell? ⟨M,k*5+2,none⟩=some (jI kQ A[k].v)/\W.cell? ⟨M,k*5+3,none⟩=some (jI kQ A[k].bd)/\W.cell? ⟨M,k*5+4,none⟩=some (jS A[k].a A[k].args.len A[k].c):=by
 obtain⟨cs,h1,h2,h3⟩:=h.blk;have e:=fun c hc=>h3 k hk c hc
 refine⟨?_,?_,?_,?_,?_⟩
 ·simpa[rG,h1,Fe.enc] using e 0 (by omega)
 ·simpa[rG,h1,Fe.enc] using e 1 (by omega)
 ·simpa[rG,h1,Fe.enc] using e 2 (by omega)
 ·simpa[rG,h1,Fe.enc] using e 3 (by omega)
 ·simpa[rG,h1,Fe.enc] using e 4 (by omega)
def CaS.g (x:Fe) (M:Nat) (A:List Fe):Fe:=⟨x.op,x.nm,x.v,x.bd,Fe.forest A,some ⟨M,0,none⟩,x.args.len⟩
theorem CaS.gok (h:CaS p w W M x A) (hpp:∀k,w.heap.size<=k->p k=false) (hA:A.length=x.args.len) (hn:x.nm.size<=9223372036854775807) (hl:x.args.len<=1000000):(CaS.g x M A).ok (dim (orP p (w.heap.size+1)) W):=by
 have hm:=h.lt;have hfl:(Fe.forest A).len=x.args.len:=by rw[Fe.forest_len,hA]
 exact⟨h.row.done hA (zD.2 ⟨hpp _ (by omega),by omega⟩),hn,by show(Fe.forest A).len<=_;omega,by show(Fe.forest A).len<=x.args.len;omega⟩
theorem CaS.gar (h:CaS p w W M x A) (hA:A.length=x.args.len) (hx:x.ar):(CaS.g x M A).ar:=⟨by show vH x.op (Fe.forest A).len;rw[Fe.forest_len,hA];exact hx.1,ArL.fes h.ar⟩
end
theorem CaS.made {p:Nat->Bool} {w W:World} {x:Fe} (h:RwP w W x) (hb:W.heap[w.heap.size+2]? =some (.cells x 33 (0,0))):CaS p w ((W.alloc (.cells (madeCells zO (x.args.len*5)) 33)).setCell ⟨w.heap.size+2,4,none⟩ (jS (some ⟨W.heap.size,0,none⟩) x.args.len x.args.len)) W.heap.size x []:=by
 have hl:=(Array.getElem?_eq_some_iff.1 hb).1;have h':=h.gr' (Gr.alloc W (.cells (madeCells zO (x.args.len*5)) 33));have hm:=FmB.made (orP p (w.heap.size+1)) W (n:=x.args.len) zO (size_madeCells _ _);refine⟨⟨Gr.setCell h'.gr (by omega) _,(rI _ _ _ _ (by simp)).trans h'.b3,(rI _ _ _ _ (by simp)).trans h'.b4⟩,?_,⟨by obtain⟨cs,h1,h2⟩:=hm.blk;exact⟨cs,(rI _ _ _ _ (by simp;omega)).trans h1,h2⟩,fun x hx=>(by cases hx),rF _⟩,by omega,fun x hx=>(by cases hx)⟩;rw[heap_setCell_same _ _ 4 _ 33 _ ((rH _ _ hl).trans hb)];rfl
section
variable {p:Nat->Bool} {w W:World} {M:Nat} {x:Fe} {A:List Fe}
theorem CaS.last (h:CaS p w W M x A) {y:Fe} (hy:y∈A) (hn:(Fe.forest A).nodes<=x.args.nodes):FmR p w (zD9 x) (jR (jG y)) (put5 W (w.heap.size+1) (jI kQ y.op) (jT y.nm) (jI kQ y.v) (jI kQ y.bd) (jS y.a y.args.len y.c)):=
 h.pre.fin (P:=zD9 x) (z:=y) (Fe.ok_sub _ _ _ (zE (rJ _) fun k _ hk=>⟨(zD.1 hk).1,rfl⟩) (h.row.els y hy)) ⟨h.ar y hy,by have:=zHa hy;omega⟩
theorem CaS.whole (h:CaS p w W M x A) (hpp:∀k,w.heap.size<=k->p k=false) (hA:A.length=x.args.len) (hx:x.ok (dim p w)) (hr:x.ar) (hl:x.args.len<=1000) (hn:(Fe.forest A).nodes<=x.args.nodes):FmR p w (zD9 x) (jR (jG #[jI kQ x.op,jT x.nm,jI kQ x.v,jI kQ x.bd,jS (some ⟨M,0,none⟩) x.args.len x.args.len])) (put5 W (w.heap.size+1) (jI kQ x.op) (jT x.nm) (jI kQ x.v) (jI kQ x.bd) (jS (some ⟨M,0,none⟩) x.args.len x.args.len)):=by
 have:=h.pre.fin (p:=p) (P:=zD9 x) (z:=CaS.g x M A) (h.gok hpp hA hx.2.1 (by omega)) ⟨h.gar hA hr,hn⟩;simp only[CaS.g,Fe.forest_len,hA] at this;exact this
theorem CaS.gath (h:CaS p w W M x A) (hpp:∀k,w.heap.size<=k->p k=false) (hA:A.length=x.args.len) (hx:x.ok (dim p w)) (h9:x.args.nodes<=1000) (hl:x.args.len<=1000) (hn:(Fe.forest A).nodes<=x.args.nodes) (ho:x.op=5∨x.op=6) {un ze:Int} (hun:un=1∨un=2) (hze:ze=1∨ze=2):Calls rD 439 #[jG #[jI kQ x.op,jT x.nm,jI kQ x.v,jI kQ x.bd,jS (some ⟨M,0,none⟩) x.args.len x.args.len],jI kQ un,jI kQ ze] W (FmR (orP p (w.heap.size+1)) W (zD9 x)):=by
 have hl2:=h.pre.lt;have:=zJ3 (p:=orP p (w.heap.size+1)) (x:=CaS.g x M A) (un:=un) (ze:=ze) (fun k hk=>zD.2 ⟨hpp _ (by omega),by omega⟩) (rB hn h9) (h.gok hpp hA hx.2.1 (by omega)) (ArL.fes h.ar) ho hun hze;simp only[CaS.g,Fe.forest_len,hA] at this;refine this.mono ?_;rintro e w' ⟨z,he,hz,hp,hg⟩;exact⟨z,he,hz,⟨hp.1,rB hp.2 hn⟩,hg⟩
end
theorem zK8 {n:Nat} (IH:zQr n) (p:Nat->Bool) (x:Fe) (w:World) (hpp:∀k,w.heap.size<=k->p k=false) (hn:x.args.nodes<=n) (h9:x.args.nodes<=1000) (hx:x.ok (dim p w)) (hr:x.ar):
  Calls rD 437 #[jG x] w (FmR p w (zD9 x)):=by
 have HX:=rA hx;have HXR:=rA hr;have HPP:=rA hpp;have HI:=rA IH;have HN:=rA hn;have HN9:=rA h9;have HE:=rA (zOn hx.1 hr.2);have hL9:x.args.len<=1000000000:=rB (Fs.len_le _) (by omega);have HL9:Hid (x.args.len<=1000):=rA (rB (Fs.len_le _) h9);clear IH hx hr hpp hn h9;go_enter Tryz.func437,Tryz.ntmps437;go_upto_region 1 with fail;have HW:Hid (∀W,W=(w.alloc (.cells x 33)).alloc (.cells zO 33)->RwP w W x/\W.heap.size=w.heap.size+2):=rA fun W e=>by
  subst e;have s1:(w.alloc (.cells x 33)).heap.size=w.heap.size+1:=by simp
  exact⟨⟨(Gr.alloc _ _).trans (Gr.alloc _ _),(rH _ _ (by simp)).trans (rE w _),by rw[<-s1,rE]⟩,by simp⟩
 unfold zO at HW;obtain⟨hp1,hs1⟩:=HW.out _ rfl;have HP1:=rA hp1;clear HW hp1;generalize (w.alloc _).alloc _=w1 at*;have HS1:=rA hs1;clear hs1;obtain⟨q0,q1,q2,q3,q4, -⟩:=zA HP1.out.b3;have HEND:=rA (HP1.out.fin (p:=p) (P:=zD9 x) (z:=x) (Fe.ok_sub _ _ _ (zFd HP1.out.gr) HX.out) ⟨HXR.out,rJ _⟩);have hE:=rA (HP1.out.out (jI kQ x.op) (jT x.nm) (jI kQ x.v) (jI kQ x.bd) (jS x.a x.args.len x.c));obtain⟨k40,k41,k42,k43,k44,f40,f41,f42,f43,f44⟩:=HP1.out.cells4;by_cases h4:x.op=4
 ·have e4:(x.op==(4:Int))=true:=by simpa using h4
  clear h4;go_wp2_with fail;exact rC (zAG rfl hE.out) rfl HEND.out
 have e4:(x.op==(4:Int))=false:=by simpa using h4
 by_cases hl0:x.args.len=0
 ·have hd0:((x.args.len:Int)==0)=true:=by simp[hl0]
  clear hl0 h4;go_wp2_with fail;exact rC (zAG rfl hE.out) rfl HEND.out
 have hd0:((x.args.len:Int)==0)=false:=by rw[beq_eq_false_iff_ne];omega
 have HL0:Hid (0<x.args.len):=rA (by omega);clear hl0 h4 HEND hE k40 k41 k42 k43 k44 f40 f41 f42 f43 f44;go_upto_region 4 with fail;have HG5:Hid ((w1.alloc (.cells x 33)).heap[w.heap.size+2]? =some (.cells x 33 (0,0))):=rA (xH HS1.out _);have HP4:=rA (HP1.out.gr' (Gr.alloc w1 (.cells x 33)));clear q0 q1 q2 q3 q4 HP1;rw[HS1.out];generalize w1.alloc (.cells x 33)=w4 at*;have hmk:∀W:World,(Instr.makeSlice 31 (jI kQ (x.args.len:Int)) (jI kQ (x.args.len:Int))).run rD W=.ok (jS (some ⟨W.heap.size,0,none⟩) x.args.len x.args.len) (W.alloc (.cells (madeCells zO (x.args.len*5)) 33)):=zGR hL9;obtain⟨q0,q1,q2,q3,q4, -⟩:=zA HP4.out.b3;obtain⟨k50,k51,k52,k53,k54,f50,f51,f52,f53,f54⟩:=zA HG5.out;have HPA:Hid (∀o:Obj,(w4.alloc o).cell? ⟨w.heap.size+2,4,none⟩=some (jS x.a x.args.len x.c)/\(w4.alloc o).frozen? ⟨w.heap.size+2,4,none⟩=false):=rA fun o=>by
  obtain⟨_,_,_,_,h4,_,_,_,_,h5⟩:=zA ((rH w4 o (Array.getElem?_eq_some_iff.1 HG5.out).1).trans HG5.out);exact⟨h4,h5⟩
 obtain⟨a54,af4⟩:=HPA.out (.cells (madeCells zO (x.args.len*5)) 33);go_upto_region 5 with fail;have HS0:=rA (CaS.made (p:=p) HP4.out HG5.out);clear hmk q0 q1 q2 q3 q4 k50 k51 k52 k53 k54 f50 f51 f52 f53 f54 HPA af4 a54 HP4 HG5;generalize hM:w4.heap.size=M at*;generalize (w4.alloc (.cells (madeCells zO (x.args.len*5)) 33)).setCell ⟨w.heap.size+2,4,none⟩ (jS (some ⟨M,0,none⟩) x.args.len x.args.len)=w8 at*;clear hM;obtain⟨q0,q1,q2,q3,q4, -⟩:=zA HS0.out.pre.b3;go_wp2_with fail;go_loopw [27] (fun i wr=>∃(k:Nat) (A:List Fe),k<=x.args.len/\i=jI kQ k/\Hid (CaS p w wr M x A/\A.length=k/\(Fe.forest A).nodes<=zU x.args k)) (fun i _=>x.args.len - (intOf i).toNat)
 case atStart=>exact⟨0,[],rF _,rfl,rA ⟨HS0.out,rfl,rF _⟩⟩
 case round=>
  clear q0 q1 q2 q3 q4 HS0;obtain⟨k,A,hk,rfl,HR⟩:=hrel;by_cases hlt:k<x.args.len;rotate_left
  ·have hd:=dF hlt
   have HA:Hid (A.length=x.args.len):=rA (by have:=HR.out.2.1;omega);have HNN:Hid ((Fe.forest A).nodes<=x.args.nodes):=rA (rB HR.out.2.2 (yE _ _));have HS:=rA HR.out.1;clear HR HE;obtain⟨m,hm⟩:∃m,m+1=x.args.len:=⟨x.args.len - 1,by have:=HL0.out;omega⟩;have hml:(m:Int)<(x.args.len:Int):=by omega
   have hm0:(0:Int)<=(m:Int):=by omega
   have hlm:(x.args.len:Int) - 1=(m:Int):=by omega
   have hwm:IntKind.i64.wrap (m:Int)=(m:Int):=by rw[IntKind.wrap_i64];have:=HL9.out;omega
   have hl0:(0:Int)<(x.args.len:Int):=by omega
   have hl0':0<x.args.len:=by omega
   have hmA:m<A.length:=by have:=HA.out;omega
   have h0A:0<A.length:=by have:=HA.out;omega
   obtain⟨y,hy⟩:∃y,y=A[m]:=⟨_,rfl⟩;obtain⟨z,hz⟩:∃z,z=A[0]:=⟨_,rfl⟩;have HY:Hid (y∈A):=rA (by rw[hy];exact List.getElem_mem _);have HC0:Hid (∀W,Gr wr W->W.cell? ⟨M,m*5,none⟩=some (jI kQ y.op)/\W.cell? ⟨M,m*5+1,none⟩=some (jT y.nm)/\W.cell? ⟨M,m*5+2,none⟩=some (jI kQ y.v)/\W.cell? ⟨M,m*5+3,none⟩=some (jI kQ y.bd)/\W.cell? ⟨M,m*5+4,none⟩=some (jS y.a y.args.len y.c)/\W.cell? ⟨M,0,none⟩=some (jI kQ z.op)):=rA fun W hg=>by
    have hS:=HS.out.gr' hg;obtain⟨c0,c1,c2,c3,c4⟩:=hS.row.cellAt hmA;obtain⟨d0, -⟩:=hS.row.cellAt h0A;rw[rK] at d0;rw[hy,hz];exact⟨c0,c1,c2,c3,c4,d0⟩
   obtain⟨c0,c1,c2,c3,c4, -⟩:=HC0.out wr (Gr.refl _);obtain⟨-, -, -, -,k54, -⟩:=zA HS.out.b5;clear hy hz hm hmA h0A hlt;go_upto_region 11 with fail;have HS6:=rA (HS.out.gr' (Gr.alloc wr (.cells y 33)));obtain⟨-, -, -, -, -,m0⟩:=HC0.out _ (Gr.alloc wr (.cells y 33));obtain⟨y0,y1,y2,y3,y4⟩:=zBA wr y _ (Gr.refl _);clear c0 c1 c2 c3 c4 k54 HC0 HS;generalize wr.alloc (.cells y 33)=w6 at*;go_cut [7] from 47 to 54 (fun t wx=>∃b:Bool,t=jB b/\wx=w6)
   case first=>
    by_cases h1:y.op=1
    ·have e1:(y.op==(1:Int))=true:=by simpa using h1
     clear h1;go_wp2_with fail;go_meet;exact⟨_,rfl,rfl⟩
    have e1:(y.op==(1:Int))=false:=by simpa using h1
    clear h1;by_cases h2:y.op=2
    ·have e2:(y.op==(2:Int))=true:=by simpa using h2
     clear h2;go_wp2_with fail;go_meet;exact⟨_,rfl,rfl⟩
    have e2:(y.op==(2:Int))=false:=by simpa using h2
    clear h2;go_wp2_with fail;go_meet;exact⟨_,rfl,rfl⟩
   case rest=>
    obtain⟨b,rfl,hw⟩:=hcut;rw[hw];clear hw;obtain⟨q0,q1,q2,q3,q4, -⟩:=zA HS6.out.pre.b3;obtain⟨k50,k51,k52,k53,k54, -⟩:=zA HS6.out.b5;have HGA:Hid (∀un ze:Int,un=1∨un=2->ze=1∨ze=2->x.op=5∨x.op=6->Calls rD 439 #[jG #[jI kQ x.op,jT x.nm,jI kQ x.v,jI kQ x.bd,jS (some ⟨M,0,none⟩) x.args.len x.args.len],jI kQ un,jI kQ ze] w6 (FmR (orP p (w.heap.size+1)) w6 (zD9 x))):=rA fun un ze h1 h2 h3=>HS6.out.gath HPP.out HA.out HX.out HN9.out HL9.out HNN.out h3 h1 h2
    have HLAST:=rA (HS6.out.last HY.out HNN.out);have hEL:=rA (HS6.out.pre.out (jI kQ y.op) (jT y.nm) (jI kQ y.v) (jI kQ y.bd) (jS y.a y.args.len y.c));have HWH:=rA (HS6.out.whole HPP.out HA.out HX.out HXR.out HL9.out HNN.out);have hEW:=rA (HS6.out.pre.out (jI kQ x.op) (jT x.nm) (jI kQ x.v) (jI kQ x.bd) (jS (some ⟨M,0,none⟩) x.args.len x.args.len));by_cases o5:x.op=5
    ·have d5:(x.op==(5:Int))=true:=by simpa using o5
     have HC:=rA (HGA.out 1 2 (.inl rfl) (.inr rfl) (.inl o5));clear o5;go_wp2_with fail;refine HC.out.mono ?_;rintro e w7 ⟨u,rfl,hu,hup,hg⟩;have HS7:=rA (HS6.out.gr' hg);have HEND:=rA (HS7.out.pre.fin (P:=zD9 x) hu hup);have hE:=rA (HS7.out.pre.out (jI kQ u.op) (jT u.nm) (jI kQ u.v) (jI kQ u.bd) (jS u.a u.args.len u.c));clear hu hup hg HC q0 q1 q2 q3 q4 k50 k51 k52 k53 k54 y0 y1 y2 y3 y4 m0;obtain⟨k40,k41,k42,k43,k44,f40,f41,f42,f43,f44⟩:=HS7.out.pre.cells4;go_wp2_with fail;exact rC (zAG rfl hE.out) rfl HEND.out
    have d5:(x.op==(5:Int))=false:=by simpa using o5
    by_cases o6:x.op=6
    ·have d6:(x.op==(6:Int))=true:=by simpa using o6
     have HC:=rA (HGA.out 2 1 (.inr rfl) (.inl rfl) (.inr o6));clear o5 o6;go_wp2_with fail;refine HC.out.mono ?_;rintro e w7 ⟨u,rfl,hu,hup,hg⟩;have HS7:=rA (HS6.out.gr' hg);have HEND:=rA (HS7.out.pre.fin (P:=zD9 x) hu hup);have hE:=rA (HS7.out.pre.out (jI kQ u.op) (jT u.nm) (jI kQ u.v) (jI kQ u.bd) (jS u.a u.args.len u.c));clear hu hup hg HC q0 q1 q2 q3 q4 k50 k51 k52 k53 k54 y0 y1 y2 y3 y4 m0;obtain⟨k40,k41,k42,k43,k44,f40,f41,f42,f43,f44⟩:=HS7.out.pre.cells4;go_wp2_with fail;exact rC (zAG rfl hE.out) rfl HEND.out
    have d6:(x.op==(6:Int))=false:=by simpa using o6
    clear HGA o5 o6;obtain⟨k40,k41,k42,k43,k44,f40,f41,f42,f43,f44⟩:=HS6.out.pre.cells4;by_cases o8:x.op=8
    ·have d8:(x.op==(8:Int))=true:=by simpa using o8
     clear o8;cases b with
     |true=>
      go_wp2_with fail;exact rC (zAG rfl hEL.out) rfl HLAST.out
     |false=>
      go_wp2_with fail;exact rC (zAG rfl hEW.out) rfl HWH.out
    have d8:(x.op==(8:Int))=false:=by simpa using o8
    clear o8;by_cases o9:x.op=9
    ·have d9:(x.op==(9:Int))=true:=by simpa using o9
     clear o9;cases b with
     |true=>
      go_wp2_with fail;exact rC (zAG rfl hEL.out) rfl HLAST.out
     |false=>
      by_cases z2:z.op=2
      ·have g2:(z.op==(2:Int))=true:=by simpa using z2
       clear z2;go_wp2_with fail;exact rC (zAG rfl hEL.out) rfl HLAST.out
      ·have g2:(z.op==(2:Int))=false:=by simpa using z2
       clear z2;go_wp2_with fail;exact rC (zAG rfl hEW.out) rfl HWH.out
    have d9:(x.op==(9:Int))=false:=by simpa using o9
    clear o9;by_cases o10:x.op=10
    ·have d10:(x.op==(10:Int))=true:=by simpa using o10
     clear o10;cases b with
     |true=>
      go_wp2_with fail;exact rC (zAG rfl hEL.out) rfl HLAST.out
     |false=>
      by_cases z1:z.op=1
      ·have g2:(z.op==(1:Int))=true:=by simpa using z1
       clear z1;go_wp2_with fail;exact rC (zAG rfl hEL.out) rfl HLAST.out
      ·have g2:(z.op==(1:Int))=false:=by simpa using z1
       clear z1;go_wp2_with fail;exact rC (zAG rfl hEW.out) rfl HWH.out
    have d10:(x.op==(10:Int))=false:=by simpa using o10
    clear o10;go_wp2_with fail;exact rC (zAG rfl hEW.out) rfl HWH.out
  have hd:=dT hlt
  obtain⟨b1,o1,y,hxa,c0,c1,c2,c3,c4,hyo,hyr,hyn,hnt⟩:=HE.out wr HR.out.1.pre.gr k hlt;have HXA:=rA hxa;have hkl:(k:Int)<(x.args.len:Int):=by omega
  have HY:=rA hyo;have HYR:=rA hyr;have HYN:=rA hyn;have HNT:=rA hnt;have HRW:=rA (HR.out.1.gr' (Gr.alloc wr (.cells y 33)));have HBX:=rA (zBA wr y);have HAL:=rA (And.intro HR.out.2.1 HR.out.2.2);clear hyo hyr hyn hnt HR;rw[hxa];clear hxa;go_upto_region 8 with fail;generalize hw9:wr.alloc (.cells y 33)=w9 at*;clear hw9;obtain⟨-, -, -, -,k54, -⟩:=zA HRW.out.b5;obtain⟨y0,y1,y2,y3,y4⟩:=HBX.out w9 (Gr.refl _);have HC:Hid (Calls rD 437 #[jG y] (w9.drewN 1) (FmR (orP (orP p (w.heap.size+1)) M) (w9.drewN 1) (zD9 y))):=rA (by
   have hg:Gr w (w9.drewN 1):=HRW.out.pre.gr.trans (Gr.drawn _ 1);exact HI.out (orP (orP p (w.heap.size+1)) M) y _ (fun q hq=>by have:=HRW.out.row.lt;have h3:w9.heap.size<=q:=hq;have:=HRW.out.pre.lt;exact zD.2 ⟨zD.2 ⟨HPP.out q (rB hg.1.size hq),by omega⟩,by omega⟩) (by have:=HYN.out;have:=HN.out;omega) (by have:=HYN.out;have:=HN9.out;omega) (HY.out _ hg M (by have:=HRW.out.lt;omega)) HYR.out)
  have HST:Hid (∀(w5:World) (z:Fe),Gr (w9.drewN 1) w5->z.ok (dim (orP (orP p (w.heap.size+1)) M) w5)->zD9 y z->w5.cell? ⟨w.heap.size+2,4,none⟩=some (jS (some ⟨M,0,none⟩) x.args.len x.args.len)/\(∀j,j<5->(∃u,w5.cell? ⟨M,k*5+j,none⟩=some u)/\w5.frozen? ⟨M,k*5+j,none⟩=false)/\
    CaS p w (set5 w5 M (k*5) (jI kQ z.op) (jT z.nm) (jI kQ z.v) (jI kQ z.bd) (jS z.a z.args.len z.c)) M x (A++[z])/\(A++[z]).length=k+1/\(Fe.forest (A++[z])).nodes<=zU x.args (k+1)):=rA fun w5 z hg hz hc=>by
   have hS:=HRW.out.gr' ((Gr.drawn w9 1).trans hg);have hN:=hS.push hz hc.1 (by rw[HAL.out.1];exact hlt);rw[HAL.out.1] at hN;obtain⟨-, -, -, -,h54, -⟩:=zA hS.b5;exact⟨h54,fun j hj=>⟨hS.row.at (by omega),hS.row.frozen _⟩,hN,by simp[HAL.out.1],by rw[Fe.forest_snoc];have:=HNT.out;have:=HAL.out.2;have:=hc.2;omega⟩
  clear c0 c1 c2 c3 c4
  go_region_law (first
   |(go_simp;refine HC.out.mono ?_;rintro e w5 ⟨z,rfl,hz,hn,hg⟩;obtain⟨k554,hmc,hnx⟩:=HST.out w5 z hg hz hn;obtain⟨y50,y51,y52,y53,y54⟩:=HBX.out w5 ((Gr.drawn w9 1).trans hg);obtain⟨⟨u0,m0⟩,g0⟩:=hmc 0 (by omega);obtain⟨⟨u1,m1⟩,g1⟩:=hmc 1 (by omega);obtain⟨⟨u2,m2⟩,g2⟩:=hmc 2 (by omega);obtain⟨⟨u3,m3⟩,g3⟩:=hmc 3 (by omega);obtain⟨⟨u4,m4⟩,g4⟩:=hmc 4 (by omega);rw[rM] at m0 g0;have HNX:=rA hnx;clear hmc hnx hz hn hg))
  all_goals
   go_wp2_with fail;go_roundw
   case rel=>exact⟨k+1,A++[z],by omega,by go_num,rA HNX.out⟩
   case measure=>simp[intOf];omega
theorem zQu:∀n,zQr n
 |0=>fun _ _ _ _ h=>absurd h (Nat.not_lt_zero _)
 |n+1=>fun p x w hp h h9 hx hr=>zK8 (zQu n) p x w hp (Nat.lt_succ_iff.1 h) h9 hx hr
theorem zIT {p:Nat->Bool} {x:Fe} {w:World} (hp:∀k,w.heap.size<=k->p k=false) (h9:x.args.nodes<=1000) (hx:x.ok (dim p w)) (hr:x.ar):Calls rD 437 #[jG x] w (FmR p w (zD9 x)):=zQu _ p x w hp (Nat.lt_succ_self _) h9 hx hr
structure ReS (p:Nat->Bool) (w W:World) (x:Fe) (g:Nat) (z:Fe):Prop where
 pre:RwP w W x
 ok:z.ok (dim (orP p (w.heap.size+1)) W)
 bg:W.heap[g]? =some (.cells z 33 (0,0))
 nodes:z.args.nodes<=1000000
def zQL (p:Nat->Bool) (w:World) (e:Ending) (w':World):Prop:=∃(z:Fe) (b:Bool),e=jR (jU #[jG z,jB b])/\z.ok (dim p w')/\(b=true->z.ar/\z.args.nodes<=400)/\Gr w w'
section
variable {p:Nat->Bool} {w W w5:World} {x z:Fe} {g mb:Nat}
theorem RwP.raw {q:Nat->Bool} (h:RwP w W x) (hm:AMap W mb KStr KInt) (hx:x.ok (dim p w)) (hr:x.ar) (h9:x.args.nodes<=400) (hq:∀k,W.heap.size<=k->q k=false) (hq2:∀k,k<w.heap.size->p k=false->q k=false):
  Calls rD 436 #[.map (some mb),jG x] W (FmR q W (fun z=>z.args.nodes<=1000000)):=by
 have hB:zBw x.args.nodes<=zBw 400:=by unfold zBw;exact Nat.mul_le_mul (by omega) (by omega)
 have hB2:zBw 400=161603:=rfl;refine(zRs hq hm (by omega) (Fe.ok_sub _ _ _ (zE h.gr.1.size fun k hk hp=>⟨hq2 k hk hp,h.gr.1.block k hk⟩) hx) hr).mono ?_;rintro e w' ⟨z,he,hz,hn,hg⟩;exact⟨z,he,hz,by omega,hg⟩
theorem ReS.e1 (h:RwP w w5 x) (hz:z.ok (dim (orP p (w.heap.size+1)) w5)) (hn:z.args.nodes<=1000000):ReS p w (w5.alloc (.cells z 33)) x w5.heap.size z:=
 ⟨h.gr' (Gr.alloc _ _),Fe.ok_sub _ _ _ (vM (Gr.alloc _ _) fun _ h=>h) hz,rE _ _,hn⟩
theorem ReS.e2 (h:RwP w w5 x) (hg:w.heap.size+2<=g) (hb:w5.heap[g]? =some (.cells #[jI kQ 0,jT ⟨#[]⟩,jI kQ 0,jI kQ 0,jS none 0 0] 33 (0,0))) (hz:z.ok (dim (orP (orP p (w.heap.size+1)) g) w5)) (hn:z.args.nodes<=1000000):
  ReS p w (((((w5.setCell ⟨g,0,none⟩ (jI kQ z.op)).setCell ⟨g,1,none⟩ (jT z.nm)).setCell ⟨g,2,none⟩ (jI kQ z.v)).setCell ⟨g,3,none⟩ (jI kQ z.bd)).setCell ⟨g,4,none⟩ (jS z.a z.args.len z.c)) x g z:=by
 show ReS p w (put5 w5 g (jI kQ z.op) (jT z.nm) (jI kQ z.v) (jI kQ z.bd) (jS z.a z.args.len z.c)) x g z;exact⟨⟨Gr.put5 h.gr (by omega),(zJ (by omega)).trans h.b3,(zJ (by omega)).trans h.b4⟩,Fe.ok_sub _ _ _ (zE (Nat.le_of_eq yJ.symm) fun k hk hq=>⟨(zD.1 hq).1,zJ (zD.1 hq).2⟩) hz,yA hb,hn⟩
theorem RwP.res (h:RwP w W x) {b:Bool} (hz:z.ok (dim (orP p (w.heap.size+1)) W)) (hb:b=true->z.ar/\z.args.nodes<=400):zQL p w (jR (jU #[jG z,jB b])) (put5 W (w.heap.size+1) (jI kQ z.op) (jT z.nm) (jI kQ z.v) (jI kQ z.bd) (jS z.a z.args.len z.c)):=
 ⟨z,b,rfl,Fe.ok_sub _ _ _ (zE (by rw[yJ];exact rJ _) fun k hk hq=>⟨(zD.1 hq).1,zJ (zD.1 hq).2⟩) hz,hb,Gr.put5 h.gr (by omega)⟩
def zN0 (p:Nat->Bool) (w:World) (x:Fe):Prop:=∀ {W:World} {q:Nat->Bool} {mb:Nat},RwP w W x->AMap W mb KStr KInt->(∀k,W.heap.size<=k->q k=false)->(∀k,k<w.heap.size->p k=false->q k=false)->Calls rD 436 #[.map (some mb),jG x] W (FmR q W (fun z=>z.args.nodes<=1000000))
theorem reA (h:RwP w w5 x) (hm:AMap w5 mb KStr KInt) (hpp:∀k,w.heap.size<=k->p k=false) (hR:zN0 p w x):
  Calls rD 436 #[.map (some mb),jG x] w5 (FmR (orP p (w.heap.size+1)) w5 (fun z=>z.args.nodes<=1000000))/\
  Calls rD 436 #[.map (some mb),jG x] (w5.alloc (.cells #[jI kQ 0,jT ⟨#[]⟩,jI kQ 0,jI kQ 0,jS none 0 0] 33)) (FmR (orP (orP p (w.heap.size+1)) w5.heap.size) (w5.alloc (.cells #[jI kQ 0,jT ⟨#[]⟩,jI kQ 0,jI kQ 0,jS none 0 0] 33)) (fun z=>z.args.nodes<=1000000)):=by
 have hl:=h.lt;have s1:(w5.alloc (.cells #[jI kQ 0,jT ⟨#[]⟩,jI kQ 0,jI kQ 0,jS none 0 0] 33)).heap.size=w5.heap.size+1:=by simp
 exact⟨hR h hm (fun k hk=>zD.2 ⟨hpp k (by omega),by omega⟩) fun k hk hp=>zD.2 ⟨hp,by omega⟩,
  hR (h.gr' (Gr.alloc _ _)) (hm.gr (Gr.alloc _ _)) (fun k hk=>by rw[s1] at hk;exact zD.2 ⟨zD.2 ⟨hpp k (by omega),by omega⟩,by omega⟩) fun k hk hp=>zD.2 ⟨zD.2 ⟨hp,by omega⟩,by omega⟩⟩
theorem reN (h:RwP w w5 x):w5.heap.size≠w.heap.size/\w.heap.size≠w5.heap.size:=by have:=h.lt;omega
theorem reB {G:Nat} (h:RwP w w5 x) (hm:AMap w5 mb KStr KInt) (hpp:∀k,w.heap.size<=k->p k=false) (hG:w.heap.size+2<=G) (hb:w5.heap[G]? =some (.cells #[jI kQ 0,jT ⟨#[]⟩,jI kQ 0,jI kQ 0,jS none 0 0] 33 (0,0))) (hR:zN0 p w x):
  Calls rD 436 #[.map (some mb),jG x] w5 (FmR (orP (orP p (w.heap.size+1)) G) w5 (fun z=>z.args.nodes<=1000000))/\w5.heap[G]? =some (.cells #[jI kQ 0,jT ⟨#[]⟩,jI kQ 0,jI kQ 0,jS none 0 0] 33 (0,0)):=by
 have hl:=h.lt;have hG2:=(Array.getElem?_eq_some_iff.1 hb).1;exact⟨hR h hm (fun k hk=>zD.2 ⟨zD.2 ⟨hpp k (by omega),by omega⟩,by omega⟩) fun k hk hp=>zD.2 ⟨zD.2 ⟨hp,by omega⟩,by omega⟩,hb⟩
theorem reC {w6:World} (hg:Gr (w5.alloc (.cells #[jI kQ 0,jT ⟨#[]⟩,jI kQ 0,jI kQ 0,jS none 0 0] 33)) w6):w6.heap[w5.heap.size]? =some (.cells #[jI kQ 0,jT ⟨#[]⟩,jI kQ 0,jI kQ 0,jS none 0 0] 33 (0,0))/\True:=
 ⟨(hg.1.block w5.heap.size (by simp)).trans (rE _ _),trivial⟩
end
theorem zOX {tmps:Array Value} {W:World} {g:Nat} {a b c d e v:Value} (hp:tmps.getD 6 undef=jP (some ⟨g,0,none⟩)) (hv:tmps.getD 7 undef=v) (h:W.heap[g]? =some (.cells #[a,b,c,d,e] 33 (0,0))):
  (results Tryz.f435 tmps).run rD W=.ok (jU #[jG #[a,b,c,d,e],v]) W:=by
 have h0:W.cell? ⟨g,0,none⟩=some a:=by simp[rG,h]
 have h1:W.cell? ⟨g,1,none⟩=some b:=by simp[rG,h]
 have h2:W.cell? ⟨g,2,none⟩=some c:=by simp[rG,h]
 have h3:W.cell? ⟨g,3,none⟩=some d:=by simp[rG,h]
 have h4:W.cell? ⟨g,4,none⟩=some e:=by simp[rG,h]
 rw[Array.getD_eq_getD_getElem?] at hp hv;simp[results,Tryz.f435,go_sem,hp,hv,h0,h1,h2,h3,h4]
theorem zEy {p:Nat->Bool} {la:Option Addr} {lc:Nat} {l:List Sg} {k:Nat} {x:Fe} {w:World} (hpp:∀k,w.heap.size<=k->p k=false) (hs:SgV w (jS la l.length lc) l) (hw:SgW l) (hk:k<=100000000) (h9:x.args.nodes<=400) (hx:x.ok (dim p w)) (hr:x.ar):
  Calls rD 435 #[jS la l.length lc,jG x,jI kQ k] w (zQL p w):=by
 have HRW:Hid (zN0 p w x):=rA fun h hm hq hq2=>h.raw hm hx hr h9 hq hq2
 have HVL:Hid (∀W,Gr w W->Calls rD 394 #[jS la l.length lc,jI kQ k] W (zRn W)):=rA fun W hg=>zH9 (hs.keep hg.1) hw hk
 have HPP:=rA hpp;clear hpp hs hw hk h9 hx hr;go_enter Tryz.func435,Tryz.ntmps435;go_upto_region 1 with fail;have HW:Hid (∀W,W=(w.alloc (.cells x 33)).alloc (.cells zO 33)->RwP w W x):=rA fun W e=>by
  subst e;have s1:(w.alloc (.cells x 33)).heap.size=w.heap.size+1:=by simp
  exact⟨(Gr.alloc _ _).trans (Gr.alloc _ _),(rH _ _ (by simp)).trans (rE w _),by rw[<-s1,rE]⟩
 unfold zO at HW;have HP1:=rA (HW.out _ rfl);clear HW;generalize (w.alloc _).alloc _=w1 at*;obtain⟨q0,q1,q2,q3,q4, -⟩:=zA HP1.out.b3;have HPD:=rA (HP1.out.gr' (Gr.drawn w1 1));have HPA:=rA (HPD.out.gr' (Gr.alloc _ (.cells zO 33)));have HV1:=rA (HVL.out _ HPD.out.gr);have HV2:=rA (HVL.out _ HPA.out.gr);have HB2:Hid (∀W,Gr ((w1.drewN 1).alloc (.cells zO 33)) W->W.heap[w1.heap.size]? =some (.cells zO 33 (0,0))):=rA fun W hg=>(hg.1.block w1.heap.size (by simp)).trans (rE (w1.drewN 1) _)
 unfold zO at HPA HV2 HB2;have ne1:w1.heap.size≠w.heap.size:=by have:=HP1.out.lt;omega
 have ne2:w.heap.size≠w1.heap.size:=ne1.symm;have HLT:Hid (w.heap.size+2<=w1.heap.size):=rA HP1.out.lt;clear HVL;go_cut [8] from 9 to 13 (fun t wx=>∃(g:Nat) (z:Fe),t=jP (some ⟨g,0,none⟩)/\Hid (ReS p w wx x g z))
 case first=>
  go_region_held3 (fun w'=>w'.cell? ⟨w.heap.size,0,none⟩=some (jI kQ x.op)/\w'.cell? ⟨w.heap.size,1,none⟩=some (jT x.nm)/\w'.cell? ⟨w.heap.size,2,none⟩=some (jI kQ x.v)/\w'.cell? ⟨w.heap.size,3,none⟩=some (jI kQ x.bd)/\w'.cell? ⟨w.heap.size,4,none⟩=some (jS x.a x.args.len x.c)) (go_keep)
   (first
    |(go_at_call 394;refine(HV1.out).mono ?_;rintro e' w5 ⟨mb,rfl,hm,hmb,hg⟩;have HP5:=rA (HPD.out.gr' hg);obtain⟨r0,r1,r2,r3,r4, -⟩:=zA HP5.out.b3;have HR1:=rA (reA HP5.out hm HPP.out HRW.out);obtain⟨ne3,ne4⟩:=reN HP5.out;clear hm hmb hg)
    |(go_at_call 394;refine(HV2.out).mono ?_;rintro e' w5 ⟨mb,rfl,hm,hmb,hg⟩;have HP5:=rA (HPA.out.gr' hg);obtain⟨r0,r1,r2,r3,r4, -⟩:=zA HP5.out.b3;have HR3:=rA (reB HP5.out hm HPP.out HLT.out (HB2.out _ hg) HRW.out);clear hm hmb hg)
    |(go_at_call 436;refine(HR1.out.1).mono ?_;rintro e' w6 ⟨z,rfl,hz,hzn,hg⟩;have HP6:=rA (HP5.out.gr' hg);obtain⟨r50,r51,r52,r53,r54, -⟩:=zA HP6.out.b3;have HZ:=rA (And.intro hz hzn);clear hz hzn hg)
    |(go_at_call 436;refine(HR1.out.2).mono ?_;rintro e' w6 ⟨z,rfl,hz,hzn,hg⟩;have HP6:=rA (HP5.out.gr' ((Gr.alloc _ _).trans hg));obtain⟨r50,r51,r52,r53,r54, -⟩:=zA HP6.out.b3;have HZ2:=rA (And.intro hz (And.intro hzn (reC hg)));obtain⟨z0,z1,z2,z3,z4,f0,f1,f2,f3,f4⟩:=zA HZ2.out.2.2.1;clear hz hzn hg)
    |(go_at_call 436;refine(HR3.out.1).mono ?_;rintro e' w6 ⟨z,rfl,hz,hzn,hg⟩;have HP6:=rA (HP5.out.gr' hg);obtain⟨r50,r51,r52,r53,r54, -⟩:=zA HP6.out.b3;have HZ3:=rA (And.intro hz (And.intro hzn ((hg.1.block _ (Array.getElem?_eq_some_iff.1 HR3.out.2).1).trans HR3.out.2)));obtain⟨z0,z1,z2,z3,z4,f0,f1,f2,f3,f4⟩:=zA HZ3.out.2.2;clear hz hzn hg))
  all_goals
   go_wp2_with fail;go_meet
   first
    |with_reducible exact⟨_,_,rfl,rA (ReS.e1 HP6.out HZ.out.1 HZ.out.2)⟩
    |with_reducible exact⟨_,_,rfl,rA (ReS.e2 HP6.out (by have:=HP5.out.lt;omega) HZ2.out.2.2.1 HZ2.out.1 HZ2.out.2.1)⟩
    |(exact⟨_,_,rfl,rA (ReS.e2 HP6.out HLT.out HZ3.out.2.2 HZ3.out.1 HZ3.out.2.1)⟩)
 case rest=>
  obtain⟨g,z,rfl,HU⟩:=hcut;clear q0 q1 q2 q3 q4 HV1 HV2 HB2 HPA HPD HP1 HRW HLT ne1 ne2;obtain⟨g0,g1,g2,g3,g4, -⟩:=zA HU.out.bg;have HC:Hid (Calls rD 364 #[jG z] wc (zCT wc (z.ar/\z.args.nodes+1<=400))):=rA (zEJ (by have:=HU.out.nodes;omega) (Fe.ok_up HU.out.ok));go_wp2_with fail;refine HC.out.mono ?_;rintro e w7 ⟨b,rfl,hb,hg7⟩;have HP7:=rA (HU.out.pre.gr' hg7);have HB:=rA hb;have HZ7:=rA (Fe.ok_sub _ _ z (vM hg7 fun _ h=>h) HU.out.ok);have HG7:=rA ((hg7.1.block _ (Array.getElem?_eq_some_iff.1 HU.out.bg).1).trans HU.out.bg);clear hg7 hb HC HU g0 g1 g2 g3 g4;obtain⟨g0,g1,g2,g3,g4, -⟩:=zA HG7.out;cases b with
  |false=>
   have HEND:=rA (HP7.out.res (p:=p) (z:=⟨0,⟨#[]⟩,0,0,.nil,none,0⟩) (b:=false) (zFk _) (fun h=>by cases h));have hE:=rA (HP7.out.out (jI kQ 0) (jT ⟨#[]⟩) (jI kQ 0) (jI kQ 0) (jS none 0 0));obtain⟨k40,k41,k42,k43,k44,f40,f41,f42,f43,f44⟩:=HP7.out.cells4;go_wp2_with fail;exact rC (zOX rfl rfl hE.out) rfl HEND.out
  |true=>
   have hb:=HB.out rfl;have HL7:=rA HP7.out.lt;have HC:=rA (zIT (p:=orP p (w.heap.size+1)) (x:=z) (w:=w7) (fun k hk=>zD.2 ⟨HPP.out k (rB HP7.out.gr.1.size hk),by have:=HL7.out;omega⟩) (by omega) HZ7.out hb.1);have HN:=rA hb.2;clear hb;go_wp2_with fail;refine HC.out.mono ?_;rintro e w8 ⟨u,rfl,hu,hup,hg⟩;have HP8:=rA (HP7.out.gr' hg);have HEND:=rA (HP8.out.res (b:=true) hu (fun _=>⟨hup.1,by have:=hup.2;have:=HN.out;omega⟩));have hE:=rA (HP8.out.out (jI kQ u.op) (jT u.nm) (jI kQ u.v) (jI kQ u.bd) (jS u.a u.args.len u.c));clear hu hup hg HC g0 g1 g2 g3 g4;obtain⟨k40,k41,k42,k43,k44,f40,f41,f42,f43,f44⟩:=HP8.out.cells4;go_wp2_with fail;exact rC (zOX rfl rfl hE.out) rfl HEND.out
