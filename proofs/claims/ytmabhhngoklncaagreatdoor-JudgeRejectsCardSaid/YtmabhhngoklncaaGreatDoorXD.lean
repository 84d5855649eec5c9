/- Joint moves: the order of minimalJoint, within. -/
import Derived.Test.YtmabhhngoklncaaGreatDoorXB
set_option maxRecDepth 100000
set_option maxHeartbeats 40000000
set_option linter.all false
open Go.Lib renaming hid->rA,compareInt->rD
open Go.Proofs.Tryz renaming prog->rB
open Go renaming run_underlying->rC,heap_alloc_old->rQ,heap_alloc_new->rR,wp_region_held_drew->rU,heap_setCell_same->rX,wpAnyH_done->r9
open Go.Instr renaming index->rE,sureAddr->rP,storeAt->rY,lookup->rAd
open Go.Result renaming andThen->rF
open Go.World renaming cell?->rG,cell?_of_block->rK,frozen?->rAc
open Go.Sem renaming run_pure->rH,run_bind->rI
open Go.Builtin renaming zeroCells->rJ,append_->rAa
open Array renaming getElem?_setIfInBounds_ne->rL,getElem?_modify->r7,length_toList->r8
open Nat renaming le_refl->rM,lt_of_lt_of_le->rN,le_trans->rV,zero_le->rW,zero_add->r6
open List renaming getElem?_toArray->rO,getElem?_eq_getElem->rS,replicate->rT,getElem?_cons_zero->rZ,getElem?_cons_succ->r5,mem_cons->rAb
open Go.Value renaming int->jI,slice->jS,pointer->jP,bool->jB,string->jT,agg->jG,tuple->jU
open Go.IntKind renaming i64->kQ,u16->kU
open Go.Ending renaming returned->jR
open Go Go.Shelf Go.Lib Go.Sort Go.RowKit
namespace Go.Proofs.YtmabhhngoklncaaGreatDoor
variable {w W wr:World}{o:Oper}{a:Act}{ops:Array Oper}{rest:List Oper}{Q:Exit->Act->World->Prop}{bs:List Bool}{xs:List J2}{lo q c g k:Nat}{ys tmps:Array Value}{A:Ad}{L:List Int}
theorem zJa (x:U16) (W:World):Calls rB 255 #[jI kU x.1] W fun e w'=>e=jR (jI kQ (pc x))/\∃m,w'=W.drewN m:=by
 obtain⟨x,h0,h1⟩:=x;show Calls rB 255 #[jI kU x] W _;have hq0:0<=x / 256:=by omega
 have hq1:x / 256<=255:=by omega
 obtain⟨hb0,hb1⟩:=zEV x;have i1:∀n,(rE 9 (jT Lib.pop8tab) (jI kU (x / 256))).run rB (W.drewN n)=.ok (.int .u8 (Lib.pop8 (x / 256))) (W.drewN n):=fun n=>Lib.run_index_pop8tab _ _ _ _ Tryz.underlying9 hq0 hq1
 have i2:∀n,(rE 9 (jT Lib.pop8tab) (jI kU (Go.bits .and .u16 x 255))).run rB (W.drewN n)=.ok (.int .u8 (Lib.pop8 (Go.bits .and .u16 x 255))) (W.drewN n):=fun n=>Lib.run_index_pop8tab _ _ _ _ Tryz.underlying9 hb0 hb1
 have mixed:Tryz.prog.follows .mixedOrders=true:=by kernel_rfl
 go_enter Tryz.func255,Tryz.ntmps255;go_upto_region 1 with fail;rw[zML];go_quiet (fail);go_wp2_with fail;go_ret;exact⟨rfl,_,rfl⟩
theorem zJk (x:U16):0<=pc x/\pc x<=255:=by unfold pc;omega
def zBZ (x:J2):Int:=pc x.1+pc x.2
theorem zJS (x:J2) (W:World):Calls rB 398 #[jG #[jI kU x.1.1,jI kU x.2.1]] W fun e w'=>e=jR (jI kQ (zBZ x))/\Gr W w':=by
 have q1:∀m,Calls rB 255 #[jI kU x.1.1] ((W.alloc (.cells #[jI kU x.1.1,jI kU x.2.1] 445)).drewN m) fun e w'=>e=jR (jI kQ (pc x.1))/\∃m',w'=((W.alloc (.cells #[jI kU x.1.1,jI kU x.2.1] 445)).drewN m).drewN m':=fun m=>zJa x.1 _
 have q2:∀m,Calls rB 255 #[jI kU x.2.1] ((W.alloc (.cells #[jI kU x.1.1,jI kU x.2.1] 445)).drewN m) fun e w'=>e=jR (jI kQ (pc x.2))/\∃m',w'=((W.alloc (.cells #[jI kU x.1.1,jI kU x.2.1] 445)).drewN m).drewN m':=fun m=>zJa x.2 _
 have HG:=rA fun n=>(Gr.alloc W (.cells #[jI kU x.1.1,jI kU x.2.1] 445)).trans (Gr.drawn _ n)
 have HE:Hid (zBZ x=pc x.1+pc x.2):=rA rfl;have hr1:=zJk x.1;have hr2:=zJk x.2;have e0:=zI W #[jI kU x.1.1,jI kU x.2.1] 445 0;have e1:=zI W #[jI kU x.1.1,jI kU x.2.1] 445 1;simp only[rO,r5,rZ] at e0 e1;generalize zBZ x=cc at*;generalize pc x.1=px at*;generalize pc x.2=py at*;obtain⟨r1,r2⟩:=hr1;obtain⟨r3,r4⟩:=hr2;go_enter Tryz.func398,Tryz.ntmps398;go_upto_region 1 with fail;generalize W.alloc _=w1 at*;go_quiet (first|(with_reducible exact Calls.quiet_of (q1 _))|(with_reducible exact Calls.quiet_of (q2 _)));go_wp2_with fail;go_ret;exact⟨by rw[HE.out];rfl,HG.out _⟩
def zKY (x y:J2):Int:=orF [rD (zBZ x) (zBZ y),rD x.1.1 y.1.1,rD x.2.1 y.2.1]
theorem zP1:TC zKY:=by
 have h:=(y7.prod (y7.prod y7)).comap (fun x:J2=>(zBZ x,(x.1.1,x.2.1))) (fun a b h=>by
  obtain⟨-,h2⟩:=Prod.mk.inj h;obtain⟨h3,h4⟩:=Prod.mk.inj h2;exact Prod.ext (Subtype.ext h3) (Subtype.ext h4))
 have e:zKY=fun a b:J2=>if(zBZ a,(a.1.1,a.2.1)).1≠(zBZ b,(b.1.1,b.2.1)).1 then rD (zBZ a,(a.1.1,a.2.1)).1 (zBZ b,(b.1.1,b.2.1)).1 else if(a.1.1,a.2.1).1≠(b.1.1,b.2.1).1 then rD (a.1.1,a.2.1).1 (b.1.1,b.2.1).1 else rD (a.1.1,a.2.1).2 (b.1.1,b.2.1).2:=by
  funext a b;unfold zKY;by_cases h0:zBZ a=zBZ b
  ·by_cases h1:a.1.1=b.1.1
   ·simp[orF,h0,h1,yH]
    exact fun h=>h.symm
   ·have hne:rD a.1.1 b.1.1≠0:=fun e=>h1 (yI e)
    simp[orF,h0,h1,hne,yH]
  ·have hne:rD (zBZ a) (zBZ b)≠0:=fun e=>h0 (yI e)
   simp[orF,h0,hne]
 rw[e];exact h
theorem zSW (w:World) (T:TypeId) (a b c:Int) (n:Nat):Nums (w.alloc (.cells #[jI kQ a,jI kQ b,jI kQ c] T)) (jS (some ⟨w.heap.size,0,none⟩) 3 n) [a,b,c]:=by
 refine⟨_,n,rfl,fun _=>⟨_,0,rfl,by simp,fun j hj=>?_⟩⟩;rw[r6,zI]
 match j,hj with
 |0,_=>rfl
 |1,_=>rfl
 |2,_=>rfl
theorem or3 (w:World) (a b c:Int):Calls rB 127 #[jS (some ⟨w.heap.size,0,none⟩) 3 3] (w.alloc (.cells #[jI kQ a,jI kQ b,jI kQ c] 3)) (fun e' w'=>e'=jR (jI kQ (orF [a,b,c]))/\w'=w.alloc (.cells #[jI kQ a,jI kQ b,jI kQ c] 3)):=
 zMN (L:=[a,b,c]) (zSW w 3 a b c 3) (by simp)
theorem zOD (x y:J2) (F:Nat) (W:World) (hF:W.cell? ⟨F,0,none⟩=some (.func (.func 398) #[] #[])):Calls rB 400 #[jG #[jI kU x.1.1,jI kU x.2.1],jG #[jI kU y.1.1,jI kU y.2.1],jP (some ⟨F,0,none⟩)] W (zDO W (zKY x y)):=by
 have hFl:F<W.heap.size:=by
  unfold rG at hF;cases hb:W.heap[F]? with
  |none=>rw[hb] at hF;simp at hF
  |some o=>exact(Array.getElem?_eq_some_iff.1 hb).1
 have HW:Hid (∀W',W'=(W.alloc (.cells #[jI kU x.1.1,jI kU x.2.1] 445)).alloc (.cells #[jI kU y.1.1,jI kU y.2.1] 445)->Gr W W'/\∀V,Gr W' V->V.cell? ⟨F,0,none⟩=some (.func (.func 398) #[] #[])/\V.cell? ⟨W.heap.size,0,none⟩=some (jI kU x.1.1)/\V.cell? ⟨W.heap.size,1,none⟩=some (jI kU x.2.1)/\V.cell? ⟨W.heap.size+1,0,none⟩=some (jI kU y.1.1)/\V.cell? ⟨W.heap.size+1,1,none⟩=some (jI kU y.2.1)):=rA fun W' e=>by
  subst e;have hg0:=(Gr.alloc W (.cells #[jI kU x.1.1,jI kU x.2.1] 445)).trans (Gr.alloc (W.alloc (.cells #[jI kU x.1.1,jI kU x.2.1] 445)) (.cells #[jI kU y.1.1,jI kU y.2.1] 445));refine⟨hg0,fun V hg=>?_⟩;have b0:=(hg.1.block W.heap.size (by simp;omega)).trans ((rQ _ _ (by simp)).trans (rR W _));have b1:=(hg.1.block (W.heap.size+1) (by simp)).trans (xH (by simp) _);exact⟨((hg0.trans hg).1.cell (p:=⟨F,0,none⟩) hFl).trans hF,by simp[rG,b0],by simp[rG,b0],by simp[rG,b1],by simp[rG,b1]⟩
 have HX:=rA (zJS x);have HY:=rA (zJS y);have H1:=rA (fun V=>Tryz.cmp_Compare_int (zBZ x) (zBZ y) V);have H2:=rA (fun V=>zIw x.1.1 y.1.1 V);have H3:=rA (fun V=>zIw x.2.1 y.2.1 V);have HE:Hid (zKY x y=orF [rD (zBZ x) (zBZ y),rD x.1.1 y.1.1,rD x.2.1 y.2.1]):=rA rfl;clear hF hFl;generalize zKY x y=cc at*;generalize zBZ x=px at*;generalize zBZ y=py at*;obtain⟨⟨x1,hx1⟩,⟨x2,hx2⟩⟩:=x;obtain⟨⟨y1,hy1⟩,⟨y2,hy2⟩⟩:=y;dsimp only at*;clear hx1 hx2 hy1 hy2;go_enter Tryz.func400,Tryz.ntmps400;go_upto_region 1 with fail;obtain⟨hg1,hcs⟩:=HW.out _ rfl;have HG1:=rA hg1;have HS:=rA hcs;clear HW hg1 hcs;generalize (W.alloc _).alloc _=w1 at*;obtain⟨s0,s1,s2,s3,s4⟩:=HS.out _ (Gr.refl w1);have HGD:=rA (Gr.drawn w1 1);generalize hB:W.heap.size=B at*;refine rU (S:=fun w'=>w'.cell? ⟨F,0,none⟩=some (.func (.func 398) #[] #[])/\w'.cell? ⟨B,0,none⟩=some (jI kU x1)/\w'.cell? ⟨B,1,none⟩=some (jI kU x2)/\w'.cell? ⟨B+1,0,none⟩=some (jI kU y1)/\w'.cell? ⟨B+1,1,none⟩=some (jI kU y2)) (by kernel_rfl) ⟨s0,s1,s2,s3,s4⟩ (fun hS=>?_);clear s0 s1 s2 s3 s4;refine tKa 0 (.func (.func 398) #[] #[]) ?_;refine tKa 1 (jG #[jI kU x1,jI kU x2]) ?_;refine tKa 3 (.func (.func 398) #[] #[]) ?_;refine tKa 4 (jG #[jI kU y1,jI kU y2]) ?_;refine tKa 7 (jP (some ⟨B,0,none⟩)) ?_;refine tKa 8 (jI kU x1) ?_;refine tKa 9 (jP (some ⟨B+1,0,none⟩)) ?_;refine tKa 10 (jI kU y1) ?_;refine tKa 12 (jP (some ⟨B,1,none⟩)) ?_;refine tKa 13 (jI kU x2) ?_;refine tKa 14 (jP (some ⟨B+1,1,none⟩)) ?_;refine tKa 15 (jI kU y2) ?_;refine tya 2 (fun K hK=>?_);go_simp;refine(HX.out _).mono ?_;rintro e' w5 ⟨rfl,hg⟩;have HG5:=rA (HGD.out.trans hg);refine hK.out _ _ (HS.out _ HG5.out) (fun hS5=>?_);clear hS hK hg;try simp only[sA]
 refine tya 5 (fun K hK=>?_);go_simp;refine(HY.out _).mono ?_;rintro e' w6 ⟨rfl,hg⟩;have HG6:=rA (HG5.out.trans hg);refine hK.out _ _ (HS.out _ HG6.out) (fun hS6=>?_);clear hS5 hK hg;try simp only[sA]
 refine tya 6 (fun K hK=>?_);go_simp;refine(H1.out _).mono ?_;rintro e' w' ⟨rfl,rfl⟩;refine hK.out _ _ hS6 (fun hS6'=>?_);clear hK hS6;try simp only[sA]
 refine tya 11 (fun K hK=>?_);go_simp;refine(H2.out _).mono ?_;rintro e' w' ⟨rfl,rfl⟩;refine hK.out _ _ hS6' (fun hS11'=>?_);clear hK hS6';try simp only[sA]
 refine tya 16 (fun K hK=>?_);go_simp;refine(H3.out _).mono ?_;rintro e' w' ⟨rfl,rfl⟩;refine hK.out _ _ hS11' (fun hS16'=>?_);clear hK hS11';try simp only[sA]
 refine tya 17 (fun K hK=>?_);go_simp;refine hK.out _ _ (HS.out _ (HG6.out.trans (Gr.alloc _ _))) (fun hS17=>?_);clear hK hS16';refine tya 18 (fun K hK=>?_);go_simp;refine(or3 _ _ _ _).mono ?_;rintro e' w' ⟨rfl,rfl⟩;refine hK.out _ _ hS17 (fun hS18=>?_);clear hK hS17;rw[<-HE.out];try simp only[sA]
 refine tKa 19 (jI kQ cc) ?_;refine r9 (by kernel_rfl) ?_ _;clear hS18;go_wp2_with fail;go_ret;exact⟨rfl,HG1.out.trans (HG6.out.trans (Gr.alloc _ _))⟩
theorem zEG (x:J2):(vK x).length=2:=rfl
theorem zJJ (x:J2):∀v∈vK x,v.oneCell'=true:=by
 intro v hv;simp only[vK,rAb,List.not_mem_nil,or_false] at hv;rcases hv with rfl|rfl<;>rfl
theorem zPi:(Tryz.prog.info? 445).map (fun i=>(i.zero,i.size,i.bytes))=some (some (jG #[jI kU 0,jI kU 0]),2,4):=by kernel_rfl
theorem tyJ:TyG 440 445 2:=⟨Tryz.underlying440,_,_,zPi,rfl,by omega⟩
section
variable {W W':World} {lo blk cap:Nat} {a:Option Addr} {xs:List J2}
theorem pO.at2 (h:pO vK 2 W blk cap xs) {j:Nat} (hj:j<xs.length):W.cell? ⟨blk,j*2,none⟩=some (jI kU xs[j].1.1)/\W.cell? ⟨blk,j*2+1,none⟩=some (jI kU xs[j].2.1):=
 ⟨by simpa using h.cell hj (c:=0) (u:=jI kU xs[j].1.1) (by omega) rfl,h.cell hj (c:=1) (u:=jI kU xs[j].2.1) (by omega) rfl⟩
theorem zH.at2 (h:zH vK 2 W lo a cap xs) {j:Nat} (hj:j<xs.length):∃b,a=some ⟨b,0,none⟩/\W.cell? ⟨b,j*2,none⟩=some (jI kU xs[j].1.1)/\W.cell? ⟨b,j*2+1,none⟩=some (jI kU xs[j].2.1):=by
 obtain⟨b,rfl, -,hR⟩:=h.row (by omega);exact⟨b,rfl,hR.at2 hj⟩
theorem pO.holdsJ (h:pO vK 2 W blk cap xs):HoldsK vK 2 W blk 0 xs.toArray:=by
 obtain⟨hl,cs,T,hb,hs,hc⟩:=h;intro j hj;rw[size_flatK] at hj;have hj':j<xs.length*2:=by simpa using hj
 refine⟨?_,by simp[rAc,hb]⟩;rw[get_flatK _ _ _ _ hj];have hlt:j / 2<xs.length:=by omega
 have:=hc (j / 2) hlt (j % 2) (by omega);rw[show j / 2*2+j % 2=j by omega] at this;simp only[rG,hb,r6,id];rw[if_neg (by simp),this];have h2:(xs.toArray[j / 2]!)=xs[j / 2]:=by simp[hlt]
 rw[h2,getElem!_pos _ _ (by rw[zEG];omega),rS]
theorem pO.sortedJ {m:Nat} {d:Array J2} {os:Array Obj} (h:pO vK 2 W blk cap xs) (hd:d.size=xs.length):pO vK 2 (sortWorldK vK 2 W blk 0 m d os) blk cap d.toList:=by
 have hblk:=h.lt;have hH:=holdsK_sortWorldK vK 2 W blk 0 m xs.toArray d os hblk h.holdsJ (by simpa using hd);obtain⟨hl,cs,T,hb,hs,hc⟩:=h;have hb':(sortWorldK vK 2 W blk 0 m d os).heap[blk]? =some (.cells (putCells id 0 (flatK vK 2 d) cs) T (0,0)):=by
  unfold sortWorldK putRowK putRow;rw[heap_grow_old _ _ (by simp[mapBlock];exact hblk)];simp only[mapBlock,r7,if_true];rw[show(Sort.ahead W m).heap[blk]? =_ from hb];rfl
 refine⟨by simp[hd,hl],_,T,hb',by simp[putCells,hs],fun j hj c hc5=>?_⟩;have hj':j<d.size:=by simpa using hj
 have:=(HoldsK.cell hH hj' hc5).1;simp only[rG,hb',r6] at this;rw[if_neg (by simp)] at this;rw[this];have h2:d[j]! =d.toList[j]:=by simp[hj']
 rw[h2,getElem!_pos _ _ (by rw[zEG];omega),rS]
theorem zJ7 {m:Nat} {d:Array J2} {os:Array Obj}:Fr (only blk) W.heap.size W (sortWorldK vK 2 W blk 0 m d os):=by
 refine⟨rfl,rfl,rfl,size_sortWorldK_c vK 2 W blk 0 m d os,fun k hk hne=>?_⟩;unfold sortWorldK putRowK putRow;rw[heap_grow_old _ _ (by simp[mapBlock];exact hk)];simp only[mapBlock,r7];rw[if_neg (by intro e;subst e;simp[only] at hne)];rfl
theorem zNc {n F:Nat} (hF:W.cell? ⟨F,0,none⟩=some (.func (.func 398) #[] #[])) (hFl:F<W.heap.size) (hne:F≠blk):CmpLays rB 400 #[jP (some ⟨F,0,none⟩)] vK 2 zKY blk 0 n W:=fun m os dk _ x y=>by
 have hF':(sortWorldK vK 2 W blk 0 m dk os).cell? ⟨F,0,none⟩=some (.func (.func 398) #[] #[]):=(rK (zJ7.block F hFl (by simp[only];exact hne))).trans hF;refine(show Calls rB 400 _ _ _ from zOD x y F (sortWorldK vK 2 W blk 0 m dk os) hF').mono ?_;rintro e w' ⟨he,hb,hd⟩;exact⟨he,zBi hb hd⟩
end
theorem zP5 {w W:World} {cap F:Nat} {a:Option Addr} {xs:List J2} (hg:Gr w W) (h:zH vK 2 W w.heap.size a cap xs) (hn:xs.length<=17179869184) (hF:W.cell? ⟨F,0,none⟩=some (.func (.func 398) #[] #[])) (hFl:F<W.heap.size) (hne:∀q,a=some ⟨q,0,none⟩->F≠q):
  Calls rB 399 #[jS a xs.length cap,.func (.func 400) #[] #[jP (some ⟨F,0,none⟩)]] W fun e w'=>e=jR (jU #[])/\Gr w w'/\∃ys:List J2,ys.length=xs.length/\zH vK 2 w' w.heap.size a cap ys:=by
 rcases h with⟨rfl,rfl,rfl⟩|⟨blk,rfl,hb,hR⟩
 ·refine(show Calls rB 399 _ _ _ from AnyF.slices_SortFunc_none Tryz.sortJ none 0 (.func (.func 400) #[] #[jP (some ⟨F,0,none⟩)]) W).mono ?_
  rintro e w' ⟨rfl,rfl⟩;exact⟨rfl,hg,[],rfl,.nil⟩
 ·have hS:=AnyQ.slices_SortFunc Tryz.sortJ 2 (fun w=>Tryz.isAgg445 w) (fun w=>Tryz.sizeOf445 w) vK zEG zJJ zKY zP1.swo 400 #[jP (some ⟨F,0,none⟩)] blk 0 cap xs.toArray W (enters_of Tryz.func400 (by kernel_rfl) rfl) (zNc hF hFl (hne _ rfl)) hR.holdsJ hR.lt (by simp;omega)
  refine(show Calls rB 399 _ _ _ from hS).mono ?_;rintro e w' ⟨rfl,d,n,os,hp, -,rfl⟩;have hds:d.size=xs.length:=by simpa using hp.1
  exact⟨rfl,hg.fr zJ7 hb (by unfold sortWorldK;exact Nat.le_add_right _ _),d.toList,by simpa using hds,.inr ⟨blk,rfl,hb,hR.sortedJ hds⟩⟩
theorem zMx (x1 x2 y1 y2:Int) (w:World):Calls rB 404 #[jG #[jI kU x1,jI kU x2],jG #[jI kU y1,jI kU y2]] w (qS w):=by
 have HW:Hid (∀W',W'=(w.alloc (.cells #[jI kU x1,jI kU x2] 445)).alloc (.cells #[jI kU y1,jI kU y2] 445)->Gr w W'/\∀V,Gr W' V->V.cell? ⟨w.heap.size,0,none⟩=some (jI kU x1)/\V.cell? ⟨w.heap.size,1,none⟩=some (jI kU x2)/\V.cell? ⟨w.heap.size+1,0,none⟩=some (jI kU y1)/\V.cell? ⟨w.heap.size+1,1,none⟩=some (jI kU y2)):=rA fun W' e=>by
  subst e;refine⟨(Gr.alloc w (.cells #[jI kU x1,jI kU x2] 445)).trans (Gr.alloc (w.alloc (.cells #[jI kU x1,jI kU x2] 445)) (.cells #[jI kU y1,jI kU y2] 445)),fun V hg=>?_⟩;have b0:=(hg.1.block w.heap.size (by simp;omega)).trans ((rQ _ _ (by simp)).trans (rR w _));have b1:=(hg.1.block (w.heap.size+1) (by simp)).trans (xH (by simp) _);exact⟨by simp[rG,b0],by simp[rG,b0],by simp[rG,b1],by simp[rG,b1]⟩
 go_enter Tryz.func404,Tryz.ntmps404;go_upto_region 1 with fail;obtain⟨hg1,hcs⟩:=HW.out _ rfl;obtain⟨c0,c1,d0,d1⟩:=hcs _ (Gr.refl _);have HG1:=rA hg1;clear HW hg1 hcs;generalize (w.alloc _).alloc _=w1 at*;by_cases h1:Go.bits .andNot .u16 x1 y1=0
 ·have hd:(Go.bits .andNot .u16 x1 y1==(0:Int))=true:=by simp[h1]
  clear h1;go_wp2_with fail;all_goals go_ret
  all_goals exact⟨_,rfl,HG1.out⟩
 ·have hd:(Go.bits .andNot .u16 x1 y1==(0:Int))=false:=by simp[h1]
  clear h1;go_wp2_with fail;all_goals go_ret
  all_goals exact⟨_,rfl,HG1.out⟩
theorem zRI {x1 x2 y1 y2:Int} {B:Nat} {w:World} (h0:w.cell? ⟨B,0,none⟩=some (jI kU y1)) (h1:w.cell? ⟨B,1,none⟩=some (jI kU y2)) (hB:B<w.heap.size):Calls rB 403 #[jG #[jI kU x1,jI kU x2],jP (some ⟨B,0,none⟩)] w (qS w):=by
 have k0:∀o:Obj,(w.alloc o).cell? ⟨B,0,none⟩=some (jI kU y1):=fun o=>(rK (rQ _ _ hB)).trans h0
 have k1:∀o:Obj,(w.alloc o).cell? ⟨B,1,none⟩=some (jI kU y2):=fun o=>(rK (rQ _ _ hB)).trans h1
 have HG:=rA (fun o=>Gr.alloc w o);have HC:=rA fun V=>zMx x1 x2 y1 y2 V
 clear h0 h1;go_enter Tryz.func403,Tryz.ntmps403;go_wp2_with fail;refine(HC.out _).mono ?_;rintro e w5 ⟨b,rfl,hg⟩;have HG5:=rA ((HG.out _).trans hg);clear hg;go_wp2_with fail;go_ret;exact⟨_,rfl,HG5.out⟩
theorem zRl {a:Option Addr} {c lo B:Nat} {l:List J2} {w:World} {y1 y2:Int} (h:zH vK 2 w lo a c l) (hlen:l.length<=17179869184) (h0:w.cell? ⟨B,0,none⟩=some (jI kU y1)) (h1:w.cell? ⟨B,1,none⟩=some (jI kU y2)) (hB:B<w.heap.size):
  Calls rB 410 #[jS a l.length c,.func (.func 403) #[] #[jP (some ⟨B,0,none⟩)]] w (zB9 w):=by
 have H:=rA h;have HC:Hid (∀W,Gr w W->∀x1 x2:Int,Calls rB 403 #[jG #[jI kU x1,jI kU x2],jP (some ⟨B,0,none⟩)] W (qS W)):=rA fun W hg x1 x2=>zRI ((hg.1.cell (p:=⟨B,0,none⟩) hB).trans h0) ((hg.1.cell (p:=⟨B,1,none⟩) hB).trans h1) (rN hB hg.1.size)
 clear h h0 h1;go_enter Tryz.func410,Tryz.ntmps410;go_wp2_with fail;go_loopw [8] (fun i wr=>∃k:Nat,k<=l.length/\i=jI kQ k/\Hid (Gr w wr)) (fun i _=>l.length - (intOf i).toNat)
 case atStart=>exact⟨0,rW _,rfl,rA (Gr.refl _)⟩
 case round=>
  obtain⟨k,hk,rfl,HR⟩:=hrel;by_cases hlt:k<l.length;rotate_left
  ·have hd:=dF hlt
   go_wp2_with fail;go_ret;exact⟨_,rfl,HR.out⟩
  have hd:=dT hlt
  obtain⟨b,rfl,c0,c1⟩:=(H.out.gr HR.out).at2 hlt;have hkl:(k:Int)<(l.length:Int):=by omega
  have HQ:=rA (HC.out _ HR.out l[k].1.1 l[k].2.1);generalize l[k].1.1=s1 at*;generalize l[k].2.1=s2 at*;go_wp2_with fail;refine HQ.out.mono ?_;rintro e w5 ⟨q,rfl,hg5⟩;have HG5:=rA (HR.out.trans hg5);clear hg5 HQ c0 c1;cases q with
  |true=>
   go_wp2_with fail;go_ret;exact⟨_,rfl,HG5.out⟩
  |false=>
   go_wp2_with fail;go_roundw
   case rel=>exact⟨k+1,by omega,by go_num,HG5⟩
   case measure=>simp[intOf];omega
theorem zSB {a:Option Addr} {c lo B:Nat} {l:List J2} {w:World} {y1 y2:Int} (h:zH vK 2 w lo a c l) (hlen:l.length<=17179869184) (h0:w.cell? ⟨B,0,none⟩=some (jI kU y1)) (h1:w.cell? ⟨B,1,none⟩=some (jI kU y2)) (hB:B<w.heap.size):
  Calls rB 402 #[jS a l.length c,.func (.func 403) #[] #[jP (some ⟨B,0,none⟩)]] w (qS w):=by
 have HC:=rA (zRl h hlen h0 h1 hB);clear h h0 h1;go_enter Tryz.func402,Tryz.ntmps402;go_wp2_with fail;refine HC.out.mono ?_;rintro e w5 ⟨d,rfl,hg5⟩;have HG5:=rA hg5;clear hg5;go_wp2_with fail;go_ret;exact⟨_,rfl,HG5.out⟩
theorem eqJ (a b c d:Int) (W:World):(Op.equalIn 10000 445 (jG #[jI kU a,jI kU b]) (jG #[jI kU c,jI kU d])).run rB W=.ok (a==c&&b==d) W:=by
 have hs:Tryz.prog.stoodInHeld 445=false:=by kernel_rfl
 have hf:Tryz.prog.underlying 445=some (.struct (Tryz.prog.fieldsOf 445)):=by kernel_rfl
 have hg:=Tryz.underlying445;rw[hf] at hg;injection hg with hg
 injection hg with hg
 have e:=run_equalIn_agg W 9999 445 #[jI kU a,jI kU b] #[jI kU c,jI kU d] hf hs;rw[hg] at e;refine e.trans ?_;simp[Op.eqFields,go_sem,Tryz.underlying25];by_cases h1:a=c<;>by_cases h2:b=d<;>simp[h1,h2]
theorem zOm:Tryz.prog.eqGuardType Tryz.prog.depth 445=false:=by kernel_rfl
def pX (W:World) (blk cap n:Nat):Prop:=∃xs:List J2,xs.length=n/\pO vK 2 W blk cap xs
theorem zJX (n:Nat):∀j,j<n*2->(rJ #[jI kU 0,jI kU 0] n)[j]? =some (jI kU 0):=by
 intro j hj;simp only[rJ];rw[Array.getElem?_map,Array.getElem?_eq_getElem (by simpa using hj)];simp only[Array.getElem_range,Option.map_some,Option.some.injEq];have h2:j % (#[Value.int .u16 0,Value.int .u16 0]:Array Value).size<2:=Nat.mod_lt _ (by decide);generalize j % (#[Value.int .u16 0,Value.int .u16 0]:Array Value).size=r at h2
 match r,h2 with
 |0,_|1,_=>rfl
def zCR (cs:Array Value) (i n:Nat):Array Value:=(cs.toList.take (i*2)++(rJ #[jI kU 0,jI kU 0] n).toList++cs.toList.drop (i*2+(rJ #[jI kU 0,jI kU 0] n).toList.length)).toArray
theorem zD6 (n:Nat):(rJ #[jI kU 0,jI kU 0] n).toList.length=n*2:=by simp[rJ]
theorem zNB (n:Nat):∀v∈(rJ #[jI kU 0,jI kU 0] n).toList,v.oneCell'=true:=by
 intro v hv;obtain⟨j,hj,rfl⟩:=List.mem_iff_getElem.1 hv;have:=zJX n j (by rw[zD6] at hj;exact hj);rw[<-Array.getElem?_toList,rS hj] at this;injection this with this
 rw[this];rfl
theorem zOj {W:World} {blk i n c:Nat} {cs:Array Value} {T:TypeId} (ty:TypeId) (hb:W.heap[blk]? =some (.cells cs T (0,0))) (hn:0<n) (hi:(i+n)*2<=cs.size):
  (Builtin.clear_ #[440] ty #[jS (some ⟨blk,i*2,none⟩) n c]).run rB W=.ok (jU #[]) (W.setRow blk (zCR cs i n)):=by
 have hst:=run_storeCells_at rB blk (i*2) T (rJ #[jI kU 0,jI kU 0] n).toList 0 cs W hb (by rw[zD6];omega) (zNB n);simp only[Nat.add_zero] at hst;obtain⟨m,rfl⟩:∃m,n=m+1:=⟨n - 1,by omega⟩;have hz:(Value.agg #[jI kU 0,jI kU 0]).cells= #[jI kU 0,jI kU 0]:=rfl;simp only[Builtin.clear_];simp[rC Tryz.underlying440,Tryz.zeroValue445,hz,hst,zCR]
section
variable {W:World} {blk cap n:Nat}
theorem pX.cleared {i m:Nat} {cs:Array Value} {T:TypeId} (h:pX W blk cap n) (hb:W.heap[blk]? =some (.cells cs T (0,0))) (hi:(i+m)*2<=cs.size) (hx:i<=n):pX (W.setRow blk (zCR cs i m)) blk cap i:=by
 obtain⟨xs,rfl,hl,cs',T',hb',hs,hc⟩:=h;rw[hb] at hb';injection hb' with hb'
 injection hb' with e1 e2
 subst e1 e2;have hz:=zD6 m;have ht:(cs.toList.take (i*2)).length=i*2:=by rw[List.length_take,r8];omega
 refine⟨xs.take i,by simp;omega,by simp;omega,_,T,setRow_heap W blk cs _ T _ hb,?_,fun j hj c hc5=>?_⟩
 ·simp only[zCR,List.size_toArray,List.length_append,ht,hz,List.length_drop,r8,hs]
  omega
 ·have hj':j<i:=by simp at hj;omega
  have:=hc j (by omega) c hc5;rw[zCR,rO,zF4 (by rw[ht];omega),List.getElem?_take,if_pos (by omega),Array.getElem?_toList,this];simp
theorem pX.at2 (h:pX W blk cap n) {j:Nat} (hj:j<n):∃x1 x2:Int,W.cell? ⟨blk,j*2,none⟩=some (jI kU x1)/\W.cell? ⟨blk,j*2+1,none⟩=some (jI kU x2)/\(0<=x1/\x1<65536)/\0<=x2/\x2<65536:=by
 obtain⟨xs,rfl,hR⟩:=h;exact⟨xs[j].1.1,xs[j].2.1,by simpa using hR.cell hj (c:=0) (u:=jI kU xs[j].1.1) (by omega) rfl,hR.cell hj (c:=1) (u:=jI kU xs[j].2.1) (by omega) rfl,xs[j].1.2,xs[j].2.2⟩
theorem pX.at2e (h:pX W blk cap n) {j:Nat} (hj:j<n) (e:Nat) (he:e=j*2):∃x1 x2:Int,W.cell? ⟨blk,e,none⟩=some (jI kU x1)/\W.cell? ⟨blk,e+1,none⟩=some (jI kU x2)/\(0<=x1/\x1<65536)/\0<=x2/\x2<65536:=by
 subst he;exact h.at2 hj
theorem pX.set (h:pX W blk cap n) {j:Nat} (hj:j<n) {x1 x2:Int} (h1:0<=x1/\x1<65536) (h2:0<=x2/\x2<65536):pX ((W.setCell ⟨blk,j*2,none⟩ (jI kU x1)).setCell ⟨blk,j*2+1,none⟩ (jI kU x2)) blk cap n:=by
 obtain⟨xs,rfl,hl,cs,T,hb,hs,hc⟩:=h;have e1:=rX _ blk (j*2) _ T (jI kU x1) hb;have e2:=rX _ blk (j*2+1) _ T (jI kU x2) e1;refine⟨xs.set j (⟨x1,h1⟩,⟨x2,h2⟩),by simp,by simpa using hl,_,T,e2,by simpa using hs,fun i hi c hc2=>?_⟩;have hi':i<xs.length:=by simpa using hi
 have hcap:(j+1)*2<=cap*2:=Nat.mul_le_mul_right _ (by omega);by_cases hij:j=i
 ·subst hij
  rw[List.getElem_set_self]
  match c,hc2 with
  |0,_=>
   show _[j*2]? =_;rw[rL (by omega),Array.getElem?_setIfInBounds_self_of_lt (by omega)];rfl
  |1,_=>rw[Array.getElem?_setIfInBounds_self_of_lt (by simp;omega)];rfl
 ·rw[List.getElem_set_ne hij,rL (by omega),rL (by omega)]
  exact hc i hi' c hc2
theorem pX.frozen (h:pX W blk cap n) (e:Nat):W.frozen? ⟨blk,e,none⟩=false:=by
 obtain⟨xs, -,hR⟩:=h;exact hR.frozen e
theorem pX.blk' (h:pX W blk cap n):∃cs T,W.heap[blk]? =some (.cells cs T (0,0))/\cs.size=cap*2:=by
 obtain⟨xs, -,hl,cs,T,hb,hs,hc⟩:=h;exact⟨cs,T,hb,hs⟩
theorem pX.le (h:pX W blk cap n):n<=cap:=by
 obtain⟨xs,rfl,hR⟩:=h;exact hR.1
theorem pX.of_block {W':World} (h:pX W blk cap n) (hb:W'.heap[blk]? =W.heap[blk]?):pX W' blk cap n:=by
 obtain⟨xs,e,hR⟩:=h;exact⟨xs,e,hR.of_block hb⟩
end
theorem zL0 {w:World} {blk cap n:Nat} (h:pX w blk cap n) (hsz:n<=17179869184):
  Calls rB 401 #[jS (some ⟨blk,0,none⟩) n cap] w fun e w'=>∃m,e=jR (jS (some ⟨blk,0,none⟩) m cap)/\m<=n/\pX w' blk cap m/\Fr (only blk) w.heap.size w w'/\w.drawn<=w'.drawn:=by
 have HR:=rA h;have hcl:=h.le;clear h;go_enter Tryz.func401,Tryz.ntmps401;by_cases h2:n<2
 ·have h2z:(n:Int)<2:=by omega
  go_wp2_with fail;go_ret;exact⟨n,rfl,rM _,HR.out,Fr.refl _ _ _,rM _⟩
 ·have h2z:¬(n:Int)<2:=by omega
  go_wp2_with fail;go_loopw [3] (fun o wr=>∃kp:Nat,o=jI kQ (kp+1:Nat)/\kp+1<=n/\Hid (pX wr blk cap n/\Fr (only blk) w.heap.size w wr/\w.drawn<=wr.drawn)) (fun o _=>n - (intOf o).toNat)
  case atStart=>exact⟨0,rfl,by omega,rA ⟨HR.out,Fr.refl _ _ _,rM _⟩⟩
  case round=>
   obtain⟨kp,rfl,hk,HS⟩:=hrel;by_cases hlt:kp+1<n
   ·have hltz:(kp:Int)+1<(n:Int):=by omega
    obtain⟨x1,x2,c0,c1,hx1,hx2⟩:=HS.out.1.at2 hlt;obtain⟨y1,y2,d0,d1,hy1,hy2⟩:=HS.out.1.at2 (show kp<n by omega);have hwp:IntKind.i64.wrap (kp:Int)=(kp:Int):=by rw[IntKind.wrap_i64];omega
    have p0:(0:Int)<=(kp:Int)+1:=by omega
    have e0:((kp:Int)+1).toNat=kp+1:=by omega
    have kz1:(kp:Int)<(n:Int):=by omega
    obtain⟨r,hr⟩:∃r:Bool,(x1==y1&&x2==y2)=r:=⟨_,rfl⟩;have heq:∀W:World,(Op.equalIn 10000 445 (jG #[jI kU x1,jI kU x2]) (jG #[jI kU y1,jI kU y2])).run rB W=.ok r W:=fun W=>by rw[<-hr];exact eqJ x1 x2 y1 y2 W
    have hm:=zOm;clear hx1 hx2 hy1 hy2 hr;go_upto_region 6 with fail;go_quiet (fail);have HS2:Hid (pX (wr.drewN nq) blk cap n/\Fr (only blk) w.heap.size w (wr.drewN nq)/\w.drawn<=(wr.drewN nq).drawn):=rA ⟨HS.out.1.of_block rfl,HS.out.2.1.trans ((Fr.of_below (Gr.drawn wr nq).1).mono HS.out.2.1.size),rV HS.out.2.2 (Nat.le_add_right _ _)⟩;clear c0 c1 d0 d1 heq HS;generalize wr.drewN nq=w2 at*;cases r with
    |false=>
     go_wp2_with fail;go_roundw
     case rel=>exact⟨kp+1,by go_num,by omega,HS2⟩
     case measure=>simp[intOf];omega
    |true=>
     have hgt:((kp:Int)+1)<=(n:Int):=by omega
     have hgc:(n:Int)<=(cap:Int):=by omega
     have hlc:(n:Int) - ((kp:Int)+1)=((n - (kp+1):Nat):Int):=by omega
     go_wp2_with fail;go_loopw [3,5] (fun o3 o5 wr=>∃(kk k2:Nat),o3=jI kQ kk/\o5=jI kQ (k2+1:Nat)/\kp+1+k2+1<=n/\kk<=kp+1+k2/\Hid (pX wr blk cap n/\Fr (only blk) w.heap.size w wr/\w.drawn<=wr.drawn)) (fun _ o5 _=>n - (intOf o5).toNat)
     case atStart=>exact⟨kp+1,0,by go_num,rfl,by omega,by omega,HS2⟩
     case round=>
      clear HS2;obtain⟨kk,k2,rfl,rfl,hk2,hkk,HS⟩:=hrel;by_cases hlt2:kp+1+k2+1<n
      ·have q1:(k2:Int)+1<((n - (kp+1):Nat):Int):=by omega
       obtain⟨x1,x2,c0,c1,hx1,hx2⟩:=HS.out.1.at2e hlt2 ((kp+1)*2+(k2+1)*2) (by omega);obtain⟨y1,y2,d0,d1,hy1,hy2⟩:=HS.out.1.at2e (show kp+1+k2<n by omega) ((kp+1)*2+k2*2) (by omega);obtain⟨r,hr⟩:∃r:Bool,(x1==y1&&x2==y2)=r:=⟨_,rfl⟩;have heq:∀W:World,(Op.equalIn 10000 445 (jG #[jI kU x1,jI kU x2]) (jG #[jI kU y1,jI kU y2])).run rB W=.ok r W:=fun W=>by rw[<-hr];exact eqJ x1 x2 y1 y2 W
       have HXX:=rA (And.intro hx1 hx2);clear hx1 hx2 hy1 hy2 hr;have p2:(0:Int)<=(k2:Int)+1:=by omega
       have e2:((k2:Int)+1).toNat=k2+1:=by omega
       have q2:(k2:Int)<((n - (kp+1):Nat):Int):=by omega
       have hw2:IntKind.i64.wrap (k2:Int)=(k2:Int):=by rw[IntKind.wrap_i64];omega
       go_upto_region 11 with fail;go_quiet (fail);have HS3:Hid (pX (wr.drewN nq) blk cap n/\Fr (only blk) w.heap.size w (wr.drewN nq)/\w.drawn<=(wr.drewN nq).drawn):=rA ⟨HS.out.1.of_block rfl,HS.out.2.1.trans ((Fr.of_below (Gr.drawn wr nq).1).mono HS.out.2.1.size),rV HS.out.2.2 (Nat.le_add_right _ _)⟩;have c0':(wr.drewN nq).cell? ⟨blk,(kp+1)*2+(k2+1)*2,none⟩=some (jI kU x1):=c0;have c1':(wr.drewN nq).cell? ⟨blk,(kp+1)*2+(k2+1)*2+1,none⟩=some (jI kU x2):=c1;clear c0 c1 d0 d1 heq HS;generalize wr.drewN nq=w3 at*;cases r with
       |true=>
        go_wp2_with fail;go_roundw
        case rel=>exact⟨kk,k2+1,rfl,by go_num,by omega,by omega,HS3⟩
        case measure=>simp[intOf];omega
       |false=>
        obtain⟨z1,z2,f0,f1, -, -⟩:=HS3.out.1.at2 (show kk<n by omega);have fr:=HS3.out.1.frozen;have hkl:(kk:Int)<(n:Int):=by omega
        have HNW:=rA (HS3.out.1.set (show kk<n by omega) HXX.out.1 HXX.out.2);have hon:only blk blk=true:=by simp[only]
        have HNF:=rA (((HS3.out.2.1.setCell (a:=⟨blk,kk*2,none⟩) (.inl hon) (jI kU x1)).setCell (a:=⟨blk,kk*2+1,none⟩) (.inl hon) (jI kU x2)));have HDR:=rA HS3.out.2.2;clear HXX hon HS3;go_wp2_with fail;go_roundw
        case rel=>exact⟨kk+1,k2+1,by go_num,by go_num,by omega,by omega,rA ⟨HNW.out,HNF.out,HDR.out⟩⟩
        case measure=>simp[intOf];omega
      ·have q1:¬(k2:Int)+1<((n - (kp+1):Nat):Int):=by omega
       have hgt:(kk:Int)<=(n:Int):=by omega
       obtain⟨cs,T,hbl,hcs⟩:=HS.out.1.blk';have hcn:(kk+(n - kk))*2<=cs.size:=by rw[hcs];omega
       have hcl2:=fun ty=>zOj (c:=cap - kk) ty hbl (show 0<n - kk by omega) hcn
       have HROW:=rA (pX.cleared HS.out.1 hbl hcn (by omega));have HFF:=rA HS.out.2;clear HS hcn hcs;go_wp2_with fail;go_ret;refine⟨kk,rfl,by omega,HROW.out,?_,HFF.out.2⟩;exact HFF.out.1.grown (row:=some blk) ⟨rfl,rfl,rfl,by simp[World.setRow],fun k _ hk=>setRow_other wr blk k _ (fun e=>hk (by rw[e]))⟩ HFF.out.1.size (fun k e=>by cases e;exact .inl (by simp[only]))
   ·have hltz:¬(kp:Int)+1<(n:Int):=by omega
    go_wp2_with fail;go_ret;exact⟨n,rfl,rM _,HS.out.1,HS.out.2.1,HS.out.2.2⟩
theorem zEw {a:Option Addr}{n cap:Nat} (w:World) (hn:n<2):Calls rB 401 #[jS a n cap] w fun e w'=>e=jR (jS a n cap)/\w'=w:=by
 have h2z:(n:Int)<2:=by omega
 go_enter Tryz.func401,Tryz.ntmps401;go_wp2_with fail;go_ret;exact⟨rfl,rfl⟩
theorem zO7 {cap:Nat}{a:Option Addr} (hg:Gr w W) (h:zH vK 2 W w.heap.size a cap xs) (hn:xs.length<=17179869184):
  Calls rB 401 #[jS a xs.length cap] W fun e w'=>∃ys:List J2,e=jR (jS a ys.length cap)/\Gr w w'/\ys.length<=xs.length/\zH vK 2 w' w.heap.size a cap ys:=by
 rcases h with⟨rfl,rfl,rfl⟩|⟨blk,rfl,hb,hR⟩
 ·refine(zEw W (by simp)).mono ?_
  rintro e w' ⟨rfl,rfl⟩;exact⟨[],rfl,hg,rM _,.nil⟩
 ·refine(zL0 ⟨xs,rfl,hR⟩ hn).mono ?_
  rintro e w' ⟨m,rfl,hm,⟨ys,rfl,hR'⟩,hF,hd⟩;exact⟨ys,rfl,hg.fr hF hb hd,hm,.inr ⟨blk,rfl,hb,hR'⟩⟩
def JlR (w:World) (N:Nat) (e:Ending) (w':World):Prop:=∃(a:Option Addr) (c:Nat) (ys:List J2),e=jR (jS a ys.length c)/\zH vK 2 w' w.heap.size a c ys/\ys.length<=N/\c<=maxLen/\Gr w w'
theorem zQ7 {cap:Nat}{a:Option Addr} (x:J2) (h:zH vK 2 W lo a cap xs) (hlo:lo<=W.heap.size) (hcap:cap<=maxLen) (hsm:xs.length+1<=17179869184):
  ∃a' cap' W',(rAa #[440,440] 440 #[jS a xs.length cap,jS (some ⟨W.heap.size,0,none⟩) 1 1]).run rB (W.alloc (.cells #[jI kU x.1.1,jI kU x.2.1] 445))=.ok (jS a' (xs.length+1) cap') W'/\zH vK 2 W' lo a' cap' (xs++[x])/\zDi lo (W.alloc (.cells #[jI kU x.1.1,jI kU x.2.1] 445)) W' a a'/\cap'<=maxLen:=
 zB5 tyJ (by omega) zEG zJJ x h hlo hcap hsm 445
theorem zK5 {cap:Nat}{a:Option Addr} (hg:Gr w W) (h:zH vK 2 W w.heap.size a cap xs) (hcap:cap<=maxLen) (hn:xs.length<=8589934592):Calls rB 391 #[jS a xs.length cap] W (JlR w xs.length):=by
 have HC:=rA (zP5 (F:=W.heap.size) (hg.trans (Gr.alloc W (.cells #[.func (.func 398) #[] #[]] 458))) (h.gr (Gr.alloc W (.cells #[.func (.func 398) #[] #[]] 458))) (by omega) ((zI W #[.func (.func 398) #[] #[]] 458 0).trans rfl) (by simp) (fun q e=>by have:=(h.lt e).1;omega));have hn2:xs.length<=17179869184:=by omega
 clear hg h;go_enter Tryz.func391,Tryz.ntmps391;go_wp2_with fail;refine HC.out.mono ?_;rintro e w1 ⟨rfl,hg1,ys,hys,hl1⟩;clear HC;rw[<-hys] at hn hn2 ⊢;have HC:=rA (zO7 hg1 hl1 hn2);have HYS:=rA hys;clear hg1 hl1 hys;go_wp2_with fail;refine HC.out.mono ?_;rintro e w2 ⟨zs,rfl,hg2,hle,hl2⟩;have HG2:=rA hg2;have HL2:=rA hl2;clear HC hg2 hl2;go_wp2_with fail;go_loopw [4,13] (fun t i wr=>∃(k:Nat) (ka:Option Addr) (kc:Nat) (ks:List J2),k<=zs.length/\i=jI kQ k/\t=jS ka ks.length kc/\Hid (Gr w2 wr/\zH vK 2 wr w2.heap.size ka kc ks/\ks.length<=k/\kc<=maxLen)) (fun _ i _=>zs.length - (intOf i).toNat)
 case atStart=>exact⟨0,none,0,[],rW _,rfl,rfl,rA ⟨Gr.refl _,.nil,rM _,by simp[maxLen]⟩⟩
 case round=>
  obtain⟨k,ka,kc,ks,hk,rfl,rfl,HR⟩:=hrel;by_cases hlt:k<zs.length;rotate_left
  ·have hd:=dF hlt
   go_wp2_with fail;go_ret;exact⟨_,_,ks,rfl,HR.out.2.1.low HG2.out.1.size,by have:=HR.out.2.2.1;have:=HYS.out;omega,HR.out.2.2.2,HG2.out.trans HR.out.1⟩
  have hd:=dT hlt
  obtain⟨b,rfl,c0,c1⟩:=(HL2.out.gr HR.out.1).at2 hlt;have hkl:(k:Int)<(zs.length:Int):=by omega
  obtain⟨z,hz⟩:∃z,zs[k]=z:=⟨_,rfl⟩;rw[hz] at c0 c1;clear hz;have HKL:Hid (ks.length<=k):=rA HR.out.2.2.1;have HRA:Hid (Gr w2 (wr.alloc (.cells #[jI kU z.1.1,jI kU z.2.1] 445))/\zH vK 2 (wr.alloc (.cells #[jI kU z.1.1,jI kU z.2.1] 445)) w2.heap.size ka kc ks/\kc<=maxLen):=rA ⟨HR.out.1.trans (Gr.alloc _ _),HR.out.2.1.gr (Gr.alloc _ _),HR.out.2.2.2⟩;have HB:Hid (∀V,Gr (wr.alloc (.cells #[jI kU z.1.1,jI kU z.2.1] 445)) V->V.cell? ⟨wr.heap.size,0,none⟩=some (jI kU z.1.1)/\V.cell? ⟨wr.heap.size,1,none⟩=some (jI kU z.2.1)/\wr.heap.size<V.heap.size):=rA fun V hg=>by
   have b0:=(hg.1.block wr.heap.size (by simp)).trans (rR wr _);exact⟨by simp[rG,b0],by simp[rG,b0],(Array.getElem?_eq_some_iff.1 b0).1⟩
  go_upto_region 7 with fail;clear c0 c1 HR;generalize wr.heap.size=B at*;generalize wr.alloc (.cells #[jI kU z.1.1,jI kU z.2.1] 445)=w3 at*;obtain⟨q0,q1,q2⟩:=HB.out _ (Gr.refl _);have HC:=rA (zSB HRA.out.2.1 (by have:=HKL.out;omega) q0 q1 q2);go_wp2_with fail;refine HC.out.mono ?_;rintro e w4 ⟨bb,rfl,hg4⟩;have HG4:=rA hg4;obtain⟨r0,r1, -⟩:=HB.out _ hg4;clear HC hg4 q0 q1 q2;cases bb with
  |true=>
   go_wp2_with fail;go_roundw
   case rel=>exact⟨k+1,ka,kc,ks,by omega,by go_num,rfl,rA ⟨HRA.out.1.trans HG4.out,HRA.out.2.1.gr HG4.out,by have:=HKL.out;omega,HRA.out.2.2⟩⟩
   case measure=>simp[intOf];omega
  |false=>
   obtain⟨a',c',W2,hrun,hL,hA,hc⟩:=zQ7 z (HRA.out.2.1.gr HG4.out) (HRA.out.1.trans HG4.out).1.size HRA.out.2.2 (by have:=HKL.out;omega);have HRUN:=rA hrun;have HNX:Hid (Gr w2 W2/\zH vK 2 W2 w2.heap.size a' c' (ks++[z])/\(ks++[z]).length<=k+1/\c'<=maxLen):=rA ⟨hA.gr ((HRA.out.1.trans HG4.out).trans (Gr.alloc _ _)) (rM _),hL,by have:=HKL.out;simp;omega,hc⟩;clear hrun hL hA hc;go_wp2_with (first|(refine wpList_append_run rfl (.tmp 21) (.tmp 23) 440 440 rfl _ _ rfl rfl _ _ HRUN.out ?_));go_roundw
   case rel=>exact⟨k+1,a',c',ks++[z],by omega,by go_num,by simp,HNX⟩
   case measure=>simp[intOf];omega
def zM8 (W:World) (n:Nat):World:= {W with heap:=W.heap.extract 0 n}
theorem p7 {W:World} {n:Nat} (h:n<=W.heap.size):(zM8 W n).heap.size=n:=by simp[zM8];omega
theorem zLr {W:World} {n:Nat} (h:n<=W.heap.size):Gr (zM8 W n) W:=by
 refine⟨⟨rfl,rfl,rfl,by rw[p7 h];exact h,fun k hk=>?_⟩,rM _⟩;rw[p7 h] at hk;simp only[zM8,Array.getElem?_extract];rw[if_pos (by omega),r6]
theorem zDM {W W':World} {n:Nat} (h:n<=W.heap.size) (hg:Gr (zM8 W n) W') {k:Nat} (hk:k<n):W'.heap[k]? =W.heap[k]? :=
 (hg.1.block k (by rw[p7 h];exact hk)).trans ((zLr h).1.block k (by rw[p7 h];exact hk)).symm
theorem AdS.sub {A:Ad} {W W':World} (h:AdS A W) (hS:Sub W W') (hm:∀k,msA A k=true->W'.heap[k]? =W.heap[k]?):AdS A W':=by
 have hl:∀ {enc:El A.U->List Value} {k lo cap:Nat} {a:Option Addr} {xs:List (El A.U)},zH enc k W lo a cap xs->zH enc k W' lo a cap xs:=fun hx=>hx.block fun q e=>by
  rcases hx with⟨rfl,_⟩|⟨blk,rfl,_,hR⟩
  ·cases e
  ·cases e
   obtain⟨_,cs,T,hb,_⟩:=hR;exact(hS.blk _ _ _ _ hb).trans hb.symm
 have hD:Sub (dim (msA A) W) (dim (msA A) W'):=⟨by rw[zW,zW];exact hS.size,fun k cs T f e=>by
  obtain⟨h1,h2⟩:=zCm e;rw[zBr h1];exact hS.blk k cs T f h2⟩
 refine⟨⟨h.v.sub.trans hS,hS.blk _ _ _ _ h.v.blk,hl h.v.past,hl h.v.els,?_⟩,(h.a1.of_block (hm _ (by simp[msA]))).mono fun v hv=>hv.on hD,(h.a2.of_block (hm _ (by simp[msA]))).mono fun v hv=>hv.on hD,h.a3.of_block (hm _ (by simp[msA]))⟩;obtain⟨a,c,e,hn⟩:=h.v.unt;refine⟨a,c,e,fun h0=>?_⟩;obtain⟨b,o,e',hb,hc⟩:=hn h0;exact⟨b,o,e',rN hb hS.size,fun j hj=>hS.cell (hc j hj)⟩
def zKm (x:J2):Value:=jG #[jI kU x.1.1,jI kU x.2.1]
theorem zOl (x y:J2) (h:zKm x=zKm y):x=y:=by
 simp only[zKm,Value.agg.injEq,Array.mk.injEq,List.cons.injEq,Value.int.injEq,true_and,and_true] at h;exact Prod.ext (Subtype.ext h.1) (Subtype.ext h.2)
theorem zKR (x:J2):KJoint (zKm x):=⟨[jI kU x.1.1,jI kU x.2.1],rfl,⟨_,rfl⟩,⟨_,rfl⟩,trivial⟩
theorem zNX {l:List J2} (h:l.Nodup):l.length<=zGz:=by
 have:=zEU zGz (l.map fun x=>x.1.1.toNat*65536+x.2.1.toNat) (by
  refine List.Pairwise.map _ (fun x y hne e=>hne ?_) h;have h1:=x.1.2;have h2:=x.2.2;have h3:=y.1.2;have h4:=y.2.2;exact Prod.ext (Subtype.ext (by omega)) (Subtype.ext (by omega))) (fun n hn=>by
  obtain⟨x, -,rfl⟩:=List.mem_map.1 hn;have h1:=x.1.2;have h2:=x.2.2;unfold zGz;omega)
 simpa using this
structure JoS (A:Ad) (W w5 wr:World) (mb:Nat) (a:Option Addr) (c:Nat) (l:List J2):Prop where
 fr:Fr (msA A) W.heap.size W wr
 sub:Sub w5 wr
 ms:∀k,msA A k=true->wr.heap[k]? =w5.heap[k]?
 seen:Seen zKm wr mb l
 list:zH vK 2 wr w5.heap.size a c l
 nd:l.Nodup
 cap:c<=maxLen
 mbw:W.heap.size<=mb/\mb<w5.heap.size/\msA A mb=false
 mlt:∀k,msA A k=true->k<w5.heap.size
section
variable {A:Ad} {W w5 wr w6:World} {mb c:Nat} {a:Option Addr} {l:List J2}
theorem JoS.gr (h:JoS A W w5 wr mb a c l) (hg:Gr wr w6):JoS A W w5 w6 mb a c l:=
 ⟨h.fr.trans ((Fr.of_below hg.1).mono h.fr.size),h.sub.gr hg,fun k hk=>(hg.1.block k (rN (h.mlt k hk) h.sub.size)).trans (h.ms k hk),h.seen.of_block (hg.1.block _ h.seen.lt),h.list.gr hg,h.nd,h.cap,h.mbw,h.mlt⟩
theorem JoS.look (h:JoS A W w5 wr mb a c l) (x:J2):∃b:Bool,(b=true↔x∈l)/\(rAd 449 (.map (some mb)) (jG #[jI kU x.1.1,jI kU x.2.1]) false).run rB wr=.ok (jB b) wr:=by
 obtain⟨b,h1,h2⟩:=h.seen.look zOe zKR zOl Tryz.underlying449 x;exact⟨b,h1,h2 0⟩
theorem JoS.push {w7:World} {x:J2} (h:JoS A W w5 wr mb a c l) (hx:x∉l) (hs:Seen zKm w7 mb (l++[x])) (ht:wr.mapTurned w7 mb):
  ∃a' c' W2,(rAa #[440,440] 440 #[jS a l.length c,jS (some ⟨w7.heap.size,0,none⟩) 1 1]).run rB (w7.alloc (.cells #[jI kU x.1.1,jI kU x.2.1] 445))=.ok (jS a' (l.length+1) c') W2/\JoS A W w5 W2 mb a' c' (l++[x]):=by
 have hL:=h.list.turned ht;have hF7:Fr (msA A) W.heap.size W w7:=h.fr.turned ht (.inr h.mbw.1);have hsz7:w7.heap.size=wr.heap.size:=zCM ht;obtain⟨es0,cl0,hb0, -⟩:=id h.seen;have hS7:Sub w5 w7:=⟨by rw[hsz7];exact h.sub.size,fun k cs T f e=>(zT ht (fun e'=>by
  have:=h.sub.blk k cs T f e;rw[e',hb0] at this;cases this)).trans (h.sub.blk k cs T f e)⟩
 have hM7:∀k,msA A k=true->w7.heap[k]? =w5.heap[k]? :=fun k hk=>(zT ht (fun e=>by rw[e,h.mbw.2.2] at hk;cases hk)).trans (h.ms k hk)
 have hnl:=zNX h.nd;unfold zGz at hnl;obtain⟨a',c',W2,hrun,hL2,hA,hc⟩:=zQ7 x hL hS7.size h.cap (by omega);obtain⟨es,clock,hb, -⟩:=id hs;have hlt:=hs.lt;have hold:∀k,k<w7.heap.size->a≠some ⟨k,0,none⟩->W2.heap[k]? =w7.heap[k]? :=fun k hk hne=>(hA.other (by simp;omega) hne).trans (rQ _ _ hk)
 have hlow:∀k,k<w5.heap.size->W2.heap[k]? =w7.heap[k]? :=fun k hk=>hold k (rN hk hS7.size) fun e=>by have:=(hL.lt e).2;omega
 have hsz:w7.heap.size<=W2.heap.size:=by have:=hA.size;simp at this;omega
 have hw5:W.heap.size<=w5.heap.size:=by have:=h.mbw;omega
 refine⟨a',c',W2,hrun,⟨?_,⟨rV hS7.size hsz,fun k cs T f e=>(hlow k (Array.getElem?_eq_some_iff.1 e).1).trans (hS7.blk k cs T f e)⟩,fun k hk=>?_,hs.of_block (hold _ hlt (hL.nmap hb)),hL2,?_,hc,h.mbw,h.mlt⟩⟩
 ·obtain⟨⟨row,hgr,hr⟩,hd, -⟩:=hA
  refine⟨hgr.os.trans hF7.os,hgr.tape.trans hF7.tape,hgr.output.trans hF7.output,rV hF7.size hsz,fun k hk hp=>(hlow k (by omega)).trans (hF7.block k hk hp)⟩
 ·exact(hlow k (h.mlt k hk)).trans (hM7 k hk)
 ·rw[List.nodup_append]
  exact⟨h.nd,by simp,fun u hu v hv e=>hx (by rw[List.mem_singleton.1 hv] at e;rwa[<-e])⟩
end
theorem zRL (b0 b1 b2 b3 b4 b5 b6 b7 b8 b9 b10 b11 b12 b13 b14 b15:Bool) (k:Nat) (hk:k<16):∃b:Bool,[b0,b1,b2,b3,b4,b5,b6,b7,b8,b9,b10,b11,b12,b13,b14,b15][k]? =some b/\∀W:World,(rE 422 (jG #[jB b0,jB b1,jB b2,jB b3,jB b4,jB b5,jB b6,jB b7,jB b8,jB b9,jB b10,jB b11,jB b12,jB b13,jB b14,jB b15]) (jI kQ (k:Int))).run rB W=.ok (jB b) W:=by
 match k,hk with
 |0,_=>exact⟨b0,rfl,fun W=>by simp[rE,go_sem,rC Tryz.underlying422]⟩
 |1,_=>exact⟨b1,rfl,fun W=>by simp[rE,go_sem,rC Tryz.underlying422]⟩
 |2,_=>exact⟨b2,rfl,fun W=>by simp[rE,go_sem,rC Tryz.underlying422]⟩
 |3,_=>exact⟨b3,rfl,fun W=>by simp[rE,go_sem,rC Tryz.underlying422]⟩
 |4,_=>exact⟨b4,rfl,fun W=>by simp[rE,go_sem,rC Tryz.underlying422]⟩
 |5,_=>exact⟨b5,rfl,fun W=>by simp[rE,go_sem,rC Tryz.underlying422]⟩
 |6,_=>exact⟨b6,rfl,fun W=>by simp[rE,go_sem,rC Tryz.underlying422]⟩
 |7,_=>exact⟨b7,rfl,fun W=>by simp[rE,go_sem,rC Tryz.underlying422]⟩
 |8,_=>exact⟨b8,rfl,fun W=>by simp[rE,go_sem,rC Tryz.underlying422]⟩
 |9,_=>exact⟨b9,rfl,fun W=>by simp[rE,go_sem,rC Tryz.underlying422]⟩
 |10,_=>exact⟨b10,rfl,fun W=>by simp[rE,go_sem,rC Tryz.underlying422]⟩
 |11,_=>exact⟨b11,rfl,fun W=>by simp[rE,go_sem,rC Tryz.underlying422]⟩
 |12,_=>exact⟨b12,rfl,fun W=>by simp[rE,go_sem,rC Tryz.underlying422]⟩
 |13,_=>exact⟨b13,rfl,fun W=>by simp[rE,go_sem,rC Tryz.underlying422]⟩
 |14,_=>exact⟨b14,rfl,fun W=>by simp[rE,go_sem,rC Tryz.underlying422]⟩
 |15,_=>exact⟨b15,rfl,fun W=>by simp[rE,go_sem,rC Tryz.underlying422]⟩
 |_+16,h=>omega
def JtR (A:Ad) (W:World) (e:Ending) (W':World):Prop:=∃(a:Option Addr) (c:Nat) (xs:List J2),e=jR (jS a xs.length c)/\JsR (dim (msA A) W') a xs/\xs.length<=zGz/\AdS A W'/\Fr (msA A) W.heap.size W W'
theorem zSH {w':World}{a:Option Addr}{ys:List J2}{p:Nat->Bool} (h:zH vK 2 w' lo a c ys) (hp:∀q cs T,w'.heap[q]? =some (.cells cs T (0,0))->p q=false):JsR (dim p w') a ys:=fun h0=>by
 obtain⟨b,rfl,hb,hR⟩:=h.row (List.length_pos_iff.2 h0);refine⟨b,rfl,by rw[zW];exact hR.lt,fun j hj=>?_⟩;obtain⟨-,cs,T,hbl, -⟩:=id hR;have hpb:=hp b cs T hbl;have:=hR.at2 hj;exact⟨(rK (zBr hpb)).trans this.1,(rK (zBr hpb)).trans this.2⟩
theorem zPQ: (Tryz.prog.info? 443).map (·.size)=some 18:=by kernel_rfl
theorem zL9:∃fs,Tryz.prog.underlying 443=some (.struct fs):=⟨_,Tryz.underlying443⟩
theorem zGt (h:w.heap[q]? =some (.cells ys 443 (0,0))) (hys:ys.size=18):(Instr.loadAt 443 (jP (some ⟨q,0,none⟩))).run rB w=.ok (jG ys) w:=by
 obtain⟨fs,hu⟩:=zL9;simp only[Instr.loadAt,rP,rI,rH,rF];exact run_loadVar_row w q 443 443 ys (0,0) _ h hu rfl (by rw[hys];exact zPQ)
theorem zC6: (Tryz.prog.info? 422).map (·.size)=some 16:=by kernel_rfl
theorem zHD {x y:Value}{ys:List Value} (h:w.heap[q]? =some (.cells (x::y::ys).toArray 443 (0,0))) (hys:ys.length=16):(Instr.loadAt 422 (jP (some ⟨q,2,none⟩))).run rB w=.ok (jG ys.toArray) w:=by
 simp only[Instr.loadAt,rP,rI,rH,rF];exact run_loadVar_mid w q 2 422 ys _ (fun j v hv=>by
  simp only[rG,h];rw[if_neg (by simp),rO,show 2+j=j+2 by omega]
  simpa using hv) Tryz.underlying422 rfl (by rw[hys];exact zC6)
theorem zGk (hg:o.guard=none) (p:Operand) (hop:o.op=Op.load 422 p) (x y:Value) (ys:List Value) (n:Nat)
  (hp:a.eval p=jP (some ⟨n,2,none⟩)) (h:w.heap[n]? =some (.cells (x::y::ys).toArray 443 (0,0))) (hys:ys.length=16)
  (hK:wpList rB ops Q rest (a.put o.dst (jG ys.toArray)) w):wpList rB ops Q (o::rest) a w:=by
 have hrun:=zHD h hys;refine wpList_plain hg fun K' hK'=>?_
 unfold Oper.wp;simp only[execOp,hop,hp,rI,rH,hrun,rF];exact hK' _ _ hK
theorem zEI {p:Operand} (hop:o.op=Op.load 443 p) (hp:a.eval p=jP (some ⟨q,0,none⟩)) (h:w.heap[q]? =some (.cells ys 443 (0,0))) (hys:ys.size=18):(execOp a.eval o).run rB w=.ok (.value (jG ys)) w:=by
 simp only[execOp,hop,hp,rI,rH,zGt h hys,rF]
theorem zIH {m k:Operand}{mv kv v:Value} (hop:o.op=Op.lookup 433 m k true) (hm:a.eval m=mv) (hk:a.eval k=kv) (h:(rAd 433 mv kv true).run rB w=.ok v w):(execOp a.eval o).run rB w=.ok (.value v) w:=by
 simp only[execOp,hop,hm,hk,rI,rH,h,rF]
theorem zMr (x y:Int):0<=Go.bits .and .u16 x y/\Go.bits .and .u16 x y<65536:=by
 have e:Go.bits .and .u16 x y=IntKind.u16.wrap ((BitVec.ofInt 16 x &&& BitVec.ofInt 16 y).toNat:Int):=rfl;rw[e];generalize (BitVec.ofInt 16 x &&& BitVec.ofInt 16 y).toNat=n;constructor<;>simp[IntKind.wrap,IntKind.bits,IntKind.signed]<;>omega
theorem zNO (w:World):(zeroValue 440).run rB w=.ok (jS none 0 0) w:=Tryz.zeroValue440 w
theorem zPk (V:World) (x:J2) (h:lo<=V.heap.size):zH vK 2 (V.alloc (.cells #[jI kU x.1.1,jI kU x.2.1] 445)) lo (some ⟨V.heap.size,0,none⟩) 1 [x]:=by
 refine .inr ⟨_,rfl,h,by simp,_,445,rR _ _,rfl,fun j hj c hc=>?_⟩;have:j=0:=by simpa using hj
 subst this;simp[vK]
structure OuS (A:Ad) (W wr:World) (a:Option Addr) (c:Nat) (l:List J2):Prop where
 fr:Fr (msA A) W.heap.size W wr
 ad:AdS A wr
 list:zH vK 2 wr W.heap.size a c l
 len:l.length<=zGz
 cap:c<=maxLen
theorem zOG (hok:zBs A) (hv:AdS A W) (mem:Int) (K:Nat) (b0 b1 b2 b3 b4 b5 b6 b7 b8 b9 b10 b11 b12 b13 b14 b15:Bool) (hK:K<=100000000) (hE:∀i,[b0,b1,b2,b3,b4,b5,b6,b7,b8,b9,b10,b11,b12,b13,b14,b15][i]? =some true->i<A.E.length):Calls rB 383 #[jP (some ⟨A.ab,0,none⟩),jG #[jI kQ mem,jI kQ K,jB b0,jB b1,jB b2,jB b3,jB b4,jB b5,jB b6,jB b7,jB b8,jB b9,jB b10,jB b11,jB b12,jB b13,jB b14,jB b15]] W (JtR A W):=by
 have HOK:=rA hok;have HE:=rA hE;have hs0:=hv.gr (Gr.alloc W (.cells #[jI kQ mem,jI kQ K,jB b0,jB b1,jB b2,jB b3,jB b4,jB b5,jB b6,jB b7,jB b8,jB b9,jB b10,jB b11,jB b12,jB b13,jB b14,jB b15] 443));have HS0:=rA hs0;have HG0:=rA (Gr.alloc W (.cells #[jI kQ mem,jI kQ K,jB b0,jB b1,jB b2,jB b3,jB b4,jB b5,jB b6,jB b7,jB b8,jB b9,jB b10,jB b11,jB b12,jB b13,jB b14,jB b15] 443));have HKEY:Hid (KOwing (jG #[jI kQ mem,jI kQ K,jB b0,jB b1,jB b2,jB b3,jB b4,jB b5,jB b6,jB b7,jB b8,jB b9,jB b10,jB b11,jB b12,jB b13,jB b14,jB b15])):=rA ⟨[jI kQ mem,jI kQ K,jB b0,jB b1,jB b2,jB b3,jB b4,jB b5,jB b6,jB b7,jB b8,jB b9,jB b10,jB b11,jB b12,jB b13,jB b14,jB b15],rfl,⟨_,rfl⟩,⟨_,rfl⟩,⟨_,rfl⟩,⟨_,rfl⟩,⟨_,rfl⟩,⟨_,rfl⟩,⟨_,rfl⟩,⟨_,rfl⟩,⟨_,rfl⟩,⟨_,rfl⟩,⟨_,rfl⟩,⟨_,rfl⟩,⟨_,rfl⟩,⟨_,rfl⟩,⟨_,rfl⟩,⟨_,rfl⟩,⟨_,rfl⟩,⟨_,rfl⟩,trivial⟩;obtain⟨v,b,hlk0,hvb⟩:=hs0.a2.look zPI Tryz.underlying433 zNO HKEY.out;have hlk:=hlk0 true;obtain⟨-, -, -, -, -,a5, -⟩:=hs0.v.cell;have HBOX:Hid (∀V:World,V.heap[W.heap.size]? =some (.cells #[jI kQ mem,jI kQ K,jB b0,jB b1,jB b2,jB b3,jB b4,jB b5,jB b6,jB b7,jB b8,jB b9,jB b10,jB b11,jB b12,jB b13,jB b14,jB b15] 443 (0,0))->V.cell? ⟨W.heap.size,0,none⟩=some (jI kQ mem)/\V.cell? ⟨W.heap.size,1,none⟩=some (jI kQ K)/\V.cell? ⟨W.heap.size,2,none⟩=some (jB b0)/\V.cell? ⟨W.heap.size,3,none⟩=some (jB b1)/\V.cell? ⟨W.heap.size,4,none⟩=some (jB b2)/\V.cell? ⟨W.heap.size,5,none⟩=some (jB b3)/\V.cell? ⟨W.heap.size,6,none⟩=some (jB b4)/\V.cell? ⟨W.heap.size,7,none⟩=some (jB b5)/\V.cell? ⟨W.heap.size,8,none⟩=some (jB b6)/\V.cell? ⟨W.heap.size,9,none⟩=some (jB b7)/\V.cell? ⟨W.heap.size,10,none⟩=some (jB b8)/\V.cell? ⟨W.heap.size,11,none⟩=some (jB b9)/\V.cell? ⟨W.heap.size,12,none⟩=some (jB b10)/\V.cell? ⟨W.heap.size,13,none⟩=some (jB b11)/\V.cell? ⟨W.heap.size,14,none⟩=some (jB b12)/\V.cell? ⟨W.heap.size,15,none⟩=some (jB b13)/\V.cell? ⟨W.heap.size,16,none⟩=some (jB b14)/\V.cell? ⟨W.heap.size,17,none⟩=some (jB b15)):=rA fun V hb=>by simp[rG,hb]
 have HB0:Hid ((W.alloc (.cells #[jI kQ mem,jI kQ K,jB b0,jB b1,jB b2,jB b3,jB b4,jB b5,jB b6,jB b7,jB b8,jB b9,jB b10,jB b11,jB b12,jB b13,jB b14,jB b15] 443)).heap[W.heap.size]? =some (.cells #[jI kQ mem,jI kQ K,jB b0,jB b1,jB b2,jB b3,jB b4,jB b5,jB b6,jB b7,jB b8,jB b9,jB b10,jB b11,jB b12,jB b13,jB b14,jB b15] 443 (0,0))):=rA (rR _ _);have HVB:=rA hvb;have HIX:=rA fun k hk=>zRL b0 b1 b2 b3 b4 b5 b6 b7 b8 b9 b10 b11 b12 b13 b14 b15 k hk
 have HMS:Hid (∀k,msA A k=true->k<W.heap.size):=rA fun k hk=>by
  have h1:=hv.a1.lt;have h2:=hv.a2.lt;have h3:=hv.a3.lt;simp only[msA,Bool.or_eq_true,beq_iff_eq] at hk;omega
 clear hv hok hs0 hlk0 hvb hE;go_enter Tryz.func383,Tryz.ntmps383;go_upto_region 1 with fail;have HA5:Hid (∀n,((W.alloc (.cells #[jI kQ mem,jI kQ K,jB b0,jB b1,jB b2,jB b3,jB b4,jB b5,jB b6,jB b7,jB b8,jB b9,jB b10,jB b11,jB b12,jB b13,jB b14,jB b15] 443)).drewN n).cell? ⟨A.ab,5,none⟩=some (.map (some A.m2))):=rA fun n=>a5
 have HBD:Hid (∀n,((W.alloc (.cells #[jI kQ mem,jI kQ K,jB b0,jB b1,jB b2,jB b3,jB b4,jB b5,jB b6,jB b7,jB b8,jB b9,jB b10,jB b11,jB b12,jB b13,jB b14,jB b15] 443)).drewN n).heap[W.heap.size]? =some (.cells #[jI kQ mem,jI kQ K,jB b0,jB b1,jB b2,jB b3,jB b4,jB b5,jB b6,jB b7,jB b8,jB b9,jB b10,jB b11,jB b12,jB b13,jB b14,jB b15] 443 (0,0))):=rA fun n=>HB0.out
 have HLK:=rA hlk;clear hlk a5;generalize W.alloc _=w0 at*;go_cut [5,6] from 17 to 25 (fun t u wx=>v=t/\u=jB b/\wx=w0.drew)
 case first=>
  refine rU (S:=fun V=>∃n,V=w0.drewN n) (by kernel_rfl) ⟨1,rfl⟩ (fun hS=>?_);refine tKa 0 (jP (some ⟨A.ab,0,none⟩)) ?_;refine tKa 1 (jP (some ⟨A.ab,0,none⟩)) ?_;refine tKa 2 (jP (some ⟨A.ab,5,none⟩)) ?_;refine tka 3 (.map (some A.m2)) ?_ ?_
  ·rintro V ⟨n,rfl⟩;(have e:=HA5.out n;go_simp)
  refine tka 4 (jG #[jI kQ mem,jI kQ K,jB b0,jB b1,jB b2,jB b3,jB b4,jB b5,jB b6,jB b7,jB b8,jB b9,jB b10,jB b11,jB b12,jB b13,jB b14,jB b15]) ?_ ?_
  ·rintro V ⟨n,rfl⟩;exact zEI rfl rfl (HBD.out n) rfl
  refine tka 5 (jU #[v,jB b]) ?_ ?_
  ·rintro V ⟨n,rfl⟩;exact zIH rfl rfl rfl (HLK.out n)
  refine tKa 6 (jU #[v,jB b]) ?_;refine tKa 7 v ?_;refine tKa 8 (jB b) ?_;refine tKa 9 v ?_;refine tKa 10 (jB b) ?_;refine r9 (by kernel_rfl) ?_ _;clear hS;go_wp2_with fail;go_meet;exact⟨rfl,rfl,rfl⟩
 case rest=>
 obtain⟨rfl,rfl,rfl⟩:=hcut;clear HLK HA5 HBD;cases b with
 |true=>
  obtain⟨xa,xs,xc,rfl,hx2,hx3⟩:VJt (dim (msA A) w0) v:=HVB.out.elim And.right fun h=>by cases h.1
  have HX:=rA (And.intro hx2 hx3);clear hx2 hx3 HVB;go_wp2_with fail;go_ret;exact⟨xa,xc,xs,rfl,HX.out.1.on (zFZ (Fr.of_below (Gr.drawn w0 1).1)),HX.out.2,HS0.out.gr (Gr.drawn _ _),(Fr.of_below HG0.out.1).trans ((Fr.of_below (Gr.drawn _ _).1).mono HG0.out.1.size)⟩
 |false=>
  clear HVB;have HL0:Hid (∀V:World,V=(w0.alloc (.cells #[jI kU 0,jI kU 0] 445)).drew->OuS A W V (some ⟨w0.heap.size,0,none⟩) 1 [(zA0,zA0)]/\V.heap[W.heap.size]? =some (.cells #[jI kQ mem,jI kQ K,jB b0,jB b1,jB b2,jB b3,jB b4,jB b5,jB b6,jB b7,jB b8,jB b9,jB b10,jB b11,jB b12,jB b13,jB b14,jB b15] 443 (0,0))):=rA fun V e=>by
   have e:V=(w0.drewN 1).alloc (.cells #[jI kU 0,jI kU 0] 445):=e;subst e;have hg:=HG0.out.trans ((Gr.drawn w0 1).trans (Gr.alloc (w0.drewN 1) (.cells #[jI kU 0,jI kU 0] 445)));have hg2:=(Gr.drawn w0 1).trans (Gr.alloc (w0.drewN 1) (.cells #[jI kU 0,jI kU 0] 445));exact⟨⟨Fr.of_below hg.1,HS0.out.gr hg2,zPk (w0.drewN 1) (zA0,zA0) HG0.out.1.size,by simp[zGz],by simp[maxLen]⟩,(hg2.1.block _ (Array.getElem?_eq_some_iff.1 HB0.out).1).trans HB0.out⟩
  go_upto_region 5 with fail;obtain⟨hl0,hb0⟩:=HL0.out _ rfl;have HOU:=rA (And.intro hl0 hb0);clear HL0 hl0 hb0 HS0 HG0 HB0;generalize (w0.alloc _).drew=w1 at*;generalize w0.heap.size=M at*;go_wp2_with (first|(refine zGk rfl (.tmp 30) rfl _ _ [jB b0,jB b1,jB b2,jB b3,jB b4,jB b5,jB b6,jB b7,jB b8,jB b9,jB b10,jB b11,jB b12,jB b13,jB b14,jB b15] W.heap.size rfl HOU.out.2 rfl ?_));go_loopw [5,32] (fun t i wr=>∃(k:Nat) (la:Option Addr) (lc:Nat) (ls:List J2),k<=16/\i=jI kQ k/\t=jS la ls.length lc/\Hid (OuS A W wr la lc ls/\wr.heap[W.heap.size]? =some (.cells #[jI kQ mem,jI kQ K,jB b0,jB b1,jB b2,jB b3,jB b4,jB b5,jB b6,jB b7,jB b8,jB b9,jB b10,jB b11,jB b12,jB b13,jB b14,jB b15] 443 (0,0)))) (fun _ i _=>16 - (intOf i).toNat)
  case atStart=>exact⟨0,_,1,[(zA0,zA0)],by omega,rfl,rfl,HOU⟩
  case round=>
   clear HOU;obtain⟨k,la,lc,ls,hk,rfl,rfl,HOU⟩:=hrel;by_cases hlt:k<16;rotate_left
   ·have hd:decide ((k:Int)<16)=false:=by rw[decide_eq_false_iff_not];omega
    have hd':decide (k<16)=false:=by simpa using hlt
    have hs:=HOU.out.1.ad;have hsd:AdS A wr.drew:=hs.gr (Gr.drawn wr 1);have hla:zH vK 2 wr.drew W.heap.size la lc ls:=HOU.out.1.list.gr (Gr.drawn wr 1);have hval:VJt (dim (msA A) wr.drew) (jS la ls.length lc):=⟨la,ls,lc,rfl,zSH hla (fun q cs T hb=>hsd.notm hb),HOU.out.1.len⟩;obtain⟨w5,hrun,hm5,ht5⟩:=hsd.a2.update zPI Tryz.underlying433 (key:=jG #[jI kQ mem,jI kQ K,jB b0,jB b1,jB b2,jB b3,jB b4,jB b5,jB b6,jB b7,jB b8,jB b9,jB b10,jB b11,jB b12,jB b13,jB b14,jB b15]) (val:=jS la ls.length lc) HKEY.out hval;have hfin:=hsd.put2 HOK.out hm5 ht5;obtain⟨xa,xs,xc,hxe,hx2,hx3⟩:=hval.on (zFZ hfin.2);have HFIN:Hid (JtR A W (jR (jS la ls.length lc)) w5):=rA ⟨xa,xc,xs,by rw[hxe],hx2,hx3,hfin.1,HOU.out.1.fr.trans (((Fr.of_below (Gr.drawn wr 1).1).trans hfin.2).mono HOU.out.1.fr.size)⟩;have hbd:wr.drew.heap[W.heap.size]? =some (.cells #[jI kQ mem,jI kQ K,jB b0,jB b1,jB b2,jB b3,jB b4,jB b5,jB b6,jB b7,jB b8,jB b9,jB b10,jB b11,jB b12,jB b13,jB b14,jB b15] 443 (0,0)):=HOU.out.2;have HA5:Hid (∀V,V=wr.drew∨V=w5->V.cell? ⟨A.ab,5,none⟩=some (.map (some A.m2))):=rA fun V h=>by
     rcases h with rfl|rfl
     ·exact hsd.v.cell.2.2.2.2.2.1
     ·exact hfin.1.v.cell.2.2.2.2.2.1
    have HBD:Hid (∀V,V=wr.drew∨V=w5->V.heap[W.heap.size]? =some (.cells #[jI kQ mem,jI kQ K,jB b0,jB b1,jB b2,jB b3,jB b4,jB b5,jB b6,jB b7,jB b8,jB b9,jB b10,jB b11,jB b12,jB b13,jB b14,jB b15] 443 (0,0))):=rA fun V h=>by
     rcases h with rfl|rfl
     ·exact hbd
     ·exact(hfin.2.block _ (Array.getElem?_eq_some_iff.1 hbd).1 (hsd.notm hbd)).trans hbd
    have HRUN:=rA hrun;clear hs hsd hla hval hm5 ht5 hfin hxe hx2 hx3 hbd hrun;go_upto_region 28 with fail;refine rU (S:=fun V=>V=wr.drew∨V=w5) (by kernel_rfl) (Or.inl rfl) (fun hS=>?_);refine tKa 0 (jP (some ⟨A.ab,0,none⟩)) ?_;refine tKa 1 (jP (some ⟨A.ab,0,none⟩)) ?_;refine tKa 2 (jP (some ⟨A.ab,5,none⟩)) ?_;refine tka 3 (.map (some A.m2)) ?_ ?_
    ·intro V hV;(have e:=HA5.out V hV;go_simp)
    refine tka 4 (jG #[jI kQ mem,jI kQ K,jB b0,jB b1,jB b2,jB b3,jB b4,jB b5,jB b6,jB b7,jB b8,jB b9,jB b10,jB b11,jB b12,jB b13,jB b14,jB b15]) ?_ ?_
    ·intro V hV;exact zEI rfl rfl (HBD.out V hV) rfl
    refine tKa 5 (jS la ls.length lc) ?_;refine wpAnyH_ready (rs:=[6]) (by kernel_rfl) (by simp) ?_;refine AllReadyH.cons rfl (fun K' hK'=>?_) AllReadyH.nil;have hrun:=HRUN.out;go_simp;refine hK'.out _ _ (Or.inr rfl) (fun hS2=>?_);clear hS hK' hrun;refine r9 (by kernel_rfl) ?_ _;clear hS2;go_wp2_with fail;go_ret;exact HFIN.out
   have hkl:(k:Int)<16:=by omega
   have hd:decide ((k:Int)<16)=true:=by rw[decide_eq_true_iff];omega
   have hd':decide (k<16)=true:=by simpa using hlt
   obtain⟨bk,hbk,hix⟩:=HIX.out k hlt;have HBK:=rA hbk;clear hbk;cases bk with
   |false=>
    go_wp2_with fail;go_roundw
    case rel=>exact⟨k+1,la,lc,ls,by omega,by go_num,rfl,HOU⟩
    case measure=>simp[intOf];omega
   |true=>
    have HEK:Hid (k<A.E.length):=rA (HE.out k HBK.out);clear HBK;have hm:=xK 449;go_upto_region 11 with fail;clear hm hix;have HOU4:Hid (OuS A W (wr.alloc (.map #[] 0)) la lc ls/\(wr.alloc (.map #[] 0)).heap[W.heap.size]? =some (.cells #[jI kQ mem,jI kQ K,jB b0,jB b1,jB b2,jB b3,jB b4,jB b5,jB b6,jB b7,jB b8,jB b9,jB b10,jB b11,jB b12,jB b13,jB b14,jB b15] 443 (0,0))/\Seen zKm (wr.alloc (.map #[] 0)) wr.heap.size []/\W.heap.size<=wr.heap.size):=rA ⟨⟨HOU.out.1.fr.trans ((Fr.of_below (Gr.alloc wr (.map #[] 0)).1).mono HOU.out.1.fr.size),HOU.out.1.ad.gr (Gr.alloc _ _),HOU.out.1.list.gr (Gr.alloc _ _),HOU.out.1.len,HOU.out.1.cap⟩,((Gr.alloc wr (.map #[] 0)).1.block _ (Array.getElem?_eq_some_iff.1 HOU.out.2).1).trans HOU.out.2,Seen.made wr,HOU.out.1.fr.size⟩;generalize wr.heap.size=mb at*;generalize wr.alloc (.map #[] 0)=w4 at*;obtain⟨q0,q1, -⟩:=HBOX.out _ HOU4.out.2.1;have HC:=rA (zPN HOK.out HOU4.out.1.ad mem K k hK hlt);clear HOU;go_wp2_with fail;refine HC.out.mono ?_;rintro e w5 ⟨xa,xc,xs,rfl,hx1,hx2,had5,hf5⟩;have hmb:msA A mb=false:=by
     cases h:msA A mb with
     |false=>rfl
     |true=>have:=HMS.out mb h;have:=HOU4.out.2.2.2;omega
    have hmlt:=HOU4.out.2.2.1.lt;have HJ0:Hid (JoS A W w5 w5 mb none 0 []):=rA ⟨HOU4.out.1.fr.trans (hf5.mono HOU4.out.1.fr.size),⟨rM _,fun _ _ _ _ e=>e⟩,fun _ _=>rfl,HOU4.out.2.2.1.of_block (hf5.block _ hmlt hmb),.nil,by simp,by simp[maxLen],⟨HOU4.out.2.2.2,rN hmlt hf5.size,hmb⟩,fun k hk=>by have:=HMS.out k hk;have:=HOU4.out.2.2.2;have:=hf5.size;omega⟩;have HO5:Hid (AdS A w5/\w5.heap[W.heap.size]? =some (.cells #[jI kQ mem,jI kQ K,jB b0,jB b1,jB b2,jB b3,jB b4,jB b5,jB b6,jB b7,jB b8,jB b9,jB b10,jB b11,jB b12,jB b13,jB b14,jB b15] 443 (0,0))/\zH vK 2 w5 W.heap.size la lc ls/\UsR (dim (msA A) w5) xa xs/\ls.length<=zGz):=rA ⟨had5,(hf5.block _ (Array.getElem?_eq_some_iff.1 HOU4.out.2.1).1 (HOU4.out.1.ad.notm HOU4.out.2.1)).trans HOU4.out.2.1,HOU4.out.1.list.block (fun q e=>hf5.block q (HOU4.out.1.list.lt e).1 (by
     rcases HOU4.out.1.list with⟨rfl,_⟩|⟨blk,rfl,_,_,cs,T,hb2,_⟩
     ·cases e
     ·cases e
      exact HOU4.out.1.ad.notm hb2)),hx1,HOU4.out.1.len⟩
    have hxl:xs.length<=26279936:=hx2;clear hx1 hx2 had5 hf5 hmb hmlt HC q0 q1 HOU4;go_wp2_with fail;go_loopw [10,45] (fun t i wr=>∃(j:Nat) (a:Option Addr) (c:Nat) (l:List J2),j<=xs.length/\i=jI kQ j/\t=jS a l.length c/\Hid (JoS A W w5 wr mb a c l)) (fun _ i _=>xs.length - (intOf i).toNat)
    case atStart=>exact⟨0,none,0,[],rW _,rfl,rfl,HJ0⟩
    case round=>
     clear HJ0;obtain⟨j,a,c,l,hj,rfl,rfl,HJ⟩:=hrel;by_cases hjt:j<xs.length;rotate_left
     ·have hd:=dF hjt
      have hle:w5.heap.size<=wr.heap.size:=HJ.out.sub.size;have hl:zH vK 2 wr (zM8 wr w5.heap.size).heap.size a c l:=by rw[p7 hle];exact HJ.out.list
      have hnl:=zNX HJ.out.nd;have HC:=rA (zK5 (zLr hle) hl HJ.out.cap (by unfold zGz at hnl;omega));have HNL:=rA hnl;clear hl hle hnl;go_wp2_with fail;refine HC.out.mono ?_;rintro e w6 ⟨a6,c6,y6,rfl,hl6,hn6,hc6,hg6⟩;have hle:w5.heap.size<=wr.heap.size:=HJ.out.sub.size;have hs6:w5.heap.size<=w6.heap.size:=by have:=hg6.1.size;rwa[p7 hle] at this
      have hw5:W.heap.size<=w5.heap.size:=by have:=HJ.out.mbw;omega
      have hS6:Sub w5 w6:=⟨hs6,fun k cs T f e=>(zDM hle hg6 (Array.getElem?_eq_some_iff.1 e).1).trans (HJ.out.sub.blk k cs T f e)⟩;have HNX:Hid (OuS A W w6 a6 c6 y6/\w6.heap[W.heap.size]? =some (.cells #[jI kQ mem,jI kQ K,jB b0,jB b1,jB b2,jB b3,jB b4,jB b5,jB b6,jB b7,jB b8,jB b9,jB b10,jB b11,jB b12,jB b13,jB b14,jB b15] 443 (0,0))):=rA ⟨⟨⟨hg6.1.os.trans HJ.out.fr.os,hg6.1.tape.trans HJ.out.fr.tape,hg6.1.output.trans HJ.out.fr.output,by omega,fun k hk hp=>(zDM hle hg6 (by omega)).trans (HJ.out.fr.block k hk hp)⟩,HO5.out.1.sub hS6 (fun k hk=>(zDM hle hg6 (HJ.out.mlt k hk)).trans (HJ.out.ms k hk)),hl6.low (by rw[p7 hle];exact hw5),rV hn6 HNL.out,hc6⟩,hS6.blk _ _ _ _ HO5.out.2.1⟩;clear hl6 hn6 hc6 hg6 hle hs6 hw5 hS6 HC;go_wp2_with fail;go_roundw
      case rel=>exact⟨k+1,a6,c6,y6,by omega,by go_num,rfl,HNX⟩
      case measure=>simp[intOf];omega
     have hd:=dT hjt
     have hjl:(j:Int)<(xs.length:Int):=by omega
     obtain⟨b,rfl, -,hcs⟩:=HO5.out.2.2.2.1 (by intro e;rw[e] at hjt;simp at hjt);have c0:=HJ.out.sub.cell ((vS _ _).cell (hcs j hjt));unfold yW at c0;obtain⟨m,hm⟩:∃m,xs[j]=m:=⟨_,rfl⟩;rw[hm] at c0;have hAd:=HO5.out.1.sub HJ.out.sub HJ.out.ms;have a2:=hAd.v.cell.2.2.1;obtain⟨bq,hbq,d0, -⟩:=vL.elem hAd.v.els HEK.out;rw[hbq] at a2;have hkE:(k:Int)<(A.E.length:Int):=by have:=HEK.out;omega
     have hk0:(0:Int)<=(k:Int):=Int.natCast_nonneg _;generalize A.E[k].1.op=oz at*;clear hm hcs hAd hbq;obtain⟨q9,hq9⟩:∃q9,(oz==(9:Int))=q9:=⟨_,rfl⟩;go_upto_if 57 with fail;clear c0 a2 d0;go_cut [13] from 58 to 61 (fun t wx=>∃o:U16,t=jI kU o.1/\wx=wr)
     case first=>
      cases q9;all_goals
       go_wp2_with fail;go_meet
      ·exact⟨zA0,rfl,rfl⟩
      ·exact⟨⟨_,zMr _ _⟩,rfl,rfl⟩
     case rest=>
     obtain⟨o,rfl,rfl⟩:=hcut;clear hq9;have hls:ls.length<=4294967296:=HO5.out.2.2.2.2;go_upto_region 17 with fail;go_wp2_with fail;go_loopw [10,64] (fun t i wr=>∃(i3:Nat) (a:Option Addr) (c:Nat) (l:List J2),i3<=ls.length/\i=jI kQ i3/\t=jS a l.length c/\Hid (JoS A W w5 wr mb a c l)) (fun _ i _=>ls.length - (intOf i).toNat)
     case atStart=>exact⟨0,a,c,l,rW _,rfl,rfl,HJ⟩
     case round=>
      clear HJ;obtain⟨i3,a,c,l,hi3,rfl,rfl,HJ⟩:=hrel;by_cases hit:i3<ls.length;rotate_left
      ·have hdi:=dF hit
       go_wp2_with fail;go_roundw
       case rel=>exact⟨j+1,a,c,l,by omega,by go_num,rfl,HJ⟩
       case measure=>simp[intOf];omega
      have hdi:=dT hit
      have hil:(i3:Int)<(ls.length:Int):=by omega
      obtain⟨bl,rfl,e0,e1⟩:=HO5.out.2.2.1.at2 hit;have c0:=HJ.out.sub.cell e0;have c1:=HJ.out.sub.cell e1;obtain⟨x,hx⟩:∃x,ls[i3]=x:=⟨_,rfl⟩;rw[hx] at c0 c1;clear hx e0 e1;have HV:Hid (∀V:World,V=(wr.alloc (.cells #[jI kU x.1.1,jI kU x.2.1] 445)).alloc (.cells #[jI kU (Go.bits .or .u16 x.1.1 m.1),jI kU (Go.bits .or .u16 x.2.1 o.1)] 445)->JoS A W w5 V mb a c l/\∀U:World,U.heap[wr.heap.size+1]? =V.heap[wr.heap.size+1]?->U.cell? ⟨wr.heap.size+1,0,none⟩=some (jI kU (Go.bits .or .u16 x.1.1 m.1))/\U.cell? ⟨wr.heap.size+1,1,none⟩=some (jI kU (Go.bits .or .u16 x.2.1 o.1))):=rA fun V e=>by
       subst e;refine⟨HJ.out.gr ((Gr.alloc wr (.cells #[jI kU x.1.1,jI kU x.2.1] 445)).trans (Gr.alloc (wr.alloc (.cells #[jI kU x.1.1,jI kU x.2.1] 445)) _)),fun U hU=>?_⟩;have b1:=hU.trans (xH (by simp) _);exact⟨by simp[rG,b1],by simp[rG,b1]⟩
      have f0:=zI wr #[jI kU x.1.1,jI kU x.2.1] 445 0;have f1:=zI wr #[jI kU x.1.1,jI kU x.2.1] 445 1;simp only[rO,r5,rZ] at f0 f1;go_upto_region 21 with fail;obtain⟨hjv,hcv⟩:=HV.out _ rfl;have HJV:=rA hjv;have HCV:=rA hcv;obtain⟨g0,g1⟩:=hcv _ rfl;obtain⟨q,hq,hlk⟩:=hjv.look (orU x.1 m,orU x.2 o);have HQ:=rA hq;have HMB:Hid (wr.heap.size+1≠mb):=rA (by have:=HJ.out.mbw;have:=HJ.out.sub.size;omega);clear c0 c1 f0 f1 HV hjv hcv hq HJ;simp only[orU] at hlk;generalize (wr.alloc _).alloc _=w6 at*;generalize wr.heap.size+1=B1 at*;cases q with
      |true=>
       go_wp2_with fail;go_roundw
       case rel=>exact⟨i3+1,a,c,l,by omega,by go_num,rfl,HJV⟩
       case measure=>simp[intOf];omega
      |false=>
       go_upto_region 22 with fail;clear hlk;go_wp2_with (first|(refine zFH HJV.out.seen zOe zKR Tryz.underlying449 (orU x.1 m,orU x.2 o) rfl (.tmp 81) (.tmp 82) (.const (jB true)) rfl rfl rfl rfl ?_));intro w7 hs7 ht7;obtain⟨a',c',W2,hrun,hJ2⟩:=HJV.out.push (x:=(orU x.1 m,orU x.2 o)) (fun h=>by have:=HQ.out.2 h;cases this) hs7 ht7;obtain⟨k0,k1⟩:=HCV.out w7 (zT ht7 HMB.out);have HRUN:=rA hrun;have HNX:=rA hJ2;clear hrun hJ2 hs7 ht7 g0 g1;go_wp2_with (first|(refine wpList_append_run rfl (.tmp 83) (.tmp 85) 440 440 rfl _ _ rfl rfl _ _ HRUN.out ?_));go_roundw
       case rel=>exact⟨i3+1,a',c',l++[(orU x.1 m,orU x.2 o)],by omega,by go_num,by simp,HNX⟩
       case measure=>simp[intOf];omega
def pD (bs:List Bool):Array Value:=(bs.map fun b=>Value.bool b).toArray
theorem zCj (bs:List Bool):(pD bs).size=bs.length:=by simp[pD]
theorem zNg (bs:List Bool):(pD bs).all (·.oneCell')=true:=by
 rw[Array.all_eq_true];intro i hi;simp[pD,Value.oneCell']
theorem zF1 (hg:o.guard=none) (p:Operand) (hop:o.op=Op.load 422 p) (bs:List Bool) (n:Nat)
  (hp:a.eval p=jP (some ⟨n,0,none⟩)) (h:w.heap[n]? =some (.cells (pD bs) 422 (0,0))) (hb:bs.length=16)
  (hK:wpList rB ops Q rest (a.put o.dst (jG (pD bs))) w):wpList rB ops Q (o::rest) a w:=by
 have hrun:(Instr.loadAt 422 (jP (some ⟨n,0,none⟩))).run rB w=.ok (jG (pD bs)) w:=by
  simp only[Instr.loadAt,rP,rI,rH,rF];exact run_loadVar_row w n 422 422 (pD bs) (0,0) _ h Tryz.underlying422 rfl (by rw[zCj,hb];exact zC6)
 refine wpList_plain hg fun K' hK'=>?_
 unfold Oper.wp;simp only[execOp,hop,hp,rI,rH,hrun,rF];exact hK' _ _ hK
theorem zFS (hg:o.guard=none) (p q:Operand) (hop:o.op=Op.store 422 p q) (xs:Array Value) (bs:List Bool) (n:Nat)
  (hp:a.eval p=jP (some ⟨n,0,none⟩)) (hn:w.heap[n]? =some (.cells xs 422 (0,0))) (hq:a.eval q=jG (pD bs)) (hxs:xs.size=16) (hb:bs.length=16)
  (hK:wpList rB ops Q rest (a.put o.dst undef) (w.setRow n (pD bs))):wpList rB ops Q (o::rest) a w:=by
 have hrun:(rY 422 (jP (some ⟨n,0,none⟩)) (jG (pD bs))).run rB w=.ok () (w.setRow n (pD bs)):=by
  simp only[rY,rP,rI,rH,rF];exact run_storeVar_row w n 422 422 xs (pD bs) hn (by rw[zCj,hb];exact zC6) (by rw[zCj,hb,hxs]) (zNg bs)
 refine wpList_plain hg fun K' hK'=>?_
 unfold Oper.wp;simp only[execOp,hop,hp,hq,rI,rH,hrun,rF];exact hK' _ _ hK
theorem zRH (hp:tmps.getD 2 undef=jP (some ⟨g,0,none⟩)) (h:W.heap[g]? =some (.cells (pD bs) 422 (0,0))) (hb:bs.length=16):
  (results Tryz.f371 tmps).run rB W=.ok (jG (pD bs)) W:=by
 rw[zBL (p:=2) (ty:=422) rfl,hp];simp only[asAddr,rH,Result.andThen_ok];exact run_loadVar_row W g 422 422 (pD bs) (0,0) _ h Tryz.underlying422 rfl (by rw[zCj,hb];exact zC6)
def SoR (w:World) (e:Ending) (w':World):Prop:=∃bs:List Bool,bs.length=16/\e=jR (jG (pD bs))/\Gr w w'
structure SoS (W wr:World):Prop where
 gr:Gr W wr
 b2:wr.heap[W.heap.size]? =some (.cells (pD (rT 16 false)) 422 (0,0))
 b3:∃bs:List Bool,bs.length=16/\wr.heap[W.heap.size+1]? =some (.cells (pD bs) 422 (0,0))
theorem SoS.at' (h:SoS W wr) (hk:k<16):∃u,wr.cell? ⟨W.heap.size+1,k,none⟩=some u/\wr.frozen? ⟨W.heap.size+1,k,none⟩=false:=by
 obtain⟨bs,hb,h3⟩:=h.b3;refine⟨jB (bs[k]'(by omega)),?_,by simp[rAc,h3]⟩;simp[rG,h3,pD,hb,hk]
theorem SoS.put (h:SoS W wr) (k:Nat) (b:Bool):SoS W (wr.setCell ⟨W.heap.size+1,k,none⟩ (jB b)):=by
 obtain⟨bs,hb,h3⟩:=h.b3;refine⟨Gr.setCell h.gr (by show W.heap.size<=W.heap.size+1;omega) _,?_,bs.set k b,by simpa using hb,?_⟩
 ·rw[heap_setCell_other _ _ _ _ (by simp)];exact h.b2
 ·rw[rX _ _ k _ 422 _ h3]
  simp[pD,List.map_set]
theorem zEW (x:Int) (W:World):Calls rB 371 #[jI kU x] W (SoR W):=by
 have H0:Hid (∀V:World,V=(W.alloc (.cells (pD (rT 16 false)) 422)).alloc (.cells (pD (rT 16 false)) 422)->SoS W V):=rA fun V e=>by
  subst e;exact⟨(Gr.alloc _ _).trans (Gr.alloc _ _),(rQ _ _ (by simp)).trans (rR W _),rT 16 false,rfl,xH (by simp) _⟩
 simp only[pD,rT,List.map] at H0;go_enter Tryz.func371,Tryz.ntmps371;go_upto_region 2 with fail;have HS:=rA (H0.out _ rfl);clear H0;generalize (W.alloc _).alloc _=w1 at*;go_wp2_with fail;go_loopw [5] (fun i wr=>∃k:Nat,k<=16/\i=jI kQ k/\Hid (SoS W wr)) (fun i _=>16 - (intOf i).toNat)
 case atStart=>exact⟨0,by omega,rfl,HS⟩
 case round=>
  clear HS;obtain⟨k,hk,rfl,HS⟩:=hrel;by_cases hlt:k<16;rotate_left
  ·have hd:decide ((k:Int)<16)=false:=by rw[decide_eq_false_iff_not];omega
   have hd':decide (k<16)=false:=by simpa using hlt
   obtain⟨bs,hb,h3⟩:=HS.out.b3;have H3:=rA h3;have HB:=rA hb;have H2:=rA HS.out.b2;have HE:Hid ((wr.setRow W.heap.size (pD bs)).heap[W.heap.size]? =some (.cells (pD bs) 422 (0,0))/\Gr W (wr.setRow W.heap.size (pD bs))):=rA ⟨setRow_heap wr W.heap.size _ _ 422 _ HS.out.b2,⟨⟨HS.out.gr.1.os,HS.out.gr.1.tape,HS.out.gr.1.output,by have:=HS.out.gr.1.size;simpa[World.setRow] using this,fun k hk=>(setRow_other wr W.heap.size k _ (by omega)).trans (HS.out.gr.1.block k hk)⟩,HS.out.gr.2⟩⟩;clear hb h3;go_wp2_with (first|(refine zF1 rfl (.tmp 3) rfl bs (W.heap.size+1) rfl H3.out HB.out ?_)|(refine zFS rfl (.tmp 2) (.tmp 16) rfl _ bs W.heap.size rfl H2.out rfl rfl HB.out ?_));exact bodyPost_ret (zRH rfl HE.out.1 HB.out) rfl ⟨bs,HB.out,rfl,HE.out.2⟩
  have hd:decide ((k:Int)<16)=true:=by rw[decide_eq_true_iff];omega
  have hd':decide (k<16)=true:=by simpa using hlt
  have hkl:(k:Int)<16:=by omega
  have hk0:(0:Int)<=(k:Int):=Int.natCast_nonneg _;obtain⟨u,c0,c1⟩:=HS.out.at' hlt;have HP:=rA (HS.out.put k);clear HS;go_wp2_with fail;go_roundw
  case rel=>exact⟨k+1,by omega,by go_num,rA (HP.out _)⟩
  case measure=>simp[intOf];omega
def stL (m g t:Int) (bs:List Bool):List Value:=jI kQ m::jI kQ g::(bs.map (fun b=>Value.bool b)++[jI kQ t])
def stC (m g t:Int) (bs:List Bool):Array Value:=(stL m g t bs).toArray
theorem qB {m g t:Int} (h:bs.length=16):(stC m g t bs).size=19:=by simp[stC,stL,h]
theorem zAJ (m g t:Int) (bs:List Bool):(stC m g t bs).all (·.oneCell')=true:=by
 rw[Array.all_eq_true];intro i hi;have hm:(stC m g t bs)[i]∈stL m g t bs:=by
  have:=Array.getElem_mem hi
  simpa[stC] using this
 simp only[stL,rAb,List.mem_append,List.mem_map,List.not_mem_nil,or_false] at hm;rcases hm with h|h|⟨b, -,h⟩|h
 ·rw[h];rfl
 ·rw[h];rfl
 ·rw[<-h];rfl
 ·rw[h];rfl
theorem zCd: (Tryz.prog.info? 424).map (·.size)=some 19:=by kernel_rfl
theorem qG (hg:o.guard=none) (p:Operand) (hop:o.op=Op.load 424 p) (ys:Array Value) (n:Nat)
  (hp:a.eval p=jP (some ⟨n,0,none⟩)) (h:w.heap[n]? =some (.cells ys 424 (0,0))) (hys:ys.size=19)
  (hK:wpList rB ops Q rest (a.put o.dst (jG ys)) w):wpList rB ops Q (o::rest) a w:=by
 have hrun:(Instr.loadAt 424 (jP (some ⟨n,0,none⟩))).run rB w=.ok (jG ys) w:=by
  simp only[Instr.loadAt,rP,rI,rH,rF];exact run_loadVar_row w n 424 424 ys (0,0) _ h Tryz.underlying424 rfl (by rw[hys];exact zCd)
 refine wpList_plain hg fun K' hK'=>?_
 unfold Oper.wp;simp only[execOp,hop,hp,rI,rH,hrun,rF];exact hK' _ _ hK
theorem xF (hg:o.guard=none) (p q:Operand) (hop:o.op=Op.store 424 p q) (xs ys:Array Value) (n:Nat)
  (hp:a.eval p=jP (some ⟨n,0,none⟩)) (hn:w.heap[n]? =some (.cells xs 424 (0,0))) (hq:a.eval q=jG ys) (h1:ys.all (·.oneCell')=true) (hxs:xs.size=19) (hys:ys.size=19)
  (hK:wpList rB ops Q rest (a.put o.dst undef) (w.setRow n ys)):wpList rB ops Q (o::rest) a w:=by
 have hrun:(rY 424 (jP (some ⟨n,0,none⟩)) (jG ys)).run rB w=.ok () (w.setRow n ys):=by
  simp only[rY,rP,rI,rH,rF];exact run_storeVar_row w n 424 424 xs ys hn (by rw[hys];exact zCd) (by rw[hxs,hys]) h1
 refine wpList_plain hg fun K' hK'=>?_
 unfold Oper.wp;simp only[execOp,hop,hp,hq,rI,rH,hrun,rF];exact hK' _ _ hK
theorem zIN {u:Value} (hp:tmps.getD 4 undef=jP (some ⟨g,0,none⟩)) (hu:tmps.getD 5 undef=u) (h:W.heap[g]? =some (.cells ys 424 (0,0))) (hys:ys.size=19):
  (results Tryz.f368 tmps).run rB W=.ok (jU #[jG ys,u]) W:=by
 rw[results_cell_tmp rfl,hp,hu];have:=run_loadVar_row (P:=rB) W g 424 424 ys (0,0) _ h Tryz.underlying424 rfl (by rw[hys];exact zCd);simp[asAddr,rH,rF,this]
theorem zDS (h:bs.length=16):∃b0 b1 b2 b3 b4 b5 b6 b7 b8 b9 b10 b11 b12 b13 b14 b15,bs=[b0,b1,b2,b3,b4,b5,b6,b7,b8,b9,b10,b11,b12,b13,b14,b15]:=by
 match bs,h with
 |[b0,b1,b2,b3,b4,b5,b6,b7,b8,b9,b10,b11,b12,b13,b14,b15],_=>exact⟨b0,b1,b2,b3,b4,b5,b6,b7,b8,b9,b10,b11,b12,b13,b14,b15,rfl⟩
theorem kstate (m g t:Int) (h:bs.length=16):KState (jG (stC m g t bs)):=by
 obtain⟨b0,b1,b2,b3,b4,b5,b6,b7,b8,b9,b10,b11,b12,b13,b14,b15,rfl⟩:=zDS h;exact⟨stL m g t [b0,b1,b2,b3,b4,b5,b6,b7,b8,b9,b10,b11,b12,b13,b14,b15],rfl,⟨_,rfl⟩,⟨_,rfl⟩,⟨_,rfl⟩,⟨_,rfl⟩,⟨_,rfl⟩,⟨_,rfl⟩,⟨_,rfl⟩,⟨_,rfl⟩,⟨_,rfl⟩,⟨_,rfl⟩,⟨_,rfl⟩,⟨_,rfl⟩,⟨_,rfl⟩,⟨_,rfl⟩,⟨_,rfl⟩,⟨_,rfl⟩,⟨_,rfl⟩,⟨_,rfl⟩,⟨_,rfl⟩,trivial⟩
theorem zRS (hok:zBs A) (hv:AdS A W) (mem:Int) (K:Nat) (h:bs.length=16) (hK:K<=100000000) (hE:∀i,bs[i]? =some true->i<A.E.length):Calls rB 383 #[jP (some ⟨A.ab,0,none⟩),jG (Value.int .i64 mem::Value.int .i64 K::bs.map (fun b=>Value.bool b)).toArray] W (JtR A W):=by
 obtain⟨b0,b1,b2,b3,b4,b5,b6,b7,b8,b9,b10,b11,b12,b13,b14,b15,rfl⟩:=zDS h;exact zOG hok hv mem K b0 b1 b2 b3 b4 b5 b6 b7 b8 b9 b10 b11 b12 b13 b14 b15 hK hE
theorem Nums.at' {a:Option Addr} (h:Nums w (jS a L.length c) L) (hk:k<L.length):∃b o,a=some ⟨b,o,none⟩/\w.cell? ⟨b,o+k,none⟩=some (jI kQ (L.getD k 0)):=by
 obtain⟨a',c',e,hn⟩:=h;obtain⟨b,o,e',hb,hc⟩:=hn (by intro h;rw[h] at hk;simp at hk);simp only[Value.slice.injEq] at e;exact⟨b,o,e.1.trans e',hc k hk⟩
theorem zKt {a1 a2:Option Addr}{c1 c2:Nat}{M:List Int} (h1:Nums w (jS a1 L.length c1) L) (h2:Nums w (jS a2 M.length c2) M) (hL:L.length<=9223372036854775807) (hM:M.length<=9223372036854775807):Calls rB 129 #[jS a1 L.length c1,jS a2 M.length c2] w (zB9 w):=by
 have H1:=rA h1;have H2:=rA h2;have HC:=rA (fun x y V=>Tryz.cmp_Compare_int x y V);clear h1 h2;go_enter Tryz.func129,Tryz.ntmps129;go_wp2_with fail;go_loopw [11] (fun i wr=>∃k:Nat,k<=L.length/\i=jI kQ k/\Hid (Gr w wr)) (fun i _=>L.length - (intOf i).toNat)
 case atStart=>exact⟨0,rW _,rfl,rA (Gr.refl _)⟩
 case round=>
  obtain⟨k,hk,rfl,HG⟩:=hrel;by_cases hlt:k<L.length;rotate_left
  ·have hd:=dF hlt
   by_cases hlm:L.length<M.length
   ·have hdm:=dT hlm
    go_wp2_with fail;all_goals go_ret
    all_goals exact⟨_,rfl,HG.out⟩
   ·have hdm:=dF hlm
    go_wp2_with fail;all_goals go_ret
    all_goals exact⟨_,rfl,HG.out⟩
  have hd:=dT hlt
  have hkl:(k:Int)<(L.length:Int):=by omega
  obtain⟨b,o,rfl,c0⟩:=(H1.out.keep HG.out.1).at' hlt;generalize L.getD k 0=x at*;by_cases hlm:M.length<=k
  ·have hdm:=dT hlm
   go_wp2_with fail;all_goals go_ret
   all_goals exact⟨_,rfl,HG.out⟩
  have hdm:=dF hlm
  have hkm:(k:Int)<(M.length:Int):=by omega
  obtain⟨b',o',rfl,d0⟩:=(H2.out.keep HG.out.1).at' (show k<M.length by omega);generalize M.getD k 0=y at*;have HQ:=rA (HC.out x y wr);go_wp2_with fail;refine HQ.out.mono ?_;rintro e w5 ⟨rfl,rfl⟩;by_cases hv:rD x y=0
  ·have hdv:(rD x y==(0:Int))=true:=by simp[hv]
   have hdv':(rD x y !=(0:Int))=false:=by simp[hv]
   go_wp2_with fail;go_roundw
   case rel=>exact⟨k+1,by omega,by go_num,HG⟩
   case measure=>simp[intOf];omega
  ·have hdv:(rD x y==(0:Int))=false:=by simp[hv]
   have hdv':(rD x y !=(0:Int))=true:=by simp[hv]
   go_wp2_with fail;all_goals go_ret
   all_goals exact⟨_,rfl,HG.out⟩
