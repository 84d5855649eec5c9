/- The ranks of a claim are right. -/
import Derived.Test.YtmabhhngoklncaaGreatDoorXE
set_option maxRecDepth 100000
set_option maxHeartbeats 40000000
set_option linter.all false
open Go.Lib renaming hid->rA
open Go.World renaming cell?->rB,frozen?->rO,cell?_of_block->rR
open Go renaming heap_alloc_new->rC,wp_region_held_drew->rD,wpAnyH_done->rH,heap_alloc_old->rM,heap_setCell_same->rN
open List renaming getElem?_cons_zero->rE,getElem?_cons_succ->rF,getElem?_toArray->rG,replicate->rL,cons_append->rS,nil_append->rT
open Go.Proofs.Tryz renaming prog->rI
open Int renaming natCast_nonneg->rJ
open Nat renaming lt_of_lt_of_le->rK,zero_le->rP,le_refl->rQ
open Go.Value renaming int->jI,slice->jS,pointer->jP,bool->jB,agg->jG,tuple->jU
open Go.IntKind renaming i64->kQ
open Go.Ending renaming returned->jR
open Go Go.RowKit Go.Sort
namespace Go.Proofs.YtmabhhngoklncaaGreatDoor
theorem Fr.keepc {A:Ad} {W0 V:World} (hv:AdS A W0) (hF:Fr (msA A) W0.heap.size W0 V) {b j:Nat} {v:Value} (h:W0.cell? ⟨b,j,none⟩=some v):V.cell? ⟨b,j,none⟩=some v:=by
 have hb:b<W0.heap.size:=by
  unfold rB at h;cases hk:W0.heap[b]? with
  |none=>rw[hk] at h;simp at h
  |some o=>exact(Array.getElem?_eq_some_iff.1 hk).1
 exact(hF.cell (a:=⟨b,j,none⟩) hb (hv.notc h)).trans h
theorem Nums.fr {A:Ad} {W0 V:World} (hv:AdS A W0) (hF:Fr (msA A) W0.heap.size W0 V) {v:Value} {S:List Int} (h:Nums W0 v S):Nums V v S:=by
 obtain⟨a,c,e,h⟩:=h;refine⟨a,c,e,fun h0=>?_⟩;obtain⟨b,off,e',hb,hc⟩:=h h0;exact⟨b,off,e',rK hb hF.size,fun j hj=>Fr.keepc hv hF (hc j hj)⟩
theorem SpV.fr {A:Ad} {W0 V:World} (hv:AdS A W0) (hF:Fr (msA A) W0.heap.size W0 V) {v:Value} {l:List Sp} (h:SpV W0 v l):SpV V v l:=by
 obtain⟨a,c,e,hl,h⟩:=h;refine⟨a,c,e,hl,fun h0=>?_⟩;obtain⟨b,off,e',hb,hc⟩:=h h0;refine⟨b,off,e',rK hb hF.size,fun j hj=>?_⟩;obtain⟨d0,d1,⟨u,d2,d2',d2''⟩,d3,d4⟩:=hc j hj;exact⟨Fr.keepc hv hF d0,Fr.keepc hv hF d1,⟨u,Fr.keepc hv hF d2,d2'.fr hv hF,d2''⟩,Fr.keepc hv hF d3,Fr.keepc hv hF d4⟩
theorem SpV.at' {V:World} {sa:Option Addr} {sc:Nat} {L:List Sp} (h:SpV V (jS sa L.length sc) L) {k:Nat} (hk:k<L.length):∃(b off:Nat) (a1:Option Addr) (c1:Nat) (m g t r:Int) (S:List Int),sa=some ⟨b,off,none⟩/\L[k]=⟨m,g,S,t,r⟩/\V.cell? ⟨b,off+k*5,none⟩=some (jI kQ m)/\V.cell? ⟨b,off+k*5+1,none⟩=some (jI kQ g)/\V.cell? ⟨b,off+k*5+2,none⟩=some (jS a1 S.length c1)/\V.cell? ⟨b,off+k*5+3,none⟩=some (jI kQ t)/\V.cell? ⟨b,off+k*5+4,none⟩=some (jI kQ r)/\Nums V (jS a1 S.length c1) S/\S.length<=9223372036854775807:=by
 obtain⟨a,c,e,hl,h⟩:=h;simp only[Value.slice.injEq] at e;obtain⟨b,off,e',hb,hc⟩:=h (by intro h0;rw[h0] at hk;simp at hk);obtain⟨d0,d1,⟨u,d2,d2',d2''⟩,d3,d4⟩:=hc k hk;generalize L[k]=s at*;obtain⟨m,g,S,t,r⟩:=s;obtain⟨a1,c1,rfl,hn⟩:=d2';exact⟨b,off,a1,c1,m,g,t,r,S,e.1.trans e',rfl,d0,d1,d2,d3,d4,⟨a1,c1,rfl,hn⟩,d2''⟩
theorem zCJ {o:Oper} {a:Act} {w:World} {K:Act->World->Prop} {Q:Exit->Act->World->Prop} {p q:Operand} {xs ys:Array Value} {n:Nat} (hop:o.op=Op.store 424 p q)
  (hp:a.eval p=jP (some ⟨n,0,none⟩)) (hn:w.heap[n]? =some (.cells xs 424 (0,0))) (hq:a.eval q=jG ys) (h1:ys.all (·.oneCell')=true) (hxs:xs.size=19) (hys:ys.size=19) (hK:K (a.put o.dst undef) (w.setRow n ys)):Oper.wp rI o a w K Q:=by
 have hrun:(Instr.storeAt 424 (jP (some ⟨n,0,none⟩)) (jG ys)).run rI w=.ok () (w.setRow n ys):=by
  simp only[Instr.storeAt,Instr.sureAddr,Sem.run_bind,Sem.run_pure,Result.andThen];exact run_storeVar_row w n 424 424 xs ys hn (by rw[hys];exact zCd) (by rw[hxs,hys]) h1
 unfold Oper.wp;simp only[execOp,hop,hp,hq,Sem.run_bind,Sem.run_pure,hrun,Result.andThen];exact hK
theorem zPP (w:World) (ys:Array Value):∀V:World,V=(w.alloc (.cells QA.q 424)).setRow w.heap.size ys->Gr w V/\V.heap[w.heap.size]? =some (.cells ys 424 (0,0)):=fun V e=>by
 rw[World.setRow_alloc_new] at e;subst e;exact⟨Gr.alloc _ _,rC _ _⟩
theorem zEn {w W:World} {n:Nat} {xs ys:Array Value} (hg:Gr w W) (hb:W.heap[n]? =some (.cells xs 424 (0,0))) (hn:w.heap.size<=n):Gr w (W.setRow n ys)/\(W.setRow n ys).heap[n]? =some (.cells ys 424 (0,0)):=
 ⟨⟨⟨hg.1.os,hg.1.tape,hg.1.output,by have:=hg.1.size;simpa[World.setRow] using this,fun k hk=>(setRow_other _ n k _ (by omega)).trans (hg.1.block k hk)⟩,hg.2⟩,setRow_heap _ _ _ _ 424 _ hb⟩
structure RpS (A:Ad) (W0 wr:World) (pb:Nat) (n st:Int) (fv:Value) (rb:Nat):Prop where
 gr:Gr W0 wr
 pr:PrV A wr pb n st fv rb
 mp:AMap wr rb KState KInt
section
variable {A:Ad} {W0 wr w':World} {pb rb:Nat} {n st:Int} {fv:Value}
theorem RpS.later (h:RpS A W0 wr pb n st fv rb) (hg:Gr wr w'):RpS A W0 w' pb n st fv rb:=
 ⟨h.gr.trans hg,(hg.1.block _ (Array.getElem?_eq_some_iff.1 h.pr).1).trans h.pr,h.mp.of_block (hg.1.block _ h.mp.lt)⟩
theorem RpS.turned (h:RpS A W0 wr pb n st fv rb) (hm:AMap w' rb KState KInt) (ht:wr.mapTurned w' rb) (hr:W0.heap.size<=rb):RpS A W0 w' pb n st fv rb:=by
 refine⟨h.gr.turned ht hr,(zT ht fun e=>?_).trans h.pr,hm⟩;obtain⟨es,c,h1, -⟩:=h.mp;rw[<-e,h.pr] at h1;cases h1
theorem RpS.pcells (h:PrV A wr pb n st fv rb):wr.cell? ⟨pb,0,none⟩=some (jP (some ⟨A.ab,0,none⟩))/\wr.cell? ⟨pb,2,none⟩=some (jI kQ st)/\wr.cell? ⟨pb,4,none⟩=some (.map (some rb)):=by
 unfold PrV at h;exact⟨by simp[rB,h],by simp[rB,h],by simp[rB,h]⟩
structure RqS (A:Ad) (W0 wr:World) (pb:Nat) (n st:Int) (fv:Value) (rb:Nat):Prop where
 fr:Fr (msA A) W0.heap.size W0 wr
 ad:AdS A wr
 pr:PrV A wr pb n st fv rb
 mp:AMap wr rb KState KInt
theorem RqS.later (h:RqS A W0 wr pb n st fv rb) (hg:Gr wr w'):RqS A W0 w' pb n st fv rb:=
 ⟨h.fr.next (Fr.of_gr hg),h.ad.gr hg,(hg.1.block _ (Array.getElem?_eq_some_iff.1 h.pr).1).trans h.pr,h.mp.of_block (hg.1.block _ h.mp.lt)⟩
theorem RqS.fa (h:RqS A W0 wr pb n st fv rb) (ha:AdS A w') (hf:Fr (msA A) wr.heap.size wr w') (hr:msA A rb=false):RqS A W0 w' pb n st fv rb:=
 ⟨h.fr.next hf,ha,(hf.block _ (Array.getElem?_eq_some_iff.1 h.pr).1 (h.ad.notm h.pr)).trans h.pr,h.mp.of_block (hf.block _ h.mp.lt hr)⟩
end
theorem zPj {n:Int} {A:Ad} {m g:Int} {S:List Int} {t r:Int} (hu:A.un.length<=1000000000) (h:zEj n A m g S t r=true):0<=m/\m<n/\0<=t/\t<=1000000000:=by
 simp only[zEj,Bool.and_eq_true,Bool.not_eq_true',Bool.or_eq_false_iff,decide_eq_false_iff_not] at h;omega
def RiR (A:Ad) (W0:World) (e:Ending) (w':World):Prop:=∃b:Bool,e=jR (jB b)/\Fr (msA A) W0.heap.size W0 w'
theorem zKK {A:Ad} (hok:zBs A) {W0 W:World} (hv:AdS A W0) (hg:Gr W0 W) {pb:Nat} {F:FuncId} {n st:Int} {p1 p2 p3 x4:Value} (hpb:W0.heap.size<=pb) (hp:W.heap[pb]? =some (.cells #[jP (some ⟨A.ab,0,none⟩),jI kQ n,jI kQ st,.func (.func F) #[] #[p1,p2,p3],x4] 416 (0,0))) {sa:Option Addr} {sc:Nat} {L:List Sp} (hsp:SpV W0 (jS sa L.length sc) L) (hS:zFa (msA A) W0 F p1 p2 p3 n):
  Calls rI 362 #[jP (some ⟨pb,0,none⟩),jS sa L.length sc] W (RiR A W0):=by
 have hLl:L.length<=9223372036854775807:=by obtain⟨_,_,_,h,_⟩:=hsp;exact h
 have HU:Hid (A.un.length<=1000000000):=rA (by have:=hok.unl;omega);have HAD:=rA hv;have HSP:Hid (∀V,Fr (msA A) W0.heap.size W0 V->SpV V (jS sa L.length sc) L):=rA fun V hf=>hsp.fr hv hf
 have H368:Hid (∀V (a1:Option Addr) (c1:Nat) (m g t r:Int) (S:List Int) (rb:Nat),AdV A V->PrV A V pb n st (.func (.func F) #[] #[p1,p2,p3]) rb->Nums V (jS a1 S.length c1) S->S.length<=9223372036854775807->Calls rI 368 #[jP (some ⟨pb,0,none⟩),jG #[jI kQ m,jI kQ g,jS a1 S.length c1,jI kQ t,jI kQ r]] V (StR A n m g S t r V)):=rA fun V a1 c1 m g t r S rb h1 h2 h3 h4=>zOo hok h1 h2 m g t r h3 h4
 have H370:Hid (∀V,AdV A V->Calls rI 370 #[jP (some ⟨A.ab,0,none⟩)] V (zB9 V)):=rA fun V h=>zPJ hok h
 have H372:Hid (∀V (rb:Nat) (m g:Int) (t:Nat) (bs:List Bool),RqS A W0 V pb n st (.func (.func F) #[] #[p1,p2,p3]) rb->msA A rb=false->0<=m->m<n->t<=1000000000->bs.length=16->(∀i,bs[i]? =some true->i<A.E.length)->Calls rI 372 #[jP (some ⟨pb,0,none⟩),jG (stC m g t bs)] V (FaR A V)):=rA fun V rb m g t bs h1 h2 h3 h4 h5 h6 h7=>zNv hok h1.ad h1.pr h1.mp h2 ⟨hS.1,fun U hf q hq0 hqn=>hS.2 U (h1.fr.next hf) q hq0 hqn⟩ m g t h3 h4 h5 h6 h7
 have HW1:Hid (∀V:World,V=(W.alloc (.map #[] 0)).setCell ⟨pb,4,none⟩ (.map (some W.heap.size))->RpS A W0 V pb n st (.func (.func F) #[] #[p1,p2,p3]) W.heap.size/\W0.heap.size<=W.heap.size/\msA A W.heap.size=false):=rA fun V e=>by
  subst e;have hlt:=(Array.getElem?_eq_some_iff.1 hp).1;have hpa:=(rM W (.map #[] 0) hlt).trans hp;have hs:=hg.1.size;refine⟨⟨Gr.setCell (hg.trans (Gr.alloc _ _)) hpb _,?_,?_⟩,hs,zCn.2 ⟨?_,?_,?_⟩⟩
  ·unfold PrV
   rw[rN _ _ 4 _ 416 _ hpa];simp
  ·refine(AMap.made W KState KInt).of_block (heap_setCell_other _ _ _ _ (by show W.heap.size≠pb;omega))
  ·have:=hv.a1.lt;omega
  ·have:=hv.a2.lt;omega
  ·have:=hv.a3.lt;omega
 have p4:∀o:Obj,(W.alloc o).cell? ⟨pb,4,none⟩=some x4/\(W.alloc o).frozen? ⟨pb,4,none⟩=false:=fun o=>by
  have hlt:=(Array.getElem?_eq_some_iff.1 hp).1;have hpa:=(rM W o hlt).trans hp;exact⟨by simp[rB,hpa],by simp[rO,hpa]⟩
 obtain⟨p40,p4f⟩:=p4 (.map #[] 0);have hmk:=xK 414;clear hok hv hg hpb hp hsp hS p4;go_enter Tryz.func362,Tryz.ntmps362;go_upto_region 2 with fail;obtain⟨hr1,hrb,hmr⟩:=HW1.out _ rfl;have HR1:=rA hr1;have HRB:=rA hrb;have HMR:=rA hmr;clear HW1 hr1 hrb hmr hmk p40 p4f;generalize hrr:W.heap.size=rb at*;clear hrr;generalize (W.alloc _).setCell _ _=w1 at*;go_wp2_with fail;go_loopw [22] (fun i wr=>∃k:Nat,k<=L.length/\i=jI kQ k/\Hid (RpS A W0 wr pb n st (.func (.func F) #[] #[p1,p2,p3]) rb/\∀j (hj:j<L.length),j<k->zEj n A L[j].mach L[j].mem L[j].set L[j].turn L[j].rank=true)) (fun i _=>L.length - (intOf i).toNat)
 case atStart=>exact⟨0,rP _,rfl,rA ⟨HR1.out,fun j _ h=>by omega⟩⟩
 case round=>
  clear HR1;obtain⟨k,hk,rfl,HR⟩:=hrel;by_cases hlt:k<L.length;rotate_left
  ·have hd:=dF hlt
   have HOKS:Hid (∀j (hj:j<L.length),zEj n A L[j].mach L[j].mem L[j].set L[j].turn L[j].rank=true):=rA fun j hj=>HR.out.2 j hj (by omega)
   have HR0:=rA HR.out.1;clear HR hlt hk;go_upto_region 10 with fail;have HS:Hid (∀V,Gr wr V->V.cell? ⟨pb,0,none⟩=some (jP (some ⟨A.ab,0,none⟩))/\V.cell? ⟨pb,2,none⟩=some (jI kQ st)):=rA fun V hg=>by
    obtain⟨h0,h2, -⟩:=RpS.pcells (HR0.out.later hg).pr;exact⟨h0,h2⟩
   go_cut [9] from 57 to 67 (fun u wx=>∃(D:Nat) (d:Int) (cs:List Bool),cs.length=16/\u=jP (some ⟨D,0,none⟩)/\Gr wr wx/\wx.heap[D]? =some (.cells (stC st d 0 cs) 424 (0,0)))
   case first=>
    refine rD (S:=fun V=>V.cell? ⟨pb,0,none⟩=some (jP (some ⟨A.ab,0,none⟩))/\V.cell? ⟨pb,2,none⟩=some (jI kQ st)) (by kernel_rfl) (HS.out _ (Gr.drawn wr 1)) (fun hS=>?_);refine tKa 0 (jP (some ⟨pb,0,none⟩)) ?_;refine tKa 1 (jP (some ⟨pb,0,none⟩)) ?_;refine tKa 2 (jP (some ⟨pb,2,none⟩)) ?_;refine tKa 3 (jI kQ st) ?_;refine tKa 4 (jP (some ⟨pb,0,none⟩)) ?_;refine tKa 5 (jP (some ⟨pb,0,none⟩)) ?_;refine tKa 6 (jP (some ⟨pb,0,none⟩)) ?_;refine tKa 7 (jP (some ⟨A.ab,0,none⟩)) ?_;refine wpAnyH_ready (rs:=[8,11]) (by kernel_rfl) (by simp) ?_;refine AllReadyH.cons (o:= {dst:=some 65,op:=Op.call {callee:=Callee.value (Operand.func 370),args:= #[Operand.tmp 64],argTypes:= #[406]},type:=3,pos:= "product.go:144",after:= #[{on:=7,ground:=Ground.data}],guard:=none}) rfl (fun Kc hKc=>?_) (AllReadyH.cons (o:= {dst:=some 9,op:=Op.alloc 424,type:=0,pos:= "product.go:144",after:= #[],guard:=none}) rfl (fun Kc hKc=>?_) AllReadyH.nil)
    ·skip
     go_simp;refine(H370.out _ (HAD.out.gr (HR0.out.gr.trans (Gr.drawn wr 1))).v).mono ?_;rintro e w3 ⟨d,rfl,hg3⟩;have HG3:=rA ((Gr.drawn wr 1).trans hg3);have HG3a:=rA hg3;clear hg3;refine hKc.out _ _ (HS.out _ HG3.out) (fun hS8=>?_);clear hKc Kc hS;try simp only[sA]
     refine wpAnyH_ready (rs:=[9,11]) (by kernel_rfl) (by simp) ?_;refine AllReadyH.cons (o:= {dst:=some 66,op:=Op.call {callee:=Callee.value (Operand.func 371),args:= #[Operand.const (Value.int IntKind.u16 1)],argTypes:= #[25]},type:=422,pos:= "product.go:144",after:= #[{on:=8,ground:=Ground.chain}],guard:=none}) rfl (fun Kc hKc=>?_) (AllReadyH.cons (o:= {dst:=some 9,op:=Op.alloc 424,type:=0,pos:= "product.go:144",after:= #[],guard:=none}) rfl (fun Kc hKc=>?_) AllReadyH.nil)
     ·skip
      go_simp;refine(zEW _ _).mono ?_;rintro e w4 ⟨cs,hcs,rfl,hg4⟩;obtain⟨c0,c1,c2,c3,c4,c5,c6,c7,c8,c9,c10,c11,c12,c13,c14,c15,rfl⟩:=zDS hcs;simp only[pD,List.map];have HG4:=rA (HG3.out.trans hg4);have HG4a:=rA hg4;clear hg4 hcs;refine hKc.out _ _ (HS.out _ HG4.out) (fun hS9=>?_);clear hKc Kc hS8;try simp only[sA]
      refine tKa 10 (jG #[jI kQ st,jI kQ d,jB c0,jB c1,jB c2,jB c3,jB c4,jB c5,jB c6,jB c7,jB c8,jB c9,jB c10,jB c11,jB c12,jB c13,jB c14,jB c15,jI kQ 0]) ?_;refine tya 11 (fun Kc hKc=>?_);go_simp;refine hKc.out _ _ (HS.out _ (HG4.out.trans (Gr.alloc _ _))) (fun hS11=>?_);clear hKc Kc hS9;try simp only[sA]
      refine tya 12 (fun Kc hKc=>?_);rw[if_pos (by rfl)];have hz:(w4.alloc (.cells QA.q 424)).heap[w4.heap.size]? =some (.cells QA.q 424 (0,0)):=rC w4 (.cells QA.q 424);have HOUT:=rA (zEn (ys:=stC st d 0 [c0,c1,c2,c3,c4,c5,c6,c7,c8,c9,c10,c11,c12,c13,c14,c15]) (HG4.out.trans (Gr.alloc w4 (.cells QA.q 424))) hz HG4.out.1.size);refine zCJ (p:=.tmp 9) (q:=.tmp 67) (n:=w4.heap.size) rfl rfl hz rfl (zAJ st d 0 [c0,c1,c2,c3,c4,c5,c6,c7,c8,c9,c10,c11,c12,c13,c14,c15]) rfl rfl ?_;clear hz;refine hKc.out _ _ (HS.out _ HOUT.out.1) (fun hS12=>?_);clear hKc Kc hS11;try simp only[sA]
      refine rH (by kernel_rfl) ?_ _;clear hS12;go_wp2_with fail;go_meet;exact⟨w4.heap.size,d,[c0,c1,c2,c3,c4,c5,c6,c7,c8,c9,c10,c11,c12,c13,c14,c15],rfl,rfl,HOUT.out.1,HOUT.out.2⟩
     ·go_simp
      refine hKc.out _ _ (HS.out _ (HG3.out.trans (Gr.alloc _ _))) (fun hS11=>?_);clear hKc Kc hS8;try simp only[sA]
      refine tya 9 (fun Kc hKc=>?_);go_simp;refine(zEW _ _).mono ?_;rintro e w4 ⟨cs,hcs,rfl,hg4⟩;obtain⟨c0,c1,c2,c3,c4,c5,c6,c7,c8,c9,c10,c11,c12,c13,c14,c15,rfl⟩:=zDS hcs;simp only[pD,List.map];have HG4:=rA ((HG3.out.trans (Gr.alloc w3 (.cells QA.q 424))).trans hg4);have HG4a:=rA hg4;clear hg4 hcs;refine hKc.out _ _ (HS.out _ HG4.out) (fun hS9=>?_);clear hKc Kc hS11;try simp only[sA]
      refine tKa 10 (jG #[jI kQ st,jI kQ d,jB c0,jB c1,jB c2,jB c3,jB c4,jB c5,jB c6,jB c7,jB c8,jB c9,jB c10,jB c11,jB c12,jB c13,jB c14,jB c15,jI kQ 0]) ?_;refine tya 12 (fun Kc hKc=>?_);rw[if_pos (by rfl)];have hz:w4.heap[w3.heap.size]? =some (.cells QA.q 424 (0,0)):=(HG4a.out.1.block _ (by simp)).trans (rC w3 (.cells QA.q 424));have HOUT:=rA (zEn (ys:=stC st d 0 [c0,c1,c2,c3,c4,c5,c6,c7,c8,c9,c10,c11,c12,c13,c14,c15]) HG4.out hz HG3.out.1.size);refine zCJ (p:=.tmp 9) (q:=.tmp 67) (n:=w3.heap.size) rfl rfl hz rfl (zAJ st d 0 [c0,c1,c2,c3,c4,c5,c6,c7,c8,c9,c10,c11,c12,c13,c14,c15]) rfl rfl ?_;clear hz;refine hKc.out _ _ (HS.out _ HOUT.out.1) (fun hS12=>?_);clear hKc Kc hS9;try simp only[sA]
      refine rH (by kernel_rfl) ?_ _;clear hS12;go_wp2_with fail;go_meet;exact⟨w3.heap.size,d,[c0,c1,c2,c3,c4,c5,c6,c7,c8,c9,c10,c11,c12,c13,c14,c15],rfl,rfl,HOUT.out.1,HOUT.out.2⟩
    ·go_simp
     refine hKc.out _ _ (HS.out _ ((Gr.alloc wr (.cells QA.q 424)).trans (Gr.drawn _ 1))) (fun hS11=>?_);clear hKc Kc hS;try simp only[sA]
     refine tya 8 (fun Kc hKc=>?_);go_simp;refine(H370.out _ (HAD.out.gr (HR0.out.gr.trans ((Gr.alloc wr (.cells QA.q 424)).trans (Gr.drawn _ 1)))).v).mono ?_;rintro e w3 ⟨d,rfl,hg3⟩;have HG3:=rA (((Gr.alloc wr (.cells QA.q 424)).trans (Gr.drawn _ 1)).trans hg3);have HG3a:=rA hg3;clear hg3;refine hKc.out _ _ (HS.out _ HG3.out) (fun hS8=>?_);clear hKc Kc hS11;try simp only[sA]
     refine tya 9 (fun Kc hKc=>?_);go_simp;refine(zEW _ _).mono ?_;rintro e w4 ⟨cs,hcs,rfl,hg4⟩;obtain⟨c0,c1,c2,c3,c4,c5,c6,c7,c8,c9,c10,c11,c12,c13,c14,c15,rfl⟩:=zDS hcs;simp only[pD,List.map];have HG4:=rA (HG3.out.trans hg4);have HG4a:=rA hg4;clear hg4 hcs;refine hKc.out _ _ (HS.out _ HG4.out) (fun hS9=>?_);clear hKc Kc hS8;try simp only[sA]
     refine tKa 10 (jG #[jI kQ st,jI kQ d,jB c0,jB c1,jB c2,jB c3,jB c4,jB c5,jB c6,jB c7,jB c8,jB c9,jB c10,jB c11,jB c12,jB c13,jB c14,jB c15,jI kQ 0]) ?_;refine tya 12 (fun Kc hKc=>?_);rw[if_pos (by rfl)];have hz:w4.heap[wr.heap.size]? =some (.cells QA.q 424 (0,0)):=(HG4a.out.1.block _ (rK (by show wr.heap.size<(wr.alloc (.cells QA.q 424)).heap.size;simp) HG3a.out.1.size)).trans ((HG3a.out.1.block _ (by show wr.heap.size<(wr.alloc (.cells QA.q 424)).heap.size;simp)).trans (rC wr (.cells QA.q 424)));have HOUT:=rA (zEn (ys:=stC st d 0 [c0,c1,c2,c3,c4,c5,c6,c7,c8,c9,c10,c11,c12,c13,c14,c15]) HG4.out hz (rQ _));refine zCJ (p:=.tmp 9) (q:=.tmp 67) (n:=wr.heap.size) rfl rfl hz rfl (zAJ st d 0 [c0,c1,c2,c3,c4,c5,c6,c7,c8,c9,c10,c11,c12,c13,c14,c15]) rfl rfl ?_;clear hz;refine hKc.out _ _ (HS.out _ HOUT.out.1) (fun hS12=>?_);clear hKc Kc hS9;try simp only[sA]
     refine rH (by kernel_rfl) ?_ _;clear hS12;go_wp2_with fail;go_meet;exact⟨wr.heap.size,d,[c0,c1,c2,c3,c4,c5,c6,c7,c8,c9,c10,c11,c12,c13,c14,c15],rfl,rfl,HOUT.out.1,HOUT.out.2⟩
   case rest=>
   obtain⟨D,d,cs,hcs,rfl,hg5,hb5⟩:=hcut;have HK1:Hid (KState (jG (stC st d 0 cs))):=rA (kstate st d 0 hcs);have HR5:=rA (HR0.out.later hg5);have HB5:=rA hb5;have HCS:=rA hcs;clear hg5 hb5 hcs HR0 HS;go_upto_region 11 with fail;generalize wc=w5 at*;obtain⟨x1,k1,hlk⟩:=zE7 HR5.out.mp HK1.out;have HLK:=rA hlk;clear hlk;go_cut [10,11] from 68 to 76 (fun u v wx=>u=jI kQ x1/\v=jB k1/\wx=w5.drewN 1)
   case first=>
    refine rD (S:=fun V=>V.cell? ⟨pb,4,none⟩=some (.map (some rb))/\V.heap[D]? =some (.cells (stC st d 0 cs) 424 (0,0))/\V.heap[rb]? =w5.heap[rb]?) (by kernel_rfl) ⟨(RpS.pcells HR5.out.pr).2.2,HB5.out,rfl⟩ (fun hS=>?_);refine tKa 0 (jP (some ⟨pb,0,none⟩)) ?_;refine tKa 1 (jP (some ⟨pb,0,none⟩)) ?_;refine tKa 2 (jP (some ⟨pb,4,none⟩)) ?_;refine tKa 3 (.map (some rb)) ?_;refine tka 4 (jG (stC st d 0 cs)) ?_ ?_
    ·(intro V hV;exact qO rfl rfl hV.2.1 (qB HCS.out))
    refine tka 5 (jU #[jI kQ x1,jB k1]) ?_ ?_
    ·(intro V hV;exact qQ rfl rfl rfl (HLK.out true V hV.2.2))
    refine tKa 6 (jU #[jI kQ x1,jB k1]) ?_;refine tKa 7 (jI kQ x1) ?_;refine tKa 8 (jB k1) ?_;refine tKa 9 (jI kQ x1) ?_;refine tKa 10 (jB k1) ?_;refine rH (by kernel_rfl) ?_ _;clear hS;go_wp2_with fail;go_meet;exact⟨rfl,rfl,rfl⟩
   case rest=>
   obtain⟨rfl,rfl,rfl⟩:=hcut;cases k1 with
   |false=>
    go_wp2_with fail;go_ret;exact⟨false,rfl,Fr.of_gr (HR5.out.gr.trans (Gr.drawn w5 1))⟩
   |true=>
   have HQ:Hid (RqS A W0 (w5.drewN 1) pb n st (.func (.func F) #[] #[p1,p2,p3]) rb):=rA (by
    have h:=HR5.out.later (Gr.drawn w5 1);exact⟨Fr.of_gr h.gr,HAD.out.gr h.gr,h.pr,h.mp⟩)
   clear HLK HR5 HB5 HK1;go_upto_region 14 with fail;generalize w5.drewN 1=w6 at*;go_wp2_with fail;go_loopw [81] (fun i wr=>∃k:Nat,k<=L.length/\i=jI kQ k/\Hid (RqS A W0 wr pb n st (.func (.func F) #[] #[p1,p2,p3]) rb)) (fun i _=>L.length - (intOf i).toNat)
   case atStart=>exact⟨0,rP _,rfl,HQ⟩
   case round=>
    clear HQ;obtain⟨k,hk,rfl,HQ⟩:=hrel;by_cases hlt:k<L.length;rotate_left
    ·have hd:=dF hlt
     go_wp2_with fail;go_ret;exact⟨true,rfl,HQ.out.fr⟩
    have hd:=dT hlt
    have hkl:(k:Int)<(L.length:Int):=by omega
    obtain⟨b,off,a1,c1,m,g,t,r,S,rfl,hL,d0,d1,d2,d3,d4,hn,hl⟩:=(HSP.out wr HQ.out.fr).at' hlt;have hOK:=HOKS.out k hlt;rw[hL] at hOK;dsimp only at hOK;have HIN:=rA (zPj HU.out hOK);have HOK:=rA hOK;have HN:=rA hn;have HL:=rA hl;clear hL hOK hn hl;have f:∀j,(wr.alloc (.cells #[jI kQ m,jI kQ g,jS a1 S.length c1,jI kQ t,jI kQ r] 166)).cell? ⟨wr.heap.size,j,none⟩= #[jI kQ m,jI kQ g,jS a1 S.length c1,jI kQ t,jI kQ r][j]? :=fun j=>zI wr #[jI kQ m,jI kQ g,jS a1 S.length c1,jI kQ t,jI kQ r] 166 j
    have f0:=f 0;have f1:=f 1;have f2:=f 2;have f3:=f 3;have f4:=f 4;simp only[rG,rF,rE] at f0 f1 f2 f3 f4;clear f;go_upto_region 17 with fail;have HQ6:=rA (HQ.out.later (Gr.alloc wr (.cells #[jI kQ m,jI kQ g,jS a1 S.length c1,jI kQ t,jI kQ r] 166)));have HC:=rA (H368.out _ a1 c1 m g t r S rb HQ6.out.ad.v HQ6.out.pr (HN.out.keep (Gr.alloc wr (.cells #[jI kQ m,jI kQ g,jS a1 S.length c1,jI kQ t,jI kQ r] 166)).1) HL.out);clear d0 d1 d2 d3 d4 HQ HN;generalize wr.heap.size=D6 at*;generalize wr.alloc _=w7 at*;go_wp2_with fail;refine HC.out.mono ?_;rintro e w8 ⟨bs,hb,hbe,rfl,hg8⟩;rw[HOK.out];have HBS:=rA hb;have HBE:=rA hbe;have HQ8:=rA (HQ6.out.later hg8);have hz:=rC w8 (.cells (stC 0 0 0 (rL 16 false)) 424);have hz2:=zPP w8 (stC m g t bs);simp only[stC,stL,rL,List.map,rS,rT] at hz;have HZ:=rA hz;have HZ2:=rA hz2;clear hz hz2 hb hbe hg8 HC f0 f1 f2 f3 f4 HOK HQ6;go_upto_region 18 with(first|(refine xF rfl (.tmp 14) (.tmp 89) rfl _ _ w8.heap.size rfl HZ.out rfl (zAJ m g t bs) rfl (qB HBS.out) ?_));obtain⟨hg9,hb9⟩:=HZ2.out _ rfl;have HQ9:=rA (HQ8.out.later hg9);have HB9:=rA hb9;clear HZ HZ2 hg9 hb9 HQ8;generalize w8.heap.size=D8 at*;generalize (w8.alloc _).setRow _ _=w9 at*;obtain⟨tn,rfl⟩:∃tn:Nat,t=tn:=⟨t.toNat,by have:=HIN.out;omega⟩;have HC:=rA (H372.out w9 rb m g tn bs HQ9.out HMR.out HIN.out.1 HIN.out.2.1 (by have:=HIN.out;omega) HBS.out HBE.out);try simp only[Act.put]
    go_wp2_with (first|(refine qG rfl (.tmp 14) rfl (stC m g tn bs) D8 rfl HB9.out (qB HBS.out) ?_));refine HC.out.mono ?_;rintro e w10 ⟨b2,rfl,had,hf⟩;have HQ10:=rA (HQ9.out.fa had hf HMR.out);clear had hf HC HQ9 HB9;cases b2 with
    |false=>
     go_wp2_with fail;go_ret;exact⟨false,rfl,HQ10.out.fr⟩
    |true=>
     go_wp2_with fail;go_roundw
     case rel=>exact⟨k+1,by omega,by go_num,HQ10⟩
     case measure=>simp[intOf];omega
  have hd:=dT hlt
  have hkl:(k:Int)<(L.length:Int):=by omega
  obtain⟨b,off,a1,c1,m,g,t,r,S,rfl,hL,d0,d1,d2,d3,d4,hn,hl⟩:=(HSP.out wr (Fr.of_gr HR.out.1.gr)).at' hlt;have HLK:=rA hL;have HN:=rA hn;have HL:=rA hl;clear hL hn hl;have f:∀j,(wr.alloc (.cells #[jI kQ m,jI kQ g,jS a1 S.length c1,jI kQ t,jI kQ r] 166)).cell? ⟨wr.heap.size,j,none⟩= #[jI kQ m,jI kQ g,jS a1 S.length c1,jI kQ t,jI kQ r][j]? :=fun j=>zI wr #[jI kQ m,jI kQ g,jS a1 S.length c1,jI kQ t,jI kQ r] 166 j
  have f0:=f 0;have f1:=f 1;have f2:=f 2;have f3:=f 3;have f4:=f 4;simp only[rG,rF,rE] at f0 f1 f2 f3 f4;clear f;go_upto_region 5 with fail;have HR6:=rA (HR.out.1.later (Gr.alloc wr (.cells #[jI kQ m,jI kQ g,jS a1 S.length c1,jI kQ t,jI kQ r] 166)));have HBX:=rA (rC wr (.cells #[jI kQ m,jI kQ g,jS a1 S.length c1,jI kQ t,jI kQ r] 166));have HN6:=rA (HN.out.keep (Gr.alloc wr (.cells #[jI kQ m,jI kQ g,jS a1 S.length c1,jI kQ t,jI kQ r] 166)).1);have HC:=rA (H368.out _ a1 c1 m g t r S rb (HAD.out.gr HR6.out.gr).v HR6.out.pr HN6.out HL.out);have HOKS:=rA HR.out.2;clear d0 d1 d2 d3 d4 HR HN;generalize wr.heap.size=D6 at*;generalize wr.alloc _=w7 at*;go_wp2_with fail;refine HC.out.mono ?_;rintro e w8 ⟨bs,hb,hbe,rfl,hg8⟩;have HBS:=rA hb;have HR8:=rA (HR6.out.later hg8);have HG8:=rA hg8;have hz:=rC w8 (.cells (stC 0 0 0 (rL 16 false)) 424);have hz2:=zPP w8 (stC m g t bs);simp only[stC,stL,rL,List.map,rS,rT] at hz;have HZ:=rA hz;have HZ2:=rA hz2;obtain⟨ok,hok⟩:∃ok,zEj n A m g S t r=ok:=⟨_,rfl⟩;rw[hok];have HOK:=rA hok;clear hz hz2 hb hbe hg8 HC f0 f1 f2 f3 f4 HR6 hok;go_upto_region 6 with(first|(refine xF rfl (.tmp 7) (.tmp 31) rfl _ _ w8.heap.size rfl HZ.out rfl (zAJ m g t bs) rfl (qB HBS.out) ?_));obtain⟨hg9,hb9⟩:=HZ2.out _ rfl;have HR9:=rA (HR8.out.later hg9);have HB9:=rA hb9;have HG9:=rA (HG8.out.trans hg9);clear HZ HZ2 hg9 hb9 HR8 HG8;generalize w8.heap.size=D8 at*;generalize (w8.alloc _).setRow _ _=w9 at*;try simp only[Act.put]
  go_cut [48] from 33 to 47 (fun u wx=>∃bb,u=jB bb/\Gr w9 wx/\(bb=false->ok=true))
  case first=>
   cases ok with
   |false=>
    refine rD (S:=fun _=>True) (by kernel_rfl) trivial (fun hS=>?_);refine tKa 0 (jB false) ?_;refine tKa 1 (jB true) ?_;refine tKa 2 (jB true) ?_;refine tna 3 ?_;refine tna 4 ?_;refine tna 5 ?_;refine tna 6 ?_;refine tna 7 ?_;refine tna 8 ?_;refine tna 9 ?_;refine tna 10 ?_;refine tna 11 ?_;refine tna 12 ?_;refine tna 13 ?_;refine tna 14 ?_;refine tKa 15 (jB true) ?_;refine rH (by kernel_rfl) ?_ _;clear hS;go_wp2_with fail;go_meet;exact⟨true,rfl,Gr.drawn w9 1,fun h=>by cases h⟩
   |true=>
   cases k with
   |zero=>
    refine rD (S:=fun _=>True) (by kernel_rfl) trivial (fun hS=>?_);refine tKa 0 (jB true) ?_;refine tKa 1 (jB false) ?_;refine tKa 2 (jB false) ?_;refine tKa 3 (jI kQ 0) ?_;refine tKa 4 (jB false) ?_;refine tKa 5 (jB false) ?_;refine tna 6 ?_;refine tna 7 ?_;refine tna 8 ?_;refine tna 9 ?_;refine tna 10 ?_;refine tna 11 ?_;refine tna 12 ?_;refine tna 13 ?_;refine tKa 14 (jB false) ?_;refine tKa 15 (jB false) ?_;refine rH (by kernel_rfl) ?_ _;clear hS;go_wp2_with fail;go_meet;exact⟨false,rfl,Gr.drawn w9 1,fun _=>by first|rfl|trivial⟩
   |succ k1=>
    obtain⟨b',off',a2,c2,m2,g2,t2,r2,S2,hba,hL2,y0,y1,y2,y3,y4,hn2,hl2⟩:=(HSP.out w9 (Fr.of_gr HR9.out.gr)).at' (k:=k1) (by omega);cases hba;have HY:Hid (∀V,Gr w9 V->(V.cell? ⟨b,off+k1*5,none⟩=some (jI kQ m2)/\V.cell? ⟨b,off+k1*5+1,none⟩=some (jI kQ g2)/\V.cell? ⟨b,off+k1*5+2,none⟩=some (jS a2 S2.length c2)/\V.cell? ⟨b,off+k1*5+3,none⟩=some (jI kQ t2)/\V.cell? ⟨b,off+k1*5+4,none⟩=some (jI kQ r2))/\V.cell? ⟨D6,0,none⟩=some (jI kQ m)/\V.cell? ⟨D6,1,none⟩=some (jI kQ g)/\V.cell? ⟨D6,2,none⟩=some (jS a1 S.length c1)/\V.cell? ⟨D6,3,none⟩=some (jI kQ t)/\V.cell? ⟨D6,4,none⟩=some (jI kQ r)):=rA fun V hg=>by
     have hx:=((HG9.out.trans hg).1.block _ (Array.getElem?_eq_some_iff.1 HBX.out).1).trans HBX.out;have k:∀ {j:Nat} {v:Value},w9.cell? ⟨b,j,none⟩=some v->V.cell? ⟨b,j,none⟩=some v:=fun {j v} h=>by
      have hb:b<w9.heap.size:=by
       unfold rB at h;cases hk:w9.heap[b]? with
       |none=>rw[hk] at h;simp at h
       |some o=>exact(Array.getElem?_eq_some_iff.1 hk).1
      exact(hg.1.cell (p:=⟨b,j,none⟩) hb).trans h
     exact⟨⟨k y0,k y1,k y2,k y3,k y4⟩,by simp[rB,hx],by simp[rB,hx],by simp[rB,hx],by simp[rB,hx],by simp[rB,hx]⟩
    have HC:Hid (∀V,Gr w9 V->Calls rI 369 #[jG #[jI kQ m2,jI kQ g2,jS a2 S2.length c2,jI kQ t2,jI kQ r2],jG #[jI kQ m,jI kQ g,jS a1 S.length c1,jI kQ t,jI kQ r]] V (zB9 V)):=rA fun V hg=>zNW m2 g2 t2 r2 m g t r (hn2.keep hg.1) (HN6.out.keep (HG9.out.trans hg).1) hl2 HL.out
    have hw:((k1+1:Nat):Int) - 1=(k1:Int):=by omega
    have hk1:(k1:Int)<(L.length:Int):=by omega
    have hk0:(0:Int)<=(k1:Int):=rJ _;have hkm:k1<L.length:=by omega
    have hgt:decide (((k1+1:Nat):Int)>0)=true:=by rw[decide_eq_true_iff];omega
    have hw2:wrap64 (k1:Int)=(k1:Int):=by simp only[wrap64];omega
    have hw3:IntKind.i64.wrap (k1:Int)=(k1:Int):=by rw[IntKind.wrap_i64];omega
    have hw4:(k1:Int)+1 - 1=(k1:Int):=by omega
    clear hL2 y0 y1 y2 y3 y4 hn2 hl2;refine rD (S:=fun V=>(V.cell? ⟨b,off+k1*5,none⟩=some (jI kQ m2)/\V.cell? ⟨b,off+k1*5+1,none⟩=some (jI kQ g2)/\V.cell? ⟨b,off+k1*5+2,none⟩=some (jS a2 S2.length c2)/\V.cell? ⟨b,off+k1*5+3,none⟩=some (jI kQ t2)/\V.cell? ⟨b,off+k1*5+4,none⟩=some (jI kQ r2))/\V.cell? ⟨D6,0,none⟩=some (jI kQ m)/\V.cell? ⟨D6,1,none⟩=some (jI kQ g)/\V.cell? ⟨D6,2,none⟩=some (jS a1 S.length c1)/\V.cell? ⟨D6,3,none⟩=some (jI kQ t)/\V.cell? ⟨D6,4,none⟩=some (jI kQ r)) (by kernel_rfl) (HY.out _ (Gr.drawn w9 1)) (fun hS=>?_);refine tKa 0 (jB true) ?_;refine tKa 1 (jB false) ?_;refine tKa 2 (jB false) ?_;refine tKa 3 (jI kQ ((k1+1:Nat):Int)) ?_;refine tKa 4 (jB true) ?_;refine tKa 5 (jB true) ?_;refine tKa 6 (jS (some ⟨b,off,none⟩) L.length sc) ?_;refine tKa 7 (jI kQ ((k1+1:Nat):Int)) ?_;refine tKa 8 (jI kQ k1) ?_;refine tKa 9 (jP (some ⟨b,off+k1*5,none⟩)) ?_;refine tKa 10 (jG #[jI kQ m2,jI kQ g2,jS a2 S2.length c2,jI kQ t2,jI kQ r2]) ?_;refine tKa 11 (jG #[jI kQ m,jI kQ g,jS a1 S.length c1,jI kQ t,jI kQ r]) ?_;refine tya 12 (fun Kc hKc=>?_);go_simp;refine(HC.out _ (Gr.drawn w9 1)).mono ?_;rintro e w10 ⟨d,rfl,hg10⟩;have HG10:=rA ((Gr.drawn w9 1).trans hg10);clear hg10;refine hKc.out _ _ (HY.out _ HG10.out) (fun hS12=>?_);clear hKc Kc hS;try simp only[sA]
    by_cases hd0:0<=d
    ·have hdd:=dT hd0
     refine tKa 13 (jB true) ?_;refine tKa 14 (jB true) ?_;refine tKa 15 (jB true) ?_;refine rH (by kernel_rfl) ?_ _;clear hS12;go_wp2_with fail;go_meet;exact⟨true,rfl,HG10.out,fun _=>by first|rfl|trivial⟩
    ·have hdd:=dF hd0
     refine tKa 13 (jB false) ?_;refine tKa 14 (jB false) ?_;refine tKa 15 (jB false) ?_;refine rH (by kernel_rfl) ?_ _;clear hS12;go_wp2_with fail;go_meet;exact⟨false,rfl,HG10.out,fun _=>by first|rfl|trivial⟩
  case rest=>
  obtain⟨bb,rfl,hgx,hbb⟩:=hcut;have HRX:=rA (HR9.out.later hgx);have HBB:=rA hbb;have HBX9:Hid (∀V,Gr wc V->V.heap[D8]? =some (.cells (stC m g t bs) 424 (0,0))/\V.cell? ⟨D6,0,none⟩=some (jI kQ m)/\V.cell? ⟨D6,1,none⟩=some (jI kQ g)/\V.cell? ⟨D6,2,none⟩=some (jS a1 S.length c1)/\V.cell? ⟨D6,3,none⟩=some (jI kQ t)/\V.cell? ⟨D6,4,none⟩=some (jI kQ r)):=rA fun V hg=>by
   have hx:=((HG9.out.trans (hgx.trans hg)).1.block _ (Array.getElem?_eq_some_iff.1 HBX.out).1).trans HBX.out;have hy:=((hgx.trans hg).1.block _ (Array.getElem?_eq_some_iff.1 HB9.out).1).trans HB9.out;exact⟨hy,by simp[rB,hx],by simp[rB,hx],by simp[rB,hx],by simp[rB,hx],by simp[rB,hx]⟩
  have HBQ:Hid (wc.drew.heap[D6]? =some (.cells #[jI kQ m,jI kQ g,jS a1 S.length c1,jI kQ t,jI kQ r] 166 (0,0))):=rA (((HG9.out.trans (hgx.trans (Gr.drawn wc 1))).1.block _ (Array.getElem?_eq_some_iff.1 HBX.out).1).trans HBX.out);clear hgx hbb HR9 HB9 HBX HG9 HN6;cases bb with
  |true=>
   go_wp2_with fail;go_ret;exact⟨false,rfl,Fr.of_gr HRX.out.gr⟩
  |false=>
   have HRD:Hid (RpS A W0 wc.drew pb n st (.func (.func F) #[] #[p1,p2,p3]) rb):=rA (HRX.out.later (Gr.drawn wc 1));obtain⟨w10,hrun,hm10,ht10⟩:=HRD.out.mp.update zIo Tryz.underlying414 (key:=jG (stC m g t bs)) (val:=jI kQ r) (kstate m g t HBS.out) ⟨r,rfl⟩;have HR10:=rA (HRD.out.turned hm10 ht10 HRB.out);have HRUN:=rA hrun;have HNE:Hid (∀(q:Nat) (cs:Array Value) (T:TypeId),wc.drew.heap[q]? =some (.cells cs T (0,0))->w10.heap[q]? =some (.cells cs T (0,0))):=rA fun q cs T e=>(zT ht10 fun e'=>by
    obtain⟨es,c,h1, -⟩:=HRD.out.mp;rw[<-e',e] at h1;cases h1).trans e
   have HBL:=rA HBS.out;clear hrun hm10 ht10;go_upto_region 8 with fail;have hs:∀V,V=wc.drew∨V=w10->V.cell? ⟨pb,4,none⟩=some (.map (some rb))/\V.heap[D8]? =some (.cells (stC m g t bs) 424 (0,0))/\V.cell? ⟨D6,4,none⟩=some (jI kQ r):=fun V h=>by
    have hb:=HBX9.out _ (Gr.drawn wc 1);have h6:=HBQ.out;rcases h with rfl|rfl
    ·exact⟨(RpS.pcells HRD.out.pr).2.2,hb.1,xS h6 rfl⟩
    ·exact⟨(RpS.pcells HR10.out.pr).2.2,HNE.out _ _ _ hb.1,xS (HNE.out _ _ _ h6) rfl⟩
   have HSS:=rA hs;clear hs;refine rD (S:=fun V=>V=wc.drew∨V=w10) (by kernel_rfl) (Or.inl rfl) (fun hS=>?_);refine tka 0 (jP (some ⟨pb,0,none⟩)) ?_ ?_
   ·(intro V hV;obtain⟨u0, -,u4⟩:=HSS.out V hV;go_simp)
   refine tka 1 (jP (some ⟨pb,0,none⟩)) ?_ ?_
   ·(intro V hV;obtain⟨u0, -,u4⟩:=HSS.out V hV;go_simp)
   refine tka 2 (jP (some ⟨pb,4,none⟩)) ?_ ?_
   ·(intro V hV;obtain⟨u0, -,u4⟩:=HSS.out V hV;go_simp)
   refine tka 3 (.map (some rb)) ?_ ?_
   ·(intro V hV;obtain⟨u0, -,u4⟩:=HSS.out V hV;go_simp)
   refine tka 4 (jG (stC m g t bs)) ?_ ?_
   ·(intro V hV;exact qO rfl rfl (HSS.out V hV).2.1 (qB HBL.out))
   refine tka 5 (jP (some ⟨D6,4,none⟩)) ?_ ?_
   ·(intro V hV;obtain⟨u0, -,u4⟩:=HSS.out V hV;go_simp)
   refine tka 6 (jI kQ r) ?_ ?_
   ·(intro V hV;obtain⟨u0, -,u4⟩:=HSS.out V hV;go_simp)
   refine tya 7 (fun K hK=>?_);have hrun:=HRUN.out;go_simp;refine hK.out _ _ (Or.inr rfl) (fun hS7=>?_);clear hS hK hrun;refine rH (by kernel_rfl) ?_ _;clear hS7;go_wp2_with fail;go_roundw
   case rel=>exact⟨k+1,by omega,by go_num,rA ⟨HR10.out,fun j hj hjk=>by
    by_cases e:j=k
    ·subst e
     rw[HLK.out];exact HOK.out.trans (HBB.out rfl)
    ·exact HOKS.out j hj (by omega)⟩⟩
   case measure=>simp[intOf];omega
theorem zOf:(Tryz.prog.info? 419).map (fun i=>(i.zero,i.size,i.bytes))=some (some (jG #[jI kQ 0,jI kQ 0]),2,16):=by kernel_rfl
theorem zLq {n:Nat} (hn:n<=1000000000) (W:World):(Instr.makeSlice 417 (jI kQ (n:Int)) (jI kQ (n:Int))).run rI W=.ok (jS (some ⟨W.heap.size,0,none⟩) n n) (W.alloc (.cells (madeCells #[jI kQ 0,jI kQ 0] (n*2)) 419)):=by
 obtain⟨it,hit,hz,hs,hby⟩:=info_parts zOf;have:=run_make (P:=rI) (w:=W) 417 419 it _ Tryz.underlying417 hit hz .i64 .i64 (n:Int) (n:Int) (by omega) (Int.le_refl _) (by rw[hby];omega) (by omega);rw[hs] at this;exact this
theorem zIz {F:FuncId} {fn:Func} (hf:Tryz.prog.funcs[F]? =some fn) (hn:(fn.name== "runtime.NumGoroutine")=false) (hb:fn.body.isNone=false):∀(args:Array Value) (W:World),(callFunc F args).run rI W=.ok (.enter F args) W:=fun args W=>by
 have hn':¬fn.name= "runtime.NumGoroutine" :=by simpa using hn
 have hb':¬fn.body=none:=fun e=>by rw[e] at hb;cases hb
 simp[callFunc,go_sem];rw[hf];simp[hn',hb',go_sem]
structure MkS (V0 wr:World) (M ins:Nat) (xs:List (Nat×Int)):Prop where
 gr:Gr V0 wr
 lo:V0.heap.size<=M
 blk:∃cs,wr.heap[M]? =some (.cells cs 419 (0,0))/\cs.size=ins*2/\∀j (h:j<xs.length),cs[j*2]? =some (jI kQ xs[j].1)/\cs[j*2+1]? =some (jI kQ xs[j].2)
 le:∀x∈xs,x.1<=4096
theorem MkS.made (V0:World) (ins:Nat):MkS V0 (V0.alloc (.cells (madeCells #[jI kQ 0,jI kQ 0] (ins*2)) 419)) V0.heap.size ins []:=
 ⟨Gr.alloc _ _,rQ _,⟨_,rC _ _,size_madeCells _ _,fun j h=>by simp at h⟩,fun x h=>by cases h⟩
theorem MkS.later {V0 wr w':World} {M ins:Nat} {xs:List (Nat×Int)} (h:MkS V0 wr M ins xs) (hg:Gr wr w'):MkS V0 w' M ins xs:=by
 obtain⟨cs,hb,hs,hx⟩:=h.blk;exact⟨h.gr.trans hg,h.lo,⟨cs,(hg.1.block _ (Array.getElem?_eq_some_iff.1 hb).1).trans hb,hs,hx⟩,h.le⟩
theorem MkS.push {V0 wr:World} {M ins:Nat} {xs:List (Nat×Int)} (h:MkS V0 wr M ins xs) (hk:xs.length<ins) {K:Nat} (hK:K<=4096) (nx:Int):
  (∃u,wr.cell? ⟨M,xs.length*2,none⟩=some u)/\wr.frozen? ⟨M,xs.length*2,none⟩=false/\(∃u,wr.cell? ⟨M,xs.length*2+1,none⟩=some u)/\wr.frozen? ⟨M,xs.length*2+1,none⟩=false/\
   MkS V0 ((wr.setCell ⟨M,xs.length*2,none⟩ (jI kQ K)).setCell ⟨M,xs.length*2+1,none⟩ (jI kQ nx)) M ins (xs++[(K,nx)]):=by
 obtain⟨cs,hb,hs,hx⟩:=h.blk;refine⟨⟨cs[xs.length*2]'(by omega),by simp[rB,hb,show xs.length*2<cs.size by omega]⟩,by simp[rO,hb],⟨cs[xs.length*2+1]'(by omega),by simp[rB,hb,show xs.length*2+1<cs.size by omega]⟩,by simp[rO,hb],
  Gr.setCell (Gr.setCell h.gr h.lo _) h.lo _,h.lo,⟨_,rN _ _ _ _ 419 _ (rN _ _ _ _ 419 _ hb),by simp[hs],fun j hj=>?_⟩,fun x hx=>?_⟩
 ·simp only[List.length_append,List.length_singleton] at hj
  by_cases e:j=xs.length
  ·subst e
   simp[Array.getElem?_setIfInBounds,show xs.length*2<cs.size by omega,show xs.length*2+1<cs.size by omega]
  ·have hj':j<xs.length:=by omega
   obtain⟨j0,j1⟩:=hx j hj';rw[List.getElem_append_left hj'];simp only[Array.getElem?_setIfInBounds];rw[if_neg (by omega),if_neg (by omega),if_neg (by omega),if_neg (by omega)];exact⟨j0,j1⟩
 ·rcases List.mem_append.1 hx with hx|hx
  ·exact h.le x hx
  ·rw[List.mem_singleton.1 hx];exact hK
theorem MkS.out {V0 wr:World} {M ins:Nat} {xs:List (Nat×Int)} (h:MkS V0 wr M ins xs) (hl:xs.length=ins) (hi:ins<=4096):zOP V0 (jR (jS (some ⟨M,0,none⟩) (ins:Nat) ins)) wr:=by
 obtain⟨cs,hb,hs,hx⟩:=h.blk;subst hl;exact⟨_,_,xs,rfl,fun _=>⟨M,rfl,(Array.getElem?_eq_some_iff.1 hb).1,cs,419,hb,hx⟩,hi,h.le,h.gr⟩
section
theorem AdV.fr' {A:Ad} {W W':World} (_:AdV A W) (h:AdS A W) (hF:Fr (msA A) W.heap.size W W'):AdV A W':=AdV.fr h hF
variable {A:Ad} {W0:World} (hok:zBs A) (hv:AdS A W0) {bi bc b6 C:Nat} {ins n:Nat} (hin:ins<=4096) (hci:W0.cell? ⟨bi,0,none⟩=some (jI kQ ins)) (hcc:W0.cell? ⟨bc,0,none⟩=some (jP (some ⟨C,0,none⟩))) (hcs:W0.cell? ⟨C,1,none⟩=some (jS A.sa A.l.length A.sc))
include hok hv hin hci hcc hcs
theorem zOO {outs:Nat} (hout:outs<=4096) {ao an:Option Addr} {co cn:Nat} {Out Nxt:List (List Int)} (h63:W0.cell? ⟨b6,3,none⟩=some (jS ao Out.length co)) (h64:W0.cell? ⟨b6,4,none⟩=some (jS an Nxt.length cn)) (hro:zR W0 (jS ao Out.length co) Out) (hrn:zR W0 (jS an Nxt.length cn) Nxt) (hlo:Out.length=n) (hln:Nxt.length=n) (hio:RowsIn Out ins outs) (hjn:RowsIn Nxt ins n):zFa (msA A) W0 360 (jP (some ⟨bi,0,none⟩)) (jP (some ⟨bc,0,none⟩)) (jP (some ⟨b6,0,none⟩)) n:=by
 refine⟨zIz Tryz.func360 (by kernel_rfl) (by kernel_rfl),?_⟩;intro V0 hf0 q hq0 hqn;obtain⟨qn,rfl⟩:∃qn:Nat,q=qn:=⟨q.toNat,by omega⟩;have hqn:qn<n:=by omega
 obtain⟨bo,oo,au,cc1,rfl,o0,o1⟩:=hro.at (j:=qn) (by omega);obtain⟨ho2,ho3⟩:=hio qn (by omega);rw[ho2] at o0;have o1:Nums W0 (jS au (Out.getD qn []).length cc1) (Out.getD qn []):=o1;obtain⟨bn,on,av,cc2,rfl,n0,n1⟩:=hrn.at (j:=qn) (by omega);obtain⟨hn2,hn3⟩:=hjn qn (by omega);rw[hn2] at n0;have n1:Nums W0 (jS av (Nxt.getD qn []).length cc2) (Nxt.getD qn []):=n1;have hqo:(qn:Int)<(Out.length:Int):=by omega
 have hqx:(qn:Int)<(Nxt.length:Int):=by omega
 have hqi0:(0:Int)<=(qn:Int):=rJ _;have hqo':qn<Out.length:=by omega
 have hqx':qn<Nxt.length:=by omega
 have HX:Hid (∀k,k<ins->∃(bo1 oo1 bn1 on1:Nat) (o:Nat) (nx:Int),au=some ⟨bo1,oo1,none⟩/\av=some ⟨bn1,on1,none⟩/\o<=4096/\W0.cell? ⟨bo1,oo1+k,none⟩=some (jI kQ o)/\W0.cell? ⟨bn1,on1+k,none⟩=some (jI kQ nx)):=rA fun k hk=>by
  obtain⟨bo1,oo1,e1,d1⟩:=o1.at' (k:=k) (by omega);obtain⟨bn1,on1,e2,d2⟩:=n1.at' (k:=k) (by omega);have h3:=ho3 k hk;obtain⟨o,ho⟩:∃o:Nat,(Out.getD qn []).getD k 0=o:=⟨((Out.getD qn []).getD k 0).toNat,by omega⟩;rw[ho] at d1 h3;exact⟨bo1,oo1,bn1,on1,o,_,e1,e2,by omega,d1,d2⟩
 have HE:Hid (∀k,k<ins->∃(bo1 oo1 bn1 on1 o:Nat) (nx:Int),o<=4096/\au=some ⟨bo1,oo1,none⟩/\av=some ⟨bn1,on1,none⟩/\∀V,Gr V0 V->V.cell? ⟨bc,0,none⟩=some (jP (some ⟨C,0,none⟩))/\V.cell? ⟨C,1,none⟩=some (jS A.sa A.l.length A.sc)/\V.cell? ⟨b6,3,none⟩=some (jS (some ⟨bo,oo,none⟩) Out.length co)/\V.cell? ⟨bo,oo+qn,none⟩=some (jS (some ⟨bo1,oo1,none⟩) ins cc1)/\V.cell? ⟨bo1,oo1+k,none⟩=some (jI kQ (o:Nat))/\V.cell? ⟨b6,4,none⟩=some (jS (some ⟨bn,on,none⟩) Nxt.length cn)/\V.cell? ⟨bn,on+qn,none⟩=some (jS (some ⟨bn1,on1,none⟩) ins cc2)/\V.cell? ⟨bn1,on1+k,none⟩=some (jI kQ nx)):=rA fun k hk=>by
  obtain⟨bo1,oo1,bn1,on1,o,nx,rfl,rfl,ho,d1,d2⟩:=HX.out k hk;refine⟨bo1,oo1,bn1,on1,o,nx,ho,rfl,rfl,fun V hg=>?_⟩;have kp:∀ {b j:Nat} {v:Value},W0.cell? ⟨b,j,none⟩=some v->V.cell? ⟨b,j,none⟩=some v:=fun h=>Fr.keepc hv (hf0.next (Fr.of_gr hg)) h
  exact⟨kp hcc,kp hcs,kp h63,kp o0,kp d1,kp h64,kp n0,kp d2⟩
 have HSG:Hid (∀V,Gr V0 V->SgV V (jS A.sa A.l.length A.sc) A.l):=rA fun V hg=>hok.sg.on ((hv.v.fr' hv hf0).gr hg).sub
 have HSW:=rA hok.sw;have hmk:∀W:World,(Instr.makeSlice 417 (jI kQ (ins:Int)) (jI kQ (ins:Int))).run rI W=.ok (jS (some ⟨W.heap.size,0,none⟩) ins ins) (W.alloc (.cells (madeCells #[jI kQ 0,jI kQ 0] (ins*2)) 419)):=zLq (by omega);have hii:=Fr.keepc hv hf0 hci;clear hv hok hf0 hq0 hci hcc hcs h63 h64 hro hrn hio hjn o0 o1 n0 n1 ho2 ho3 hn2 hn3 HX;go_enter Tryz.func360,Tryz.ntmps360;go_upto_region 2 with fail;have HM:=rA (MkS.made V0 ins);clear hmk hii;generalize V0.heap.size=M at*;generalize V0.alloc _=w1 at*;go_wp2_with fail;go_loopw [12] (fun i wr=>∃(k:Nat) (xs:List (Nat×Int)),k<=ins/\i=jI kQ k/\Hid (MkS V0 wr M ins xs/\xs.length=k)) (fun i _=>ins - (intOf i).toNat)
 case atStart=>exact⟨0,[],rP _,rfl,rA ⟨HM.out,rfl⟩⟩
 case round=>
  clear HM;obtain⟨k,xs,hk,rfl,HM⟩:=hrel;by_cases hlt:k<ins;rotate_left
  ·have hd:=dF hlt
   go_wp2_with fail;go_ret;exact HM.out.1.out (by have:=HM.out.2;omega) hin
  have hd:=dT hlt
  have hkl:(k:Int)<(ins:Int):=by omega
  have hk0:(0:Int)<=(k:Int):=rJ _;obtain⟨bo1,oo1,bn1,on1,o,nx,ho,rfl,rfl,hs⟩:=HE.out k hlt;have HS:=rA hs;clear hs;go_upto_region 5 with fail;refine rD (S:=fun V=>V.cell? ⟨bc,0,none⟩=some (jP (some ⟨C,0,none⟩))/\V.cell? ⟨C,1,none⟩=some (jS A.sa A.l.length A.sc)/\V.cell? ⟨b6,3,none⟩=some (jS (some ⟨bo,oo,none⟩) Out.length co)/\V.cell? ⟨bo,oo+qn,none⟩=some (jS (some ⟨bo1,oo1,none⟩) ins cc1)/\V.cell? ⟨bo1,oo1+k,none⟩=some (jI kQ (o:Nat))/\V.cell? ⟨b6,4,none⟩=some (jS (some ⟨bn,on,none⟩) Nxt.length cn)/\V.cell? ⟨bn,on+qn,none⟩=some (jS (some ⟨bn1,on1,none⟩) ins cc2)/\V.cell? ⟨bn1,on1+k,none⟩=some (jI kQ nx)) (by kernel_rfl) (HS.out _ (HM.out.1.gr.trans (Gr.drawn wr 1))) (fun hS=>?_);refine tKa 0 (jS (some ⟨M,0,none⟩) ins ins) ?_;refine tKa 1 (jI kQ k) ?_;refine tKa 2 (jP (some ⟨C,0,none⟩)) ?_;refine tKa 3 (jP (some ⟨C,0,none⟩)) ?_;refine tKa 4 (jP (some ⟨C,1,none⟩)) ?_;refine tKa 5 (jS A.sa A.l.length A.sc) ?_;refine tKa 6 (jI kQ k) ?_;refine tKa 7 (jP (some ⟨b6,3,none⟩)) ?_;refine tKa 8 (jS (some ⟨bo,oo,none⟩) Out.length co) ?_;refine tKa 9 (jI kQ qn) ?_;refine tKa 10 (jP (some ⟨bo,oo+qn,none⟩)) ?_;refine tKa 11 (jS (some ⟨bo1,oo1,none⟩) ins cc1) ?_;refine tKa 12 (jI kQ k) ?_;refine tKa 13 (jP (some ⟨bo1,oo1+k,none⟩)) ?_;refine tKa 14 (jI kQ (o:Nat)) ?_;refine tKa 16 (jP (some ⟨b6,4,none⟩)) ?_;refine tKa 17 (jS (some ⟨bn,on,none⟩) Nxt.length cn) ?_;refine tKa 18 (jI kQ qn) ?_;refine tKa 19 (jP (some ⟨bn,on+qn,none⟩)) ?_;refine tKa 20 (jS (some ⟨bn1,on1,none⟩) ins cc2) ?_;refine tKa 21 (jI kQ k) ?_;refine tKa 22 (jP (some ⟨bn1,on1+k,none⟩)) ?_;refine tKa 23 (jI kQ nx) ?_;refine tya 15 (fun Kc hKc=>?_);go_simp;refine(zLw (HSG.out _ (HM.out.1.gr.trans (Gr.drawn wr 1))) HSW.out (i:=k) (o:=o) (by omega) (by omega)).mono ?_;rintro e w5 ⟨K,hK,rfl,hg5⟩;have hM5:=HM.out.1.later ((Gr.drawn wr 1).trans hg5);have hp:=hM5.push (by rw[HM.out.2];exact hlt) hK nx;rw[HM.out.2] at hp;obtain⟨⟨u0,m0⟩,f0,⟨u1,m1⟩,f1,hM6⟩:=hp;have HM5:=rA hM5;have HM6:=rA hM6;clear hM5 hM6 hg5;refine hKc.out _ _ (HS.out _ HM5.out.gr) (fun hS15=>?_);clear hKc Kc hS;try simp only[sA]
  refine tka 24 (jG #[jI kQ K,jI kQ nx]) ?_ ?_
  ·(intro V hV;clear m0 f0 m1 f1;go_simp)
  refine tka 25 (jP (some ⟨M,k*2,none⟩)) ?_ ?_
  ·(intro V hV;clear m0 f0 m1 f1;go_simp)
  refine tya 26 (fun Kc hKc=>?_);go_simp;refine hKc.out _ _ (HS.out _ HM6.out.gr) (fun hS26=>?_);clear hKc Kc hS15;try simp only[sA]
  refine rH (by kernel_rfl) ?_ _;clear hS26;clear m0 f0 m1 f1;go_wp2_with fail;go_roundw
  case rel=>exact⟨k+1,xs++[(K,nx)],by omega,by go_num,rA ⟨HM6.out,by simp[HM.out.2]⟩⟩
  case measure=>simp[intOf];omega
theorem zNp {outs:Nat} (hout:outs<=4096) {ao an:Option Addr} {co cn:Nat} {In:List Int} {Nxt:List (List Int)} (h63:W0.cell? ⟨b6,3,none⟩=some (jS ao In.length co)) (h64:W0.cell? ⟨b6,4,none⟩=some (jS an Nxt.length cn)) (hri:Nums W0 (jS ao In.length co) In) (hrn:zR W0 (jS an Nxt.length cn) Nxt) (hlo:In.length=n) (hln:Nxt.length=n) (hii2:∀j,j<In.length->0<=In.getD j 0/\In.getD j 0<outs) (hjn:RowsIn Nxt ins n):zFa (msA A) W0 428 (jP (some ⟨bi,0,none⟩)) (jP (some ⟨bc,0,none⟩)) (jP (some ⟨b6,0,none⟩)) n:=by
 refine⟨zIz Tryz.func428 (by kernel_rfl) (by kernel_rfl),?_⟩;intro V0 hf0 q hq0 hqn;obtain⟨qn,rfl⟩:∃qn:Nat,q=qn:=⟨q.toNat,by omega⟩;have hqn:qn<n:=by omega
 obtain⟨bo,oo,rfl,o0⟩:=hri.at' (k:=qn) (by omega);have ho3:=hii2 qn (by omega);obtain⟨o,ho⟩:∃o:Nat,In.getD qn 0=o:=⟨(In.getD qn 0).toNat,by omega⟩;rw[ho] at o0 ho3;have ho:o<=4096:=by omega
 obtain⟨bn,on,av,cc2,rfl,n0,n1⟩:=hrn.at (j:=qn) (by omega);obtain⟨hn2,hn3⟩:=hjn qn (by omega);rw[hn2] at n0;have n1:Nums W0 (jS av (Nxt.getD qn []).length cc2) (Nxt.getD qn []):=n1;have hqo:(qn:Int)<(In.length:Int):=by omega
 have hqx:(qn:Int)<(Nxt.length:Int):=by omega
 have hqi0:(0:Int)<=(qn:Int):=rJ _;have hqo':qn<In.length:=by omega
 have hqx':qn<Nxt.length:=by omega
 have HE:Hid (∀k,k<ins->∃(bn1 on1:Nat) (nx:Int),av=some ⟨bn1,on1,none⟩/\∀V,Gr V0 V->V.cell? ⟨bc,0,none⟩=some (jP (some ⟨C,0,none⟩))/\V.cell? ⟨C,1,none⟩=some (jS A.sa A.l.length A.sc)/\V.cell? ⟨b6,3,none⟩=some (jS (some ⟨bo,oo,none⟩) In.length co)/\V.cell? ⟨bo,oo+qn,none⟩=some (jI kQ (o:Nat))/\V.cell? ⟨b6,4,none⟩=some (jS (some ⟨bn,on,none⟩) Nxt.length cn)/\V.cell? ⟨bn,on+qn,none⟩=some (jS (some ⟨bn1,on1,none⟩) ins cc2)/\V.cell? ⟨bn1,on1+k,none⟩=some (jI kQ nx)):=rA fun k hk=>by
  obtain⟨bn1,on1,rfl,d2⟩:=n1.at' (k:=k) (by omega);refine⟨bn1,on1,(Nxt.getD qn []).getD k 0,rfl,fun V hg=>?_⟩;have kp:∀ {b j:Nat} {v:Value},W0.cell? ⟨b,j,none⟩=some v->V.cell? ⟨b,j,none⟩=some v:=fun h=>Fr.keepc hv (hf0.next (Fr.of_gr hg)) h
  exact⟨kp hcc,kp hcs,kp h63,kp o0,kp h64,kp n0,kp d2⟩
 have HSG:Hid (∀V,Gr V0 V->SgV V (jS A.sa A.l.length A.sc) A.l):=rA fun V hg=>hok.sg.on ((hv.v.fr' hv hf0).gr hg).sub
 have HSW:=rA hok.sw;have hmk:∀W:World,(Instr.makeSlice 417 (jI kQ (ins:Int)) (jI kQ (ins:Int))).run rI W=.ok (jS (some ⟨W.heap.size,0,none⟩) ins ins) (W.alloc (.cells (madeCells #[jI kQ 0,jI kQ 0] (ins*2)) 419)):=zLq (by omega);have hii:=Fr.keepc hv hf0 hci;clear hv hok hf0 hq0 hci hcc hcs h63 h64 hri hrn hii2 hjn o0 n0 n1 ho3 hn2 hn3;go_enter Tryz.func428,Tryz.ntmps428;go_upto_region 2 with fail;have HM:=rA (MkS.made V0 ins);clear hmk hii;generalize V0.heap.size=M at*;generalize V0.alloc _=w1 at*;go_wp2_with fail;go_loopw [12] (fun i wr=>∃(k:Nat) (xs:List (Nat×Int)),k<=ins/\i=jI kQ k/\Hid (MkS V0 wr M ins xs/\xs.length=k)) (fun i _=>ins - (intOf i).toNat)
 case atStart=>exact⟨0,[],rP _,rfl,rA ⟨HM.out,rfl⟩⟩
 case round=>
  clear HM;obtain⟨k,xs,hk,rfl,HM⟩:=hrel;by_cases hlt:k<ins;rotate_left
  ·have hd:=dF hlt
   go_wp2_with fail;go_ret;exact HM.out.1.out (by have:=HM.out.2;omega) hin
  have hd:=dT hlt
  have hkl:(k:Int)<(ins:Int):=by omega
  have hk0:(0:Int)<=(k:Int):=rJ _;obtain⟨bn1,on1,nx,rfl,hs⟩:=HE.out k hlt;have HS:=rA hs;clear hs;go_upto_region 5 with fail;refine rD (S:=fun V=>V.cell? ⟨bc,0,none⟩=some (jP (some ⟨C,0,none⟩))/\V.cell? ⟨C,1,none⟩=some (jS A.sa A.l.length A.sc)/\V.cell? ⟨b6,3,none⟩=some (jS (some ⟨bo,oo,none⟩) In.length co)/\V.cell? ⟨bo,oo+qn,none⟩=some (jI kQ (o:Nat))/\V.cell? ⟨b6,4,none⟩=some (jS (some ⟨bn,on,none⟩) Nxt.length cn)/\V.cell? ⟨bn,on+qn,none⟩=some (jS (some ⟨bn1,on1,none⟩) ins cc2)/\V.cell? ⟨bn1,on1+k,none⟩=some (jI kQ nx)) (by kernel_rfl) (HS.out _ (HM.out.1.gr.trans (Gr.drawn wr 1))) (fun hS=>?_);refine tKa 0 (jS (some ⟨M,0,none⟩) ins ins) ?_;refine tKa 1 (jI kQ k) ?_;refine tKa 2 (jP (some ⟨C,0,none⟩)) ?_;refine tKa 3 (jP (some ⟨C,0,none⟩)) ?_;refine tKa 4 (jP (some ⟨C,1,none⟩)) ?_;refine tKa 5 (jS A.sa A.l.length A.sc) ?_;refine tKa 6 (jP (some ⟨b6,3,none⟩)) ?_;refine tKa 7 (jS (some ⟨bo,oo,none⟩) In.length co) ?_;refine tKa 8 (jI kQ qn) ?_;refine tKa 9 (jP (some ⟨bo,oo+qn,none⟩)) ?_;refine tKa 10 (jI kQ (o:Nat)) ?_;refine tKa 11 (jI kQ k) ?_;refine tKa 13 (jP (some ⟨b6,4,none⟩)) ?_;refine tKa 14 (jS (some ⟨bn,on,none⟩) Nxt.length cn) ?_;refine tKa 15 (jI kQ qn) ?_;refine tKa 16 (jP (some ⟨bn,on+qn,none⟩)) ?_;refine tKa 17 (jS (some ⟨bn1,on1,none⟩) ins cc2) ?_;refine tKa 18 (jI kQ k) ?_;refine tKa 19 (jP (some ⟨bn1,on1+k,none⟩)) ?_;refine tKa 20 (jI kQ nx) ?_;refine tya 12 (fun Kc hKc=>?_);go_simp;refine(zLw (HSG.out _ (HM.out.1.gr.trans (Gr.drawn wr 1))) HSW.out (i:=o) (o:=k) (by omega) (by omega)).mono ?_;rintro e w5 ⟨K,hK,rfl,hg5⟩;have hM5:=HM.out.1.later ((Gr.drawn wr 1).trans hg5);have hp:=hM5.push (by rw[HM.out.2];exact hlt) hK nx;rw[HM.out.2] at hp;obtain⟨⟨u0,m0⟩,f0,⟨u1,m1⟩,f1,hM6⟩:=hp;have HM5:=rA hM5;have HM6:=rA hM6;clear hM5 hM6 hg5;refine hKc.out _ _ (HS.out _ HM5.out.gr) (fun hS12=>?_);clear hKc Kc hS;try simp only[sA]
  refine tka 21 (jG #[jI kQ K,jI kQ nx]) ?_ ?_
  ·(intro V hV;clear m0 f0 m1 f1;go_simp)
  refine tka 22 (jP (some ⟨M,k*2,none⟩)) ?_ ?_
  ·(intro V hV;clear m0 f0 m1 f1;go_simp)
  refine tya 23 (fun Kc hKc=>?_);go_simp;refine hKc.out _ _ (HS.out _ HM6.out.gr) (fun hS23=>?_);clear hKc Kc hS12;try simp only[sA]
  refine rH (by kernel_rfl) ?_ _;clear hS23;clear m0 f0 m1 f1;go_wp2_with fail;go_roundw
  case rel=>exact⟨k+1,xs++[(K,nx)],by omega,by go_num,rA ⟨HM6.out,by simp[HM.out.2]⟩⟩
  case measure=>simp[intOf];omega
end
theorem zQj {W:World} {b j:Nat} {cs:Array Value} {T:TypeId} (h:W.heap[b]? =some (.cells cs T (0,0))):W.frozen? ⟨b,j,none⟩=false:=by simp[rO,h]
theorem qC {w V:World} (hg:Gr w V) {b j:Nat} {v:Value} (h:w.cell? ⟨b,j,none⟩=some v):V.cell? ⟨b,j,none⟩=some v:=by
 have hb:b<w.heap.size:=by
  unfold rB at h;cases hk:w.heap[b]? with
  |none=>rw[hk] at h;simp at h
  |some o=>exact(Array.getElem?_eq_some_iff.1 hk).1
 exact(hg.1.cell (p:=⟨b,j,none⟩) hb).trans h
theorem zG7 {A:Ad} {w W0 w':World} {b:Bool} (hB:Below w.heap.size w W0) (m1:w.heap.size<=A.m1) (m2:w.heap.size<=A.m2) (m3:w.heap.size<=A.m3) (h:Fr (msA A) W0.heap.size W0 w'):zO1 w (jR (jB b)) w':=
 ⟨b,rfl,h.os.trans hB.os,h.tape.trans hB.tape,h.output.trans hB.output,Nat.le_trans hB.size h.size,fun k hk=>(h.block k (rK hk hB.size) (zCn.2 ⟨by omega,by omega,by omega⟩)).trans (hB.block k hk)⟩
theorem zNe:q6 356:=by
 intro w C x cl hz hv hn4;have hCB:=(Array.getElem?_eq_some_iff.1 hz).1;have HK:Hid (∀V,Gr w V->Calls rI 357 #[jP (some ⟨C,0,none⟩),jB true] V (KnR V cl.sigs x.a1 x.c1)):=rA fun V hg=>zHo ((hg.1.block C hCB).trans hz) (hv.keep hg.1) hn4 _
 have HS:Hid (∀V,Below w.heap.size w V->V.cell? ⟨C,1,none⟩=some (jS x.a1 cl.sigs.length x.c1)/\V.cell? ⟨C,7,none⟩=some (jI kQ cl.ctrl.ins)/\V.cell? ⟨C,8,none⟩=some (jI kQ cl.ctrl.outs)/\V.cell? ⟨C,9,none⟩=some (jI kQ cl.ctrl.start)/\V.cell? ⟨C,10,none⟩=some (jS x.a10 cl.ctrl.out.length x.c10)/\V.cell? ⟨C,11,none⟩=some (jS x.a11 cl.ctrl.next.length x.c11)/\V.cell? ⟨C,17,none⟩=some (jS x.a17 cl.spots.length x.c17)):=rA fun V hB=>by
  have h:=(hB.block C hCB).trans hz;refine⟨?_,?_,?_,?_,?_,?_,?_⟩<;>simp[rB,h,Cv.cells]
 have HV:Hid (∀V,Below w.heap.size w V->ClV V x cl):=rA fun V hB=>hv.keep hB
 have HRO:Hid (∀V,Below w.heap.size w V->zR V (jS x.a10 cl.ctrl.out.length x.c10) cl.ctrl.out):=rA fun V hB=>(hv.keep hB).out
 have HRN:Hid (∀V,Below w.heap.size w V->zR V (jS x.a11 cl.ctrl.next.length x.c11) cl.ctrl.next):=rA fun V hB=>(hv.keep hB).next
 have HSG:Hid (∀V,Below w.heap.size w V->SgV V (jS x.a1 cl.sigs.length x.c1) cl.sigs):=rA fun V hB=>(hv.keep hB).sigs
 have HSP:Hid (∀V,Below w.heap.size w V->SpV V (jS x.a17 cl.spots.length x.c17) cl.spots):=rA fun V hB=>(hv.keep hB).spots
 have HLN:Hid (cl.ctrl.out.length<=9223372036854775807/\cl.ctrl.next.length<=9223372036854775807):=rA ⟨by obtain⟨_,_,_,h,_⟩:=hv.out;exact h,by obtain⟨_,_,_,h,_⟩:=hv.next;exact h⟩;have HW:Hid (∀V,V=(w.alloc (.cells #[jP (some ⟨C,0,none⟩)] 93)).alloc (.cells #[jP (some ⟨C,0,none⟩)] 61)->Gr w V/\V.cell? ⟨w.heap.size+1,0,none⟩=some (jP (some ⟨C,0,none⟩))):=rA fun V e=>by
  subst e;refine⟨(Gr.alloc _ _).trans (Gr.alloc _ _),?_⟩;have h:=xH (W:=w.alloc (.cells #[jP (some ⟨C,0,none⟩)] 93)) (n:=w.heap.size+1) (by simp) (.cells #[jP (some ⟨C,0,none⟩)] 61);exact xS h rfl
 have d0:=zI w #[jP (some ⟨C,0,none⟩)] 93 0;simp only[rG,rF,rE] at d0;clear hz hv hn4 HV;generalize x.a1=sa at*;generalize x.c1=sc at*;generalize x.a10=oa at*;generalize x.c10=oc at*;generalize x.a11=na at*;generalize x.c11=nc at*;generalize x.a17=pa at*;generalize x.c17=pc at*;generalize cl.sigs=l at*;generalize cl.ctrl.ins=I at*;generalize cl.ctrl.outs=O at*;generalize cl.ctrl.start=st at*;generalize cl.ctrl.out=Out at*;generalize cl.ctrl.next=Nxt at*;generalize cl.spots=L at*;clear x cl;go_enter Tryz.func356,Tryz.ntmps356;go_upto_region 2 with fail;obtain⟨hg1,e1⟩:=HW.out _ rfl;have HG1:=rA hg1;have HE1:=rA e1;have HC:=rA (HK.out _ hg1);clear HW hg1 d0 HK;generalize (w.alloc _).alloc _=w1 at*;go_wp2_with fail;refine HC.out.mono ?_;rintro e w2 ⟨pv,b,rfl,hB2,hA⟩;have HB2:Hid (Below w.heap.size w w2):=rA (HG1.out.1.trans (hB2.mono HG1.out.1.size));have e2:w2.cell? ⟨w.heap.size+1,0,none⟩=some (jP (some ⟨C,0,none⟩)):=(rR (hB2.block _ (by unfold rB at e1;cases hk:w1.heap[w.heap.size+1]? with|none=>rw[hk] at e1;simp at e1|some o=>exact(Array.getElem?_eq_some_iff.1 hk).1))).trans e1;have HE2:=rA e2;clear HC e1 HE1;cases b with
 |false=>
  clear e2 hA hB2;go_wp2_with fail;go_ret;exact⟨false,rfl,HB2.out⟩
 |true=>
 obtain⟨hsw,A,rfl,rfl,rfl,rfl,hok,had,m1,m2,m3⟩:=hA rfl;have HSW:=rA hsw;have HOK:=rA hok;have HAD:=rA had;have HM:Hid (w.heap.size<=A.m1/\w.heap.size<=A.m2/\w.heap.size<=A.m3):=rA (by have:=HG1.out.1.size;omega);clear hsw hok had m1 m2 m3 hB2 hA HG1;obtain⟨c1,c7,c8,c9,c10,c11,c17⟩:=HS.out w2 HB2.out;go_upto_region 6 with fail;have HG3:=rA (Gr.alloc w2 (.cells #[jI kQ I,jI kQ O,jI kQ st,jS oa Out.length oc,jS na Nxt.length nc] 36));have HR3:=rA (rC w2 (.cells #[jI kQ I,jI kQ O,jI kQ st,jS oa Out.length oc,jS na Nxt.length nc] 36));clear c1 c7 c8 c9 c10 c11 c17 e2;generalize w2.heap.size=B6 at*;generalize w2.alloc _=w3 at*;have HB3:Hid (Below w.heap.size w w3):=rA (HB2.out.trans (HG3.out.1.mono HB2.out.size));obtain⟨c1, -⟩:=HS.out w3 HB3.out;have e3:=qC HG3.out HE2.out;have r3:w3.cell? ⟨B6,3,none⟩=some (jS oa Out.length oc):=xS HR3.out rfl;have HC:=rA (zD0 (HSG.out w3 HB3.out) HSW.out);go_wp2_with fail;refine HC.out.mono ?_;rintro e w4 ⟨ins,outs,hi1,ho1,hi4,ho4,rfl,hg4⟩;have HG4:=rA (HG3.out.trans hg4);have HR4:=rA ((hg4.1.block _ (Array.getElem?_eq_some_iff.1 HR3.out).1).trans HR3.out);clear c1 e3 r3 hg4 HC HG3 HR3 HB3;go_upto_region 8 with fail;have HG5:=rA (HG4.out.trans (Gr.alloc w4 (.cells #[jI kQ (ins:Nat)] 3)));have HR5:=rA ((rM w4 (.cells #[jI kQ (ins:Nat)] 3) (Array.getElem?_eq_some_iff.1 HR4.out).1).trans HR4.out);have HI5:Hid ((w4.alloc (.cells #[jI kQ (ins:Nat)] 3)).cell? ⟨w4.heap.size,0,none⟩=some (jI kQ (ins:Nat))):=rA (by rw[zI];rfl);clear HG4 HR4;generalize w4.heap.size=B9 at*;generalize w4.alloc _=w5 at*;have HB5:Hid (Below w.heap.size w w5):=rA (HB2.out.trans (HG5.out.1.mono HB2.out.size));have i5:=HI5.out;have r5:w5.cell? ⟨B6,0,none⟩=some (jI kQ I)/\w5.cell? ⟨B6,1,none⟩=some (jI kQ O)/\w5.cell? ⟨B6,2,none⟩=some (jI kQ st)/\w5.cell? ⟨B6,3,none⟩=some (jS oa Out.length oc)/\w5.cell? ⟨B6,4,none⟩=some (jS na Nxt.length nc):=by
  have h:=HR5.out;refine⟨?_,?_,?_,?_,?_⟩<;>exact xS h rfl
 obtain⟨r0,r1,r2,r3,r4⟩:=r5;go_cut [72] from 37 to 71 (fun u wx=>wx=w5/\∃bb,u=jB bb/\(bb=false->Nxt.length=Out.length))
 case first=>
  by_cases h1:I=(ins:Int);rotate_left
  ·have d1:(I !=(ins:Int))=true:=by rw[bne_iff_ne];exact h1
   go_wp2_with fail;go_meet;exact⟨rfl,true,rfl,fun h=>by cases h⟩
  have d1:(I !=(ins:Int))=false:=by rw[bne_eq_false_iff_eq];exact h1
  clear h1;by_cases h2:O=(outs:Int);rotate_left
  ·have d2:(O !=(outs:Int))=true:=by rw[bne_iff_ne];exact h2
   go_wp2_with fail;go_meet;exact⟨rfl,true,rfl,fun h=>by cases h⟩
  have d2:(O !=(outs:Int))=false:=by rw[bne_eq_false_iff_eq];exact h2
  clear h2;by_cases h3:Out.length<1
  ·have d3:decide ((Out.length:Int)<1)=true:=by rw[decide_eq_true_iff];omega
   have d3':decide (Out.length<1)=true:=by rw[decide_eq_true_iff];omega
   go_wp2_with fail;go_meet;exact⟨rfl,true,rfl,fun h=>by cases h⟩
  have d3:decide ((Out.length:Int)<1)=false:=by rw[decide_eq_false_iff_not];omega
  have d3':decide (Out.length<1)=false:=by rw[decide_eq_false_iff_not];omega
  clear h3;by_cases h4:Out.length>3000
  ·have d4:decide ((Out.length:Int)>3000)=true:=by rw[decide_eq_true_iff];omega
   have d4':decide ((3000:Int)<(Out.length:Int))=true:=by rw[decide_eq_true_iff];omega
   have d4'':decide (3000<Out.length)=true:=by rw[decide_eq_true_iff];omega
   go_wp2_with fail;go_meet;exact⟨rfl,true,rfl,fun h=>by cases h⟩
  have d4:decide ((Out.length:Int)>3000)=false:=by rw[decide_eq_false_iff_not];omega
  have d4':decide ((3000:Int)<(Out.length:Int))=false:=by rw[decide_eq_false_iff_not];omega
  have d4'':decide (3000<Out.length)=false:=by rw[decide_eq_false_iff_not];omega
  clear h4;by_cases h5:Nxt.length=Out.length;rotate_left
  ·have d5:((Nxt.length:Int) !=(Out.length:Int))=true:=by rw[bne_iff_ne];omega
   go_wp2_with fail;go_meet;exact⟨rfl,true,rfl,fun h=>by cases h⟩
  have d5:((Nxt.length:Int) !=(Out.length:Int))=false:=by rw[bne_eq_false_iff_eq];omega
  have HH5:=rA h5;clear h5;by_cases h6:st<0
  ·have d6:=dT h6
   go_wp2_with fail;go_meet;exact⟨rfl,true,rfl,fun _=>HH5.out⟩
  have d6:=dF h6
  go_wp2_with fail;go_meet;exact⟨rfl,_,rfl,fun _=>HH5.out⟩
 case rest=>
 obtain⟨hwc,bb,rfl,hbb⟩:=hcut;rw[hwc];clear hwc;have HBB:=rA hbb;clear hbb;cases bb with
 |true=>
  clear i5 r0 r1 r2 r3 r4;go_wp2_with fail;go_ret;exact⟨false,rfl,HB5.out⟩
 |false=>
 have HC1:=rA (zF7 (len:=ins) (less:=outs) (HRO.out w5 HB5.out) (by omega) (by omega));have HC2:=rA (zF7 (len:=ins) (less:=Out.length) (HRN.out w5 HB5.out) (by omega) HLN.out.1);go_upto_region 10 with fail;go_cut [86] from 73 to 85 (fun u wx=>wx=w5/\∃bb,u=jB bb/\(bb=false->RowsIn Out ins outs/\RowsIn Nxt ins Out.length))
 case first=>
  go_wp2_with fail;refine HC1.out.mono ?_;rintro e w6 ⟨rfl,b1,rfl,hb1⟩;have HB1:=rA hb1;clear hb1;cases b1 with
  |false=>
   go_wp2_with fail;go_meet;exact⟨rfl,true,rfl,fun h=>by cases h⟩
  |true=>
   go_wp2_with fail;refine HC2.out.mono ?_;rintro e w7 ⟨rfl,b2,rfl,hb2⟩;have HB2':=rA hb2;clear hb2;cases b2 with
   |false=>
    go_wp2_with fail;go_meet;exact⟨rfl,true,rfl,fun h=>by cases h⟩
   |true=>
    go_wp2_with fail;go_meet;exact⟨rfl,false,rfl,fun _=>⟨HB1.out (by first|rfl|trivial),HB2'.out (by first|rfl|trivial)⟩⟩
 case rest=>
 obtain⟨hwc,bb,rfl,hbb⟩:=hcut;rw[hwc];clear hwc;have HRW:=rA hbb;clear hbb HC1 HC2;have HG6:Hid (Gr w5 w5):=rA (Gr.refl _);have HB6:Hid (Below w.heap.size w w5):=rA (HB5.out.trans (HG6.out.1.mono HB5.out.size));have HR6:=rA ((HG6.out.1.block _ (Array.getElem?_eq_some_iff.1 HR5.out).1).trans HR5.out);have r6:w5.cell? ⟨B6,2,none⟩=some (jI kQ st)/\w5.cell? ⟨B6,3,none⟩=some (jS oa Out.length oc)/\w5.cell? ⟨B6,4,none⟩=some (jS na Nxt.length nc):=by
  have h:=HR6.out;refine⟨?_,?_,?_⟩<;>exact xS h rfl
 obtain⟨r62,r63,r64⟩:=r6;clear i5 r0 r1 r2 r3 r4;cases bb with
 |true=>
  clear r62 r63 r64;go_wp2_with fail;go_ret;exact⟨false,rfl,HB6.out⟩
 |false=>
 have HST:=rA (zOO HOK.out (HAD.out.gr (HG5.out.trans HG6.out)) hi4 (qC HG6.out HI5.out) (qC (HG5.out.trans HG6.out) HE2.out) (HS.out w5 HB6.out).1 ho4 r63 r64 (HRO.out w5 HB6.out) (HRN.out w5 HB6.out) rfl (HBB.out (by first|rfl|trivial)) (HRW.out (by first|rfl|trivial)).1 (HRW.out (by first|rfl|trivial)).2);have HP:Hid (∀V:World,V=w5.alloc (.cells #[jP (some ⟨A.ab,0,none⟩),jI kQ (Out.length:Int),jI kQ st,.func (.func 360) #[] #[jP (some ⟨B9,0,none⟩),jP (some ⟨w.heap.size+1,0,none⟩),jP (some ⟨B6,0,none⟩)],.map none] 416)->Gr w5 V/\V.heap[w5.heap.size]? =some (.cells #[jP (some ⟨A.ab,0,none⟩),jI kQ (Out.length:Int),jI kQ st,.func (.func 360) #[] #[jP (some ⟨B9,0,none⟩),jP (some ⟨w.heap.size+1,0,none⟩),jP (some ⟨B6,0,none⟩)],.map none] 416 (0,0))):=rA fun V e=>by
  subst e;exact⟨Gr.alloc _ _,rC _ _⟩
 clear r63 r64;have a3:=zI w5 #[jP (some ⟨A.ab,0,none⟩),jI kQ (Out.length:Int),jI kQ st,.nilFunc,.map none] 416 3;have a3f:(w5.alloc (.cells #[jP (some ⟨A.ab,0,none⟩),jI kQ (Out.length:Int),jI kQ st,.nilFunc,.map none] 416)).frozen? ⟨w5.heap.size,3,none⟩=false:=by
  have h:=rC w5 (.cells #[jP (some ⟨A.ab,0,none⟩),jI kQ (Out.length:Int),jI kQ st,.nilFunc,.map none] 416);exact zQj h
 simp only[rG,rF,rE] at a3;go_upto_region 14 with fail;obtain⟨hg7,hp7⟩:=HP.out _ rfl;have HG7:=rA hg7;have HP7:=rA hp7;clear HP hg7 hp7 r62 a3 a3f;generalize w5.alloc _=w8 at*;have HB8:Hid (Below w.heap.size w w8):=rA (HB6.out.trans (HG7.out.1.mono HB6.out.size));obtain⟨-, -, -, -, -, -,c17⟩:=HS.out w8 HB8.out;have e8:=qC (HG5.out.trans (HG6.out.trans HG7.out)) HE2.out;have HC:=rA (zKK HOK.out (HAD.out.gr (HG5.out.trans HG6.out)) HG7.out (rQ _) HP7.out (HSP.out w5 HB6.out) HST.out);generalize w5.heap.size=pb at*;go_wp2_with fail;refine HC.out.mono ?_;rintro e w9 ⟨b9,rfl,hf9⟩;have HF9:=rA (zG7 (b:=b9) HB6.out HM.out.1 HM.out.2.1 HM.out.2.2 hf9);clear hf9 c17 e8;go_wp2_with fail;go_ret;exact HF9.out
theorem zNS:q6 427:=by
 intro w C x cl hz hv hn4;have hCB:=(Array.getElem?_eq_some_iff.1 hz).1;have HK:Hid (∀V,Gr w V->Calls rI 357 #[jP (some ⟨C,0,none⟩),jB false] V (KnR V cl.sigs x.a1 x.c1)):=rA fun V hg=>zHo ((hg.1.block C hCB).trans hz) (hv.keep hg.1) hn4 _
 have HS:Hid (∀V,Below w.heap.size w V->V.cell? ⟨C,1,none⟩=some (jS x.a1 cl.sigs.length x.c1)/\V.cell? ⟨C,12,none⟩=some (jI kQ cl.env.ins)/\V.cell? ⟨C,13,none⟩=some (jI kQ cl.env.outs)/\V.cell? ⟨C,14,none⟩=some (jI kQ cl.env.start)/\V.cell? ⟨C,15,none⟩=some (jS x.a15 cl.env.inn.length x.c15)/\V.cell? ⟨C,16,none⟩=some (jS x.a16 cl.env.next.length x.c16)/\V.cell? ⟨C,17,none⟩=some (jS x.a17 cl.spots.length x.c17)):=rA fun V hB=>by
  have h:=(hB.block C hCB).trans hz;refine⟨?_,?_,?_,?_,?_,?_,?_⟩<;>simp[rB,h,Cv.cells]
 have HV:Hid (∀V,Below w.heap.size w V->ClV V x cl):=rA fun V hB=>hv.keep hB
 have HRO:Hid (∀V,Below w.heap.size w V->Nums V (jS x.a15 cl.env.inn.length x.c15) cl.env.inn):=rA fun V hB=>(hv.keep hB).inn
 have HRN:Hid (∀V,Below w.heap.size w V->zR V (jS x.a16 cl.env.next.length x.c16) cl.env.next):=rA fun V hB=>(hv.keep hB).enext
 have HSG:Hid (∀V,Below w.heap.size w V->SgV V (jS x.a1 cl.sigs.length x.c1) cl.sigs):=rA fun V hB=>(hv.keep hB).sigs
 have HSP:Hid (∀V,Below w.heap.size w V->SpV V (jS x.a17 cl.spots.length x.c17) cl.spots):=rA fun V hB=>(hv.keep hB).spots
 have HLN:Hid (cl.env.inn.length<=9223372036854775807/\cl.env.next.length<=9223372036854775807):=rA ⟨hv.innL,by obtain⟨_,_,_,h,_⟩:=hv.enext;exact h⟩;have HW:Hid (∀V,V=(w.alloc (.cells #[jP (some ⟨C,0,none⟩)] 94)).alloc (.cells #[jP (some ⟨C,0,none⟩)] 61)->Gr w V/\V.cell? ⟨w.heap.size+1,0,none⟩=some (jP (some ⟨C,0,none⟩))):=rA fun V e=>by
  subst e;refine⟨(Gr.alloc _ _).trans (Gr.alloc _ _),?_⟩;have h:=xH (W:=w.alloc (.cells #[jP (some ⟨C,0,none⟩)] 94)) (n:=w.heap.size+1) (by simp) (.cells #[jP (some ⟨C,0,none⟩)] 61);exact xS h rfl
 have d0:=zI w #[jP (some ⟨C,0,none⟩)] 94 0;simp only[rG,rF,rE] at d0;clear hz hv hn4 HV;generalize x.a1=sa at*;generalize x.c1=sc at*;generalize x.a15=oa at*;generalize x.c15=oc at*;generalize x.a16=na at*;generalize x.c16=nc at*;generalize x.a17=pa at*;generalize x.c17=pc at*;generalize cl.sigs=l at*;generalize cl.env.ins=I at*;generalize cl.env.outs=O at*;generalize cl.env.start=st at*;generalize cl.env.inn=Out at*;generalize cl.env.next=Nxt at*;generalize cl.spots=L at*;clear x cl;go_enter Tryz.func427,Tryz.ntmps427;go_upto_region 2 with fail;obtain⟨hg1,e1⟩:=HW.out _ rfl;have HG1:=rA hg1;have HE1:=rA e1;have HC:=rA (HK.out _ hg1);clear HW hg1 d0 HK;generalize (w.alloc _).alloc _=w1 at*;go_wp2_with fail;refine HC.out.mono ?_;rintro e w2 ⟨pv,b,rfl,hB2,hA⟩;have HB2:Hid (Below w.heap.size w w2):=rA (HG1.out.1.trans (hB2.mono HG1.out.1.size));have e2:w2.cell? ⟨w.heap.size+1,0,none⟩=some (jP (some ⟨C,0,none⟩)):=(rR (hB2.block _ (by unfold rB at e1;cases hk:w1.heap[w.heap.size+1]? with|none=>rw[hk] at e1;simp at e1|some o=>exact(Array.getElem?_eq_some_iff.1 hk).1))).trans e1;have HE2:=rA e2;clear HC e1 HE1;cases b with
 |false=>
  clear e2 hA hB2;go_wp2_with fail;go_ret;exact⟨false,rfl,HB2.out⟩
 |true=>
 obtain⟨hsw,A,rfl,rfl,rfl,rfl,hok,had,m1,m2,m3⟩:=hA rfl;have HSW:=rA hsw;have HOK:=rA hok;have HAD:=rA had;have HM:Hid (w.heap.size<=A.m1/\w.heap.size<=A.m2/\w.heap.size<=A.m3):=rA (by have:=HG1.out.1.size;omega);clear hsw hok had m1 m2 m3 hB2 hA HG1;obtain⟨c1,c7,c8,c9,c10,c11,c17⟩:=HS.out w2 HB2.out;go_upto_region 6 with fail;have HG3:=rA (Gr.alloc w2 (.cells #[jI kQ I,jI kQ O,jI kQ st,jS oa Out.length oc,jS na Nxt.length nc] 38));have HR3:=rA (rC w2 (.cells #[jI kQ I,jI kQ O,jI kQ st,jS oa Out.length oc,jS na Nxt.length nc] 38));clear c1 c7 c8 c9 c10 c11 c17 e2;generalize w2.heap.size=B6 at*;generalize w2.alloc _=w3 at*;have HB3:Hid (Below w.heap.size w w3):=rA (HB2.out.trans (HG3.out.1.mono HB2.out.size));obtain⟨c1, -⟩:=HS.out w3 HB3.out;have e3:=qC HG3.out HE2.out;have r3:w3.cell? ⟨B6,3,none⟩=some (jS oa Out.length oc):=xS HR3.out rfl;have HC:=rA (zD0 (HSG.out w3 HB3.out) HSW.out);go_wp2_with fail;refine HC.out.mono ?_;rintro e w4 ⟨ins,outs,hi1,ho1,hi4,ho4,rfl,hg4⟩;have HG4:=rA (HG3.out.trans hg4);have HR4:=rA ((hg4.1.block _ (Array.getElem?_eq_some_iff.1 HR3.out).1).trans HR3.out);clear c1 e3 r3 hg4 HC HG3 HR3 HB3;go_upto_region 8 with fail;have HG5:=rA (HG4.out.trans (Gr.alloc w4 (.cells #[jI kQ (outs:Nat)] 3)));have HR5:=rA ((rM w4 (.cells #[jI kQ (outs:Nat)] 3) (Array.getElem?_eq_some_iff.1 HR4.out).1).trans HR4.out);have HI5:Hid ((w4.alloc (.cells #[jI kQ (outs:Nat)] 3)).cell? ⟨w4.heap.size,0,none⟩=some (jI kQ (outs:Nat))):=rA (by rw[zI];rfl);clear HG4 HR4;generalize w4.heap.size=B9 at*;generalize w4.alloc _=w5 at*;have HB5:Hid (Below w.heap.size w w5):=rA (HB2.out.trans (HG5.out.1.mono HB2.out.size));have i5:=HI5.out;have r5:w5.cell? ⟨B6,0,none⟩=some (jI kQ I)/\w5.cell? ⟨B6,1,none⟩=some (jI kQ O)/\w5.cell? ⟨B6,2,none⟩=some (jI kQ st)/\w5.cell? ⟨B6,3,none⟩=some (jS oa Out.length oc)/\w5.cell? ⟨B6,4,none⟩=some (jS na Nxt.length nc):=by
  have h:=HR5.out;refine⟨?_,?_,?_,?_,?_⟩<;>exact xS h rfl
 obtain⟨r0,r1,r2,r3,r4⟩:=r5;go_cut [72] from 37 to 71 (fun u wx=>wx=w5/\∃bb,u=jB bb/\(bb=false->Nxt.length=Out.length))
 case first=>
  by_cases h1:I=(ins:Int);rotate_left
  ·have d1:(I !=(ins:Int))=true:=by rw[bne_iff_ne];exact h1
   go_wp2_with fail;go_meet;exact⟨rfl,true,rfl,fun h=>by cases h⟩
  have d1:(I !=(ins:Int))=false:=by rw[bne_eq_false_iff_eq];exact h1
  clear h1;by_cases h2:O=(outs:Int);rotate_left
  ·have d2:(O !=(outs:Int))=true:=by rw[bne_iff_ne];exact h2
   go_wp2_with fail;go_meet;exact⟨rfl,true,rfl,fun h=>by cases h⟩
  have d2:(O !=(outs:Int))=false:=by rw[bne_eq_false_iff_eq];exact h2
  clear h2;by_cases h3:Out.length<1
  ·have d3:decide ((Out.length:Int)<1)=true:=by rw[decide_eq_true_iff];omega
   have d3':decide (Out.length<1)=true:=by rw[decide_eq_true_iff];omega
   go_wp2_with fail;go_meet;exact⟨rfl,true,rfl,fun h=>by cases h⟩
  have d3:decide ((Out.length:Int)<1)=false:=by rw[decide_eq_false_iff_not];omega
  have d3':decide (Out.length<1)=false:=by rw[decide_eq_false_iff_not];omega
  clear h3;by_cases h4:Out.length>3000
  ·have d4:decide ((Out.length:Int)>3000)=true:=by rw[decide_eq_true_iff];omega
   have d4':decide ((3000:Int)<(Out.length:Int))=true:=by rw[decide_eq_true_iff];omega
   have d4'':decide (3000<Out.length)=true:=by rw[decide_eq_true_iff];omega
   go_wp2_with fail;go_meet;exact⟨rfl,true,rfl,fun h=>by cases h⟩
  have d4:decide ((Out.length:Int)>3000)=false:=by rw[decide_eq_false_iff_not];omega
  have d4':decide ((3000:Int)<(Out.length:Int))=false:=by rw[decide_eq_false_iff_not];omega
  have d4'':decide (3000<Out.length)=false:=by rw[decide_eq_false_iff_not];omega
  clear h4;by_cases h5:Nxt.length=Out.length;rotate_left
  ·have d5:((Nxt.length:Int) !=(Out.length:Int))=true:=by rw[bne_iff_ne];omega
   go_wp2_with fail;go_meet;exact⟨rfl,true,rfl,fun h=>by cases h⟩
  have d5:((Nxt.length:Int) !=(Out.length:Int))=false:=by rw[bne_eq_false_iff_eq];omega
  have HH5:=rA h5;clear h5;by_cases h6:st<0
  ·have d6:=dT h6
   go_wp2_with fail;go_meet;exact⟨rfl,true,rfl,fun _=>HH5.out⟩
  have d6:=dF h6
  go_wp2_with fail;go_meet;exact⟨rfl,_,rfl,fun _=>HH5.out⟩
 case rest=>
 obtain⟨hwc,bb,rfl,hbb⟩:=hcut;rw[hwc];clear hwc;have HBB:=rA hbb;clear hbb;cases bb with
 |true=>
  clear i5 r0 r1 r2 r3 r4;go_wp2_with fail;go_ret;exact⟨false,rfl,HB5.out⟩
 |false=>
 have HN1:Hid (∀V,V=w5.alloc (.cells #[jS oa Out.length oc] 22)->zR V (jS (some ⟨w5.heap.size,0,none⟩) 1 1) [Out]):=rA fun V e=>by
  subst e;refine⟨_,_,rfl,by simp,fun _=>⟨_,0,rfl,by simp,fun j hj=>?_⟩⟩;have hj0:j=0:=by simpa using hj
  subst hj0;have hcell:=zI w5 #[jS oa Out.length oc] 22 0;exact⟨HLN.out.1,oa,oc,hcell,(HRO.out w5 HB5.out).keep (Gr.alloc _ _).1⟩
 have HB6A:Hid (Below w.heap.size w (w5.alloc (.cells #[jS oa Out.length oc] 22))):=rA (HB5.out.alloc HB5.out.size _);have HC1:=rA (zF7 (L:=[Out]) (len:=Out.length) (less:=ins) (HN1.out _ rfl) HLN.out.1 (by omega));have HC2:=rA (zF7 (len:=outs) (less:=Out.length) (HRN.out _ HB6A.out) (by omega) HLN.out.1);have k4:=qC (Gr.alloc w5 (.cells #[jS oa Out.length oc] 22)) r4;have ki:=qC (Gr.alloc w5 (.cells #[jS oa Out.length oc] 22)) i5;go_upto_region 10 with fail;go_cut [87] from 73 to 86 (fun u wx=>wx=w5.alloc (.cells #[jS oa Out.length oc] 22)/\∃bb,u=jB bb/\(bb=false->RowsIn [Out] Out.length ins/\RowsIn Nxt outs Out.length))
 case first=>
  go_wp2_with fail;refine HC1.out.mono ?_;rintro e w6 ⟨rfl,b1,rfl,hb1⟩;have HB1:=rA hb1;clear hb1;cases b1 with
  |false=>
   go_wp2_with fail;go_meet;exact⟨rfl,true,rfl,fun h=>by cases h⟩
  |true=>
   go_wp2_with fail;refine HC2.out.mono ?_;rintro e w7 ⟨rfl,b2,rfl,hb2⟩;have HB2':=rA hb2;clear hb2;cases b2 with
   |false=>
    go_wp2_with fail;go_meet;exact⟨rfl,true,rfl,fun h=>by cases h⟩
   |true=>
    go_wp2_with fail;go_meet;exact⟨rfl,false,rfl,fun _=>⟨HB1.out (by first|rfl|trivial),HB2'.out (by first|rfl|trivial)⟩⟩
 case rest=>
 obtain⟨hwc,bb,rfl,hbb⟩:=hcut;rw[hwc];clear hwc;have HRW:=rA hbb;have HG6:=rA (Gr.alloc w5 (.cells #[jS oa Out.length oc] 22));clear hbb HC1 HC2 k4 ki HN1 HB6A;generalize w5.alloc (.cells #[jS oa Out.length oc] 22)=w6 at*;have HB6:Hid (Below w.heap.size w w6):=rA (HB5.out.trans (HG6.out.1.mono HB5.out.size));have HR6:=rA ((HG6.out.1.block _ (Array.getElem?_eq_some_iff.1 HR5.out).1).trans HR5.out);have r6:w6.cell? ⟨B6,2,none⟩=some (jI kQ st)/\w6.cell? ⟨B6,3,none⟩=some (jS oa Out.length oc)/\w6.cell? ⟨B6,4,none⟩=some (jS na Nxt.length nc):=by
  have h:=HR6.out;refine⟨?_,?_,?_⟩<;>exact xS h rfl
 obtain⟨r62,r63,r64⟩:=r6;clear i5 r0 r1 r2 r3 r4;cases bb with
 |true=>
  clear r62 r63 r64;go_wp2_with fail;go_ret;exact⟨false,rfl,HB6.out⟩
 |false=>
 have HST:=rA (zNp HOK.out (HAD.out.gr (HG5.out.trans HG6.out)) ho4 (qC HG6.out HI5.out) (qC (HG5.out.trans HG6.out) HE2.out) (HS.out w6 HB6.out).1 hi4 r63 r64 (HRO.out w6 HB6.out) (HRN.out w6 HB6.out) rfl (HBB.out (by first|rfl|trivial)) (fun j hj=>by have h:=(HRW.out (by first|rfl|trivial)).1 0 (by simp);exact h.2 j (by simpa using hj)) (HRW.out (by first|rfl|trivial)).2);have HP:Hid (∀V:World,V=w6.alloc (.cells #[jP (some ⟨A.ab,0,none⟩),jI kQ (Out.length:Int),jI kQ st,.func (.func 428) #[] #[jP (some ⟨B9,0,none⟩),jP (some ⟨w.heap.size+1,0,none⟩),jP (some ⟨B6,0,none⟩)],.map none] 416)->Gr w6 V/\V.heap[w6.heap.size]? =some (.cells #[jP (some ⟨A.ab,0,none⟩),jI kQ (Out.length:Int),jI kQ st,.func (.func 428) #[] #[jP (some ⟨B9,0,none⟩),jP (some ⟨w.heap.size+1,0,none⟩),jP (some ⟨B6,0,none⟩)],.map none] 416 (0,0))):=rA fun V e=>by
  subst e;exact⟨Gr.alloc _ _,rC _ _⟩
 clear r63 r64;have a3:=zI w6 #[jP (some ⟨A.ab,0,none⟩),jI kQ (Out.length:Int),jI kQ st,.nilFunc,.map none] 416 3;have a3f:(w6.alloc (.cells #[jP (some ⟨A.ab,0,none⟩),jI kQ (Out.length:Int),jI kQ st,.nilFunc,.map none] 416)).frozen? ⟨w6.heap.size,3,none⟩=false:=by
  have h:=rC w6 (.cells #[jP (some ⟨A.ab,0,none⟩),jI kQ (Out.length:Int),jI kQ st,.nilFunc,.map none] 416);exact zQj h
 simp only[rG,rF,rE] at a3;go_upto_region 14 with fail;obtain⟨hg7,hp7⟩:=HP.out _ rfl;have HG7:=rA hg7;have HP7:=rA hp7;clear HP hg7 hp7 r62 a3 a3f;generalize w6.alloc _=w8 at*;have HB8:Hid (Below w.heap.size w w8):=rA (HB6.out.trans (HG7.out.1.mono HB6.out.size));obtain⟨-, -, -, -, -, -,c17⟩:=HS.out w8 HB8.out;have e8:=qC (HG5.out.trans (HG6.out.trans HG7.out)) HE2.out;have HC:=rA (zKK HOK.out (HAD.out.gr (HG5.out.trans HG6.out)) HG7.out (rQ _) HP7.out (HSP.out w6 HB6.out) HST.out);generalize w6.heap.size=pb at*;go_wp2_with fail;refine HC.out.mono ?_;rintro e w9 ⟨b9,rfl,hf9⟩;have HF9:=rA (zG7 (b:=b9) HB6.out HM.out.1 HM.out.2.1 HM.out.2.2 hf9);clear hf9 c17 e8;go_wp2_with fail;go_ret;exact HF9.out
