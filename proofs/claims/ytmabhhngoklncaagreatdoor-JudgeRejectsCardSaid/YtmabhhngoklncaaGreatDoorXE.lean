/- The judge's state of a spot. -/
import Derived.Test.YtmabhhngoklncaaGreatDoorXD
set_option maxRecDepth 100000
set_option maxHeartbeats 40000000
set_option linter.all false
open Go.Lib renaming hid->rA
open List renaming replicate->rB,cons_append->rH,nil_append->rI,getElem?_cons_succ->rP,getElem?_toArray->rR,getElem_mem->rS
open Go.World renaming cell?->rC
open Go.Proofs.Tryz renaming prog->rD
open Go renaming wp_region_held_drew->rE,wpAnyH_done->rF,heap_alloc_new->rG,heap_alloc_old->rL,bodyPost_ret->rQ,run_underlying->rU
open Int renaming natCast_nonneg->rJ
open Go.Result renaming andThen->rK
open Go.Sem renaming run_pure->rM,run_bind->rN
open Go.Instr renaming lookup->rO,sureAddr->rT
open Go.Value renaming int->jI,slice->jS,pointer->jP,bool->jB,agg->jG,tuple->jU
open Go.IntKind renaming i64->kQ,u16->kU
open Go.Ending renaming returned->jR
open Go Go.RowKit Go.Sort
namespace Go.Proofs.YtmabhhngoklncaaGreatDoor
variable {A:Ad}{w W w1 wr w':World}{bs:List Bool}{m g t n st:Int}{rb x B pb q:Nat}{a:Act}{o:Oper}{S:List Int}{p:Operand}{v:Value}
def PrV (A:Ad) (W:World) (pb:Nat) (n st:Int) (fv:Value) (rb:Nat):Prop:=W.heap[pb]? =some (.cells #[jP (some ⟨A.ab,0,none⟩),jI kQ n,jI kQ st,fv,.map (some rb)] 416 (0,0))
def zDq (le:Nat) (S:List Int):Nat->Nat->Bool
 |0,_=>true
 |f+1,k=>if k<S.length then !(decide (S.getD k 0<0)||decide ((le:Int)<=S.getD k 0)||(decide (0<k)&&decide (S.getD k 0<=S.getD (k - 1) 0)))&&zDq le S f (k+1) else true
def zEj (n:Int) (A:Ad) (m g:Int) (S:List Int) (t r:Int):Bool:=
 !(decide (m<0)||decide (n<=m)||decide (g<0)||decide (((2 ^ A.P.length:Nat):Int)<=g))&& !(decide (t<0)||decide (max 1 (A.un.length:Int)<=t)||decide (r<0))&&zDq A.E.length S (S.length+1) 0
def StR (A:Ad) (n m g:Int) (S:List Int) (t r:Int) (w:World) (e:Ending) (w':World):Prop:=∃bs:List Bool,bs.length=16/\(∀i,bs[i]? =some true->i<A.E.length)/\e=jR (jU #[jG (stC m g t bs),jB (zEj n A m g S t r)])/\Gr w w'
theorem zQC (h:bs.length=16) (hx:x<16):(stC m g t bs).setIfInBounds (2+x) (jB true)=stC m g t (bs.set x true):=by
 have e:2+x=(x+1)+1:=by omega
 rw[e];simp only[stC,stL,List.setIfInBounds_toArray,List.set_cons_succ];rw[List.set_append_left _ _ (by simp[h];exact hx),List.map_set]
theorem zDL (le:Nat) (S:List Int) (f k:Nat):zDq le S (f+1) k=if k<S.length then !(decide (S.getD k 0<0)||decide ((le:Int)<=S.getD k 0)||(decide (0<k)&&decide (S.getD k 0<=S.getD (k - 1) 0)))&&zDq le S f (k+1) else true:=rfl
structure StS (A:Ad) (w1 wr:World) (B:Nat) (m g t:Int) (bs:List Bool):Prop where
 gr:Gr w1 wr
 len:bs.length=16
 ok:∀i,bs[i]? =some true->i<A.E.length
 blk:wr.heap[B]? =some (.cells (stC m g t bs) 424 (0,0))
theorem StS.drew (h:StS A w1 wr B m g t bs) (q:Nat):StS A w1 (wr.drewN q) B m g t bs:=⟨h.gr.trans (Gr.drawn wr q),h.len,h.ok,h.blk⟩
theorem StS.put (h:StS A w1 wr B m g t bs) (hB:w1.heap.size<=B) (hx:x<16) (hxE:x<A.E.length):
  (∃u,wr.cell? ⟨B,2+x,none⟩=some u)/\wr.frozen? ⟨B,2+x,none⟩=false/\StS A w1 (wr.setCell ⟨B,2+x,none⟩ (jB true)) B m g t (bs.set x true):=by
 refine⟨?_,by simp[World.frozen?,h.blk],Gr.setCell h.gr hB _,by simp[h.len],fun i hi=>?_,?_⟩
 ·have hs:=qB (m:=m) (g:=g) (t:=t) h.len
  refine⟨(stC m g t bs)[2+x]'(by omega),?_⟩;simp[rC,h.blk,hs,show 2+x<19 by omega]
 ·by_cases e:x=i
  ·rw[<-e];exact hxE
  ·rw[List.getElem?_set_ne e] at hi
   exact h.ok i hi
 ·rw[heap_setCell_same _ _ (2+x) _ 424 _ h.blk,zQC h.len hx]
theorem StS.out {r:Int}{v:Bool} (h:StS A w1 wr (W.heap.size+1+1) m g t bs) (h1:Gr W w1) (h2:w1.heap.size=W.heap.size+1+1) (h3:w1.heap[W.heap.size+1]? =some (.cells (stC 0 0 0 (rB 16 false)) 424 (0,0))) (hv:zEj n A m g S t r=v):
  wr.heap[W.heap.size+1]? =some (.cells (stC 0 0 0 (rB 16 false)) 424 (0,0))/\(wr.setRow (W.heap.size+1) (stC m g t bs)).heap[W.heap.size+1]? =some (.cells (stC m g t bs) 424 (0,0))/\
   StR A n m g S t r W (jR (jU #[jG (stC m g t bs),jB v])) (wr.setRow (W.heap.size+1) (stC m g t bs)):=by
 have hb:=(h.gr.1.block (W.heap.size+1) (by omega)).trans h3;have hg:=h1.trans h.gr;refine⟨hb,setRow_heap _ _ _ _ 424 _ hb,bs,h.len,h.ok,by rw[hv],⟨hg.1.os,hg.1.tape,hg.1.output,by have:=hg.1.size;simpa[World.setRow] using this,fun k hk=>(setRow_other _ (W.heap.size+1) k _ (by omega)).trans (hg.1.block k hk)⟩,hg.2⟩
theorem zOo (hok:zBs A) (hv:AdV A W){fv:Value} (hp:PrV A W pb n st fv rb){sa:Option Addr}{sc:Nat} (m g t r:Int) (hs:Nums W (jS sa S.length sc) S) (hS:S.length<=9223372036854775807):
  Calls rD 368 #[jP (some ⟨pb,0,none⟩),jG #[jI kQ m,jI kQ g,jS sa S.length sc,jI kQ t,jI kQ r]] W (StR A n m g S t r W):=by
 have HV:=rA hv;have hp8:=hok.pl;have hu16:=hok.unl;have he16:=hok.el;have HPR:Hid (∀V,Gr W V->V.cell? ⟨pb,0,none⟩=some (jP (some ⟨A.ab,0,none⟩))/\V.cell? ⟨pb,1,none⟩=some (jI kQ n)):=rA fun V hg=>by
  have b0:=(hg.1.block pb (Array.getElem?_eq_some_iff.1 hp).1).trans hp;simp[rC,b0]
 have HW:Hid (∀W':World,W'=(W.alloc (.cells #[jI kQ m,jI kQ g,jS sa S.length sc,jI kQ t,jI kQ r] 166)).alloc (.cells (stC 0 0 0 (rB 16 false)) 424)->Gr W W'/\W'.heap.size=W.heap.size+1+1/\W'.heap[W.heap.size+1]? =some (.cells (stC 0 0 0 (rB 16 false)) 424 (0,0))/\∀V:World,Gr W' V->
   V.cell? ⟨W.heap.size,0,none⟩=some (jI kQ m)/\V.cell? ⟨W.heap.size,1,none⟩=some (jI kQ g)/\V.cell? ⟨W.heap.size,2,none⟩=some (jS sa S.length sc)/\V.cell? ⟨W.heap.size,3,none⟩=some (jI kQ t)/\V.cell? ⟨W.heap.size,4,none⟩=some (jI kQ r)):=rA fun W' e=>by
  subst e;refine⟨(Gr.alloc W (.cells #[jI kQ m,jI kQ g,jS sa S.length sc,jI kQ t,jI kQ r] 166)).trans (Gr.alloc (W.alloc (.cells #[jI kQ m,jI kQ g,jS sa S.length sc,jI kQ t,jI kQ r] 166)) _),by simp,xH (by simp) _,fun V hg=>?_⟩;have b0:=(hg.1.block W.heap.size (by simp;omega)).trans ((rL _ _ (by simp)).trans (rG W _));simp[rC,b0]
 simp only[stC,stL,rB,List.map,rH,rI] at HW;have HNS:=rA hs;clear hv hp hok hs;go_enter Tryz.func368,Tryz.ntmps368;go_upto_region 1 with fail;obtain⟨hg1,hsz,hz1,hcs⟩:=HW.out _ rfl;have HG1:=rA hg1;have HS:=rA hcs;have HZ1:=rA hz1;clear HW hg1 hcs hz1;generalize (W.alloc _).alloc _=w1 at*;obtain⟨s0,s1,s2,s3,s4⟩:=HS.out _ (Gr.refl w1);have HZ2:=rA (rG w1 (.cells (stC 0 0 0 (rB 16 false)) 424));rw[hsz] at HZ2;simp only[stC,stL,rB,List.map,rH,rI] at HZ2;go_upto_region 2 with(first|(refine xF rfl (.tmp 6) (.tmp 15) rfl _ _ (W.heap.size+1+1) rfl HZ2.out rfl (zAJ m g t (rB 16 false)) rfl rfl ?_));have HW2:Hid (∀V:World,V=(w1.alloc (.cells (stC 0 0 0 (rB 16 false)) 424)).setRow (W.heap.size+1+1) (stC m g t (rB 16 false))->Gr w1 V/\V.heap[W.heap.size+2]? =some (.cells (stC m g t (rB 16 false)) 424 (0,0))):=rA fun V e=>by
  rw[<-hsz,World.setRow_alloc_new] at e;subst e;exact⟨Gr.alloc _ _,by rw[show W.heap.size+2=w1.heap.size by omega];exact rG _ _⟩
 simp only[stC,stL,rB,List.map,rH,rI] at HW2;obtain⟨hg2,hb2⟩:=HW2.out _ rfl;have HG2:=rA hg2;have HB2:=rA hb2;clear HW2 hg2 hb2 HZ2 s0 s1 s2 s3 s4;generalize (w1.alloc _).setRow _ _=w2 at*;obtain⟨s0,s1,s2,s3,s4⟩:=HS.out _ HG2.out;obtain⟨p0,p1⟩:=HPR.out _ (HG1.out.trans HG2.out);have a1:=(HV.out.gr (HG1.out.trans HG2.out)).cell.2.1;try simp only[Act.put]
 go_cut [46] from 16 to 45 (fun u wx=>u=jB (decide (m<0)||decide (n<=m)||decide (g<0)||decide (((2 ^ A.P.length:Nat):Int)<=g))/\∃q,wx=w2.drewN q)
 case first=>
  by_cases h1:m<0
  ·have d1:=dT h1
   go_quiet (fail);go_wp2_with fail;go_meet;exact⟨by simp[h1],_,rfl⟩
  have d1:=dF h1
  by_cases h2:n<=m
  ·have d2:=dT h2
   go_quiet (fail);go_wp2_with fail;go_meet;exact⟨by simp[h2],_,rfl⟩
  have d2:=dF h2
  by_cases h3:g<0
  ·have d3:=dT h3
   go_quiet (fail);go_wp2_with fail;go_meet;exact⟨by simp[h3],_,rfl⟩
  have d3:=dF h3
  have hw:wrap64 ((2:Int) ^ A.P.length)=(2:Int) ^ A.P.length:=by
   have h:(2:Int) ^ A.P.length=((2 ^ A.P.length:Nat):Int):=by simp
   have hb:2 ^ A.P.length<=2 ^ 8:=Nat.pow_le_pow_right (by omega) hp8;rw[h];generalize 2 ^ A.P.length=q at*;simp only[wrap64];omega
  go_quiet (fail);go_wp2_with fail;go_meet;exact⟨by rw[d1,d2,d3];simp,_,rfl⟩
 case rest=>
  obtain⟨rfl,q,rfl⟩:=hcut;by_cases hbad:(decide (m<0)||decide (n<=m)||decide (g<0)||decide (((2 ^ A.P.length:Nat):Int)<=g))=true
  ·rw[hbad]
   have HZ:Hid ((w2.drewN q).heap[W.heap.size+1]? =some (.cells QA.q 424 (0,0))):=rA ((HG2.out.1.block _ (by omega)).trans HZ1.out);have HE:Hid (((w2.drewN q).setRow (W.heap.size+1) (stC m g t (rB 16 false))).heap[W.heap.size+1]? =some (.cells (stC m g t (rB 16 false)) 424 (0,0))/\Gr W ((w2.drewN q).setRow (W.heap.size+1) (stC m g t (rB 16 false)))):=by
    have hg:=(HG1.out.trans HG2.out).trans (Gr.drawn w2 q);exact rA ⟨setRow_heap _ _ _ _ 424 _ HZ.out,⟨⟨hg.1.os,hg.1.tape,hg.1.output,by have:=hg.1.size;simpa[World.setRow] using this,fun k hk=>(setRow_other _ (W.heap.size+1) k _ (by omega)).trans (hg.1.block k hk)⟩,hg.2⟩⟩
   have HOK:Hid (zEj n A m g S t r=false):=rA (by unfold zEj;rw[hbad];rfl);clear s0 s1 s2 s3 s4 p0 p1 a1 hbad;go_wp2_with (first|(refine qG rfl (.tmp 6) rfl (stC m g t (rB 16 false)) (W.heap.size+1+1) rfl HB2.out rfl ?_)|(refine xF rfl (.tmp 4) (.tmp 47) rfl _ (stC m g t (rB 16 false)) (W.heap.size+1) rfl HZ.out rfl (zAJ m g t (rB 16 false)) rfl rfl ?_));exact rQ (zIN rfl rfl HE.out.1 rfl) rfl ⟨rB 16 false,rfl,fun i h=>by(rw[List.getElem?_replicate] at h;split at h<;>cases h),by rw[HOK.out];rfl,HE.out.2⟩
  ·have hb0:(decide (m<0)||decide (n<=m)||decide (g<0)||decide (((2 ^ A.P.length:Nat):Int)<=g))=false:=by simpa using hbad
   rw[hb0];have HB0:=rA hb0;have a3:=(HV.out.gr (HG1.out.trans HG2.out)).cell.2.2.2.1;clear hbad hb0;go_upto_region 4 with fail;go_cut [69] from 48 to 68 (fun u wx=>u=jB (decide (t<0)||decide (max 1 (A.un.length:Int)<=t)||decide (r<0))/\∃q2,wx=w2.drewN q2)
   case first=>
    by_cases h1:t<0
    ·have d1:=dT h1
     go_quiet (fail);go_wp2_with fail;go_meet;exact⟨by simp[h1],q+nq,by first|rfl|(rw[xD])⟩
    have d1:=dF h1
    by_cases h2:max 1 (A.un.length:Int)<=t
    ·have d2:=dT h2
     go_quiet (fail);go_wp2_with fail;go_meet;exact⟨by simp[h2],q+nq,by first|rfl|(rw[xD])⟩
    have d2:=dF h2
    go_quiet (fail);go_wp2_with fail;go_meet;exact⟨by rw[d1,d2];simp,q+nq,by first|rfl|(rw[xD])⟩
   case rest=>
    obtain⟨rfl,q2,rfl⟩:=hcut;have HQ:Hid (StS A w1 (w2.drewN q2) (W.heap.size+1+1) m g t (rB 16 false)):=rA ⟨HG2.out.trans (Gr.drawn w2 q2),rfl,fun i h=>by(rw[List.getElem?_replicate] at h;split at h<;>cases h),HB2.out⟩;have HZS:Hid (w1.heap[W.heap.size+1]? =some (.cells (stC 0 0 0 (rB 16 false)) 424 (0,0))):=rA HZ1.out;by_cases hbad:(decide (t<0)||decide (max 1 (A.un.length:Int)<=t)||decide (r<0))=true
    ·rw[hbad]
     have HOK:Hid (zEj n A m g S t r=false):=rA (by unfold zEj;rw[hbad,HB0.out];rfl);have HO:=rA (HQ.out.out HG1.out hsz HZS.out HOK.out);have HOB:=rA HO.out.1;clear s0 s1 s2 s3 s4 p0 p1 a1 a3 hbad;go_wp2_with (first|(refine qG rfl (.tmp 6) rfl (stC m g t (rB 16 false)) (W.heap.size+1+1) rfl HB2.out rfl ?_)|(refine xF rfl (.tmp 4) (.tmp 70) rfl _ (stC m g t (rB 16 false)) (W.heap.size+1) rfl HOB.out rfl (zAJ m g t (rB 16 false)) rfl rfl ?_));exact rQ (zIN rfl rfl HO.out.2.1 rfl) rfl HO.out.2.2
    have hb1:(decide (t<0)||decide (max 1 (A.un.length:Int)<=t)||decide (r<0))=false:=by simpa using hbad
    rw[hb1];have HOK:Hid (zEj n A m g S t r=zDq A.E.length S (S.length+1) 0):=rA (by unfold zEj;rw[hb1,HB0.out];simp);clear hbad hb1 s0 s1 s3 s4 p0 p1 a1 a3;go_wp2_with fail;go_loopw [74] (fun i wr=>∃(k:Nat) (bs:List Bool),k<=S.length/\i=jI kQ k/\Hid (StS A w1 wr (W.heap.size+1+1) m g t bs/\zDq A.E.length S (S.length+1) 0=zDq A.E.length S (S.length+1 - k) k)) (fun i _=>S.length - (intOf i).toNat)
    case atStart=>exact⟨0,_,Nat.zero_le _,rfl,rA ⟨HQ.out,rfl⟩⟩
    case round=>
     clear s2 HQ;obtain⟨k,bs,hk,rfl,HR⟩:=hrel;have HL:=rA HR.out.1.len;have HBK:=rA HR.out.1.blk;by_cases hlt:k<S.length;rotate_left
     ·have hd:=dF hlt
      have HO:=rA (HR.out.1.out (v:=true) (n:=n) (r:=r) (S:=S) HG1.out hsz HZS.out (by rw[HOK.out,HR.out.2,show S.length+1 - k=0+1 by omega,zDL,if_neg hlt]));have HOB:=rA HO.out.1;go_wp2_with (first|(refine qG rfl (.tmp 6) rfl (stC m g t bs) (W.heap.size+1+1) rfl HBK.out (qB HL.out) ?_)|(refine xF rfl (.tmp 4) (.tmp 112) rfl _ (stC m g t bs) (W.heap.size+1) rfl HOB.out rfl (zAJ m g t bs) rfl (qB HL.out) ?_));exact rQ (zIN rfl rfl HO.out.2.1 (qB HL.out)) rfl HO.out.2.2
     have hd:=dT hlt
     have hkl:(k:Int)<(S.length:Int):=by omega
     have hk0:(0:Int)<=(k:Int):=rJ _;have HGW:Hid (Gr W wr):=rA (HG1.out.trans HR.out.1.gr);obtain⟨b,o,hsa,c0⟩:=(HNS.out.keep HGW.out.1).at' hlt;have HPR1:Hid (∀k1,k=k1+1->wr.cell? ⟨b,o+k1,none⟩=some (jI kQ (S.getD (k - 1) 0))):=rA fun k1 e=>by
      obtain⟨b2,o2,hsa2,c2⟩:=(HNS.out.keep HGW.out.1).at' (k:=k1) (by omega);rw[hsa] at hsa2;cases hsa2;rw[e,Nat.add_sub_cancel];exact c2
     obtain⟨s0,s1,s2,s3,s4⟩:=HS.out _ HR.out.1.gr;obtain⟨p0,p1⟩:=HPR.out _ HGW.out;have a2:=(HV.out.gr HGW.out).cell.2.2.1;rw[hsa] at s2;have HSTEP:=rA HR.out.2;have HSS:=rA HR.out.1;obtain⟨x,hx⟩:∃x,S.getD k 0=x:=⟨_,rfl⟩;obtain⟨y,hy⟩:∃y,S.getD (k - 1) 0=y:=⟨_,rfl⟩;rw[hx] at c0;rw[hy] at HPR1;have HX:=rA hx;have HY:=rA hy;rw[hsa];clear hx hy s0 s1 s3 s4 p1 HR HGW hsa;go_upto_region 9 with fail;clear c0;go_cut [106] from 79 to 105 (fun u wx=>u=jB (decide (x<0)||decide ((A.E.length:Int)<=x)||(decide (0<k)&&decide (x<=y)))/\∃q,wx=wr.drewN q)
     case first=>
      by_cases h1:x<0
      ·have d1:=dT h1
       go_wp2_with fail;go_meet;exact⟨by simp[h1],0,rfl⟩
      have d1:=dF h1
      by_cases h2:(A.E.length:Int)<=x
      ·have d2:=dT h2
       go_wp2_with fail;go_meet;exact⟨by simp[h2],0,rfl⟩
      have d2:=dF h2
      cases k with
      |zero=>
       go_wp2_with fail;go_meet;exact⟨by rw[d1,d2];rfl,0,rfl⟩
      |succ k1=>
       have c1:=HPR1.out k1 rfl;have hw:((k1+1:Nat):Int) - 1=(k1:Int):=by omega
       have hw2:wrap64 (k1:Int)=(k1:Int):=by simp only[wrap64];omega
       have hk1:(k1:Int)<(S.length:Int):=by omega
       have hk1':k1<S.length:=by omega
       have hk00:(0:Int)<=(k1:Int):=rJ _;have hg0:decide (((k1+1:Nat):Int)>0)=true:=by rw[decide_eq_true_iff];omega
       have hg1:decide (0<k1+1)=true:=by simp
       have hg2:decide ((0:Int)<(k1:Int)+1)=true:=by rw[decide_eq_true_iff];omega
       have hw3:(k1:Int)+1 - 1=(k1:Int):=by omega
       go_wp2_with fail;go_meet;exact⟨by rw[d1,d2,hg1];simp,0,rfl⟩
     case rest=>
      obtain⟨rfl,q3,rfl⟩:=hcut;have HDR:=rA (HSS.out.drew q3);clear p0 a2 s2 HPR1;by_cases hbad:(decide (x<0)||decide ((A.E.length:Int)<=x)||(decide (0<k)&&decide (x<=y)))=true
      ·rw[hbad]
       have HO:=rA (HDR.out.out (v:=false) (n:=n) (r:=r) (S:=S) HG1.out hsz HZS.out (by rw[HOK.out,HSTEP.out,show S.length+1 - k=(S.length - k)+1 by omega,zDL,if_pos hlt,HX.out,HY.out,hbad];rfl));have HOB:=rA HO.out.1;clear hbad;go_wp2_with (first|(refine qG rfl (.tmp 6) rfl (stC m g t bs) (W.heap.size+1+1) rfl HDR.out.blk (qB HL.out) ?_)|(refine xF rfl (.tmp 4) (.tmp 107) rfl _ (stC m g t bs) (W.heap.size+1) rfl HOB.out rfl (zAJ m g t bs) rfl (qB HL.out) ?_));exact rQ (zIN rfl rfl HO.out.2.1 (qB HL.out)) rfl HO.out.2.2
      ·have hb1:(decide (x<0)||decide ((A.E.length:Int)<=x)||(decide (0<k)&&decide (x<=y)))=false:=by simpa using hbad
       rw[hb1];have HN1:Hid (zDq A.E.length S (S.length+1) 0=zDq A.E.length S (S.length+1 - (k+1)) (k+1)):=rA (by rw[HSTEP.out,show S.length+1 - k=(S.length - k)+1 by omega,zDL,if_pos hlt,HX.out,HY.out,hb1,show S.length+1 - (k+1)=S.length - k by omega];rfl);have hxx:0<=x/\x<(A.E.length:Int):=by
        simp only[Bool.or_eq_false_iff,decide_eq_false_iff_not] at hb1;omega
       obtain⟨xn,rfl⟩:∃xn:Nat,x=xn:=⟨x.toNat,by omega⟩;have hxE:xn<A.E.length:=by omega
       have hx16:xn<16:=by omega
       have hx16':(xn:Int)<16:=by omega
       have hx0:(0:Int)<=(xn:Int):=rJ _;obtain⟨⟨u,c0⟩,c1,hnx⟩:=HDR.out.put (by omega) hx16 hxE;have HNX:=rA hnx;clear hb1 hbad hxx hnx;go_wp2_with fail;go_roundw
       case rel=>exact⟨k+1,bs.set xn true,by omega,by go_num,rA ⟨HNX.out,HN1.out⟩⟩
       case measure=>simp[intOf];omega
theorem zTU (w:World) (T:TypeId) (a b c d e:Int) (n:Nat):Nums (w.alloc (.cells #[jI kQ a,jI kQ b,jI kQ c,jI kQ d,jI kQ e] T)) (jS (some ⟨w.heap.size,0,none⟩) 5 n) [a,b,c,d,e]:=by
 refine⟨_,n,rfl,fun _=>⟨_,0,rfl,by simp,fun j hj=>?_⟩⟩;rw[Nat.zero_add,zI]
 match j,hj with
 |0,_=>rfl
 |1,_=>rfl
 |2,_=>rfl
 |3,_=>rfl
 |4,_=>rfl
theorem or5 (w:World) (a b c d e:Int):Calls rD 127 #[jS (some ⟨w.heap.size,0,none⟩) 5 5] (w.alloc (.cells #[jI kQ a,jI kQ b,jI kQ c,jI kQ d,jI kQ e] 3)) (fun e' w'=>e'=jR (jI kQ (orF [a,b,c,d,e]))/\w'=w.alloc (.cells #[jI kQ a,jI kQ b,jI kQ c,jI kQ d,jI kQ e] 3)):=
 zMN (L:=[a,b,c,d,e]) (zTU w 3 a b c d e 5) (by simp)
theorem zNW {a1 a2:Option Addr}{c1 c2:Nat}{L M:List Int} (m1 g1 t1 r1 m2 g2 t2 r2:Int) (h1:Nums w (jS a1 L.length c1) L) (h2:Nums w (jS a2 M.length c2) M) (hL:L.length<=9223372036854775807) (hM:M.length<=9223372036854775807):
  Calls rD 369 #[jG #[jI kQ m1,jI kQ g1,jS a1 L.length c1,jI kQ t1,jI kQ r1],jG #[jI kQ m2,jI kQ g2,jS a2 M.length c2,jI kQ t2,jI kQ r2]] w (zB9 w):=by
 have HW:Hid (∀W':World,W'=(w.alloc (.cells #[jI kQ m1,jI kQ g1,jS a1 L.length c1,jI kQ t1,jI kQ r1] 166)).alloc (.cells #[jI kQ m2,jI kQ g2,jS a2 M.length c2,jI kQ t2,jI kQ r2] 166)->Gr w W'/\∀V:World,Gr W' V->V.cell? ⟨w.heap.size,0,none⟩=some (jI kQ m1)/\V.cell? ⟨w.heap.size,1,none⟩=some (jI kQ g1)/\V.cell? ⟨w.heap.size,2,none⟩=some (jS a1 L.length c1)/\V.cell? ⟨w.heap.size,3,none⟩=some (jI kQ t1)/\V.cell? ⟨w.heap.size+1,0,none⟩=some (jI kQ m2)/\V.cell? ⟨w.heap.size+1,1,none⟩=some (jI kQ g2)/\V.cell? ⟨w.heap.size+1,2,none⟩=some (jS a2 M.length c2)/\V.cell? ⟨w.heap.size+1,3,none⟩=some (jI kQ t2)):=rA fun W' e=>by
  subst e;refine⟨(Gr.alloc w (.cells #[jI kQ m1,jI kQ g1,jS a1 L.length c1,jI kQ t1,jI kQ r1] 166)).trans (Gr.alloc (w.alloc (.cells #[jI kQ m1,jI kQ g1,jS a1 L.length c1,jI kQ t1,jI kQ r1] 166)) (.cells #[jI kQ m2,jI kQ g2,jS a2 M.length c2,jI kQ t2,jI kQ r2] 166)),fun V hg=>?_⟩;have b0:=(hg.1.block w.heap.size (by simp;omega)).trans ((rL _ _ (by simp)).trans (rG w _));have b1:=(hg.1.block (w.heap.size+1) (by simp)).trans (xH (by simp) _);simp[rC,b0,b1]
 have H129:Hid (∀V,Gr w V->Calls rD 129 #[jS a1 L.length c1,jS a2 M.length c2] V (zB9 V)):=rA fun V hg=>zKt (h1.keep hg.1) (h2.keep hg.1) hL hM
 have H128:=rA (fun x y V=>Tryz.cmp_Compare_int x y V);clear h1 h2;go_enter Tryz.func369,Tryz.ntmps369;go_upto_region 1 with fail;obtain⟨hg1,hcs⟩:=HW.out _ rfl;have HG1:=rA hg1;have HS:=rA hcs;clear HW hg1 hcs;generalize (w.alloc _).alloc _=W0 at*;have HGD:=rA (Gr.drawn W0 1);obtain⟨s0,s1,s2,s3,s4,s5,s6,s7⟩:=HS.out _ (Gr.refl W0);generalize hB:w.heap.size=B at*;refine rE (S:=fun V=>V.cell? ⟨B,0,none⟩=some (jI kQ m1)/\V.cell? ⟨B,1,none⟩=some (jI kQ g1)/\V.cell? ⟨B,2,none⟩=some (jS a1 L.length c1)/\V.cell? ⟨B,3,none⟩=some (jI kQ t1)/\V.cell? ⟨B+1,0,none⟩=some (jI kQ m2)/\V.cell? ⟨B+1,1,none⟩=some (jI kQ g2)/\V.cell? ⟨B+1,2,none⟩=some (jS a2 M.length c2)/\V.cell? ⟨B+1,3,none⟩=some (jI kQ t2)) (by kernel_rfl) ⟨s0,s1,s2,s3,s4,s5,s6,s7⟩ (fun hS=>?_);clear s0 s1 s2 s3 s4 s5 s6 s7;refine tKa 0 (jP (some ⟨B,0,none⟩)) ?_;refine tKa 1 (jI kQ m1) ?_;refine tKa 2 (jP (some ⟨B+1,0,none⟩)) ?_;refine tKa 3 (jI kQ m2) ?_;refine tKa 5 (jP (some ⟨B,1,none⟩)) ?_;refine tKa 6 (jI kQ g1) ?_;refine tKa 7 (jP (some ⟨B+1,1,none⟩)) ?_;refine tKa 8 (jI kQ g2) ?_;refine tKa 10 (jP (some ⟨B,2,none⟩)) ?_;refine tKa 11 (jS a1 L.length c1) ?_;refine tKa 12 (jI kQ L.length) ?_;refine tKa 13 (jP (some ⟨B+1,2,none⟩)) ?_;refine tKa 14 (jS a2 M.length c2) ?_;refine tKa 15 (jI kQ M.length) ?_;refine tKa 17 (jP (some ⟨B,2,none⟩)) ?_;refine tKa 18 (jS a1 L.length c1) ?_;refine tKa 19 (jP (some ⟨B+1,2,none⟩)) ?_;refine tKa 20 (jS a2 M.length c2) ?_;refine tKa 22 (jP (some ⟨B,3,none⟩)) ?_;refine tKa 23 (jI kQ t1) ?_;refine tKa 24 (jP (some ⟨B+1,3,none⟩)) ?_;refine tKa 25 (jI kQ t2) ?_;refine tya 4 (fun K hK=>?_);go_simp;refine(H128.out _ _ _).mono ?_;rintro e' w' ⟨rfl,rfl⟩;refine hK.out _ _ hS (fun hS4=>?_);clear hK hS;try simp only[sA]
 refine tya 9 (fun K hK=>?_);go_simp;refine(H128.out _ _ _).mono ?_;rintro e' w' ⟨rfl,rfl⟩;refine hK.out _ _ hS4 (fun hS9=>?_);clear hK hS4;try simp only[sA]
 refine tya 16 (fun K hK=>?_);go_simp;refine(H128.out _ _ _).mono ?_;rintro e' w' ⟨rfl,rfl⟩;refine hK.out _ _ hS9 (fun hS16=>?_);clear hK hS9;try simp only[sA]
 refine tya 21 (fun K hK=>?_);go_simp;refine(H129.out _ (HG1.out.trans HGD.out)).mono ?_;rintro e' w5 ⟨d129,rfl,hg⟩;have HG5:=rA (HGD.out.trans hg);refine hK.out _ _ (HS.out _ HG5.out) (fun hS21=>?_);clear hK hg hS16;try simp only[sA]
 refine tya 26 (fun K hK=>?_);go_simp;refine(H128.out _ _ _).mono ?_;rintro e' w' ⟨rfl,rfl⟩;refine hK.out _ _ hS21 (fun hS26=>?_);clear hK hS21;try simp only[sA]
 refine tya 27 (fun K hK=>?_);go_simp;refine hK.out _ _ (HS.out _ (HG5.out.trans (Gr.alloc _ _))) (fun hS27=>?_);clear hK hS26;refine tya 28 (fun K hK=>?_);go_simp;refine(or5 _ _ _ _ _ _).mono ?_;rintro e' w' ⟨rfl,rfl⟩;refine hK.out _ _ hS27 (fun hS28=>?_);clear hK hS27;generalize orF _=cc at*;try simp only[sA]
 refine tKa 29 (jI kQ cc) ?_;refine rF (by kernel_rfl) ?_ _;clear hS28;go_wp2_with fail;go_ret;exact⟨cc,rfl,HG1.out.trans (HG5.out.trans (Gr.alloc _ _))⟩
def TuR (w:World) (e:Ending) (w':World):Prop:=∃(t:Int) (b:Bool),e=jR (jU #[jI kQ t,jB b])/\Gr w w'
theorem zTd (hv:AdV A W){k:Nat} (hk:k<A.un.length):∃b o,A.ua=some ⟨b,o,none⟩/\W.cell? ⟨b,o+k,none⟩=some (jI kQ A.un[k]):=by
 obtain⟨a,c,e,hn⟩:=hv.unt;obtain⟨b,o,e',hb,hc⟩:=hn (by intro h;rw[h] at hk;simp at hk);simp only[Value.slice.injEq] at e;refine⟨b,o,e.1.trans e',?_⟩;rw[hc k hk];simp[hk]
theorem zQN (hok:zBs A) (hv:AdV A W) (c:Nat) (hc:c<=1000000000) (off:Int):Calls rD 384 #[jP (some ⟨A.ab,0,none⟩),jI kQ c,jI kU off] W (TuR W):=by
 have HV:=rA hv;have HUN:=rA hok.un;have hul:=hok.unl;have HA3:Hid (∀V,Gr W V->V.cell? ⟨A.ab,3,none⟩=some (jS A.ua A.un.length A.uc)):=rA fun V hg=>(hv.gr hg).cell.2.2.2.1
 clear hv hok;go_enter Tryz.func384,Tryz.ntmps384;go_wp2_with fail;go_loopw [1] (fun i wr=>∃(k:Nat),k<=1000000000+16/\(k<=1000000000∨k<=A.un.length)/\i=jI kQ k/\Hid (Gr W wr)) (fun i _=>A.un.length - (intOf i).toNat)
 case atStart=>exact⟨c,by omega,.inl hc,rfl,rA (Gr.refl _)⟩
 case round=>
  obtain⟨k,hk,hk2,rfl,HG⟩:=hrel;have a3:=HA3.out _ HG.out;by_cases hlt:k<A.un.length;rotate_left
  ·have hd:=dF hlt
   by_cases heq:k=A.un.length
   ·have hde:((k:Int)==(A.un.length:Int))=true:=by simp[heq]
    clear heq hlt hk2;go_wp2_with fail;all_goals go_ret2
    all_goals exact⟨_,_,rfl,HG.out⟩
   ·have hde:((k:Int)==(A.un.length:Int))=false:=by rw[beq_eq_false_iff_ne];omega
    clear heq hlt hk2;go_wp2_with fail;all_goals go_ret2
    all_goals exact⟨_,_,rfl,HG.out⟩
  have hd:=dT hlt
  have hkl:(k:Int)<(A.un.length:Int):=by omega
  obtain⟨b,o,hua,c0⟩:=zTd (HV.out.gr HG.out) hlt;have hu:=HUN.out _ (rS hlt);rw[hua] at a3;have hne:¬((k:Int)=(A.un.length:Int)):=by omega
  have hde:((k:Int)==(A.un.length:Int))=false:=by rw[beq_eq_false_iff_ne];omega
  obtain⟨u,hu'⟩:∃u:Nat,A.un[k]=u:=⟨A.un[k].toNat,by omega⟩;rw[hu'] at c0;have hu0:(0:Int)<=(u:Int):=rJ _;clear hu hu' hua;go_wp2_with fail;all_goals first
   |(go_ret2;exact⟨_,_,rfl,HG.out⟩)
   |(go_roundw;(case rel=>exact⟨k+1,by omega,.inr (by omega),by go_num,HG⟩);(case measure=>simp[intOf];omega))
theorem qO {ys:Array Value} (hop:o.op=Op.load 424 p) (hp:a.eval p=jP (some ⟨q,0,none⟩)) (h:w.heap[q]? =some (.cells ys 424 (0,0))) (hys:ys.size=19):(execOp a.eval o).run rD w=.ok (.value (jG ys)) w:=by
 have hrun:(Instr.loadAt 424 (jP (some ⟨q,0,none⟩))).run rD w=.ok (jG ys) w:=by
  simp only[Instr.loadAt,rT,rN,rM,rK];exact run_loadVar_row w q 424 424 ys (0,0) _ h Tryz.underlying424 rfl (by rw[hys];exact zCd)
 simp only[execOp,hop,hp,rN,rM,hrun,rK]
theorem zGw {x y z:Value}{ys:List Value} (hop:o.op=Op.load 422 p) (hp:a.eval p=jP (some ⟨q,2,none⟩)) (h:w.heap[q]? =some (.cells (x::y::(ys++[z])).toArray 424 (0,0))) (hys:ys.length=16):(execOp a.eval o).run rD w=.ok (.value (jG ys.toArray)) w:=by
 have hrun:(Instr.loadAt 422 (jP (some ⟨q,2,none⟩))).run rD w=.ok (jG ys.toArray) w:=by
  simp only[Instr.loadAt,rT,rN,rM,rK];exact run_loadVar_mid w q 2 422 ys _ (fun j v hv=>by
   simp only[rC,h];rw[if_neg (by simp),rR,show 2+j=j+2 by omega];simp only[rP];have hj:=(List.getElem?_eq_some_iff.1 hv).1;rw[List.getElem?_append_left hj];exact hv) Tryz.underlying422 rfl (by rw[hys];exact zC6)
 simp only[execOp,hop,hp,rN,rM,hrun,rK]
theorem qQ {m k:Operand}{c:Bool}{mv kv:Value} (hop:o.op=Op.lookup 414 m k c) (hm:a.eval m=mv) (hk:a.eval k=kv) (h:(rO 414 mv kv c).run rD w=.ok v w):(execOp a.eval o).run rD w=.ok (.value v) w:=by
 simp only[execOp,hop,hm,hk,rN,rM,h,rK]
theorem zAm (w:World):(zeroValue 3).run rD w=.ok (jI kQ 0) w:=zKE w
theorem zE7 (h:AMap w rb KState KInt){key:Value} (hK:KState key):∃(x:Int) (b:Bool),∀(c:Bool) (V:World),V.heap[rb]? =w.heap[rb]?->(rO 414 (.map (some rb)) key c).run rD V=.ok (if c then jU #[jI kQ x,jB b] else jI kQ x) V:=by
 obtain⟨es,clock,h1,h2⟩:=h;obtain⟨r,k1,k2⟩:=zIo.find key hK es.toList (fun e he=>(h2 e he).1);rcases k2 with⟨rfl, -⟩|⟨i,e,rfl,k3,k4⟩
 ·refine⟨0,false,fun c V hV=>?_⟩
  have hg:=xJ (w:=V) (hV.trans h1);simp[rO,rU Tryz.underlying414,hg,zIo.check key hK,k1,zAm]
 ·obtain⟨x,hx⟩:=(h2 e (List.mem_of_getElem? k3)).2
  refine⟨x,true,fun c V hV=>?_⟩;have hg:=xJ (w:=V) (hV.trans h1);simp[rO,rU Tryz.underlying414,hg,zIo.check key hK,k1,hx]
def zT9 (U:World) (a:Option Addr) (xs:List (Nat×Int)):Prop:=xs≠[]->∃b,a=some ⟨b,0,none⟩/\b<U.heap.size/\∃cs T,U.heap[b]? =some (.cells cs T (0,0))/\∀j (h:j<xs.length),cs[j*2]? =some (jI kQ xs[j].1)/\cs[j*2+1]? =some (jI kQ xs[j].2)
def zOP (V:World) (e:Ending) (w':World):Prop:=∃(a:Option Addr) (c:Nat) (xs:List (Nat×Int)),e=jR (jS a xs.length c)/\zT9 w' a xs/\xs.length<=4096/\(∀x∈xs,x.1<=4096)/\Gr V w'
def zFa (p:Nat->Bool) (W:World) (F:FuncId) (p1 p2 p3:Value) (n:Int):Prop:=(∀(args:Array Value) (W:World),(callFunc F args).run rD W=.ok (.enter F args) W)/\∀V,Fr p W.heap.size W V->∀q:Int,0<=q->q<n->Calls rD F #[jI kQ q,p1,p2,p3] V (zOP V)
def FaR (A:Ad) (W:World) (e:Ending) (w':World):Prop:=∃b:Bool,e=jR (jB b)/\AdS A w'/\Fr (msA A) W.heap.size W w'
theorem xS {b j:Nat}{cs:Array Value}{T:TypeId}{f:Nat×Nat} (h:W.heap[b]? =some (.cells cs T f)) (hv:cs[j]? =some v):W.cell? ⟨b,j,none⟩=some v:=by simp[rC,h,hv]
theorem Fr.of_gr {p:Nat->Bool} (h:Gr w w'):Fr p w.heap.size w w':=Fr.of_below h.1
theorem Fr.next {p:Nat->Bool}{w'':World} (h:Fr p w.heap.size w w') (k:Fr p w'.heap.size w' w''):Fr p w.heap.size w w'':=h.trans (k.mono h.size)
theorem zNv (hok:zBs A) (hv:AdS A W){F:FuncId}{p1 p2 p3:Value} (hp:PrV A W pb n st (.func (.func F) #[] #[p1,p2,p3]) rb) (hm:AMap W rb KState KInt) (hr:msA A rb=false) (hS:zFa (msA A) W F p1 p2 p3 n) (m g:Int) (t:Nat) (hm0:0<=m) (hmn:m<n) (ht:t<=1000000000) (hb:bs.length=16) (hE:∀i,bs[i]? =some true->i<A.E.length):
  Calls rD 372 #[jP (some ⟨pb,0,none⟩),jG (stC m g t bs)] W (FaR A W):=by
 have hkey:=kstate m g t hb;have HJ:Hid (∀V,AdS A V->∀mem (K:Nat),K<=100000000->Calls rD 383 #[jP (some ⟨A.ab,0,none⟩),jG (Value.int .i64 mem::Value.int .i64 K::bs.map (fun b=>Value.bool b)).toArray] V (JtR A V)):=rA fun V hV mem K hK=>zRS hok hV mem K hb hK hE
 have H382:Hid (∀V,AdS A V->∀mem (K:Nat),K<=100000000->Calls rD 382 #[jP (some ⟨A.ab,0,none⟩),jG #[jI kQ mem,jI kQ K]] V (AfR A V)):=rA fun V hV mem K hK=>zO9 hok hV mem K hK
 have H384:Hid (∀V,AdV A V->∀off,Calls rD 384 #[jP (some ⟨A.ab,0,none⟩),jI kQ t,jI kU off] V (TuR V)):=rA fun V hV off=>zQN hok hV t ht off
 obtain⟨b0,b1,b2,b3,b4,b5,b6,b7,b8,b9,b10,b11,b12,b13,b14,b15,rfl⟩:=zDS hb;obtain⟨x0,k0,hlk⟩:=zE7 hm hkey;have HLK:=rA hlk;have HRK:Hid (∀key,KState key->∃(x:Int) (b:Bool),∀(c:Bool) (V:World),V.heap[rb]? =W.heap[rb]?->(rO 414 (.map (some rb)) key c).run rD V=.ok (if c then jU #[jI kQ x,jB b] else jI kQ x) V):=rA fun key h=>zE7 hm h
 have hG0:=Gr.alloc W (.cells #[jI kQ m,jI kQ g,jB b0,jB b1,jB b2,jB b3,jB b4,jB b5,jB b6,jB b7,jB b8,jB b9,jB b10,jB b11,jB b12,jB b13,jB b14,jB b15,jI kQ t] 424);have hv0:=hv.gr hG0;have hbx:=rG W (.cells #[jI kQ m,jI kQ g,jB b0,jB b1,jB b2,jB b3,jB b4,jB b5,jB b6,jB b7,jB b8,jB b9,jB b10,jB b11,jB b12,jB b13,jB b14,jB b15,jI kQ t] 424);have hpl:=(Array.getElem?_eq_some_iff.1 hp).1;have hp0:=(rL W (.cells #[jI kQ m,jI kQ g,jB b0,jB b1,jB b2,jB b3,jB b4,jB b5,jB b6,jB b7,jB b8,jB b9,jB b10,jB b11,jB b12,jB b13,jB b14,jB b15,jI kQ t] 424) hpl).trans hp;have hrl:=hm.lt;have hr0:=rL W (.cells #[jI kQ m,jI kQ g,jB b0,jB b1,jB b2,jB b3,jB b4,jB b5,jB b6,jB b7,jB b8,jB b9,jB b10,jB b11,jB b12,jB b13,jB b14,jB b15,jI kQ t] 424) hrl;have HB:Hid (∀V,Fr (msA A) (W.alloc (.cells #[jI kQ m,jI kQ g,jB b0,jB b1,jB b2,jB b3,jB b4,jB b5,jB b6,jB b7,jB b8,jB b9,jB b10,jB b11,jB b12,jB b13,jB b14,jB b15,jI kQ t] 424)).heap.size (W.alloc (.cells #[jI kQ m,jI kQ g,jB b0,jB b1,jB b2,jB b3,jB b4,jB b5,jB b6,jB b7,jB b8,jB b9,jB b10,jB b11,jB b12,jB b13,jB b14,jB b15,jI kQ t] 424)) V->V.heap[W.heap.size]? =some (.cells #[jI kQ m,jI kQ g,jB b0,jB b1,jB b2,jB b3,jB b4,jB b5,jB b6,jB b7,jB b8,jB b9,jB b10,jB b11,jB b12,jB b13,jB b14,jB b15,jI kQ t] 424 (0,0))/\V.cell? ⟨pb,0,none⟩=some (jP (some ⟨A.ab,0,none⟩))/\V.cell? ⟨pb,3,none⟩=some (.func (.func F) #[] #[p1,p2,p3])/\V.cell? ⟨pb,4,none⟩=some (.map (some rb))/\V.heap[rb]? =W.heap[rb]?):=rA fun V hf=>by
  have h1:=(hf.block _ (by simp) (hv0.notm hbx)).trans hbx;have h2:=(hf.block pb (by simp;omega) (hv0.notm hp0)).trans hp0;have h3:=(hf.block rb (by simp;omega) hr).trans hr0;exact⟨h1,by simp[rC,h2],by simp[rC,h2],by simp[rC,h2],h3⟩
 have HST:Hid (∀V,Fr (msA A) (W.alloc (.cells #[jI kQ m,jI kQ g,jB b0,jB b1,jB b2,jB b3,jB b4,jB b5,jB b6,jB b7,jB b8,jB b9,jB b10,jB b11,jB b12,jB b13,jB b14,jB b15,jI kQ t] 424)).heap.size (W.alloc (.cells #[jI kQ m,jI kQ g,jB b0,jB b1,jB b2,jB b3,jB b4,jB b5,jB b6,jB b7,jB b8,jB b9,jB b10,jB b11,jB b12,jB b13,jB b14,jB b15,jI kQ t] 424)) V->Calls rD F #[jI kQ m,p1,p2,p3] V (zOP V)):=rA fun V hf=>hS.2 V ((Fr.of_gr hG0).next hf) m hm0 hmn
 have hcf:=hS.1;have HV0:=rA hv0;have HG0:Hid (Fr (msA A) W.heap.size W (W.alloc (.cells #[jI kQ m,jI kQ g,jB b0,jB b1,jB b2,jB b3,jB b4,jB b5,jB b6,jB b7,jB b8,jB b9,jB b10,jB b11,jB b12,jB b13,jB b14,jB b15,jI kQ t] 424))):=rA (Fr.of_gr hG0);clear hv hp hm hS hm0 hmn ht hb hE hlk hkey hG0 hv0 hbx hpl hp0 hrl hr0 hok hr;simp only[stC,stL,List.map,rH,rI] at HLK ⊢;go_enter Tryz.func372,Tryz.ntmps372;go_upto_region 1 with fail;generalize W.alloc _=w0 at*;obtain⟨e0,e1,e2,e3,e4⟩:=HB.out w0 (Fr.refl _ _ _);have e5:w0.cell? ⟨W.heap.size,0,none⟩=some (jI kQ m):=by simp[rC,e0]
 have HC:=rA (HST.out (w0.drewN 1) (Fr.of_gr (Gr.drawn w0 1)));clear e0 e1 e3 e4;have hs:(w0.drewN 1).cell? ⟨pb,3,none⟩=some (.func (.func F) #[] #[p1,p2,p3])/\(w0.drewN 1).cell? ⟨W.heap.size,0,none⟩=some (jI kQ m):=⟨e2,e5⟩;have HSX:Hid (∀V,Gr w0 V->V.cell? ⟨pb,3,none⟩=some (.func (.func F) #[] #[p1,p2,p3])/\V.cell? ⟨W.heap.size,0,none⟩=some (jI kQ m)):=rA fun V hg=>by
  obtain⟨h0, -,h2, -, -⟩:=HB.out V (Fr.of_gr hg);exact⟨h2,by simp[rC,h0]⟩
 refine rE (S:=fun V=>V.cell? ⟨pb,3,none⟩=some (.func (.func F) #[] #[p1,p2,p3])/\V.cell? ⟨W.heap.size,0,none⟩=some (jI kQ m)) (by kernel_rfl) hs (fun hS=>?_);clear hs e2 e5;refine tKa 0 (jP (some ⟨pb,0,none⟩)) ?_;refine tKa 1 (jP (some ⟨pb,0,none⟩)) ?_;refine tKa 2 (jP (some ⟨pb,3,none⟩)) ?_;refine tKa 3 (.func (.func F) #[] #[p1,p2,p3]) ?_;refine tKa 4 (jP (some ⟨W.heap.size,0,none⟩)) ?_;refine tKa 5 (jI kQ m) ?_;refine tKa 8 (jI kQ 0) ?_;refine tya 6 (fun Kc hKc=>?_);go_simp;refine HC.out.mono ?_;rintro e w1 ⟨sa,sc,xs,rfl,hx1,hx2,hx3,hg⟩;refine hKc.out _ _ (HSX.out _ ((Gr.drawn w0 1).trans hg)) (fun hS6=>?_);clear hKc Kc hS;try simp only[sA]
 refine tKa 7 (jI kQ xs.length) ?_;refine rF (by kernel_rfl) ?_ _;clear hS6;have HF1:Hid (Fr (msA A) w0.heap.size w0 w1):=rA ((Fr.of_gr (Gr.drawn w0 1)).next (Fr.of_gr hg));have HAD1:Hid (AdS A w1):=rA (HV0.out.gr ((Gr.drawn w0 1).trans hg));have HXS:Hid (∀V,Fr (msA A) w1.heap.size w1 V->∀k (h:k<xs.length),∃b,sa=some ⟨b,0,none⟩/\V.cell? ⟨b,k*2,none⟩=some (jI kQ xs[k].1)/\V.cell? ⟨b,k*2+1,none⟩=some (jI kQ xs[k].2)):=rA fun V hf k h=>by
  obtain⟨b,rfl,hb,cs,T,hcs,hj⟩:=hx1 (by intro e;rw[e] at h;simp at h);have h1:=(hf.block b hb (HAD1.out.notm hcs)).trans hcs;obtain⟨j0,j1⟩:=hj k h;exact⟨b,rfl,by simp[rC,h1,j0],by simp[rC,h1,j1]⟩
 have HX3:=rA hx3;have hxl:xs.length<=4096:=hx2;clear hx1 hx2 hx3 hg HC hcf HSX;go_wp2_with fail;go_loopw [23] (fun i wr=>∃k:Nat,k<=xs.length/\i=jI kQ k/\Hid (Fr (msA A) w1.heap.size w1 wr/\AdS A wr)) (fun i _=>xs.length - (intOf i).toNat)
 case atStart=>exact⟨0,Nat.zero_le _,rfl,rA ⟨Fr.refl _ _ _,HAD1.out⟩⟩
 case round=>
  obtain⟨k,hk,rfl,HR⟩:=hrel;by_cases hlt:k<xs.length;rotate_left
  ·have hd:=dF hlt
   go_wp2_with fail;go_ret;exact⟨true,rfl,HR.out.2,HG0.out.next (HF1.out.next HR.out.1)⟩
  have hd:=dT hlt
  have hkl:(k:Int)<(xs.length:Int):=by omega
  obtain⟨b,rfl,c0,c1⟩:=HXS.out wr HR.out.1 k hlt;have HK1:=rA (HX3.out _ (rS hlt));obtain⟨⟨K,nx⟩,hx⟩:∃x,xs[k]=x:=⟨_,rfl⟩;rw[hx] at c0 c1 HK1;dsimp only at c0 c1 HK1;obtain⟨e0,e1,e2,e3,e4⟩:=HB.out wr (HF1.out.next HR.out.1);have e6:wr.cell? ⟨W.heap.size,1,none⟩=some (jI kQ g):=by simp[rC,e0]
  clear hx;have HW3:Hid (∀V:World,V=(wr.alloc (.cells #[jI kQ K,jI kQ nx] 419)).alloc (.cells #[jI kQ g,jI kQ K] 438)->Gr wr V/\V.heap[wr.heap.size]? =some (.cells #[jI kQ K,jI kQ nx] 419 (0,0))/\V.heap[wr.heap.size+1]? =some (.cells #[jI kQ g,jI kQ K] 438 (0,0))/\V.heap.size=wr.heap.size+2):=rA fun V e=>by
   subst e;exact⟨(Gr.alloc wr (.cells #[jI kQ K,jI kQ nx] 419)).trans (Gr.alloc (wr.alloc (.cells #[jI kQ K,jI kQ nx] 419)) _),(rL _ _ (by simp)).trans (rG _ _),xH (by simp) _,by simp⟩
  clear e0 e1 e2 e3 e4;go_upto_region 4 with fail;have f0:=zI wr #[jI kQ K,jI kQ nx] 419 0;have f1:=zI wr #[jI kQ K,jI kQ nx] 419 1;simp only[rR,rP,List.getElem?_cons_zero] at f0 f1;have e7:(wr.alloc (.cells #[jI kQ K,jI kQ nx] 419)).cell? ⟨W.heap.size,1,none⟩=some (jI kQ g):=by
   have h:=(HB.out _ (HF1.out.next (HR.out.1.next (Fr.of_gr (Gr.alloc wr (.cells #[jI kQ K,jI kQ nx] 419)))))).1;simp[rC,h]
  clear c0 c1 e6;go_upto_region 5 with fail;obtain⟨hg3,hz0,hz1,hz2⟩:=HW3.out _ rfl;clear HW3 f0 f1 e7;generalize hB:wr.heap.size=B at*;generalize (wr.alloc _).alloc _=w3 at*;have HF3:Hid (Fr (msA A) w1.heap.size w1 w3/\AdS A w3):=rA ⟨HR.out.1.next (Fr.of_gr hg3),HR.out.2.gr hg3⟩;have HM3:Hid (∀V,Fr (msA A) w3.heap.size w3 V->V.heap[B]? =some (.cells #[jI kQ K,jI kQ nx] 419 (0,0))/\V.heap[B+1]? =some (.cells #[jI kQ g,jI kQ K] 438 (0,0))):=rA fun V hf=>⟨(hf.block B (by omega) (HF3.out.2.notm hz0)).trans hz0,(hf.block (B+1) (by omega) (HF3.out.2.notm hz1)).trans hz1⟩
  clear hg3 hz2 HR hB;obtain⟨e0,e1,e2,e3,e4⟩:=HB.out w3 (HF1.out.next HF3.out.1);have f0:w3.cell? ⟨B+1,0,none⟩=some (jI kQ g):=by simp[rC,hz1]
  have f1:w3.cell? ⟨B+1,1,none⟩=some (jI kQ K):=by simp[rC,hz1]
  have HC:=rA (H382.out (w3.drewN 1) (HF3.out.2.gr (Gr.drawn w3 1)) g K (Nat.le_trans HK1.out (by omega)));clear e0 e2 e3 e4 hz0 hz1;have HS5:Hid (∀V,Fr (msA A) w3.heap.size w3 V->V.cell? ⟨pb,0,none⟩=some (jP (some ⟨A.ab,0,none⟩))/\V.cell? ⟨B+1,0,none⟩=some (jI kQ g)/\V.cell? ⟨B+1,1,none⟩=some (jI kQ K)):=rA fun V hf=>by
   obtain⟨e0,e1,e2,e3,e4⟩:=HB.out V (HF1.out.next (HF3.out.1.next hf));obtain⟨z0,z1⟩:=HM3.out V hf;exact⟨e1,xS z1 rfl,xS z1 rfl⟩
  refine rE (S:=fun V=>V.cell? ⟨pb,0,none⟩=some (jP (some ⟨A.ab,0,none⟩))/\V.cell? ⟨B+1,0,none⟩=some (jI kQ g)/\V.cell? ⟨B+1,1,none⟩=some (jI kQ K)) (by kernel_rfl) (HS5.out _ (Fr.of_gr (Gr.drawn w3 1))) (fun hS=>?_);clear e1 f0 f1;refine tKa 0 (jP (some ⟨pb,0,none⟩)) ?_;refine tKa 1 (jP (some ⟨pb,0,none⟩)) ?_;refine tKa 2 (jP (some ⟨pb,0,none⟩)) ?_;refine tKa 3 (jP (some ⟨A.ab,0,none⟩)) ?_;refine tKa 4 (jG #[jI kQ g,jI kQ K]) ?_;refine tya 5 (fun Kc hKc=>?_);go_simp;refine HC.out.mono ?_;rintro e w4 ⟨y,rfl,had4,hf4⟩;refine hKc.out _ _ (HS5.out _ ((Fr.of_gr (Gr.drawn w3 1)).next hf4)) (fun hS5=>?_);clear hKc Kc hS;try simp only[sA]
  refine tKa 6 (jI kQ y) ?_;refine rF (by kernel_rfl) ?_ _;clear hS5;have HF4:Hid (Fr (msA A) w3.heap.size w3 w4/\AdS A w4):=rA ⟨(Fr.of_gr (Gr.drawn w3 1)).next hf4,had4⟩;clear HC had4 hf4 HS5;go_upto_region 6 with fail;have HF41:=rA (HF4.out.1.next (Fr.of_gr (Gr.drawn w4 1)));have HC:=rA (HJ.out (w4.drewN 1) (HF4.out.2.gr (Gr.drawn w4 1)) g K (Nat.le_trans HK1.out (by omega)));simp only[List.map] at HC;have hs:(w4.drewN 1).cell? ⟨pb,0,none⟩=some (jP (some ⟨A.ab,0,none⟩))/\(w4.drewN 1).cell? ⟨B+1,0,none⟩=some (jI kQ g)/\(w4.drewN 1).cell? ⟨B+1,1,none⟩=some (jI kQ K)/\(w4.drewN 1).heap[W.heap.size]? =some (.cells #[jI kQ m,jI kQ g,jB b0,jB b1,jB b2,jB b3,jB b4,jB b5,jB b6,jB b7,jB b8,jB b9,jB b10,jB b11,jB b12,jB b13,jB b14,jB b15,jI kQ t] 424 (0,0)):=by
   obtain⟨e0,e1,e2,e3,e4⟩:=HB.out _ (HF1.out.next (HF3.out.1.next HF41.out));obtain⟨z0,z1⟩:=HM3.out _ HF41.out;exact⟨e1,xS z1 rfl,xS z1 rfl,e0⟩
  refine rE (S:=fun V=>V.cell? ⟨pb,0,none⟩=some (jP (some ⟨A.ab,0,none⟩))/\V.cell? ⟨B+1,0,none⟩=some (jI kQ g)/\V.cell? ⟨B+1,1,none⟩=some (jI kQ K)/\V.heap[W.heap.size]? =some (.cells #[jI kQ m,jI kQ g,jB b0,jB b1,jB b2,jB b3,jB b4,jB b5,jB b6,jB b7,jB b8,jB b9,jB b10,jB b11,jB b12,jB b13,jB b14,jB b15,jI kQ t] 424 (0,0))) (by kernel_rfl) hs (fun hS=>?_);clear hs;refine tKa 0 (jP (some ⟨pb,0,none⟩)) ?_;refine tKa 1 (jP (some ⟨pb,0,none⟩)) ?_;refine tKa 2 (jP (some ⟨pb,0,none⟩)) ?_;refine tKa 3 (jP (some ⟨A.ab,0,none⟩)) ?_;refine tKa 4 (jG #[jI kQ g,jI kQ K]) ?_;refine tKa 5 (jP (some ⟨W.heap.size,2,none⟩)) ?_;refine tka 6 (jG #[jB b0,jB b1,jB b2,jB b3,jB b4,jB b5,jB b6,jB b7,jB b8,jB b9,jB b10,jB b11,jB b12,jB b13,jB b14,jB b15]) ?_ ?_
  ·(intro V hV;exact zGw rfl rfl hV.2.2.2 rfl)
  refine tKa 7 (jG #[jI kQ g,jI kQ K,jB b0,jB b1,jB b2,jB b3,jB b4,jB b5,jB b6,jB b7,jB b8,jB b9,jB b10,jB b11,jB b12,jB b13,jB b14,jB b15]) ?_;refine tKa 10 (jI kQ 0) ?_;refine tya 8 (fun Kc hKc=>?_);go_simp;refine HC.out.mono ?_;rintro e w5 ⟨ja,jc,ys,rfl,hy1,hy2,had5,hf5⟩;refine hKc.out _ _ (by
   obtain⟨e0,e1,e2,e3,e4⟩:=HB.out _ (HF1.out.next (HF3.out.1.next (HF41.out.next hf5)));obtain⟨z0,z1⟩:=HM3.out _ (HF41.out.next hf5);exact⟨e1,xS z1 rfl,xS z1 rfl,e0⟩) (fun hS8=>?_)
  clear hKc Kc hS;try simp only[sA]
  refine tKa 9 (jI kQ ys.length) ?_;refine rF (by kernel_rfl) ?_ _;clear hS8;have HF5:Hid (Fr (msA A) w3.heap.size w3 w5/\AdS A w5):=rA ⟨HF41.out.next hf5,had5⟩;have HYS:Hid (∀V,Gr w5 V->∀j (h:j<ys.length),∃b,ja=some ⟨b,0,none⟩/\V.cell? ⟨b,j*2,none⟩=some (yW ys[j].1)/\V.cell? ⟨b,j*2+1,none⟩=some (yW ys[j].2)):=rA fun V hg j h=>by
   obtain⟨b,rfl,hbl,hcs⟩:=hy1 (by intro e;rw[e] at h;simp at h);obtain⟨j0,j1⟩:=hcs j h;have j0:=(vS _ _).cell j0;have j1:=(vS _ _).cell j1;have hbl:b<w5.heap.size:=by rwa[zW] at hbl
   exact⟨b,rfl,(hg.1.cell (p:=⟨b,j*2,none⟩) hbl).trans j0,(hg.1.cell (p:=⟨b,j*2+1,none⟩) hbl).trans j1⟩
  have hyl:ys.length<=4294967296:=hy2;clear hf5 had5 hy1 hy2 HC HF41 HF4;go_wp2_with fail;go_loopw [48] (fun i wr=>∃j:Nat,j<=ys.length/\i=jI kQ j/\Hid (Gr w5 wr)) (fun i _=>ys.length - (intOf i).toNat)
  case atStart=>exact⟨0,Nat.zero_le _,rfl,rA (Gr.refl _)⟩
  case round=>
   obtain⟨j,hj,rfl,HG⟩:=hrel;by_cases hjt:j<ys.length;rotate_left
   ·have hdj:=dF hjt
    go_wp2_with fail;go_roundw
    case rel=>exact⟨k+1,by omega,by go_num,rA ⟨HF3.out.1.next (HF5.out.1.next (Fr.of_gr HG.out)),HF5.out.2.gr HG.out⟩⟩
    case measure=>simp[intOf];omega
   have hdj:=dT hjt
   have hjl:(j:Int)<(ys.length:Int):=by omega
   obtain⟨b,rfl,c0,c1⟩:=HYS.out wr HG.out j hjt;unfold yW at c0 c1;obtain⟨⟨ow,off⟩,hx⟩:∃x,ys[j]=x:=⟨_,rfl⟩;rw[hx] at c0 c1;dsimp only at c0 c1;have HA:Hid (Gr w5 (wr.alloc (.cells #[jI kU ow.1,jI kU off.1] 445))/\(wr.alloc (.cells #[jI kU ow.1,jI kU off.1] 445)).heap[wr.heap.size]? =some (.cells #[jI kU ow.1,jI kU off.1] 445 (0,0))):=rA ⟨HG.out.trans (Gr.alloc _ _),rG _ _⟩;clear hx HG;go_upto_region 9 with fail;clear c0 c1;generalize hD:wr.heap.size=D at*;generalize wr.alloc _=w6 at*;have HC:=rA (H384.out (w6.drewN 1) (HF5.out.2.gr (HA.out.1.trans (Gr.drawn w6 1))).v off.1);clear hD;have HS9:Hid (∀V,Gr w6 V->V.cell? ⟨pb,0,none⟩=some (jP (some ⟨A.ab,0,none⟩))/\V.cell? ⟨D,1,none⟩=some (jI kU off.1)/\V.cell? ⟨W.heap.size,18,none⟩=some (jI kQ t)):=rA fun V hg=>by
    obtain⟨e0,e1,e2,e3,e4⟩:=HB.out V (HF1.out.next (HF3.out.1.next (HF5.out.1.next (Fr.of_gr (HA.out.1.trans hg)))));exact⟨e1,xS ((hg.1.block D (Array.getElem?_eq_some_iff.1 HA.out.2).1).trans HA.out.2) rfl,xS e0 rfl⟩
   refine rE (S:=fun V=>V.cell? ⟨pb,0,none⟩=some (jP (some ⟨A.ab,0,none⟩))/\V.cell? ⟨D,1,none⟩=some (jI kU off.1)/\V.cell? ⟨W.heap.size,18,none⟩=some (jI kQ t)) (by kernel_rfl) (HS9.out _ (Gr.drawn w6 1)) (fun hS=>?_);refine tKa 0 (jP (some ⟨pb,0,none⟩)) ?_;refine tKa 1 (jP (some ⟨pb,0,none⟩)) ?_;refine tKa 2 (jP (some ⟨pb,0,none⟩)) ?_;refine tKa 3 (jP (some ⟨A.ab,0,none⟩)) ?_;refine tKa 4 (jP (some ⟨W.heap.size,18,none⟩)) ?_;refine tKa 5 (jI kQ t) ?_;refine tKa 6 (jP (some ⟨D,1,none⟩)) ?_;refine tKa 7 (jI kU off.1) ?_;refine tya 8 (fun Kc hKc=>?_);go_simp;refine HC.out.mono ?_;rintro e w7 ⟨tn,good,rfl,hg7⟩;refine hKc.out _ _ (HS9.out _ ((Gr.drawn w6 1).trans hg7)) (fun hS8=>?_);clear hKc Kc hS;try simp only[sA]
   refine tKa 9 (jU #[jI kQ tn,jB good]) ?_;refine tKa 10 (jI kQ tn) ?_;refine tKa 11 (jB good) ?_;refine tKa 12 (jI kQ tn) ?_;refine tKa 13 (jB good) ?_;refine rF (by kernel_rfl) ?_ _;clear hS8;have HG7:Hid (Gr w5 w7/\Gr w6 w7):=rA ⟨HA.out.1.trans ((Gr.drawn w6 1).trans hg7),(Gr.drawn w6 1).trans hg7⟩;clear hg7 HC HS9;go_upto_region 10 with fail;have HS:Hid (∀V,Gr w7 V->V.cell? ⟨pb,4,none⟩=some (.map (some rb))/\V.cell? ⟨B,1,none⟩=some (jI kQ nx)/\V.cell? ⟨D,0,none⟩=some (jI kU ow.1)/\V.heap[rb]? =W.heap[rb]?):=rA fun V hg=>by
    have h5:=HF5.out.1.next (Fr.of_gr (HG7.out.1.trans hg));obtain⟨e0,e1,e2,e3,e4⟩:=HB.out V (HF1.out.next (HF3.out.1.next h5));obtain⟨z0,z1⟩:=HM3.out V h5;have hda:=((HG7.out.2.trans hg).1.block D (Array.getElem?_eq_some_iff.1 HA.out.2).1).trans HA.out.2;exact⟨e3,by simp[rC,z0],by simp[rC,hda],e4⟩
   refine rE (S:=fun V=>V.cell? ⟨pb,4,none⟩=some (.map (some rb))/\V.cell? ⟨B,1,none⟩=some (jI kQ nx)/\V.cell? ⟨D,0,none⟩=some (jI kU ow.1)/\V.heap[rb]? =W.heap[rb]?) (by kernel_rfl) (HS.out _ (Gr.drawn w7 1)) (fun hS=>?_);refine tKa 0 (jP (some ⟨pb,0,none⟩)) ?_;refine tKa 1 (jP (some ⟨pb,0,none⟩)) ?_;refine tKa 2 (jP (some ⟨pb,4,none⟩)) ?_;refine tKa 3 (.map (some rb)) ?_;refine tKa 4 (jP (some ⟨B,1,none⟩)) ?_;refine tKa 5 (jI kQ nx) ?_;refine tKa 6 (jI kQ y) ?_;refine tKa 7 (jP (some ⟨D,0,none⟩)) ?_;refine tKa 8 (jI kU ow.1) ?_;refine tKa 10 (jI kQ tn) ?_;refine tya 9 (fun Kc hKc=>?_);go_simp;refine(zEW _ _).mono ?_;rintro e w8 ⟨cs,hcs,rfl,hg8⟩;obtain⟨x1,k1,hlk1⟩:=HRK.out _ (kstate nx y tn hcs);obtain⟨c0,c1,c2,c3,c4,c5,c6,c7,c8,c9,c10,c11,c12,c13,c14,c15,rfl⟩:=zDS hcs;simp only[pD,List.map];simp only[stC,stL,List.map,rH,rI] at hlk1;refine hKc.out _ _ (HS.out w8 ((Gr.drawn w7 1).trans hg8)) (fun hS9=>?_);clear hKc Kc hS;try simp only[sA]
   refine tKa 11 (jG #[jI kQ nx,jI kQ y,jB c0,jB c1,jB c2,jB c3,jB c4,jB c5,jB c6,jB c7,jB c8,jB c9,jB c10,jB c11,jB c12,jB c13,jB c14,jB c15,jI kQ tn]) ?_;refine tka 12 (jU #[jI kQ x1,jB k1]) ?_ ?_
   ·(intro V hV;exact qQ rfl rfl rfl (hlk1 true V hV.2.2.2))
   refine tKa 13 (jU #[jI kQ x1,jB k1]) ?_;refine tKa 14 (jI kQ x1) ?_;refine tKa 15 (jB k1) ?_;refine tKa 16 (jI kQ x1) ?_;refine tKa 17 (jB k1) ?_;clear hlk1 hcs;refine rF (by kernel_rfl) ?_ _;clear hS9;have HG8:Hid (Gr w5 w8):=rA (HG7.out.1.trans ((Gr.drawn w7 1).trans hg8));clear hg8 HS;go_upto_region 11 with fail;have hs:(w8.drewN 1).cell? ⟨pb,4,none⟩=some (.map (some rb))/\(w8.drewN 1).heap[W.heap.size]? =some (.cells #[jI kQ m,jI kQ g,jB b0,jB b1,jB b2,jB b3,jB b4,jB b5,jB b6,jB b7,jB b8,jB b9,jB b10,jB b11,jB b12,jB b13,jB b14,jB b15,jI kQ t] 424 (0,0))/\(w8.drewN 1).heap[rb]? =W.heap[rb]? :=by
    obtain⟨e0,e1,e2,e3,e4⟩:=HB.out (w8.drewN 1) (HF1.out.next (HF3.out.1.next (HF5.out.1.next (Fr.of_gr (HG8.out.trans (Gr.drawn w8 1))))));exact⟨e3,e0,e4⟩
   go_cut [104] from 80 to 103 (fun u wx=>∃bb,u=jB bb/\wx=w8.drewN 1)
   case first=>
    refine rE (S:=fun V=>V.cell? ⟨pb,4,none⟩=some (.map (some rb))/\V.heap[W.heap.size]? =some (.cells #[jI kQ m,jI kQ g,jB b0,jB b1,jB b2,jB b3,jB b4,jB b5,jB b6,jB b7,jB b8,jB b9,jB b10,jB b11,jB b12,jB b13,jB b14,jB b15,jI kQ t] 424 (0,0))/\V.heap[rb]? =W.heap[rb]?) (by kernel_rfl) hs (fun hS=>?_);clear hs;cases k1 with
    |false=>
     refine tKa 0 (jB false) ?_;refine tKa 1 (jB true) ?_;refine tKa 2 (jB true) ?_;refine tna 3 ?_;refine tna 4 ?_;refine tna 5 ?_;refine tna 6 ?_;refine tna 7 ?_;refine tna 8 ?_;refine tna 9 ?_;refine tna 10 ?_;refine tKa 11 (jB true) ?_;refine tKa 12 (jB true) ?_;refine tna 13 ?_;refine tna 14 ?_;refine tna 15 ?_;refine tna 16 ?_;refine tna 17 ?_;refine tna 18 ?_;refine tna 19 ?_;refine tna 20 ?_;refine tna 21 ?_;refine tna 22 ?_;refine tna 23 ?_;refine tKa 24 (jB true) ?_;refine rF (by kernel_rfl) ?_ _;clear hS;go_wp2_with fail;go_meet;exact⟨_,rfl,rfl⟩
    |true=>
     by_cases hgt:x1>x0
     ·have dg:=dT hgt
      have dg2:decide (x0<x1)=true:=by simpa using hgt
      refine tKa 0 (jB true) ?_;refine tKa 1 (jB false) ?_;refine tKa 2 (jB false) ?_;refine tKa 3 (jI kQ x1) ?_;refine tKa 4 (jP (some ⟨pb,0,none⟩)) ?_;refine tKa 5 (jP (some ⟨pb,0,none⟩)) ?_;refine tKa 6 (jP (some ⟨pb,4,none⟩)) ?_;refine tKa 7 (.map (some rb)) ?_;refine tka 8 (jG #[jI kQ m,jI kQ g,jB b0,jB b1,jB b2,jB b3,jB b4,jB b5,jB b6,jB b7,jB b8,jB b9,jB b10,jB b11,jB b12,jB b13,jB b14,jB b15,jI kQ t]) ?_ ?_
      ·(intro V hV;exact qO rfl rfl hV.2.1 rfl)
      refine tka 9 (jI kQ x0) ?_ ?_
      ·(intro V hV;exact qQ rfl rfl rfl (HLK.out false V hV.2.2))
      refine tKa 10 (jB true) ?_;refine tKa 11 (jB true) ?_;refine tKa 12 (jB true) ?_;refine tna 13 ?_;refine tna 14 ?_;refine tna 15 ?_;refine tna 16 ?_;refine tna 17 ?_;refine tna 18 ?_;refine tna 19 ?_;refine tna 20 ?_;refine tna 21 ?_;refine tna 22 ?_;refine tna 23 ?_;refine tKa 24 (jB true) ?_;refine rF (by kernel_rfl) ?_ _;clear hS;go_wp2_with fail;go_meet;exact⟨_,rfl,rfl⟩
     have dg:=dF hgt
     have dg2:decide (x0<x1)=false:=by simpa using hgt
     cases good with
     |false=>
      refine tKa 0 (jB true) ?_;refine tKa 1 (jB false) ?_;refine tKa 2 (jB false) ?_;refine tKa 3 (jI kQ x1) ?_;refine tKa 4 (jP (some ⟨pb,0,none⟩)) ?_;refine tKa 5 (jP (some ⟨pb,0,none⟩)) ?_;refine tKa 6 (jP (some ⟨pb,4,none⟩)) ?_;refine tKa 7 (.map (some rb)) ?_;refine tka 8 (jG #[jI kQ m,jI kQ g,jB b0,jB b1,jB b2,jB b3,jB b4,jB b5,jB b6,jB b7,jB b8,jB b9,jB b10,jB b11,jB b12,jB b13,jB b14,jB b15,jI kQ t]) ?_ ?_
      ·(intro V hV;exact qO rfl rfl hV.2.1 rfl)
      refine tka 9 (jI kQ x0) ?_ ?_
      ·(intro V hV;exact qQ rfl rfl rfl (HLK.out false V hV.2.2))
      refine tKa 10 (jB false) ?_;refine tKa 11 (jB false) ?_;refine tKa 12 (jB false) ?_;refine tKa 13 (jB false) ?_;refine tKa 14 (jB false) ?_;refine tna 15 ?_;refine tna 16 ?_;refine tna 17 ?_;refine tna 18 ?_;refine tna 19 ?_;refine tna 20 ?_;refine tna 21 ?_;refine tna 22 ?_;refine tKa 23 (jB false) ?_;refine tKa 24 (jB false) ?_;refine rF (by kernel_rfl) ?_ _;clear hS;go_wp2_with fail;go_meet;exact⟨_,rfl,rfl⟩
     |true=>
      refine tKa 0 (jB true) ?_;refine tKa 1 (jB false) ?_;refine tKa 2 (jB false) ?_;refine tKa 3 (jI kQ x1) ?_;refine tKa 4 (jP (some ⟨pb,0,none⟩)) ?_;refine tKa 5 (jP (some ⟨pb,0,none⟩)) ?_;refine tKa 6 (jP (some ⟨pb,4,none⟩)) ?_;refine tKa 7 (.map (some rb)) ?_;refine tka 8 (jG #[jI kQ m,jI kQ g,jB b0,jB b1,jB b2,jB b3,jB b4,jB b5,jB b6,jB b7,jB b8,jB b9,jB b10,jB b11,jB b12,jB b13,jB b14,jB b15,jI kQ t]) ?_ ?_
      ·(intro V hV;exact qO rfl rfl hV.2.1 rfl)
      refine tka 9 (jI kQ x0) ?_ ?_
      ·(intro V hV;exact qQ rfl rfl rfl (HLK.out false V hV.2.2))
      refine tKa 10 (jB false) ?_;refine tKa 11 (jB false) ?_;refine tKa 12 (jB false) ?_;refine tKa 13 (jB true) ?_;refine tKa 14 (jB true) ?_;refine tKa 15 (jI kQ x1) ?_;refine tKa 16 (jP (some ⟨pb,0,none⟩)) ?_;refine tKa 17 (jP (some ⟨pb,0,none⟩)) ?_;refine tKa 18 (jP (some ⟨pb,4,none⟩)) ?_;refine tKa 19 (.map (some rb)) ?_;refine tka 20 (jG #[jI kQ m,jI kQ g,jB b0,jB b1,jB b2,jB b3,jB b4,jB b5,jB b6,jB b7,jB b8,jB b9,jB b10,jB b11,jB b12,jB b13,jB b14,jB b15,jI kQ t]) ?_ ?_
      ·(intro V hV;exact qO rfl rfl hV.2.1 rfl)
      refine tka 21 (jI kQ x0) ?_ ?_
      ·(intro V hV;exact qQ rfl rfl rfl (HLK.out false V hV.2.2))
      refine tKa 22 (jB (x1==x0)) ?_;refine tKa 23 (jB (x1==x0)) ?_;refine tKa 24 (jB (x1==x0)) ?_;refine rF (by kernel_rfl) ?_ _;clear hS;go_wp2_with fail;go_meet;exact⟨_,rfl,rfl⟩
   case rest=>
   obtain⟨bb,rfl,rfl⟩:=hcut;have HGE:=rA (HG8.out.trans (Gr.drawn w8 1));clear hs;cases bb with
   |true=>
    go_wp2_with fail;go_ret;exact⟨false,rfl,HF5.out.2.gr HGE.out,HG0.out.next (HF1.out.next (HF3.out.1.next (HF5.out.1.next (Fr.of_gr HGE.out))))⟩
   |false=>
    go_wp2_with fail;go_roundw
    case rel=>exact⟨j+1,by omega,by go_num,HGE⟩
    case measure=>simp[intOf];omega
