/- The judge's statement of regions: enough, progresses, validMeasure. -/
import Derived.Test.YtmabhhngoklncaaGreatDoorG
import Derived.Test.YtmabhhngoklncaaGreatDoorJ
set_option maxRecDepth 100000
set_option maxHeartbeats 40000000
set_option linter.all false
open Go.Lib renaming hid->rA
open Go.World renaming cell?_of_block->rB,cell?->rH
open List renaming getElem?_cons_zero->rC,getElem?_cons_succ->rD,getElem?_toArray->rF
open Go renaming heap_alloc_old->rE
open Nat renaming zero_le->rG,le_refl->rI
open Go.Proofs.Tryz renaming prog->rJ
open Go.Value renaming int->jI,slice->jS,pointer->jP,bool->jB,agg->jG
open Go.IntKind renaming i64->kQ
open Go.Ending renaming returned->jR
open Go Go.RowKit
namespace Go.Proofs.YtmabhhngoklncaaGreatDoor
variable {w:World}{am ao ap az:Option Addr}{cm co cp cs mb:Nat}{lm:List Int}
def IsD (w:World) (b:Bool) (e:Ending) (w':World):Prop:=e=jR (jB b)/\∃n,w'=w.drewN n
def enK (lm la:List Int) (b:Bool):Nat->Nat->Bool
 |0,_=>b
 |r+1,k=>if lm.getD k 0=la.getD k 0 then enK lm la b r (k+1) else decide (la.getD k 0<lm.getD k 0)
def enF (lm la:List Int) (P:Nat):Bool:=if la.length=0 then false else enK lm la ((P:Int) % 2==0) ((P+1) / 2) 0
theorem zMc {aa:Option Addr}{ca P:Nat}{la:List Int} (hm:Nums w (jS am lm.length cm) lm) (ha:Nums w (jS aa la.length ca) la) (hml:lm.length<=9223372036854775807) (hal:la.length<=9223372036854775807) (h1:P<=30000) (hd:(P+1) / 2<=lm.length) (he:la.length=0∨(P+1) / 2<=la.length):
  Calls rJ 433 #[jS am lm.length cm,jS aa la.length ca,jI kQ P] w (IsD w (enF lm la P)):=by
 have HM:=rA hm;have HA:=rA ha;clear hm ha;by_cases h0:la.length=0
 ·have hd0:((la.length:Int)==0)=true:=by simp[h0]
  go_enter Tryz.func433,Tryz.ntmps433;go_wp2_with fail;go_ret;exact⟨by simp[enF,h0],0,rfl⟩
 ·have hd0:((la.length:Int)==0)=false:=by rw[beq_eq_false_iff_ne];omega
  have hla:(P+1) / 2<=la.length:=by omega
  have hN:((P:Int)+1) / 2=(((P+1) / 2:Nat):Int):=by omega
  have hN2:(P+1) / 2<=lm.length:=hd;have hE:enF lm la P=enK lm la ((P:Int) % 2==0) ((P+1) / 2) 0:=by simp[enF,h0]
  generalize (P+1) / 2=N at hN hN2 hla hE;have hNm:N<=lm.length:=hN2;have hNa:N<=la.length:=hla;obtain⟨b2,hb2⟩:∃b2:Bool,(((P:Int) % 2==0)=b2):=⟨_,rfl⟩;rw[hb2] at hE;rw[hE];clear hE;clear hd he h0 hla hN2;go_enter Tryz.func433,Tryz.ntmps433;go_wp2_with fail;rw[hN];clear hN;go_loopw [14] (fun i wr=>∃k n:Nat,k<=N/\i=jI kQ k/\wr=w.drewN n/\Hid (enK lm la b2 N 0=enK lm la b2 (N - k) k)) (fun i _=>N - (intOf i).toNat)
  case atStart=>exact⟨0,0,rG _,rfl,rfl,rA rfl⟩
  case round=>
   obtain⟨k,n,hk,rfl,rfl,HE⟩:=hrel;by_cases hlt:k<N
   ·have hd:=dT hlt
    obtain⟨bm,om,rfl,cm0⟩:=(HM.out.drawn n).at (j:=k) (by omega);obtain⟨ba,oa,rfl,ca0⟩:=(HA.out.drawn n).at (j:=k) (by omega);have hdm:(k:Int)<(lm.length:Int):=by omega
    have hda:(k:Int)<(la.length:Int):=by omega
    obtain⟨x,hx⟩:∃x,lm.getD k 0=x:=⟨_,rfl⟩;obtain⟨y,hy⟩:∃y,la.getD k 0=y:=⟨_,rfl⟩;have HS:Hid (enK lm la b2 N 0=if x=y then enK lm la b2 (N - (k+1)) (k+1) else decide (y<x)):=rA (by
     rw[HE.out,show N - k=(N - (k+1))+1 by omega,enK,hx,hy])
    rw[hx] at cm0;rw[hy] at ca0;clear hx hy HE;obtain⟨wr,hwr⟩:∃wr,w.drewN n=wr:=⟨_,rfl⟩;rw[hwr] at cm0 ca0;rw[hwr];have HWR:=rA hwr;clear hwr;by_cases hxy:x=y
    ·subst hxy
     go_wp2_with fail;go_quiet (fail);rename_i nq;go_wp2_with fail;go_roundw
     case rel=>exact⟨k+1,n+nq,by omega,by go_num,by rw[<-HWR.out];exact xD _ _ _,rA (by rw[HS.out];simp)⟩
     case measure=>simp[intOf];omega
    ·have hne:(x==y)=false:=by simpa using hxy
     obtain⟨b3,hb3⟩:∃b3:Bool,decide (y<x)=b3:=⟨_,rfl⟩;have HS2:Hid (enK lm la b2 N 0=b3):=rA (by rw[HS.out,if_neg hxy,hb3]);go_wp2_with fail;go_quiet (fail);rename_i nq;go_wp2_with fail;go_quiet (fail);rename_i nr;go_wp2_with fail;go_ret;exact⟨by rw[HS2.out];rfl,_,by rw[<-HWR.out,xD,xD]⟩
   ·have hd:=dF hlt
    go_wp2_with fail;go_ret;exact⟨by rw[HE.out,show N - k=0 by omega];rfl,_,rfl⟩
structure GmR (w:World) (ao:Option Addr) (co:Nat) (o:List Int) (ap:Option Addr) (cp:Nat) (p:List Int) (az:Option Addr) (cs:Nat) (s:List (List Int)):Prop where
 o:Nums w (jS ao o.length co) o
 p:Nums w (jS ap p.length cp) p
 s:zR w (jS az s.length cs) s
theorem GmR.keep {w w':World} {ao ap az:Option Addr} {co cp cs:Nat} {o p:List Int} {s:List (List Int)} (h:GmR w ao co o ap cp p az cs s) (hB:Below w.heap.size w w'):GmR w' ao co o ap cp p az cs s:=⟨h.o.keep hB,h.p.keep hB,h.s.keep hB⟩
structure GmW (o p:List Int) (s:List (List Int)):Prop where
 n:o.length<=3000
 pl:p.length=o.length
 sl:s.length=o.length
 pr:∀v,v<o.length->0<=p.getD v 0/\p.getD v 0<=30000
 su:∀v,v<o.length->∀j,j<(s.getD v []).length->0<=(s.getD v []).getD j 0/\(s.getD v []).getD j 0<o.length
theorem zR.rowLen {v:Value}{l:List (List Int)} (h:zR w v l){j:Nat} (hj:j<l.length):(l.getD j []).length<=9223372036854775807:=by
 obtain⟨a',c',e,_,h⟩:=h;obtain⟨b,o,e,_,hc⟩:=h (fun e=>by rw[e] at hj;simp at hj);obtain⟨h1,_⟩:=hc j hj;have eA:l.getD j []=l[j]:=by simp[hj]
 rw[eA];exact h1
theorem zGu {v:Nat}{o p:List Int}{s ms:List (List Int)}{G:Nat} (hg:GmR w ao co o ap cp p az cs s) (hw:GmW o p s) (hm:zR w (jS am ms.length cm) ms) (hml:ms.length=o.length) (hv:v<o.length)
  (hG:∀j,j<o.length->p.getD j 0<=G) (hd:∀j,j<o.length->(ms.getD j []).length=0∨(G+1) / 2<=(ms.getD j []).length) (hv0:(ms.getD v []).length≠0):
  Calls rJ 432 #[jG #[jS ao o.length co,jS ap p.length cp,jS az s.length cs],jS am ms.length cm,jI kQ v] w (zO1 w):=by
 have hB:Below w.heap.size w (w.alloc (.cells #[jS ao o.length co,jS ap p.length cp,jS az s.length cs] 41)):=(Below.refl _ _).alloc (rI _) _;have HG:=rA (hg.keep hB);have HM:=rA (hm.keep hB);have HB:=rA hB;have d0:=zI w #[jS ao o.length co,jS ap p.length cp,jS az s.length cs] 41 0;have d1:=zI w #[jS ao o.length co,jS ap p.length cp,jS az s.length cs] 41 1;have d2:=zI w #[jS ao o.length co,jS ap p.length cp,jS az s.length cs] 41 2;simp only[rF,rD,rC] at d0 d1 d2;have HW:=rA hw;clear hg hm hB hw;have ol:=HW.out.n;have pl:=HW.out.pl;have sl:=HW.out.sl;have hvo:(v:Int)<(o.length:Int):=by omega
 have hvp:(v:Int)<(p.length:Int):=by omega
 have hvs:(v:Int)<(s.length:Int):=by omega
 have hvm:(v:Int)<(ms.length:Int):=by omega
 have PL:=rA pl;have SL:=rA sl;have ML:=rA hml;clear pl sl hml;go_enter Tryz.func432,Tryz.ntmps432;go_upto_region 1 with fail;generalize w.alloc (.cells #[jS ao o.length co,jS ap p.length cp,jS az s.length cs] 41)=w1 at*;obtain⟨bo,oo,rfl,co0⟩:=HG.out.o.at (j:=v) hv;obtain⟨bp,op,rfl,cp0⟩:=HG.out.p.at (j:=v) (by rw[PL.out];exact hv);obtain⟨bs,os,au,cu,rfl,cs0,hs0⟩:=HG.out.s.at (j:=v) (by rw[SL.out];exact hv);obtain⟨bm,om,av,cv,rfl,cm0,hm0⟩:=HM.out.at (j:=v) (by rw[ML.out];exact hv);have hr:=HG.out.s.rowLen (j:=v) (by rw[SL.out];exact hv);have hmr:=HM.out.rowLen (j:=v) (by rw[ML.out];exact hv);have HR:Hid (∀j,j<(s.getD v []).length->0<=(s.getD v []).getD j 0/\(s.getD v []).getD j 0<o.length):=rA (HW.out.su v hv);obtain⟨P,hP⟩:∃P:Nat,p.getD v 0=P:=⟨(p.getD v 0).toNat,by have:=HW.out.pr v hv;omega⟩;have hP3:P<=30000:=by have:=HW.out.pr v hv;omega
 have hPG:P<=G:=by have:=hG v hv;omega
 have hPm:(P+1) / 2<=(ms.getD v []).length:=by have:=(hd v hv).resolve_left hv0;omega
 rw[hP] at cp0;have HS0:=rA hs0;have HM0:=rA hm0;have HD:=rA hd;generalize s.getD v []=r at*;generalize ms.getD v []=mv at*;generalize o.getD v 0=x0 at*;clear hs0 hm0 hd hG hP hv0;obtain⟨b0,hb0⟩:∃b0:Bool,(x0==(0:Int))=b0:=⟨_,rfl⟩;go_wp2_with fail;go_loopw [22] (fun i wr=>∃k n:Nat,k<=r.length/\i=jI kQ k/\wr=w1.drewN n) (fun i _=>r.length - (intOf i).toNat)
 case atStart=>exact⟨0,0,rG _,rfl,rfl⟩
 case round=>
  obtain⟨k,n,hk,rfl,rfl⟩:=hrel;by_cases hlt:k<r.length
  ·have hd:=dT hlt
   obtain⟨br,or,rfl,cr0⟩:=(HS0.out.drawn n).at (j:=k) hlt;obtain⟨x0,x1⟩:=HR.out k hlt;obtain⟨x,hx⟩:∃x:Nat,r.getD k 0=x:=⟨(r.getD k 0).toNat,by omega⟩;rw[hx] at cr0 x0 x1;have hxo:x<o.length:=by omega
   have hxm:(x:Int)<(ms.length:Int):=by rw[ML.out];omega
   obtain⟨bm',om',aw,cw,e',cw0,hw0⟩:=HM.out.at (j:=x) (by rw[ML.out];exact hxo);simp only[Option.some.injEq,Addr.mk.injEq] at e';obtain⟨rfl,rfl, -⟩:=e';have hwr:=HM.out.rowLen (j:=x) (by rw[ML.out];exact hxo);have hdx:(ms.getD x []).length=0∨(P+1) / 2<=(ms.getD x []).length:=(HD.out x hxo).imp id (fun h=>by omega);generalize ms.getD x []=mx at*;have q:∀n,Calls rJ 433 #[jS av mv.length cv,jS aw mx.length cw,jI kQ P] (w1.drewN n) (fun e w'=>e=jR (jB (enF mv mx P))/\∃m',w'=(w1.drewN n).drewN m'):=fun n=>zMc (HM0.out.drawn n) (hw0.drawn n) hmr hwr hP3 hPm hdx
   obtain⟨b1,hb1⟩:∃b1,enF mv mx P=b1:=⟨_,rfl⟩;rw[hb1] at q;have d0':(w1.drewN n).cell? ⟨w.heap.size,0,none⟩=_:=d0;have d1':(w1.drewN n).cell? ⟨w.heap.size,1,none⟩=_:=d1;have cp0':(w1.drewN n).cell? ⟨bp,op+v,none⟩=_:=cp0;have cm0':(w1.drewN n).cell? ⟨bm,om+v,none⟩=_:=cm0;have cw0':(w1.drewN n).cell? ⟨bm,om+x,none⟩=_:=cw0;have q':∀m,Calls rJ 433 #[jS av mv.length cv,jS aw mx.length cw,jI kQ P] ((w1.drewN n).drewN m) (fun e w'=>e=jR (jB b1)/\∃m',w'=((w1.drewN n).drewN m).drewN m'):=fun m=>by rw[xD];exact q _
   have HBN:Hid (Below w.heap.size w (w1.drewN n)):=rA (yM HB.out n);obtain⟨wr,hwr⟩:∃wr,w1.drewN n=wr:=⟨_,rfl⟩;rw[hwr] at d0' d1' cp0' cm0' cw0' q' cr0 HBN;rw[hwr];have HWR:=rA hwr;clear hwr d0 d1 d2 co0 cp0 cs0 cm0 q hw0 hdx hx cw0;by_cases h12:b1=b0
   ·subst h12
    go_wp2_with fail;go_quiet ((go_at_call 433;with_reducible exact Calls.quiet_of (q' _)));go_wp2_with fail;go_ret;exact⟨_,rfl,yM HBN.out _⟩
   ·have hne:(b1==b0)=false:=by simpa using h12
    go_wp2_with fail;go_quiet ((go_at_call 433;with_reducible exact Calls.quiet_of (q' _)));rename_i nq;go_wp2_with fail;go_roundw
    case rel=>exact⟨k+1,n+nq,by omega,by go_num,by rw[<-HWR.out];exact xD _ _ _⟩
    case measure=>simp[intOf];omega
  ·have hd:=dF hlt
   go_wp2_with fail;go_ret;exact⟨_,rfl,yM HB.out _⟩
theorem kint (x:Int):KInt (jI kQ x):=⟨x,rfl⟩
theorem zKE (w:World):(zeroValue 3).run rJ w=.ok (jI kQ 0) w:=Tryz.zeroValue3 w
theorem AMap.look431 (h:AMap w mb KInt KInt) (x:Int):∃y:Int,∀n:Nat,(Instr.lookup 431 (.map (some mb)) (jI kQ x) false).run rJ (w.drewN n)=.ok (jI kQ y) (w.drewN n):=by
 obtain⟨v,b,h1,h2⟩:=h.look zNP Tryz.underlying431 zKE (kint x);obtain⟨y,rfl⟩:∃y,v=jI kQ y:=by
  rcases h2 with⟨_,y,rfl⟩|⟨_,rfl⟩
  ·exact⟨y,rfl⟩
  ·exact⟨0,rfl⟩
 exact⟨y,fun n=>h1 false n⟩
def VMs (l D:Nat) (w:World) (e:Ending) (w':World):Prop:=w'=w/\∃b:Bool,e=jR (jB b)/\(b=true->l=0∨D<=l)
theorem zFU {D:Nat} (hm:Nums w (jS am lm.length cm) lm) (hml:lm.length<=9223372036854775807) (hD:D<=15001) (hC:AMap w mb KInt KInt):
  Calls rJ 431 #[jS am lm.length cm,jI kQ D,.map (some mb)] w (VMs lm.length D w):=by
 have HM:=rA hm;have HC:=rA hC;clear hm hC;by_cases h0:lm.length=0
 ·have hd0:((lm.length:Int)==0)=true:=by simp[h0]
  go_enter Tryz.func431,Tryz.ntmps431;go_wp2_with fail;go_ret;exact⟨rfl,true,rfl,fun _=>.inl h0⟩
 ·have hd0:((lm.length:Int)==0)=false:=by rw[beq_eq_false_iff_ne];omega
  by_cases hD0:D=0
  ·subst hD0
   by_cases h1:lm.length=1
   ·have hd1:((lm.length:Int)==1)=true:=by simp[h1]
    obtain⟨b,o,rfl,c0⟩:=HM.out.at (j:=0) (by omega);have hlt:(0:Int)<(lm.length:Int):=by omega
    rw[Nat.add_zero] at c0;go_enter Tryz.func431,Tryz.ntmps431;go_wp2_with fail;go_ret;exact⟨rfl,_,rfl,fun _=>.inr (rG _)⟩
   ·have hd1:((lm.length:Int)==1)=false:=by rw[beq_eq_false_iff_ne];omega
    go_enter Tryz.func431,Tryz.ntmps431;go_wp2_with fail;go_ret;exact⟨rfl,_,rfl,fun _=>.inr (rG _)⟩
  ·have hDd:((D:Int)==0)=false:=by rw[beq_eq_false_iff_ne];omega
   by_cases h1:lm.length=D
   ·have hd1:((lm.length:Int)==(D:Int))=true:=by simp[h1]
    have HLD:Hid (lm.length=D):=rA h1;clear h1;go_enter Tryz.func431,Tryz.ntmps431;go_wp2_with fail;go_loopw [29] (fun i wr=>∃k:Nat,k<=lm.length/\i=jI kQ k/\wr=w) (fun i _=>lm.length - (intOf i).toNat)
    case atStart=>exact⟨0,rG _,rfl,rfl⟩
    case round=>
     obtain⟨k,hk,rfl,rfl⟩:=hrel;by_cases hlt:k<lm.length
     ·have hd:=dT hlt
      obtain⟨b,o,rfl,c0⟩:=HM.out.at (j:=k) hlt;have hkm:(k:Int)<(lm.length:Int):=by omega
      have hkD:(k:Int)<15001:=by have:=HLD.out;omega
      obtain⟨x,hx⟩:∃x,lm.getD k 0=x:=⟨_,rfl⟩;rw[hx] at c0;by_cases hx0:x<0
      ·have hdx:=dT hx0
       go_wp2_with fail;go_ret;exact⟨rfl,false,rfl,fun h=>by cases h⟩
      ·have hdx:=dF hx0
       obtain⟨y,hy⟩:=HC.out.look431 (2*k+1);have hlk:=hy 0;simp only[show∀W:World,W.drewN 0=W from fun _=>rfl] at hlk;by_cases hxy:y<x
       ·have hdy:=dT hxy
        go_wp2_with fail;go_ret;exact⟨rfl,false,rfl,fun h=>by cases h⟩
       ·have hdy:=dF hxy
        go_wp2_with fail;go_roundw
        case rel=>exact⟨k+1,by omega,by go_num,trivial⟩
        case measure=>simp[intOf];omega
     ·have hd:=dF hlt
      go_wp2_with fail;go_ret;exact⟨rfl,true,rfl,fun _=>.inr (Nat.le_of_eq HLD.out.symm)⟩
   ·have hd1:((lm.length:Int)==(D:Int))=false:=by rw[beq_eq_false_iff_ne];omega
    go_enter Tryz.func431,Tryz.ntmps431;go_wp2_with fail;go_ret;exact⟨rfl,false,rfl,fun h=>by cases h⟩
def VGm (o p:List Int) (s:List (List Int)) (w:World) (e:Ending) (w':World):Prop:=Below w.heap.size w w'/\∃b:Bool,e=jR (jB b)/\(b=true->GmW o p s)
def zSc (o p:List Int) (s:List (List Int)) (v:Nat):Prop:=(0<=p.getD v 0/\p.getD v 0<=30000)/\∀j,j<(s.getD v []).length->0<=(s.getD v []).getD j 0/\(s.getD v []).getD j 0<o.length
theorem zIi {o p:List Int}{s:List (List Int)} (hg:GmR w ao co o ap cp p az cs s) (hol:o.length<=9223372036854775807) (hpl:p.length<=9223372036854775807) (hsl:s.length<=9223372036854775807):
  Calls rJ 430 #[jG #[jS ao o.length co,jS ap p.length cp,jS az s.length cs]] w (VGm o p s w):=by
 have hB:Below w.heap.size w (w.alloc (.cells #[jS ao o.length co,jS ap p.length cp,jS az s.length cs] 41)):=(Below.refl _ _).alloc (rI _) _;have HG:=rA (hg.keep hB);have HB:=rA hB;have d0:=zI w #[jS ao o.length co,jS ap p.length cp,jS az s.length cs] 41 0;have d1:=zI w #[jS ao o.length co,jS ap p.length cp,jS az s.length cs] 41 1;have d2:=zI w #[jS ao o.length co,jS ap p.length cp,jS az s.length cs] 41 2;simp only[rF,rD,rC] at d0 d1 d2;clear hg hB;go_enter Tryz.func430,Tryz.ntmps430;go_upto_region 1 with fail;generalize w.alloc (.cells #[jS ao o.length co,jS ap p.length cp,jS az s.length cs] 41)=w1 at*;have HF:Hid (VGm o p s w (jR (jB false)) w1):=rA ⟨HB.out,false,rfl,fun h=>by cases h⟩;by_cases hn:3000<o.length
 ·have hd:decide ((3000:Int)<(o.length:Int))=true:=by simpa using(by omega:(3000:Int)<(o.length:Int))
  go_wp2_with fail;go_ret;exact HF.out
 ·have hd:decide ((3000:Int)<(o.length:Int))=false:=by simpa using(by omega:¬(3000:Int)<(o.length:Int))
  by_cases hp:p.length=o.length;rotate_left
  ·have hdp:((p.length:Int) !=(o.length:Int))=true:=by rw[bne_iff_ne];omega
   go_wp2_with fail;go_ret;exact HF.out
  have hdp:((p.length:Int) !=(o.length:Int))=false:=by rw[bne_eq_false_iff_eq];omega
  have PL:=rA hp;clear hp;by_cases hs:s.length=o.length;rotate_left
  ·have hds:((s.length:Int) !=(o.length:Int))=true:=by rw[bne_iff_ne];omega
   go_wp2_with fail;go_ret;exact HF.out
  have hds:((s.length:Int) !=(o.length:Int))=false:=by rw[bne_eq_false_iff_eq];omega
  have SL:=rA hs;clear hs;go_wp2_with fail;go_loopw [27] (fun i wr=>∃k:Nat,k<=o.length/\i=jI kQ k/\wr=w1/\Hid (∀v,v<k->zSc o p s v)) (fun i _=>o.length - (intOf i).toNat)
  case atStart=>exact⟨0,rG _,rfl,rfl,rA fun v hv=>by omega⟩
  case round=>
   obtain⟨k,hk,rfl,hwr,HP⟩:=hrel;rw[hwr];clear hwr;by_cases hlt:k<o.length;rotate_left
   ·have hdk:=dF hlt
    go_wp2_with fail;go_ret;exact⟨HB.out,true,rfl,fun _=>⟨by omega,PL.out,SL.out,fun v hv=>(HP.out v (by omega)).1,fun v hv=>(HP.out v (by omega)).2⟩⟩
   have hdk:=dT hlt
   obtain⟨bo,oo,rfl,co0⟩:=HG.out.o.at (j:=k) hlt;obtain⟨bp,op,rfl,cp0⟩:=HG.out.p.at (j:=k) (by rw[PL.out];exact hlt);obtain⟨bs,os,au,cu,rfl,cs0,hs0⟩:=HG.out.s.at (j:=k) (by rw[SL.out];exact hlt);have hr:=HG.out.s.rowLen (j:=k) (by rw[SL.out];exact hlt);have hvo:(k:Int)<(o.length:Int):=by omega
   have hvp:(k:Int)<(p.length:Int):=by rw[PL.out];omega
   have hvs:(k:Int)<(s.length:Int):=by rw[SL.out];omega
   have HPW:Hid (0<=p.getD k 0->p.getD k 0<=30000->(∀j,j<(s.getD k []).length->0<=(s.getD k []).getD j 0/\(s.getD k []).getD j 0<o.length)->∀v,v<k+1->zSc o p s v):=rA fun h1 h2 h3 v hv=>by
    by_cases e:v=k
    ·subst e;exact⟨⟨h1,h2⟩,h3⟩
    ·exact HP.out v (by omega)
   have HS0:=rA hs0;generalize s.getD k []=r at*;generalize o.getD k 0=x at*;generalize p.getD k 0=y at*;clear hs0 HP;by_cases hx0:x<0
   ·have hdx:=dT hx0
    go_wp2_with fail;go_ret;exact HF.out
   have hdx:=dF hx0
   by_cases hx1:1<x
   ·have hdx1:=dT hx1
    go_wp2_with fail;go_ret;exact HF.out
   have hdx1:=dF hx1
   by_cases hy0:y<0
   ·have hdy:=dT hy0
    go_wp2_with fail;go_ret;exact HF.out
   have hdy:=dF hy0
   by_cases hy1:30000<y
   ·have hdy1:=dT hy1
    go_wp2_with fail;go_ret;exact HF.out
   have hdy1:=dF hy1
   by_cases hr0:r.length=0
   ·have hdr:((r.length:Int)==0)=true:=by simp[hr0]
    go_wp2_with fail;go_ret;exact HF.out
   have hdr:((r.length:Int)==0)=false:=by rw[beq_eq_false_iff_ne];omega
   have HPX:=rA (HPW.out (by omega) (by omega));clear HPW;go_wp2_with fail;go_loopw [75] (fun i wr=>∃j:Nat,j<=r.length/\i=jI kQ j/\wr=w1/\Hid (∀v,v<j->0<=r.getD v 0/\r.getD v 0<o.length)) (fun i _=>r.length - (intOf i).toNat)
   case atStart=>exact⟨0,rG _,rfl,rfl,rA fun v hv=>by omega⟩
   case round=>
    obtain⟨j,hj,rfl,hwr,HJ⟩:=hrel;rw[hwr];clear hwr;by_cases hlj:j<r.length;rotate_left
    ·have hdj:=dF hlj
     go_wp2_with fail;go_roundw
     case rel=>exact⟨k+1,by omega,by go_num,trivial,rA (HPX.out fun v hv=>HJ.out v (by omega))⟩
     case measure=>simp[intOf];omega
    have hdj:=dT hlj
    obtain⟨br,or,rfl,cr0⟩:=HS0.out.at (j:=j) hlj;have hjr:(j:Int)<(r.length:Int):=by omega
    have HJ2:Hid (0<=r.getD j 0->r.getD j 0<o.length->∀v,v<j+1->0<=r.getD v 0/\r.getD v 0<o.length):=rA fun h1 h2 v hv=>by
     by_cases e:v=j
     ·subst e;exact⟨h1,h2⟩
     ·exact HJ.out v (by omega)
    generalize r.getD j 0=z at*;clear HJ;by_cases hz0:z<0
    ·have hdz:=dT hz0
     go_wp2_with fail;go_ret;exact HF.out
    have hdz:=dF hz0
    by_cases hz1:(o.length:Int)<=z
    ·have hdz1:=dT hz1
     go_wp2_with fail;go_ret;exact HF.out
    have hdz1:=dF hz1
    have HJ3:=rA (HJ2.out (by omega) (by omega));go_wp2_with fail;go_roundw
    case rel=>exact⟨j+1,by omega,by go_num,trivial,HJ3⟩
    case measure=>simp[intOf];omega
structure RgS (w W:World) (g mb:Nat) (gv:Array Value):Prop where
 fr:Below w.heap.size w W
 gm:W.heap[g]? =some (.cells gv 41 (0,0))
 mp:AMap W mb KInt KInt
 lt:w.heap.size<=g/\w.heap.size<=mb/\mb≠g
section
variable {w W W':World} {g mb:Nat} {gv:Array Value}
theorem Below.turned {B:Nat} (h:Below B w W) (ht:W.mapTurned W' mb) (hm:B<=mb):Below B w W':=by
 have hF:=(Fr.of_below (p:=fun _=>false) h).turned ht (.inr hm);exact⟨hF.os,hF.tape,hF.output,hF.size,fun k hk=>hF.block k hk rfl⟩
theorem RgS.turned (h:RgS w W g mb gv) (hA:AMap W' mb KInt KInt) (ht:W.mapTurned W' mb):RgS w W' g mb gv:=
 ⟨Below.turned h.fr ht h.lt.2.1,(zT ht (Ne.symm h.lt.2.2)).trans h.gm,hA,h.lt⟩
theorem RgS.below (h:RgS w W g mb gv) (hB:Below W.heap.size W W'):RgS w W' g mb gv:=
 ⟨h.fr.trans (hB.mono h.fr.size),(hB.block _ (Array.getElem?_eq_some_iff.1 h.gm).1).trans h.gm,h.mp.of_block (hB.block _ h.mp.lt),h.lt⟩
theorem RgS.cell (h:RgS w W g mb gv) (j:Nat):W.cell? ⟨g,j,none⟩=gv[j]? :=by simp[rH,h.gm]
end
theorem zNl:q6 429:=by
 intro w C x cl hz hv _;have hCB:=(Array.getElem?_eq_some_iff.1 hz).1;have hB:Below w.heap.size w (w.alloc (.cells #[jP (some ⟨C,0,none⟩)] 95)):=(Below.refl _ _).alloc (rI _) _;have hz1:=(hB.block C hCB).trans hz;have d0:=zI w #[jP (some ⟨C,0,none⟩)] 95 0;simp only[rF,rD,rC] at d0;have c18:(w.alloc (.cells #[jP (some ⟨C,0,none⟩)] 95)).cell? ⟨C,18,none⟩=some (jS x.a18 cl.game.owner.length x.c18):=by simp[rH,hz1,Cv.cells]
 have c19:(w.alloc (.cells #[jP (some ⟨C,0,none⟩)] 95)).cell? ⟨C,19,none⟩=some (jS x.a19 cl.game.prio.length x.c19):=by simp[rH,hz1,Cv.cells]
 have c20:(w.alloc (.cells #[jP (some ⟨C,0,none⟩)] 95)).cell? ⟨C,20,none⟩=some (jS x.a20 cl.game.succ.length x.c20):=by simp[rH,hz1,Cv.cells]
 have c21:(w.alloc (.cells #[jP (some ⟨C,0,none⟩)] 95)).cell? ⟨C,21,none⟩=some (jS x.a21 cl.game.meas.length x.c21):=by simp[rH,hz1,Cv.cells]
 have HV:=rA (hv.keep hB);have HB:=rA hB;clear hB hz hv hz1;go_enter Tryz.func429,Tryz.ntmps429;go_upto_region 1 with fail;have hl0:w.heap.size<(w.alloc (.cells #[jP (some ⟨C,0,none⟩)] 95)).heap.size:=by simp
 generalize w.alloc (.cells #[jP (some ⟨C,0,none⟩)] 95)=w1 at*;have hC1:C<w1.heap.size:=by omega
 have e0:(w1.alloc (.cells QB.q 41)).cell? ⟨w.heap.size,0,none⟩=_:=(rB (rE _ _ hl0)).trans d0;have e18:(w1.alloc (.cells QB.q 41)).cell? ⟨C,18,none⟩=_:=(rB (rE _ _ hC1)).trans c18;have e19:(w1.alloc (.cells QB.q 41)).cell? ⟨C,19,none⟩=_:=(rB (rE _ _ hC1)).trans c19;have e20:(w1.alloc (.cells QB.q 41)).cell? ⟨C,20,none⟩=_:=(rB (rE _ _ hC1)).trans c20;have e21:(w1.alloc (.cells QB.q 41)).cell? ⟨C,21,none⟩=_:=(rB (rE _ _ hC1)).trans c21;have f0:(w1.alloc (.cells #[jS x.a18 cl.game.owner.length x.c18,jS x.a19 cl.game.prio.length x.c19,jS x.a20 cl.game.succ.length x.c20] 41)).cell? ⟨w.heap.size,0,none⟩=_:=(rB (rE _ _ hl0)).trans d0;have f21:(w1.alloc (.cells #[jS x.a18 cl.game.owner.length x.c18,jS x.a19 cl.game.prio.length x.c19,jS x.a20 cl.game.succ.length x.c20] 41)).cell? ⟨C,21,none⟩=_:=(rB (rE _ _ hC1)).trans c21;clear hl0;go_region;have HW:Hid (∀W:World,W=(w1.alloc (.cells #[jS x.a18 cl.game.owner.length x.c18,jS x.a19 cl.game.prio.length x.c19,jS x.a20 cl.game.succ.length x.c20] 41)).drew->W.heap[w1.heap.size]? =some (.cells #[jS x.a18 cl.game.owner.length x.c18,jS x.a19 cl.game.prio.length x.c19,jS x.a20 cl.game.succ.length x.c20] 41 (0,0))/\Below w1.heap.size w1 W):=rA fun W e=>by
  subst e;exact⟨heap_alloc_new _ _,yM ((Below.refl _ _).alloc (rI _) _) 1⟩
 obtain⟨hz2,hB2⟩:=HW.out _ rfl;have HZ2:=rA hz2;have HB2:=rA hB2;clear HW e0 e18 e19 e20 e21 f0 f21 d0 c18 c19 c20 c21 hz2 hB2;generalize (w1.alloc (.cells #[jS x.a18 cl.game.owner.length x.c18,jS x.a19 cl.game.prio.length x.c19,jS x.a20 cl.game.succ.length x.c20] 41)).drew=w2 at*;have HV2:=rA (HV.out.keep HB2.out);have HB02:=rA (HB.out.trans (HB2.out.mono HB.out.size));have HLT:Hid (w.heap.size<=w1.heap.size/\w1.heap.size<w2.heap.size):=rA ⟨HB.out.size,(Array.getElem?_eq_some_iff.1 HZ2.out).1⟩;have hol:=HV2.out.ownerL;have hpl:=HV2.out.prioL;have hsl:cl.game.succ.length<=9223372036854775807:=by obtain⟨_,_,_,h,_⟩:=HV2.out.succ;exact h
 have hml:cl.game.meas.length<=9223372036854775807:=by obtain⟨_,_,_,h,_⟩:=HV2.out.meas;exact h
 have HG2:Hid (GmR w2 x.a18 x.c18 cl.game.owner x.a19 x.c19 cl.game.prio x.a20 x.c20 cl.game.succ):=rA ⟨HV2.out.owner,HV2.out.prio,HV2.out.succ⟩;have HM2:=rA HV2.out.meas;have HC:=rA (zIi HG2.out hol hpl hsl);clear HV HV2 HB HB2;generalize w1.heap.size=g at*;generalize x.a18=ao at*;generalize x.c18=co at*;generalize x.a19=ap at*;generalize x.c19=cp at*;generalize x.a20=az at*;generalize x.c20=cz at*;generalize x.a21=am at*;generalize x.c21=cm at*;generalize cl.game.owner=o at*;generalize cl.game.prio=p at*;generalize cl.game.succ=s at*;generalize cl.game.meas=ms at*;have k0:w2.cell? ⟨g,0,none⟩=some (jS ao o.length co):=by simp[rH,HZ2.out]
 have k1:w2.cell? ⟨g,1,none⟩=some (jS ap p.length cp):=by simp[rH,HZ2.out]
 have k2:w2.cell? ⟨g,2,none⟩=some (jS az s.length cz):=by simp[rH,HZ2.out]
 go_wp2_with fail;refine HC.out.mono ?_;rintro e w3 ⟨hB3,b,rfl,hb⟩;have k0':=(hB3.cell (p:=⟨g,0,none⟩) HLT.out.2).trans k0;have k1':=(hB3.cell (p:=⟨g,1,none⟩) HLT.out.2).trans k1;have k2':=(hB3.cell (p:=⟨g,2,none⟩) HLT.out.2).trans k2;have HB3:=rA (HB02.out.trans (hB3.mono HB02.out.size));have HZ3:=rA ((hB3.block _ HLT.out.2).trans HZ2.out);have HG3:=rA (HG2.out.keep hB3);have HM3:=rA (HM2.out.keep hB3);have HL3:Hid (w.heap.size<=g/\g<w3.heap.size):=rA ⟨HLT.out.1,Nat.lt_of_lt_of_le HLT.out.2 hB3.size⟩;clear HC HG2 HM2 hB3 k0 k1 k2 HZ2 HB02 HLT;cases b with
 |false=>
  go_wp2_with fail;go_ret;exact⟨false,rfl,HB3.out⟩
 |true=>
  have HGW:=rA (hb rfl);clear hb;by_cases hm:ms.length=o.length;rotate_left
  ·have hdm:((ms.length:Int) !=(o.length:Int))=true:=by rw[bne_iff_ne];omega
   go_wp2_with fail;go_ret;exact⟨false,rfl,HB3.out⟩
  have hdm:((ms.length:Int) !=(o.length:Int))=false:=by rw[bne_eq_false_iff_eq];omega
  have ML:=rA hm;clear hm;have hmm:=xK 431;go_upto_region 6 with fail;clear hmm;have HR4:Hid (∀W:World,W=w3.alloc (.map #[] 0)->RgS w W g w3.heap.size #[jS ao o.length co,jS ap p.length cp,jS az s.length cz]/\Below w3.heap.size w3 W):=rA fun W e=>by
   subst e;exact⟨⟨HB3.out.alloc HB3.out.size _,(rE _ _ HL3.out.2).trans HZ3.out,AMap.made _ _ _,HL3.out.1,HB3.out.size,by have:=HL3.out.2;omega⟩,(Below.refl _ _).alloc (rI _) _⟩
  obtain⟨r4,b4⟩:=HR4.out _ rfl;have HR:=rA r4;have HB4:=rA b4;clear HR4 r4 b4;generalize w3.alloc (.map #[] 0)=w4 at*;have HK:Hid (∀W,Below w3.heap.size w4 W->GmR W ao co o ap cp p az cz s/\zR W (jS am ms.length cm) ms):=rA fun W hW=>⟨HG3.out.keep (HB4.out.trans hW),HM3.out.keep (HB4.out.trans hW)⟩
  generalize w3.heap.size=mb at*;have kp:=(HR.out.cell 1).trans rfl;simp only[rF,rD,rC] at kp;clear k0' k1' k2' HB3 HZ3 HG3 HM3 HL3 HB4;go_wp2_with fail;go_loopw [5,38] (fun t i wr=>∃k gr:Nat,k<=p.length/\i=jI kQ k/\t=jI kQ gr/\gr<=30000/\Hid (RgS w wr g mb #[jS ao o.length co,jS ap p.length cp,jS az s.length cz]/\Below mb w4 wr/\∀j,j<k->p.getD j 0<=gr)) (fun _ i _=>p.length - (intOf i).toNat)
  case atStart=>exact⟨0,0,rG _,rfl,rfl,by omega,rA ⟨HR.out,Below.refl _ _,fun j hj=>by omega⟩⟩
  case round=>
   obtain⟨k,gr,hk,rfl,rfl,hgr,HI⟩:=hrel;clear kp HR;by_cases hlt:k<p.length
   ·have hdk:=dT hlt
    obtain⟨bp,op,rfl,cp0⟩:=(HK.out _ HI.out.2.1).1.p.at (j:=k) hlt;have hkp:(k:Int)<(p.length:Int):=by omega
    obtain⟨X,hX⟩:∃X:Nat,p.getD k 0=X:=⟨(p.getD k 0).toNat,by have:=HGW.out.pr k (by rw[<-HGW.out.pl];exact hlt);omega⟩;have hX3:X<=30000:=by have:=HGW.out.pr k (by rw[<-HGW.out.pl];exact hlt);omega
    rw[hX] at cp0;obtain⟨y,hy⟩:=HI.out.1.mp.look431 X;have hlk:=hy 0;simp only[show∀W:World,W.drewN 0=W from fun _=>rfl] at hlk;have HX:=rA hX;clear hy hX;have HN:Hid (∀m:Nat,gr<=m->X<=m->∀j,j<k+1->p.getD j 0<=m):=rA fun m h1 h2 j hj=>by
     by_cases e:j=k
     ·subst e;rw[HX.out];omega
     ·have:=HI.out.2.2 j (by omega);omega
    by_cases hle:gr<X
    ·have hmx:=dT hle
     go_wp2_with (first|(refine zDV HI.out.1.mp zNP Tryz.underlying431 (kint _) (kint _) rfl (.tmp 45) (.tmp 46) (.tmp 48) rfl rfl rfl rfl ?_));intro w5 hA5 ht5;have HI5:=rA (And.intro (HI.out.1.turned hA5 ht5) (Below.turned HI.out.2.1 ht5 (rI _)));clear hA5 ht5;go_wp2_with fail;go_roundw
     case rel=>exact⟨k+1,X,by omega,by go_num,rfl,by omega,rA ⟨HI5.out.1,HI5.out.2,HN.out X (by omega) (by omega)⟩⟩
     case measure=>simp[intOf];omega
    ·have hmx:=dF hle
     go_wp2_with (first|(refine zDV HI.out.1.mp zNP Tryz.underlying431 (kint _) (kint _) rfl (.tmp 45) (.tmp 46) (.tmp 48) rfl rfl rfl rfl ?_));intro w5 hA5 ht5;have HI5:=rA (And.intro (HI.out.1.turned hA5 ht5) (Below.turned HI.out.2.1 ht5 (rI _)));clear hA5 ht5;go_wp2_with fail;go_roundw
     case rel=>exact⟨k+1,gr,by omega,by go_num,rfl,by omega,rA ⟨HI5.out.1,HI5.out.2,HN.out gr (by omega) (by omega)⟩⟩
     case measure=>simp[intOf];omega
   ·have hdk:=dF hlt
    have HGP:Hid (∀j,j<o.length->p.getD j 0<=gr):=rA fun j hj=>HI.out.2.2 j (by have:=HGW.out.pl;omega)
    by_cases h30:gr=30000
    ·subst h30
     go_wp2_with fail;go_ret;exact⟨false,rfl,HI.out.1.fr⟩
    have hd30:((gr:Int)==30000)=false:=by rw[beq_eq_false_iff_ne];omega
    have hd30':(gr==30000)=false:=by rw[beq_eq_false_iff_ne];omega
    obtain⟨D,hD⟩:∃D,(gr+1) / 2=D:=⟨_,rfl⟩;have hDi:((gr:Int)+1) / 2=(D:Int):=by omega
    have hD15:D<=15001:=by omega
    have HDg:=rA hD;clear hD;go_wp2_with fail;go_loopw [54] (fun i wq=>∃j:Nat,j<=ms.length/\i=jI kQ j/\wq=wr/\Hid (∀v,v<j->(ms.getD v []).length=0∨D<=(ms.getD v []).length)) (fun i _=>ms.length - (intOf i).toNat)
    case atStart=>exact⟨0,rG _,rfl,rfl,rA fun v hv=>by omega⟩
    case round=>
     obtain⟨j,hj,rfl,hwr,HJ⟩:=hrel;rw[hwr];clear hwr;by_cases hlj:j<ms.length
     ·have hdj:=dT hlj
      obtain⟨bm,om,au,cu,rfl,cm0,hn⟩:=(HK.out _ HI.out.2.1).2.at (j:=j) hlj;have hjm:(j:Int)<(ms.length:Int):=by omega
      have hml2:=(HK.out _ HI.out.2.1).2.rowLen (j:=j) hlj;have HC:=rA (zFU hn hml2 hD15 HI.out.1.mp);have HJ2:Hid ((ms.getD j []).length=0∨D<=(ms.getD j []).length->∀v,v<j+1->(ms.getD v []).length=0∨D<=(ms.getD v []).length):=rA fun h v hv=>by
       by_cases e:v=j
       ·subst e;exact h
       ·exact HJ.out v (by omega)
      clear hn HJ;generalize ms.getD j []=mv at*;go_wp2_with fail;refine HC.out.mono ?_;rintro e w5 ⟨hw5,b,rfl,hb⟩;rw[hw5];clear hw5 HC;cases b with
      |false=>
       go_wp2_with fail;go_ret;exact⟨false,rfl,HI.out.1.fr⟩
      |true=>
       have HJ3:=rA (HJ2.out (hb rfl));clear hb;go_wp2_with fail;go_roundw
       case rel=>exact⟨j+1,by omega,by go_num,trivial,HJ3⟩
       case measure=>simp[intOf];omega
     ·have hdj:=dF hlj
      have HMD:Hid (∀j,j<o.length->(ms.getD j []).length=0∨(gr+1) / 2<=(ms.getD j []).length):=rA fun v hv=>by rw[HDg.out];exact HJ.out v (by have:=ML.out;omega)
      have HI3:=rA (And.intro HI.out.1 HI.out.2.1);clear HJ HI;go_wp2_with fail;go_loopw [68] (fun i wq=>∃v:Nat,v<=ms.length/\i=jI kQ v/\Hid (RgS w wq g mb #[jS ao o.length co,jS ap p.length cp,jS az s.length cz]/\Below mb w4 wq)) (fun i _=>ms.length - (intOf i).toNat)
      case atStart=>exact⟨0,rG _,rfl,HI3⟩
      case round=>
       obtain⟨v,hv,rfl,HI⟩:=hrel;clear HI3;by_cases hlv:v<ms.length;rotate_left
       ·have hdv:=dF hlv
        go_wp2_with fail;go_ret;exact⟨true,rfl,HI.out.1.fr⟩
       have hdv:=dT hlv
       have hrows:=HK.out _ HI.out.2;obtain⟨bm,om,au,cu,rfl,cm0,hn⟩:=hrows.2.at (j:=v) hlv;have hvm:(v:Int)<(ms.length:Int):=by omega
       have HRW:=rA hrows;clear hrows hn;by_cases hv0:(ms.getD v []).length=0
       ·have hd0:decide (0<(ms.getD v []).length)=false:=by rw[hv0];rfl
        generalize ms.getD v []=mv at*;go_wp2_with fail;go_roundw
        case rel=>exact⟨v+1,by omega,by go_num,HI⟩
        case measure=>simp[intOf];omega
       have hd0:decide (0<(ms.getD v []).length)=true:=by rw[decide_eq_true_iff];omega
       have HC:=rA (zGu HRW.out.1 HGW.out HRW.out.2 ML.out (by rw[<-ML.out];exact hlv) HGP.out HMD.out hv0);have q0:=HI.out.1.cell 0;have q1:=HI.out.1.cell 1;have q2:=HI.out.1.cell 2;simp only[rF,rD,rC] at q0 q1 q2;clear hv0;generalize ms.getD v []=mv at*;go_wp2_with fail;refine HC.out.mono ?_;rintro e w6 ⟨b,rfl,hB6⟩;have HI6:=rA (And.intro (HI.out.1.below hB6) (HI.out.2.trans (hB6.mono (Nat.le_of_lt HI.out.1.mp.lt))));clear hB6 HC q0 q1 q2;cases b with
       |false=>
        go_wp2_with fail;go_ret;exact⟨false,rfl,HI6.out.1.fr⟩
       |true=>
        go_wp2_with fail;go_roundw
        case rel=>exact⟨v+1,by omega,by go_num,HI6⟩
        case measure=>simp[intOf];omega
