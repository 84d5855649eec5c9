/- The walk of formula.Compare. Compare is an order, in plain words. Sorting formulas. -/
import Derived.Test.YtckdgniecdfedaaGreatDoorRzD
import Derived.Deep.RegionHeldLaw
import Derived.Lib.SlicesCompact
namespace Go.Proofs.YtckdgniecdfedaaGreatDoor
section
open Go.RowKit
variable {n0:Nat}
theorem stkN_len:∀S:List (Fs×Fs),S.length≤stkN S
 |[]=>Nat.le_refl _
 |t::S=>by have:=stkN_len S;simp only[List.length_cons,stkN];omega
def CmpSt (n0:Nat) (w:World) (C:Int) (g:Nat) (o:Value) (wr:World):Prop:=
 ∃(S:List (Fs×Fs)) (B cap:Nat) (cs:Array Value) (T:TypeId),o=.slice (some ⟨B,0,none⟩) S.length cap∧S.length≤cap∧cap≤maxLen∧Hid (wr.heap[B]? =some (.cells cs T (0,0)))∧Hid (cs.size=cap*2)∧Hid (w.heap.size≤B)∧Hid (Below w.heap.size w wr)∧Hid (w.drawn≤wr.drawn)∧
  Hid (StkC n0 w cs S)∧Hid (cmpL (stkF Prod.fst S) (stkF Prod.snd S)=C)∧Hid (stkN S≤g∧stkN S≤200001)
set_option maxRecDepth 100000 in
set_option maxHeartbeats 4000000 in
theorem compare251 {w:World} {op v bd op' v' bd':Int} {nm nm':ByteArray} {a a':Option Addr} {c c':Nat} {f g:Fs} (hf:FArgs w a f) (hg:FArgs w a' g) (hpf:PArgs n0 w a f) (hpg:PArgs n0 w a' g) (hnm:nm.size≤9223372036854775807) (hnm':nm'.size≤9223372036854775807) (hl:f.len≤9223372036854775807) (hl':g.len≤9223372036854775807) (hc:f.len≤c) (hc':g.len≤c') (hn:f.nodes≤100000):
  Calls Tryz.prog 251 #[.agg #[.int .i64 op,.string nm,.int .i64 v,.int .i64 bd,.slice a f.len c],.agg #[.int .i64 op',.string nm',.int .i64 v',.int .i64 bd',.slice a' g.len c']] w fun e w'=>
   e=.returned (.int .i64 (cmpL (keyF (.cons op nm v bd f .nil)) (keyF (.cons op' nm' v' bd' g .nil))))∧Below w.heap.size w w'∧w.drawn≤w'.drawn:=by
 obtain⟨k0,k1,kS,kB⟩:=new2 w (.cells #[.int .i64 op,.string nm,.int .i64 v,.int .i64 bd,.slice a f.len c] 48) (.cells #[.int .i64 op',.string nm',.int .i64 v',.int .i64 bd',.slice a' g.len c'] 48)
 have kd:((w.alloc (.cells #[.int .i64 op,.string nm,.int .i64 v,.int .i64 bd,.slice a f.len c] 48)).alloc (.cells #[.int .i64 op',.string nm',.int .i64 v',.int .i64 bd',.slice a' g.len c'] 48)).drawn=w.drawn:=rfl
 go_enter Tryz.func251,Tryz.ntmps251
 go_wp2_with fail
 generalize (w.alloc (.cells #[.int .i64 op,.string nm,.int .i64 v,.int .i64 bd,.slice a f.len c] 48)).alloc (.cells #[.int .i64 op',.string nm',.int .i64 v',.int .i64 bd',.slice a' g.len c'] 48)=W1 at*
 have HF1:=Lib.hid (hf.keep kB)
 have HG1:=Lib.hid (hg.keep kB)
 have hA1:FAt W1 (.cons op nm v bd f .nil) w.heap.size 0:=⟨by simp[World.cell?,k0],by simp[World.cell?,k0],hnm,by simp[World.cell?,k0],by simp[World.cell?,k0],hl,⟨a,c,by simp[World.cell?,k0],hc,HF1.out⟩,trivial⟩
 have hA2:FAt W1 (.cons op' nm' v' bd' g .nil) (w.heap.size+1) 0:=⟨by simp[World.cell?,k1],by simp[World.cell?,k1],hnm',by simp[World.cell?,k1],by simp[World.cell?,k1],hl',⟨a',c',by simp[World.cell?,k1],hc',HG1.out⟩,trivial⟩
 have d4:W1.cell? ⟨w.heap.size,4,none⟩=some (.slice a f.len c):=by simp[World.cell?,k0]
 have d4':W1.cell? ⟨w.heap.size+1,4,none⟩=some (.slice a' g.len c'):=by simp[World.cell?,k1]
 refine(compare307 hA1 hA2).mono ?_
 rintro e W2 ⟨rfl,q,rfl⟩
 have HKB:=Lib.hid (And.intro kS (And.intro kB kd))
 have d4:(W1.drewN q).cell? ⟨w.heap.size,4,none⟩=some (.slice a f.len c):=d4
 have d4':(W1.drewN q).cell? ⟨w.heap.size+1,4,none⟩=some (.slice a' g.len c'):=d4'
 have HB2:Hid (Below w.heap.size w (W1.drewN q)∧w.drawn≤(W1.drewN q).drawn∧(W1.drewN q).heap.size=w.heap.size+2):=Lib.hid ⟨below_drawn kB q,by rw[←kd];exact Nat.le_add_right _ _,kS⟩
 generalize hkk:cmpKy ⟨op,nm,v,bd,f.len⟩ ⟨op',nm',v',bd',g.len⟩=k at*
 clear kS kB kd k0 k1 hA1 hA2
 generalize W1.drewN q=W2 at*
 by_cases hk0:k=0
 ·by_cases hfl:f.len=0
  ·have hf0:=Fs.nil_of hfl
   have hky:=cmpKy_eq (hkk.trans hk0)
   have hg0:g=.nil:=Fs.nil_of (by injection hky;omega)
   subst hk0 hf0 hg0
   simp only[Fs.len] at d4 d4'
   go_wp2_with fail
   go_ret
   exact⟨congrArg (fun x=>Ending.returned (.int .i64 x)) (by simp only[Fs.len] at hkk;simp[keyF,cmpL,hkk,Fs.len]),HB2.out.1,HB2.out.2.1⟩
  ·have hb1:(k !=0)=false:=by simp[hk0]
   have hb2:((f.len:Int)==0)=false:=by simp;omega
   go_upto_region 5 with fail
   have m1:=World.alloc_heap_new W2 (.cells #[.slice none 0 0,.slice none 0 0,.slice none 0 0,.slice none 0 0,.slice none 0 0,.slice none 0 0,.slice none 0 0,.slice none 0 0,.slice none 0 0,.slice none 0 0,.slice none 0 0,.slice none 0 0,.slice none 0 0,.slice none 0 0,.slice none 0 0,.slice none 0 0] 392)
   have mB:=(Below.refl W2.heap.size W2).alloc (Nat.le_refl _) (.cells #[.slice none 0 0,.slice none 0 0,.slice none 0 0,.slice none 0 0,.slice none 0 0,.slice none 0 0,.slice none 0 0,.slice none 0 0,.slice none 0 0,.slice none 0 0,.slice none 0 0,.slice none 0 0,.slice none 0 0,.slice none 0 0,.slice none 0 0,.slice none 0 0] 392)
   have mS:=World.size_alloc W2 (.cells #[.slice none 0 0,.slice none 0 0,.slice none 0 0,.slice none 0 0,.slice none 0 0,.slice none 0 0,.slice none 0 0,.slice none 0 0,.slice none 0 0,.slice none 0 0,.slice none 0 0,.slice none 0 0,.slice none 0 0,.slice none 0 0,.slice none 0 0,.slice none 0 0] 392)
   have md:(W2.alloc (.cells #[.slice none 0 0,.slice none 0 0,.slice none 0 0,.slice none 0 0,.slice none 0 0,.slice none 0 0,.slice none 0 0,.slice none 0 0,.slice none 0 0,.slice none 0 0,.slice none 0 0,.slice none 0 0,.slice none 0 0,.slice none 0 0,.slice none 0 0,.slice none 0 0] 392)).drawn=W2.drawn:=rfl
   generalize W2.alloc (.cells #[.slice none 0 0,.slice none 0 0,.slice none 0 0,.slice none 0 0,.slice none 0 0,.slice none 0 0,.slice none 0 0,.slice none 0 0,.slice none 0 0,.slice none 0 0,.slice none 0 0,.slice none 0 0,.slice none 0 0,.slice none 0 0,.slice none 0 0,.slice none 0 0] 392)=W3 at*
   have d4:=(mB.cell (p:=⟨w.heap.size,4,none⟩) (by show w.heap.size<W2.heap.size;have:=HB2.out.2.2;omega)).trans d4
   have d4':=(mB.cell (p:=⟨w.heap.size+1,4,none⟩) (by show w.heap.size+1<W2.heap.size;have:=HB2.out.2.2;omega)).trans d4'
   have MM:=Lib.hid (And.intro m1 (And.intro mB (And.intro mS md)))
   clear m1 mB mS md
   have HFV:Hid (GV n0 w (.slice a f.len c) f):=Lib.hid ⟨⟨hl,a,c,rfl,hc,hf⟩,fun _ _ _ e=>by injection e;subst_vars;exact hpf⟩
   have HGV:Hid (GV n0 w (.slice a' g.len c') g):=Lib.hid ⟨⟨hl',a',c',rfl,hc',hg⟩,fun _ _ _ e=>by injection e;subst_vars;exact hpg⟩
   have hkey:=cmpKy_eq (hkk.trans hk0)
   have HC:Hid (cmpL (keyF f) (keyF g)=cmpL (keyF (.cons op nm v bd f .nil)) (keyF (.cons op' nm' v' bd' g .nil))):=Lib.hid (by
    simp only[keyF,List.append_nil,cmpL]
    rw[hkk,if_pos hk0])
   have HLE:Hid (f.len=g.len):=Lib.hid (by injection hkey)
   generalize hCC:cmpL (keyF (.cons op nm v bd f .nil)) (keyF (.cons op' nm' v' bd' g .nil))=C at*
   have HCC:=Lib.hid hCC
   clear hCC
   obtain⟨B',cap',cs',T',W4,hrun,p1,p2,p3,p4,p5,p6,p7,p8,p9,p10⟩:=pushN (W:=W3.drew) (x:=.slice a f.len c) (y:=.slice a' g.len c') MM.out.1 (by rfl) (Nat.zero_le 8) (by decide) (by decide) rfl rfl
   have HST:Hid (CmpSt n0 w C (2*f.nodes+1) (.slice (some ⟨B',0,none⟩) (0+1) cap') W4):=Lib.hid (by
    have hb3:Below w.heap.size w W3.drew:=below_drawn (HB2.out.1.trans (MM.out.2.1.mono (by have:=HB2.out.2.2;omega))) 1
    have hs3:W3.drew.heap.size=W2.heap.size+1:=MM.out.2.2.1
    refine⟨[(f,g)],B',cap',cs',T',rfl,p3,p4,Lib.hid p1,Lib.hid p2,Lib.hid ?_,Lib.hid (hb3.grown p8 hb3.size (fun k e=>by cases e;have:=HB2.out.2.2;omega)),Lib.hid ?_,Lib.hid ?_,Lib.hid ?_,Lib.hid (by simp[stkN];omega)⟩
    ·have:=HB2.out.2.2
     rcases p10 with rfl|h
     ·omega
     ·omega
    ·have h1:=HB2.out.2.1
     have h2:=MM.out.2.2.2
     have h3:W3.drew.drawn=W3.drawn+1:=rfl
     omega
    ·exact StkC.push (cs:= #[]) (S:=[]) (fun j hj=>by simp at hj) (fun j hj=>by simp at hj) HLE.out p6 p7 HFV.out HGV.out
    ·simpa[stkF] using HC.out)
   have hs3:W3.drew.heap.size=W2.heap.size+1:=MM.out.2.2.1
   have y4:W4.cell? ⟨w.heap.size,4,none⟩=some (.slice a f.len c):=(World.cell?_of_block (p8.block w.heap.size (by have:=HB2.out.2.2;omega) (fun e=>by have:=HB2.out.2.2;injection e;omega))).trans d4
   have y4':W4.cell? ⟨w.heap.size+1,4,none⟩=some (.slice a' g.len c'):=(World.cell?_of_block (p8.block (w.heap.size+1) (by have:=HB2.out.2.2;omega) (fun e=>by have:=HB2.out.2.2;injection e;omega))).trans d4'
   clear p1 p2 p3 p4 p5 p6 p7 p8 p9 p10 hkey hkk MM HC hs3
   have HRUN:=Lib.hid hrun
   clear hrun
   go_region_held_law (fun w'=>w'.cell? ⟨w.heap.size,4,none⟩=some (.slice a f.len c)∧w'.cell? ⟨w.heap.size+1,4,none⟩=some (.slice a' g.len c')) (go_keep)
    (refine step_append_run rfl (.tmp 22) (.tmp 28) 393 393 (some 29) rfl rfl _ _ rfl rfl _ _ HRUN.out ?_)
   clear HRUN y4 y4' d4 d4'
   go_wp2_with fail
   go_loopg [7] (2*f.nodes+1) (fun g o wr=>CmpSt n0 w C g o wr)
   case atStart=>exact HST.out
   case round=>
    obtain⟨S,B,cap,cs,T,rfl,hq,hcm,HB,HCS,HBw,HBel,HDr,HS,HCm,HM⟩:=hrel
    rcases List.eq_nil_or_concat S with rfl|⟨S',t,hS⟩
    ·have HC0:Hid (C=0):=Lib.hid HCm.out.symm
     simp only[List.length_nil] at hq
     go_wp2_with fail
     go_ret
     exact⟨congrArg (fun x=>Ending.returned (.int .i64 x)) (HC0.out.symm.trans HCC.out.symm),HBel.out,HDr.out⟩
    ·have hS:S=S'++[t]:=by simpa using hS
     subst hS
     obtain⟨f1,g1⟩:=t
     obtain⟨hl1,v1,v2,x1,x2,⟨⟨hfl1,a1,c1,rfl,hc1,hv1⟩,pv1⟩,⟨⟨hgl1,a2,c2,rfl,hc2,hv2⟩,pv2⟩⟩:=HS.out.top
     dsimp only at hl1 x1 x2 hfl1 hgl1 hc1 hc2 hv1 hv2 pv1 pv2
     have HPV:=Lib.hid (And.intro (pv1 _ _ _ rfl) (pv2 _ _ _ rfl))
     clear pv1 pv2
     have hql:(S'++[(f1,g1)]).length=S'.length+1:=by simp
     rw[hql] at hq ⊢
     have b0:wr.cell? ⟨B,S'.length*2,none⟩=some (.slice a1 f1.len c1):=by rw[Nat.mul_comm];simp[World.cell?,HB.out,x1]
     have b1:wr.cell? ⟨B,S'.length*2+1,none⟩=some (.slice a2 g1.len c2):=by rw[Nat.mul_comm];simp[World.cell?,HB.out,x2]
     have bf:wr.frozen? ⟨B,S'.length*2,none⟩=false:=by simp[World.frozen?,HB.out]
     have bf1:wr.frozen? ⟨B,S'.length*2+1,none⟩=false:=by simp[World.frozen?,HB.out]
     have HSP:=Lib.hid HS.out.pop
     have HX:=Lib.hid (And.intro x1 x2)
     have HMM:Hid (stkN S'+2*f1.nodes+1≤gk∧stkN S'+2*f1.nodes+1≤200001):=Lib.hid (by have:=HM.out;rw[stkN_snoc] at this;exact this)
     have hq6:S'.length≤300000:=by have:=stkN_len S';have:=HMM.out;omega
     have HSL:=Lib.hid (rfl:S'.length=S'.length)
     generalize hsl:S'.length=q at*
     clear x1 x2 hql HM HSL
     have HV1:=Lib.hid hv1
     have HV2:=Lib.hid hv2
     clear hv1 hv2
     cases f1 with
     |nil=>
      have hg0:g1=.nil:=Fs.nil_of (by simpa[Fs.len] using hl1.symm)
      subst hg0
      simp only[Fs.len] at b0 b1
      clear bf bf1 b1
      have HC1:Hid (cmpL (stkF Prod.fst S') (stkF Prod.snd S')=C):=Lib.hid (by have:=HCm.out;rw[stkF_snoc,stkF_snoc] at this;simpa[keyF] using this)
      go_wp2_with fail
      go_roundg (gk - 1)
      case measure=>have:=HMM.out;omega
      case rel=>exact⟨S',B,cap,cs,T,by rw[hsl],by omega,hcm,HB,HCS,HBw,HBel,HDr,HSP,HC1,Lib.hid (by have:=HMM.out;omega)⟩
     |cons op1 nm1 y1 bd1 args1 rest1=>
      obtain⟨op2,nm2,y2,bd2,args2,rest2,rfl⟩:∃op2 nm2 y2 bd2 args2 rest2,g1=.cons op2 nm2 y2 bd2 args2 rest2:=by
       cases g1 with
       |nil=>simp[Fs.len] at hl1
       |cons o n y b a r=>exact⟨o,n,y,b,a,r,rfl⟩
      obtain⟨p1,o1,rfl,hp1,hat1⟩:=HV1.out (by simp[Fs.len])
      obtain⟨p2,o2,rfl,hp2,hat2⟩:=HV2.out (by simp[Fs.len])
      have HPA:=Lib.hid (And.intro (HPV.out.1 _ _ rfl (by simp[Fs.len])) (HPV.out.2 _ _ rfl (by simp[Fs.len])))
      have HA1:=Lib.hid hat1
      have HA2:=Lib.hid hat2
      have HLL:Hid (rest1.len=rest2.len):=Lib.hid (by simpa[Fs.len] using hl1)
      simp only[Fs.len] at b0 b1 hc1 hc2 hfl1 hgl1
      have hz1:((rest1.len+1:Nat):Int)≠0:=by omega
      have hqc:(q:Int)<(q:Int)+1:=by omega
      clear hat1 hat2 HV1 HV2 hl1
      go_upto_region 10 with fail
      go_quiet (fail)
      have b0:(wr.drewN nq).cell? ⟨B,q*2,none⟩=some (.slice (some ⟨p1,o1,none⟩) (rest1.len+1) c1):=b0
      have b1:(wr.drewN nq).cell? ⟨B,q*2+1,none⟩=some (.slice (some ⟨p2,o2,none⟩) (rest2.len+1) c2):=b1
      have bf:(wr.drewN nq).frozen? ⟨B,q*2,none⟩=false:=bf
      have bf1:(wr.drewN nq).frozen? ⟨B,q*2+1,none⟩=false:=bf1
      have HQ:Hid ((wr.drewN nq).heap[B]? =some (.cells cs T (0,0))∧Below w.heap.size w (wr.drewN nq)∧w.drawn≤(wr.drewN nq).drawn):=Lib.hid ⟨HB.out,below_drawn HBel.out nq,Nat.le_trans HDr.out (Nat.le_add_right _ _)⟩
      generalize wr.drewN nq=wq at*
      go_upto_region 11 with fail
      have g1:(1:Int)≤(rest1.len:Int)+1:=by omega
      have g2:(rest1.len:Int)+1≤(c1:Int):=by omega
      have g3:(1:Int)≤(rest2.len:Int)+1:=by omega
      have g4:(rest2.len:Int)+1≤(c2:Int):=by omega
      go_region
      have HS1:Hid (∀(p o cc:Nat) (r:Fs),p<w.heap.size→r.len+1≤9223372036854775807→r.len+1≤cc→FAt w r p (o+5)→Lone n0 w p→PAt n0 w r p (o+5)→GV n0 w (.slice (if cc=1 then some ⟨p,o,none⟩ else some ⟨p,o+5,none⟩) r.len (cc - 1)) r):=Lib.hid (fun p o cc r hp hr hcc hat hln hpt=>by
       refine⟨⟨by omega,_,_,rfl,by omega,fun h0=>?_⟩,fun a l c e p' o' ea h0=>?_⟩
       ·rw[if_neg (by omega)]
        exact⟨p,o+5,rfl,hp,hat⟩
       ·injection e with e1 e2 e3
        rw[if_neg (by omega)] at e1
        rw[←e1] at ea
        injection ea with ea
        injection ea with ea1 ea2
        subst ea1 ea2
        exact⟨hln,hpt⟩)
      have hR1:=HS1.out p1 o1 c1 rest1 hp1 hfl1 hc1 HA1.out.2.2.2.2.2.2.2 HPA.out.1.1 HPA.out.1.2.2
      have hR2:=HS1.out p2 o2 c2 rest2 hp2 hgl1 hc2 HA2.out.2.2.2.2.2.2.2 HPA.out.2.1 HPA.out.2.2.2
      generalize hs1:(Value.slice (if c1=1 then some ⟨p1,o1,none⟩ else some ⟨p1,o1+5,none⟩) rest1.len (c1 - 1))=s1 at*
      generalize hs2:(Value.slice (if c2=1 then some ⟨p2,o2,none⟩ else some ⟨p2,o2+5,none⟩) rest2.len (c2 - 1))=s2 at*
      have e1:s1.oneCell'=true:=by rw[←hs1];rfl
      have e2:s2.oneCell'=true:=by rw[←hs2];rfl
      have hh1:=heap_setCell_same wq B (q*2) cs T s1 HQ.out.1
      have hh2:=heap_setCell_same (wq.setCell ⟨B,q*2,none⟩ s1) B (q*2+1) _ T s2 hh1
      have HW6:Hid (((wq.setCell ⟨B,q*2,none⟩ s1).setCell ⟨B,q*2+1,none⟩ s2).drew.heap[B]? =some (.cells ((cs.setIfInBounds (q*2) s1).setIfInBounds (q*2+1) s2) T (0,0))∧Below w.heap.size w ((wq.setCell ⟨B,q*2,none⟩ s1).setCell ⟨B,q*2+1,none⟩ s2).drew∧
        w.drawn≤((wq.setCell ⟨B,q*2,none⟩ s1).setCell ⟨B,q*2+1,none⟩ s2).drew.drawn):=Lib.hid ⟨hh2,below_drawn ((HQ.out.2.1.setCell HBw.out s1).setCell HBw.out s2) 1,Nat.le_succ_of_le HQ.out.2.2⟩
      have HR:=Lib.hid (And.intro hR1 hR2)
      clear hh1 hh2 hR1 hR2 b0 b1 bf bf1
      generalize ((wq.setCell ⟨B,q*2,none⟩ s1).setCell ⟨B,q*2+1,none⟩ s2).drew=w6 at*
      have hcsz:(cs.setIfInBounds (q*2) s1).setIfInBounds (q*2+1) s2=(cs.setIfInBounds (q*2) s1).setIfInBounds (q*2+1) s2:=rfl
      generalize hcs6:(cs.setIfInBounds (q*2) s1).setIfInBounds (q*2+1) s2=cs6 at*
      have HC6:Hid (cs6.size=cap*2∧(∀j,j<2*q→cs6[j]? =cs[j]?)∧cs6[2*q]? =some s1∧cs6[2*q+1]? =some s2):=Lib.hid (by
       have hz:=HCS.out
       subst hcs6
       refine⟨by simpa using hz,fun j hj=>?_,?_,?_⟩
       ·rw[Array.getElem?_setIfInBounds_ne (by omega),Array.getElem?_setIfInBounds_ne (by omega)]
       ·rw[Array.getElem?_setIfInBounds_ne (by omega),Nat.mul_comm]
        rw[Array.getElem?_setIfInBounds_self_of_lt (by omega)]
       ·rw[Nat.mul_comm]
        rw[Array.getElem?_setIfInBounds_self_of_lt (by simp;omega)])
      clear hcsz hcs6
      have HSP1:Hid (StkC n0 w cs6 (S'++[(rest1,rest2)])):=Lib.hid (StkC.push HSP.out (fun j hj=>HC6.out.2.1 j (by omega)) HLL.out (by rw[hsl];exact HC6.out.2.2.1) (by rw[hsl];exact HC6.out.2.2.2) HR.out.1 HR.out.2)
      have HL1:Hid ((S'++[(rest1,rest2)]).length=q+1):=Lib.hid (by simp[hsl])
      have HCK:Hid (cmpL (⟨op1,nm1,y1,bd1,args1.len⟩::(keyF args1++(keyF rest1++stkF Prod.fst S'))) (⟨op2,nm2,y2,bd2,args2.len⟩::(keyF args2++(keyF rest2++stkF Prod.snd S')))=C):=Lib.hid (by
       have:=HCm.out
       rw[stkF_snoc,stkF_snoc] at this
       simpa only[keyF,List.cons_append,List.append_assoc] using this)
      have HN1:Hid (stkN (S'++[(rest1,rest2)])+2*args1.nodes+2=stkN S'+2*(Fs.cons op1 nm1 y1 bd1 args1 rest1).nodes+1):=Lib.hid (by rw[stkN_snoc];simp only[Fs.nodes];omega)
      by_cases hpe:p1=p2∧o1=o2
      ·obtain⟨rfl,rfl⟩:=hpe
       have hdet:=FAt.det (by simp[Fs.len,HLL.out]) HA1.out HA2.out
       simp only[Fs.cons.injEq] at hdet
       have HC1:Hid (cmpL (stkF Prod.fst (S'++[(rest1,rest2)])) (stkF Prod.snd (S'++[(rest1,rest2)]))=C):=Lib.hid (by
        obtain⟨rfl,rfl,rfl,rfl,rfl,rfl⟩:=hdet
        have:=HCK.out
        rw[stkF_snoc,stkF_snoc]
        simp only[cmpL,cmpKy_same,if_true] at this
        rw[cmpL_same] at this
        exact this)
       clear hdet hs1 hs2 HS1 HR e1 e2
       go_wp2_with fail
       go_roundg (gk - 1)
       case measure=>have:=HMM.out;simp only[Fs.nodes] at this;omega
       case rel=>exact⟨S'++[(rest1,rest2)],B,cap,cs6,T,by rw[HL1.out],by rw[HL1.out];exact hq,hcm,Lib.hid HW6.out.1,Lib.hid HC6.out.1,HBw,Lib.hid HW6.out.2.1,Lib.hid HW6.out.2.2,HSP1,HC1,Lib.hid (by have:=HMM.out;have:=HN1.out;simp only[Fs.nodes] at*;omega)⟩
      ·clear hs1 hs2 HS1 HR e1 e2
       have hpe':PtrNe p1 o1 p2 o2:=hpe
       have hln1:=(HPA.out.1.1.keep (HW6.out.2.1)).2
       have hln2:=(HPA.out.2.1.keep (HW6.out.2.1)).2
       have HB6:=Lib.hid (FAt.keep HW6.out.2.1 hp1 HA1.out)
       have HB7:=Lib.hid (FAt.keep HW6.out.2.1 hp2 HA2.out)
       go_wp2_with fail
       refine(compare307 HB6.out HB7.out).mono ?_
       rintro e W7 ⟨rfl,q7,rfl⟩
       have HW7:Hid ((w6.drewN q7).heap[B]? =some (.cells cs6 T (0,0))∧Below w.heap.size w (w6.drewN q7)∧w.drawn≤(w6.drewN q7).drawn):=Lib.hid ⟨HW6.out.1,below_drawn HW6.out.2.1 q7,Nat.le_trans HW6.out.2.2 (Nat.le_add_right _ _)⟩
       clear HW6
       generalize w6.drewN q7=w7 at*
       generalize hk7:cmpKy ⟨op1,nm1,y1,bd1,args1.len⟩ ⟨op2,nm2,y2,bd2,args2.len⟩=k7 at*
       have HK7:=Lib.hid hk7
       clear hk7
       by_cases hk70:k7=0
       ·subst hk70
        have hky:=cmpKy_eq HK7.out
        have HAL:Hid (args1.len=args2.len):=Lib.hid (by injection hky)
        have HCK7:Hid (cmpL (keyF args1++(keyF rest1++stkF Prod.fst S')) (keyF args2++(keyF rest2++stkF Prod.snd S'))=C):=Lib.hid (by
         have:=HCK.out
         simp only[cmpL] at this
         rw[if_pos HK7.out] at this
         exact this)
        obtain⟨_,_,_,_,_,hla1,⟨aa1,cc1,e41,hcc1,f71⟩,_⟩:=HA1.out
        obtain⟨_,_,_,_,_,hla2,⟨aa2,cc2,e42,hcc2,f72⟩,_⟩:=HA2.out
        have e41':=(HW7.out.2.1.cell (p:=⟨p1,o1+4,none⟩) hp1).trans e41
        have e42':=(HW7.out.2.1.cell (p:=⟨p2,o2+4,none⟩) hp2).trans e42
        have HPW:Hid (GV n0 w (.slice aa1 args1.len cc1) args1∧GV n0 w (.slice aa2 args2.len cc2) args2):=Lib.hid ⟨⟨⟨hla1,aa1,cc1,rfl,hcc1,f71⟩,fun a l c e p o ea h0=>by
          injection e with e1 e2 e3
          subst e1
          subst ea
          exact HPA.out.1.2.1 _ _ _ _ e41 h0⟩,⟨hla2,aa2,cc2,rfl,hcc2,f72⟩,fun a l c e p o ea h0=>by
          injection e with e1 e2 e3
          subst e1
          subst ea
          exact HPA.out.2.2.1 _ _ _ _ e42 h0⟩
        clear e41 e42 hcc1 hcc2 f71 f72 hla2
        by_cases hal:args1.len=0
        ·have HC1:Hid (cmpL (stkF Prod.fst (S'++[(rest1,rest2)])) (stkF Prod.snd (S'++[(rest1,rest2)]))=C):=Lib.hid (by
          have:=HCK7.out
          rw[Fs.nil_of hal,Fs.nil_of (show args2.len=0 by rw[←HAL.out];exact hal)] at this
          rw[stkF_snoc,stkF_snoc]
          simpa[keyF] using this)
         have hgt:decide ((args1.len:Int)>0)=false:=by simp;omega
         go_wp2_with fail
         go_roundg (gk - 1)
         case measure=>have:=HMM.out;simp only[Fs.nodes] at this;omega
         case rel=>exact⟨S'++[(rest1,rest2)],B,cap,cs6,T,by rw[HL1.out],by rw[HL1.out];exact hq,hcm,Lib.hid HW7.out.1,Lib.hid HC6.out.1,HBw,Lib.hid HW7.out.2.1,Lib.hid HW7.out.2.2,HSP1,HC1,Lib.hid (by have:=HMM.out;have:=HN1.out;simp only[Fs.nodes] at*;omega)⟩
        ·have hgt:decide ((args1.len:Int)>0)=true:=by simp;omega
         go_upto_region 17 with fail
         obtain⟨B',cap',cs',T',W8,hrun,p1',p2',p3,p4,p5,p6,p7,p8,p9,p10⟩:=pushN (W:=w7.drew) (q:=q+1) (x:=.slice aa1 args1.len cc1) (y:=.slice aa2 args2.len cc2) HW7.out.1 HC6.out.1 hq hcm (by omega) rfl rfl
         have HB:Hid (Below w.heap.size w w7.drew):=Lib.hid (below_drawn HW7.out.2.1 1)
         have HST:Hid (CmpSt n0 w C (gk - 1) (.slice (some ⟨B',0,none⟩) (q+1+1) cap') W8):=Lib.hid (by
          refine⟨S'++[(rest1,rest2)]++[(args1,args2)],B',cap',cs',T',by rw[List.length_append,HL1.out];rfl,by rw[List.length_append,HL1.out];exact p3,p4,Lib.hid p1',Lib.hid p2',Lib.hid ?_,Lib.hid (HB.out.grown p8 HB.out.size (fun k e=>by cases e;exact HBw.out)),Lib.hid ?_,Lib.hid ?_,Lib.hid ?_,Lib.hid ?_⟩
          ·have:=HBw.out
           have:=HB.out.size
           rcases p10 with rfl|h
           ·omega
           ·omega
          ·have h1:=HW7.out.2.2
           have h3:w7.drew.drawn=w7.drawn+1:=rfl
           omega
          ·refine StkC.push HSP1.out (fun j hj=>?_) HAL.out ?_ ?_ HPW.out.1 HPW.out.2
           ·rw[HL1.out] at hj
            exact p5 j hj
           ·rw[HL1.out];exact p6
           ·rw[HL1.out];exact p7
          ·rw[stkF_snoc,stkF_snoc,stkF_snoc,stkF_snoc]
           exact HCK7.out
          ·have h1:=HMM.out
           have h2:=HN1.out
           rw[stkN_snoc]
           simp only[Fs.nodes] at h1 h2 ⊢
           omega)
         have y4:W8.cell? ⟨p1,o1+4,none⟩=some (.slice aa1 args1.len cc1):=(World.cell?_of_block (p8.block p1 (Nat.lt_of_lt_of_le hp1 HB.out.size) (fun e=>by have:=HBw.out;injection e;omega))).trans e41'
         have y4':W8.cell? ⟨p2,o2+4,none⟩=some (.slice aa2 args2.len cc2):=(World.cell?_of_block (p8.block p2 (Nat.lt_of_lt_of_le hp2 HB.out.size) (fun e=>by have:=HBw.out;injection e;omega))).trans e42'
         clear p1' p2' p3 p4 p5 p6 p7 p8 p9 p10
         have HRUN:=Lib.hid hrun
         clear hrun
         have hgl:0<gk:=by have:=HMM.out;omega
         go_region_held_law (fun w'=>w'.cell? ⟨p1,o1+4,none⟩=some (.slice aa1 args1.len cc1)∧w'.cell? ⟨p2,o2+4,none⟩=some (.slice aa2 args2.len cc2)) (go_keep)
          (refine step_append_run rfl (.tmp 90) (.tmp 100) 393 393 (some 101) rfl rfl _ _ rfl rfl _ _ HRUN.out ?_)
         clear HRUN y4 y4'
         go_wp2_with fail
         go_roundg (gk - 1)
         case measure=>omega
         case rel=>exact HST.out
       ·have hb7:(k7 !=0)=true:=by simp[hk70]
        have HCK7:Hid (C=k7):=Lib.hid (by
         have:=HCK.out
         simp only[cmpL] at this
         rw[if_neg (by rw[HK7.out];exact hk70),HK7.out] at this
         exact this.symm)
        go_wp2_with fail
        go_ret
        exact⟨congrArg (fun x=>Ending.returned (.int .i64 x)) (HCK7.out.symm.trans HCC.out.symm),HW7.out.2.1,HW7.out.2.2⟩
 ·have hb1:(k !=0)=true:=by simp[hk0]
  go_wp2_with fail
  go_ret
  exact⟨congrArg (fun x=>Ending.returned (.int .i64 x)) (by simp only[keyF,List.append_nil,cmpL];rw[hkk,if_neg hk0]),HB2.out.1,HB2.out.2.1⟩
end
section
open Go.RowKit
structure TC {α:Type} (c:α→α→Int):Prop where
 same:∀a,c a a=0
 eq:∀a b,c a b=0→a=b
 flip:∀a b,c a b<0→0<c b a
 flop:∀a b,0<c a b→c b a<0
 trans:∀a b d,c a b<0→c b d<0→c a d<0
theorem TC.comap {α β:Type} {c:β→β→Int} (h:TC c) (f:α→β) (hf:∀a b,f a=f b→a=b):TC (fun a b=>c (f a) (f b)):=
 ⟨fun _=>h.same _,fun _ _ e=>hf _ _ (h.eq _ _ e),fun _ _=>h.flip _ _,fun _ _=>h.flop _ _,fun _ _ _=>h.trans _ _ _⟩
theorem TC.prod {α β:Type} [DecidableEq α] {c:α→α→Int} {d:β→β→Int} (hc:TC c) (hd:TC d):TC (fun(x y:α×β)=>if x.1≠y.1 then c x.1 y.1 else d x.2 y.2):=by
 refine⟨fun a=>by simp[hd.same],fun a b e=>?_,fun a b e=>?_,fun a b e=>?_,fun a b t e1 e2=>?_⟩
 ·by_cases h:a.1=b.1
  ·simp only[h,ne_eq,not_true_eq_false,if_false] at e
   exact Prod.ext h (hd.eq _ _ e)
  ·simp only[ne_eq,h,not_false_eq_true,if_true] at e
   exact absurd (hc.eq _ _ e) h
 ·by_cases h:a.1=b.1
  ·simp only[h,ne_eq,not_true_eq_false,if_false] at e ⊢
   exact hd.flip _ _ e
  ·rw[if_pos h] at e
   rw[if_pos (fun e:b.1=a.1=>h e.symm)]
   exact hc.flip _ _ e
 ·by_cases h:a.1=b.1
  ·simp only[h,ne_eq,not_true_eq_false,if_false] at e ⊢
   exact hd.flop _ _ e
  ·rw[if_pos h] at e
   rw[if_pos (fun e:b.1=a.1=>h e.symm)]
   exact hc.flop _ _ e
 ·by_cases h:a.1=b.1
  ·by_cases h':b.1=t.1
   ·simp only[h,h',ne_eq,not_true_eq_false,if_false] at e1 e2 ⊢
    exact hd.trans _ _ _ e1 e2
   ·simp only[h,h',ne_eq,not_true_eq_false,if_false,not_false_eq_true,if_true] at e1 e2 ⊢
    exact e2
  ·by_cases h':b.1=t.1
   ·rw[if_pos h] at e1
    rw[←h',if_pos h]
    exact e1
   ·simp only[h,h',ne_eq,not_false_eq_true,if_true] at e1 e2
    have ht:=hc.trans _ _ _ e1 e2
    by_cases h3:a.1=t.1
    ·rw[h3,hc.same] at ht;omega
    ·simp only[h3,ne_eq,not_false_eq_true,if_true]
     exact ht
theorem TC.list {α:Type} {c:α→α→Int} (hc:TC c) {l:List α→List α→Int} (h0:l [] []=0) (h1:∀b m,l [] (b::m)= -1) (h2:∀a k,l (a::k) []=1) (h3:∀a k b m,l (a::k) (b::m)=if c a b=0 then l k m else c a b):TC l:=by
 refine⟨fun a=>?_,fun a=>?_,fun a=>?_,fun a=>?_,fun a=>?_⟩
 ·induction a with
  |nil=>exact h0
  |cons a k ih=>rw[h3,if_pos (hc.same a),ih]
 ·induction a with
  |nil=>intro b e;cases b with
   |nil=>rfl
   |cons b m=>rw[h1] at e;omega
  |cons a k ih=>intro b e;cases b with
   |nil=>rw[h2] at e;omega
   |cons b m=>
    rw[h3] at e
    by_cases h:c a b=0
    ·rw[if_pos h] at e
     rw[hc.eq _ _ h,ih _ e]
    ·rw[if_neg h] at e;exact absurd e h
 ·induction a with
  |nil=>intro b e;cases b with
   |nil=>rw[h0] at e;omega
   |cons b m=>rw[h2];omega
  |cons a k ih=>intro b e;cases b with
   |nil=>rw[h2] at e;omega
   |cons b m=>
    rw[h3] at e ⊢
    by_cases h:c a b=0
    ·rw[if_pos h] at e
     rw[if_pos (by rw[hc.eq _ _ h];exact hc.same _)]
     exact ih _ e
    ·rw[if_neg h] at e
     have:=hc.flip _ _ e
     rw[if_neg (by omega)];exact this
 ·induction a with
  |nil=>intro b e;cases b with
   |nil=>rw[h0] at e;omega
   |cons b m=>rw[h1] at e;omega
  |cons a k ih=>intro b e;cases b with
   |nil=>rw[h1];omega
   |cons b m=>
    rw[h3] at e ⊢
    by_cases h:c a b=0
    ·rw[if_pos h] at e
     rw[if_pos (by rw[hc.eq _ _ h];exact hc.same _)]
     exact ih _ e
    ·rw[if_neg h] at e
     have:=hc.flop _ _ e
     rw[if_neg (by omega)];exact this
 ·induction a with
  |nil=>intro b d e1 e2;cases b with
   |nil=>rw[h0] at e1;omega
   |cons b m=>cases d with
    |nil=>rw[h2] at e2;omega
    |cons d n=>rw[h1];omega
  |cons a k ih=>intro b d e1 e2;cases b with
   |nil=>rw[h2] at e1;omega
   |cons b m=>cases d with
    |nil=>rw[h2] at e2;omega
    |cons d n=>
     rw[h3] at e1 e2 ⊢
     by_cases h:c a b=0
     ·rw[if_pos h] at e1
      have:=hc.eq _ _ h
      subst this
      by_cases h':c a d=0
      ·rw[if_pos h'] at e2 ⊢
       exact ih _ _ e1 e2
      ·rw[if_neg h'] at e2 ⊢
       exact e2
     ·rw[if_neg h] at e1
      by_cases h':c b d=0
      ·have:=hc.eq _ _ h'
       subst this
       rw[if_neg h];exact e1
      ·rw[if_neg h'] at e2
       have:=hc.trans _ _ _ e1 e2
       rw[if_neg (by omega)];exact this
theorem compareInt_tc:TC Lib.compareInt:=by
 refine⟨compareInt_same,fun a b=>compareInt_eq,fun a b=>?_,fun a b=>?_,fun a b d=>?_⟩<;>unfold Lib.compareInt<;>repeat' split<;>omega
theorem compareU_tc:TC (fun a b:UInt8=>if a<b then(-1:Int) else if b<a then 1 else 0):=by
 refine⟨fun a=>by simp[UInt8.lt_irrefl],fun a b=>?_,fun a b=>?_,fun a b=>?_,fun a b d=>?_⟩<;>simp only[UInt8.lt_iff_toNat_lt]
 ·intro h
  apply UInt8.toNat_inj.1
  split at h
  ·omega
  ·split at h<;>omega
 all_goals repeat' split
 all_goals omega
theorem compareBytes_tc:TC Lib.compareBytes:=compareU_tc.list rfl (fun _ _=>rfl) (fun _ _=>rfl) (fun a k b m=>by
 simp only[Lib.compareBytes]
 by_cases h1:a<b
 ·simp[h1]
 ·by_cases h2:b<a<;>simp[h1,h2])
theorem cmpKy_tc:TC cmpKy:=by
 have hb:TC (fun a b:ByteArray=>Lib.compareBytes a.data.toList b.data.toList):=compareBytes_tc.comap (fun x:ByteArray=>x.data.toList) fun a b h=>ByteArray.ext (Array.toList_inj.1 h)
 have hn:TC (fun a b:Nat=>Lib.compareInt a b):=compareInt_tc.comap (fun x:Nat=>(x:Int)) fun a b h=>by omega
 have h:=(compareInt_tc.prod (hb.prod (compareInt_tc.prod (compareInt_tc.prod hn)))).comap (fun k:Ky=>(k.op,k.nm,k.v,k.bd,k.n)) (fun a b h=>by cases a;cases b;simp_all)
 exact h
theorem cmpL_tc:TC cmpL:=cmpKy_tc.list rfl (fun _ _=>rfl) (fun _ _=>rfl) (fun _ _ _ _=>rfl)
theorem keyF_inj:∀ {f g:Fs} {x y:List Ky},f.len=g.len→keyF f++x=keyF g++y→f=g∧x=y
 | .nil,.nil,_,_,_,h=>⟨rfl,by simpa[keyF] using h⟩
 | .nil,.cons ..,_,_,h,_=>by simp[Fs.len] at h
 | .cons ..,.nil,_,_,h,_=>by simp[Fs.len] at h
 | .cons op nm v bd a r,.cons op' nm' v' bd' a' r',x,y,hl,h=>by
  simp only[keyF,List.cons_append,List.append_assoc,List.cons.injEq,Ky.mk.injEq] at h
  obtain⟨⟨rfl,rfl,rfl,rfl,h4⟩,h⟩:=h
  obtain⟨ha,h⟩:=keyF_inj h4 h
  obtain⟨hr,h⟩:=keyF_inj (by simpa[Fs.len] using hl) h
  exact⟨by rw[ha,hr],h⟩
theorem keyF_inj' {f g:Fs} (hl:f.len=g.len) (h:keyF f=keyF g):f=g:=(keyF_inj (x:=[]) (y:=[]) hl (by simpa using h)).1
def cmpF (f g:Fs):Int:=cmpL (keyF f) (keyF g)
theorem cmpF_swo {α:Type} (t:α→Fs):Sort.SWO (ltOf fun x y=>cmpF (t x) (t y)):=by
 have H:=cmpL_tc
 have hl:∀x y,ltOf (fun x y=>cmpF (t x) (t y)) x y=true↔cmpL (keyF (t x)) (keyF (t y))<0:=fun x y=>decide_eq_true_iff
 have hn:∀x y,ltOf (fun x y=>cmpF (t x) (t y)) x y=false↔0≤cmpL (keyF (t x)) (keyF (t y)):=fun x y=>decide_eq_false_iff_not.trans Int.not_lt
 refine⟨fun x=>(hn _ _).2 (by rw[H.same];exact Int.le_refl _),fun x y z h1 h2=>(hl _ _).2 (H.trans _ _ _ ((hl _ _).1 h1) ((hl _ _).1 h2)),fun x y z h1 h2=>(hn _ _).2 ?_⟩
 have h1:=(hn _ _).1 h1
 have h2:=(hn _ _).1 h2
 by_cases e1:cmpL (keyF (t x)) (keyF (t y))=0
 ·rw[H.eq _ _ e1];exact h2
 ·by_cases e2:cmpL (keyF (t y)) (keyF (t z))=0
  ·rw[←H.eq _ _ e2];exact h1
  ·have f1:=H.flop _ _ (show 0<cmpL (keyF (t x)) (keyF (t y)) by omega)
   have f2:=H.flop _ _ (show 0<cmpL (keyF (t y)) (keyF (t z)) by omega)
   have:=H.flip _ _ (H.trans _ _ _ f2 f1)
   omega
end
section
open Go.RowKit Go.Sort
variable {n0:Nat}
structure ElA where
 op:Int
 nm:ByteArray
 v:Int
 bd:Int
 args:Fs
 a:Option Addr
 c:Nat
def ElA.ok (n0:Nat) (w:World) (x:ElA):Prop:=FArgs w x.a x.args∧PArgs n0 w x.a x.args∧x.nm.size≤9223372036854775807∧x.args.len≤9223372036854775807∧x.args.len≤x.c∧x.args.nodes≤100000
def El (n0:Nat) (w:World):Type:= {x:ElA // x.ok n0 w}
def zeroE:ElA:=⟨0,ByteArray.empty,0,0,.nil,none,0⟩
theorem zeroE_ok (w:World):zeroE.ok n0 w:=⟨fun h=>absurd rfl h,fun _ _ e=>(by cases e),by decide,by decide,Nat.le_refl _,by decide⟩
instance (w:World):Inhabited (El n0 w):=⟨⟨zeroE,zeroE_ok w⟩⟩
def ElA.enc (x:ElA):List Value:=[.int .i64 x.op,.string x.nm,.int .i64 x.v,.int .i64 x.bd,.slice x.a x.args.len x.c]
def ElA.tree (x:ElA):Fs:=.cons x.op x.nm x.v x.bd x.args .nil
def encE {w0:World} (x:El n0 w0):List Value:=x.1.enc
def treeE {w0:World} (x:El n0 w0):Fs:=x.1.tree
def cmpE {w0:World} (x y:El n0 w0):Int:=cmpF (treeE x) (treeE y)
theorem encE_len {w0:World} (x:El n0 w0):(encE x).length=5:=rfl
theorem encE_one {w0:World} (x:El n0 w0):∀v∈encE x,v.oneCell'=true:=by
 intro v hv
 simp only[encE,ElA.enc,List.mem_cons,List.not_mem_nil,or_false] at hv
 rcases hv with rfl|rfl|rfl|rfl|rfl<;>rfl
theorem grow_below {w w':World} (h:Below w.heap.size w w') (hd:w.drawn≤w'.drawn):∃q os,w'=grow (w.drewN q) os:=by
 refine⟨w'.drawn - w.drawn,w'.heap.extract w.heap.size w'.heap.size,?_⟩
 obtain⟨h1,h2,h3,h4,h5⟩:=h
 obtain⟨hp,tp,dr,os,out⟩:=w'
 simp only[grow,World.drewN] at*
 subst h1 h2 h3
 congr 1
 ·apply Array.ext_getElem?
  intro k
  rw[Array.getElem?_append]
  by_cases hk:k<w.heap.size
  ·rw[if_pos hk];exact h5 k hk
  ·rw[if_neg hk,Array.getElem?_extract]
   by_cases hk2:k<hp.size
   ·rw[if_pos (by omega)]
    congr 1
    omega
   ·rw[if_neg (by omega)]
    exact Array.getElem?_eq_none (by omega)
 ·omega
theorem compareE {w0 W:World} (hB:Below w0.heap.size w0 W) (x y:El n0 w0):Calls Tryz.prog 251 #[.agg (encE x).toArray,.agg (encE y).toArray] W fun e w'=>e=.returned (.int .i64 (cmpE x y))∧∃q os,w'=grow (W.drewN q) os:=by
 obtain⟨hf,hp,hnm,hl,hc,hn⟩:=x.2
 obtain⟨hf',hp',hnm',hl',hc',hn'⟩:=y.2
 exact(compare251 (hf.keep hB) (hf'.keep hB) (hp.keep hf hB) (hp'.keep hf' hB) hnm hnm' hl hl' hc hc' hn).mono fun e w' ⟨he,hb,hd⟩=>⟨he,grow_below hb hd⟩
def RowL {w0:World} (W:World) (blk cap:Nat) (xs:List (El n0 w0)):Prop:=
 xs.length≤cap∧∃cs T,W.heap[blk]? =some (.cells cs T (0,0))∧cs.size=cap*5∧∀j (h:j<xs.length) c,c<5→cs[j*5+c]? =(encE xs[j])[c]?
theorem below_sortWorld {w0 W:World} {blk m:Nat} {d:Array (El n0 w0)} {os:Array Obj} {n:Nat} (hn:n≤blk) (hnW:n≤W.heap.size) (h:Below n w0 W):Below n w0 (sortWorldK encE 5 W blk 0 m d os):=by
 refine⟨h.os,h.tape,h.output,?_,fun k hk=>?_⟩
 ·exact Nat.le_trans h.size (size_sortWorldK_c encE 5 W blk 0 m d os)
 ·rw[←h.block k hk]
  unfold sortWorldK putRowK putRow
  rw[heap_grow_old _ _ (by simp[mapBlock];exact Nat.lt_of_lt_of_le hk hnW)]
  simp only[mapBlock,Array.getElem?_modify]
  rw[if_neg (by omega)]
  rfl
theorem cmpLays {w0 W:World} {blk n:Nat} (hB:Below w0.heap.size w0 W) (hb:w0.heap.size≤blk):CmpLays Tryz.prog 251 #[] encE 5 (cmpE (n0:=n0) (w0:=w0)) blk 0 n W:=fun m os dk _ x y=>by
 simpa using compareE (below_sortWorld hb hB.size hB) x y
theorem RowL.holds {w0 W:World} {blk cap:Nat} {xs:List (El n0 w0)} (h:RowL W blk cap xs):HoldsK encE 5 W blk 0 xs.toArray:=by
 obtain⟨hl,cs,T,hb,hs,hc⟩:=h
 intro j hj
 rw[size_flatK] at hj
 have hj':j<xs.length*5:=by simpa using hj
 refine⟨?_,by simp[World.frozen?,hb]⟩
 rw[get_flatK _ _ _ _ hj]
 have hlt:j / 5<xs.length:=by omega
 have:=hc (j / 5) hlt (j % 5) (by omega)
 rw[show j / 5*5+j % 5=j by omega] at this
 simp only[World.cell?,hb,Nat.zero_add,id]
 rw[if_neg (by simp),this]
 have h2:(xs.toArray[j / 5]!)=xs[j / 5]:=by simp[hlt]
 rw[h2,getElem!_pos _ _ (by rw[encE_len];omega),List.getElem?_eq_getElem]
theorem RowL.sorted {w0 W:World} {blk cap m:Nat} {xs:List (El n0 w0)} {d:Array (El n0 w0)} {os:Array Obj} (h:RowL W blk cap xs) (hd:d.size=xs.length):RowL (sortWorldK encE 5 W blk 0 m d os) blk cap d.toList:=by
 have hblk:blk<W.heap.size:=by
  obtain⟨_,cs,T,hb,_⟩:=h
  exact(Array.getElem?_eq_some_iff.1 hb).1
 have hH:=holdsK_sortWorldK encE 5 W blk 0 m xs.toArray d os hblk h.holds (by simpa using hd)
 obtain⟨hl,cs,T,hb,hs,hc⟩:=h
 have hb':(sortWorldK encE 5 W blk 0 m d os).heap[blk]? =some (.cells (putCells id 0 (flatK encE 5 d) cs) T (0,0)):=by
  unfold sortWorldK putRowK putRow
  rw[heap_grow_old _ _ (by simp[mapBlock];exact hblk)]
  simp only[mapBlock,Array.getElem?_modify,if_true]
  rw[show(Sort.ahead W m).heap[blk]? =_ from hb]
  rfl
 refine⟨by simp[hd,hl],_,T,hb',by simp[putCells,hs],fun j hj c hc5=>?_⟩
 have hj':j<d.size:=by simpa using hj
 have:=(HoldsK.cell hH hj' hc5).1
 simp only[World.cell?,hb',Nat.zero_add] at this
 rw[if_neg (by simp)] at this
 rw[this]
 have h2:d[j]! =d.toList[j]:=by simp[hj']
 rw[h2,getElem!_pos _ _ (by rw[encE_len];omega),List.getElem?_eq_getElem]
theorem fr_sortWorld {w0 W:World} {blk m:Nat} {d:Array (El n0 w0)} {os:Array Obj}:Fr (only blk) W.heap.size W (sortWorldK encE 5 W blk 0 m d os):=by
 refine⟨rfl,rfl,rfl,size_sortWorldK_c encE 5 W blk 0 m d os,fun k hk hne=>?_⟩
 unfold sortWorldK putRowK putRow
 rw[heap_grow_old _ _ (by simp[mapBlock];exact hk)]
 simp only[mapBlock,Array.getElem?_modify]
 rw[if_neg (by intro e;subst e;simp[only] at hne)]
 rfl
theorem sort304 {w0 W:World} {blk cap:Nat} {xs:List (El n0 w0)} (hB:Below w0.heap.size w0 W) (hb:w0.heap.size≤blk) (h:RowL W blk cap xs) (hsz:xs.length<4611686018427387904):
  Calls Tryz.prog 304 #[.slice (some ⟨blk,0,none⟩) xs.length cap,.func (.func 251) #[] #[]] W fun e w'=>
   e=.returned (.tuple #[])∧∃ys:List (El n0 w0),ys.Perm xs∧(∀i j (hi:i<j) (hj:j<ys.length),0≤cmpE ys[j] (ys[i]'(Nat.lt_trans hi hj)))∧RowL w' blk cap ys∧Fr (only blk) W.heap.size W w'∧W.drawn≤w'.drawn:=by
 have hblk:blk<W.heap.size:=by
  obtain⟨_,cs,T,hb,_⟩:=h
  exact(Array.getElem?_eq_some_iff.1 hb).1
 have hS:=AnyQ.slices_SortFunc Tryz.sortF 5 (fun w=>Tryz.isAgg48 w) (fun w=>Tryz.sizeOf48 w) encE encE_len encE_one cmpE (cmpF_swo treeE) 251 #[] blk 0 cap xs.toArray W (enters_of Tryz.func251 (by kernel_rfl) rfl) (cmpLays hB hb) h.holds hblk (by simpa using hsz)
 refine(show Calls Tryz.prog 304 _ W _ from hS).mono ?_
 rintro e w' ⟨rfl,d,n,os,hp,hs,rfl⟩
 obtain⟨p1, -,p3⟩:=hp
 have hds:d.size=xs.length:=by simpa using p1
 refine⟨rfl,d.toList,?_,fun i j hij hj=>?_,h.sorted hds,fr_sortWorld,?_⟩
 ·have e1:d.extract 0 xs.toArray.size=d:=by rw[←p1];exact Array.extract_size
  have e2:xs.toArray.extract 0 xs.toArray.size=xs.toArray:=Array.extract_size
  rw[e1,e2] at p3
  exact p3
 ·have hj':j<d.size:=by simpa using hj
  have:=hs i j (Nat.zero_le _) hij (by simpa[hds] using hj')
  simp only[ltOf] at this
  simpa[hj',Nat.lt_trans hij hj'] using this
 ·unfold sortWorldK
  show W.drawn≤W.drawn+n
  exact Nat.le_add_right _ _
end
section
open Go.RowKit Go.Sort
variable {n0:Nat}
theorem below_grow {n:Nat} {w W:World} (h:RowKit.Below n w W) (hn:n≤W.heap.size) (q:Nat) (os:Array Obj):RowKit.Below n w (grow (W.drewN q) os):=
 ⟨h.os,h.tape,h.output,by have:=h.size;simp[grow,World.drewN];omega,fun k hk=>(heap_grow_old (W.drewN q) os (Nat.lt_of_lt_of_le hk hn)).trans (h.block k hk)⟩
set_option maxRecDepth 100000 in
set_option maxHeartbeats 4000000 in
theorem same306 {w0 W:World} {B1:Nat} (hB:RowKit.Below w0.heap.size w0 W) (h1:W.cell? ⟨B1,0,none⟩=some (.func (.func 251) #[] #[])) (hB1:B1<W.heap.size) (x y:El n0 w0):
  Calls Tryz.prog 306 #[.agg (encE x).toArray,.agg (encE y).toArray,.pointer (some ⟨B1,0,none⟩)] W fun e w'=>e=.returned (.bool (decide (cmpE x y=0)))∧∃q os,w'=grow (W.drewN q) os:=by
 have hc:=fun W' (h:RowKit.Below W.heap.size W W')=>compareE (hB.trans (h.mono hB.size)) x y
 generalize hcc:cmpE x y=k at*
 clear hcc
 obtain⟨⟨op,nm,v,bd,f,a,c⟩,hx⟩:=x
 obtain⟨⟨op',nm',v',bd',g,a',c'⟩,hy⟩:=y
 simp only[encE,ElA.enc] at hc ⊢
 clear hx hy
 obtain⟨k0,k1,kS,kB⟩:=new2 W (.cells #[.int .i64 op,.string nm,.int .i64 v,.int .i64 bd,.slice a f.len c] 48) (.cells #[.int .i64 op',.string nm',.int .i64 v',.int .i64 bd',.slice a' g.len c'] 48)
 have kd:((W.alloc (.cells #[.int .i64 op,.string nm,.int .i64 v,.int .i64 bd,.slice a f.len c] 48)).alloc (.cells #[.int .i64 op',.string nm',.int .i64 v',.int .i64 bd',.slice a' g.len c'] 48)).drawn=W.drawn:=rfl
 have HG:Hid (∃q os,(W.alloc (.cells #[.int .i64 op,.string nm,.int .i64 v,.int .i64 bd,.slice a f.len c] 48)).alloc (.cells #[.int .i64 op',.string nm',.int .i64 v',.int .i64 bd',.slice a' g.len c'] 48)=grow (W.drewN q) os):=Lib.hid (grow_below kB (Nat.le_of_eq kd.symm))
 have y1:=(kB.cell (p:=⟨B1,0,none⟩) hB1).trans h1
 have HC:=Lib.hid (hc _ kB)
 clear hc kS kB kd
 go_enter Tryz.func306,Tryz.ntmps306
 go_wp2_with fail
 generalize (W.alloc (.cells #[.int .i64 op,.string nm,.int .i64 v,.int .i64 bd,.slice a f.len c] 48)).alloc (.cells #[.int .i64 op',.string nm',.int .i64 v',.int .i64 bd',.slice a' g.len c'] 48)=W1 at*
 have c10:∀i,W1.cell? ⟨W.heap.size,i,none⟩=(#[.int .i64 op,.string nm,.int .i64 v,.int .i64 bd,.slice a f.len c]:Array Value)[i]? :=fun i=>by simp[World.cell?,k0]
 have c20:∀i,W1.cell? ⟨W.heap.size+1,i,none⟩=(#[.int .i64 op',.string nm',.int .i64 v',.int .i64 bd',.slice a' g.len c']:Array Value)[i]? :=fun i=>by simp[World.cell?,k1]
 clear k0 k1
 go_wp2_with fail
 refine HC.out.mono ?_
 rintro e w' ⟨rfl,q,os,rfl⟩
 go_wp2_with fail
 go_ret
 obtain⟨q0,os0,rfl⟩:=HG.out
 exact⟨congrArg (fun b=>Ending.returned (.bool b)) (show(k==0)=decide (k=0) from rfl),q0+q,os0++os,by show grow (grow ((W.drewN q0).drewN q) os0) os=_;rw[grow_grow,drewN_two]⟩
theorem RowL.grow {w0 W:World} {blk cap:Nat} {xs:List (El n0 w0)} (h:RowL W blk cap xs) (n:Nat) (os:Array Obj):RowL (grow (W.drewN n) os) blk cap xs:=by
 obtain⟨hl,cs,T,hb,hs,hc⟩:=h
 exact⟨hl,cs,T,(heap_grow_old (W.drewN n) os (Array.getElem?_eq_some_iff.1 hb).1).trans hb,hs,hc⟩
theorem RowL.lt {w0 W:World} {blk cap:Nat} {xs:List (El n0 w0)} (h:RowL W blk cap xs):blk<W.heap.size:=by
 obtain⟨_,cs,T,hb,_⟩:=h
 exact(Array.getElem?_eq_some_iff.1 hb).1
theorem enc5 {w0:World} (x:El n0 w0):∃u0 u1 u2 u3 u4,encE x=[u0,u1,u2,u3,u4]:=⟨_,_,_,_,_,rfl⟩
theorem RowL.load {w0 W:World} {blk cap:Nat} {xs:List (El n0 w0)} (h:RowL W blk cap xs) (j:Nat) (x:El n0 w0) (hx:xs[j]? =some x) {u0 u1 u2 u3 u4:Value} (hu:encE x=[u0,u1,u2,u3,u4]):
  (∀n os,(Sort.grow (W.drewN n) os).cell? ⟨blk,j*5,none⟩=some u0)∧(∀n os,(Sort.grow (W.drewN n) os).cell? ⟨blk,j*5+1,none⟩=some u1)∧(∀n os,(Sort.grow (W.drewN n) os).cell? ⟨blk,j*5+2,none⟩=some u2)∧
   (∀n os,(Sort.grow (W.drewN n) os).cell? ⟨blk,j*5+3,none⟩=some u3)∧(∀n os,(Sort.grow (W.drewN n) os).cell? ⟨blk,j*5+4,none⟩=some u4):=by
 obtain⟨hj,rfl⟩:=List.getElem?_eq_some_iff.1 hx
 have key:∀n os c u,c<5→[u0,u1,u2,u3,u4][c]? =some u→(Sort.grow (W.drewN n) os).cell? ⟨blk,j*5+c,none⟩=some u:=fun n os c u hc he=>by
  obtain⟨hl,cs,T,hb,hs,hcc⟩:=h.grow n os
  have:=hcc j hj c hc
  rw[hu,he] at this
  simp[World.cell?,hb,this]
 exact⟨fun n os=>key n os 0 _ (by omega) rfl,fun n os=>key n os 1 _ (by omega) rfl,fun n os=>key n os 2 _ (by omega) rfl,fun n os=>key n os 3 _ (by omega) rfl,fun n os=>key n os 4 _ (by omega) rfl⟩
def upTo {α:Type} [Inhabited α] (d:Array α) (kp:Nat→Bool) (m:Nat):List α:=((List.range m).filter kp).map (d[·]!)
section
variable {α:Type} [Inhabited α]
theorem upTo_succ (d:Array α) (kp:Nat→Bool) (m:Nat):upTo d kp (m+1)=upTo d kp m++(if kp m then [d[m]!] else []):=by
 unfold upTo
 rw[List.range_succ,List.filter_append,List.map_append]
 congr 1
 by_cases h:kp m<;>simp[h]
theorem upTo_all (d:Array α) (kp:Nat→Bool) (m:Nat) (h:∀j,j<m→kp j=true):upTo d kp m=(List.range m).map (d[·]!):=by
 unfold upTo
 rw[List.filter_eq_self.2 (fun j hj=>h j (List.mem_range.1 hj))]
structure CI (d:Array α) (kp:Nat→Bool) (m k:Nat) (dk:Array α):Prop where
 size:dk.size=d.size
 len:(upTo d kp m).length=k
 lt:k<m
 low:∀j,j<k→(upTo d kp m)[j]? =some dk[j]!
 high:∀j,k≤j→dk[j]! =d[j]!
theorem CI.start {d:Array α} {kp:Nat→Bool} {k0:Nat} (hall:∀j,j<k0→kp j=true) (hdup:kp k0=false):CI d kp (k0+1) k0 d where
 size:=rfl
 len:=by rw[upTo_succ,hdup,upTo_all d kp k0 hall];simp
 lt:=Nat.lt_succ_self _
 low:=fun j hj=>by rw[upTo_succ,hdup,upTo_all d kp k0 hall];simp[hj]
 high:=fun _ _=>rfl
theorem CI.keep {d dk:Array α} {kp:Nat→Bool} {m k:Nat} (h:CI d kp m k dk) (hm:m<d.size) (hk:kp m=true):CI d kp (m+1) (k+1) (dk.setIfInBounds k d[m]!) where
 size:=by simp[h.size]
 len:=by rw[upTo_succ,hk];simp[h.len]
 lt:=by have:=h.lt;omega
 low:=fun j hj=>by
  rw[upTo_succ,hk,if_pos rfl]
  by_cases e:j=k
  ·subst e
   rw[List.getElem?_append_right (by rw[h.len];exact Nat.le_refl _),h.len,Nat.sub_self,getElem!_set_same dk j _ (by have:=h.lt;have:=h.size;omega)]
   rfl
  ·rw[List.getElem?_append_left (by rw[h.len];omega),h.low j (by omega),getElem!_set_other dk k j _ e]
 high:=fun j hj=>by rw[getElem!_set_other dk k j _ (by omega),h.high j (by omega)]
theorem CI.skip {d dk:Array α} {kp:Nat→Bool} {m k:Nat} (h:CI d kp m k dk) (hk:kp m=false):CI d kp (m+1) k dk where
 size:=h.size
 len:=by rw[upTo_succ,hk];simpa using h.len
 lt:=by have:=h.lt;omega
 low:=fun j hj=>by rw[upTo_succ,hk];simpa using h.low j hj
 high:=h.high
end
def kpE {w0:World} (d:Array (El n0 w0)) (j:Nat):Bool:=decide (j=0∨cmpE d[j]! d[j - 1]!≠0)
def cptE {w0:World} (xs:List (El n0 w0)):List (El n0 w0):=upTo xs.toArray (kpE xs.toArray) xs.length
theorem RowL.set {w0 W:World} {blk cap:Nat} {xs:List (El n0 w0)} (h:RowL W blk cap xs) (i:Nat) (x:El n0 w0):RowL (W.setCells blk (i*5) (encE x)) blk cap (xs.set i x):=by
 obtain⟨hl,cs,T,hb,hs,hc⟩:=h
 have hb':(W.setCells blk (i*5) (encE x)).heap[blk]? =some (.cells (setMany cs (i*5) (encE x)) T (0,0)):=by
  have:∀(vs:List Value) (W:World) (cs:Array Value) (s:Nat),W.heap[blk]? =some (.cells cs T (0,0))→(W.setCells blk s vs).heap[blk]? =some (.cells (setMany cs s vs) T (0,0)):=by
   intro vs
   induction vs with
   |nil=>intro W cs s h;exact h
   |cons v r ih=>intro W cs s h;exact ih _ _ _ (heap_setCell_same W blk s cs T v h)
  exact this _ _ _ _ hb
 refine⟨by simpa using hl,_,T,hb',by simp[hs],fun j hj c hc5=>?_⟩
 have hj':j<xs.length:=by simpa using hj
 have hlt:j*5+c<cs.size:=by omega
 have g:=get_setMany (encE x) (i*5) cs (j*5+c) hlt
 rw[encE_len] at g
 rw[getElem!_pos _ _ (by simpa using hlt)] at g
 rw[Array.getElem?_eq_getElem (by simpa using hlt),g,List.getElem_set]
 by_cases e:i=j
 ·subst e
  have e1:i*5+c - i*5=c:=by omega
  rw[if_pos (by omega),if_pos rfl,e1,getElem!_pos _ _ (by rw[encE_len];omega),List.getElem?_eq_getElem (by rw[encE_len];omega)]
 ·rw[if_neg (by omega),if_neg e,getElem!_pos cs _ hlt,←hc j hj' c hc5,Array.getElem?_eq_getElem hlt]
end
section
open Go.RowKit Go.Sort
variable {n0:Nat}
def zero48:Array Value:= #[.int .i64 0,.string ⟨#[]⟩,.int .i64 0,.int .i64 0,.slice none 0 0]
def clearedC (cs:Array Value) (i n:Nat):Array Value:=(cs.toList.take (i*5)++(Builtin.zeroCells zero48 n).toList++cs.toList.drop (i*5+(Builtin.zeroCells zero48 n).toList.length)).toArray
theorem size_zeroC (n:Nat):(Builtin.zeroCells zero48 n).toList.length=n*5:=by simp[Builtin.zeroCells,zero48]
theorem one_zeroC (n:Nat):∀v∈(Builtin.zeroCells zero48 n).toList,v.oneCell'=true:=by
 intro v hv
 simp only[Builtin.zeroCells,Array.toList_map,List.mem_map] at hv
 obtain⟨i, -,rfl⟩:=hv
 have h5:i % zero48.size<5:=Nat.mod_lt _ (by decide)
 generalize i % zero48.size=r at h5
 match r,h5 with
 |0,_|1,_|2,_|3,_|4,_=>rfl
theorem clear46 {W:World} {blk i n c:Nat} {cs:Array Value} {T:TypeId} (ty:TypeId) (hb:W.heap[blk]? =some (.cells cs T (0,0))) (hn:0<n) (hi:(i+n)*5≤cs.size):
  (Builtin.clear_ #[46] ty #[.slice (some ⟨blk,i*5,none⟩) n c]).run Tryz.prog W=.ok (.tuple #[]) (W.setRow blk (clearedC cs i n)):=by
 have hst:=run_storeCells_at Tryz.prog blk (i*5) T (Builtin.zeroCells zero48 n).toList 0 cs W hb (by rw[size_zeroC];omega) (one_zeroC n)
 simp only[Nat.add_zero] at hst
 obtain⟨m,rfl⟩:∃m,n=m+1:=⟨n - 1,by omega⟩
 have hz:(Value.agg #[.int .i64 0,.string ⟨#[]⟩,.int .i64 0,.int .i64 0,.slice none 0 0]).cells=zero48:=rfl
 simp only[Builtin.clear_]
 simp[run_underlying Tryz.underlying46,Tryz.zeroValue48,hz,hst,clearedC]
theorem RowL.cleared {w0 W:World} {blk cap i n:Nat} {cs:Array Value} {T:TypeId} {xs:List (El n0 w0)} (h:RowL W blk cap xs) (hb:W.heap[blk]? =some (.cells cs T (0,0))) (hi:(i+n)*5≤cs.size) (hx:i≤xs.length):
  RowL (W.setRow blk (clearedC cs i n)) blk cap (xs.take i):=by
 obtain⟨hl,cs',T',hb',hs,hc⟩:=h
 rw[hb] at hb'
 injection hb' with hb'
 injection hb' with e1 e2
 subst e1 e2
 have hz:=size_zeroC n
 have ht:(cs.toList.take (i*5)).length=i*5:=by rw[List.length_take,Array.length_toList];omega
 refine⟨by simp;omega,_,T,setRow_heap W blk cs _ T _ hb,?_,fun j hj c hc5=>?_⟩
 ·simp only[clearedC,List.size_toArray,List.length_append,ht,hz,List.length_drop,Array.length_toList,hs]
  omega
 ·have hj':j<i:=by simp at hj;omega
  have:=hc j (by omega) c hc5
  rw[clearedC,List.getElem?_toArray,get_mid (by rw[ht];omega),List.getElem?_take,if_pos (by omega),Array.getElem?_toList,this]
  simp
theorem RowL.at {w0 W:World} {blk cap:Nat} {xs:List (El n0 w0)} (h:RowL W blk cap xs) (j e:Nat) (he:e=j*5) (x:El n0 w0) (hx:xs[j]? =some x) {u0 u1 u2 u3 u4:Value} (hu:encE x=[u0,u1,u2,u3,u4]):
  W.cell? ⟨blk,e,none⟩=some u0∧W.cell? ⟨blk,e+1,none⟩=some u1∧W.cell? ⟨blk,e+2,none⟩=some u2∧W.cell? ⟨blk,e+3,none⟩=some u3∧W.cell? ⟨blk,e+4,none⟩=some u4:=by
 subst he
 obtain⟨h0,h1,h2,h3,h4⟩:=h.load j x hx hu
 have e:Sort.grow (W.drewN 0) #[]=W:=by rw[grow_empty];rfl
 exact⟨by simpa[e] using h0 0 #[],by simpa[e] using h1 0 #[],by simpa[e] using h2 0 #[],by simpa[e] using h3 0 #[],by simpa[e] using h4 0 #[]⟩
theorem RowL.frozen {w0 W:World} {blk cap:Nat} {xs:List (El n0 w0)} (h:RowL W blk cap xs) (e:Nat):W.frozen? ⟨blk,e,none⟩=false:=by
 obtain⟨_,cs,T,hb,_⟩:=h
 simp[World.frozen?,hb]
end
end Go.Proofs.YtckdgniecdfedaaGreatDoor
