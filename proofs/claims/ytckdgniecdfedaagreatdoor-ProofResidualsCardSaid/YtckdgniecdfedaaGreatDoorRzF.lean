/- The walk of CompactFunc at formulas. What is left of a sorted row; the walk of distinct. The walks of negated and BinarySearchFunc. -/
import Derived.Test.YtckdgniecdfedaaGreatDoorRzE
namespace Go.Proofs.YtckdgniecdfedaaGreatDoor
section
open Go.RowKit Go.Sort
variable {n0:Nat}
set_option maxRecDepth 100000 in
set_option maxHeartbeats 4000000 in
theorem compact305 {w0 w:World} {B1 blk cap:Nat} {xs:List (El n0 w0)} (hB:RowKit.Below w0.heap.size w0 w) (hb:w0.heap.size≤blk) (h1:w.cell? ⟨B1,0,none⟩=some (.func (.func 251) #[] #[])) (hB1:B1<w.heap.size) (hne:B1≠blk) (h:RowL w blk cap xs) (hsz:xs.length≤1000000):
  Calls Tryz.prog 305 #[.slice (some ⟨blk,0,none⟩) xs.length cap,.func (.func 306) #[] #[.pointer (some ⟨B1,0,none⟩)]] w fun e w'=>
   e=.returned (.slice (some ⟨blk,0,none⟩) (cptE xs).length cap)∧RowL w' blk cap (cptE xs)∧Fr (only blk) w.heap.size w w'∧w.drawn≤w'.drawn:=by
 have HR:=Lib.hid h
 have HB:=Lib.hid (And.intro hB (And.intro hb hne))
 have HC1:=Lib.hid (And.intro h1 hB1)
 have hcl:=h.1
 have mixed:Tryz.prog.follows .mixedOrders=true:=by kernel_rfl
 clear hB hb h1 hB1 hne h
 go_enter Tryz.func305,Tryz.ntmps305
 by_cases h2:xs.length<2
 ·have h2z:(xs.length:Int)<2:=by omega
  go_wp2_with fail
  go_ret
  have hc:cptE xs=xs:=by
   unfold cptE
   rw[upTo_all _ _ _ (fun j hj=>by
     have:j=0:=by omega
     simp[kpE,this])]
   have:=Lib.range_map_get xs.toArray
   simpa using this
  rw[hc]
  exact⟨rfl,HR.out,Fr.refl _ _ _,Nat.le_refl _⟩
 ·have h2z:¬(xs.length:Int)<2:=by omega
  go_wp2_with fail
  go_loopg [5] xs.length (fun g o wr=>∃(kp n:Nat) (os:Array Obj),o=.int .i64 (kp+1:Nat)∧kp+1≤xs.length∧Hid (xs.length - (kp+1)<g)∧wr=grow (w.drewN n) os∧Hid (∀j,j≤kp→kpE xs.toArray j=true))
  case atStart=>exact⟨0,0,#[],rfl,by omega,Lib.hid (by omega),by simp[World.drewN],Lib.hid (fun j hj=>by
   have:j=0:=by omega
   subst this
   simp[kpE])⟩
  case round=>
   obtain⟨kp,n,os,rfl,hk,HG,hwr,HK⟩:=hrel
   have HWR:=Lib.hid hwr
   have HRW:Hid (RowL wr blk cap xs):=Lib.hid (by rw[hwr];exact HR.out.grow n os)
   clear hwr
   by_cases hlt:kp+1<xs.length
   ·have hltz:(kp:Int)+1<(xs.length:Int):=by omega
    obtain⟨x,hx⟩:∃x,xs[kp+1]? =some x:=⟨_,List.getElem?_eq_getElem hlt⟩
    obtain⟨y,hy⟩:∃y,xs[kp]? =some y:=⟨_,List.getElem?_eq_getElem (by omega)⟩
    obtain⟨u0,u1,u2,u3,u4,hu⟩:=enc5 x
    obtain⟨t0,t1,t2,t3,t4,ht⟩:=enc5 y
    obtain⟨lx0,lx1,lx2,lx3,lx4⟩:=HRW.out.load _ _ hx hu
    obtain⟨ly0,ly1,ly2,ly3,ly4⟩:=HRW.out.load _ _ hy ht
    have hwp:IntKind.i64.wrap (kp:Int)=(kp:Int):=by rw[IntKind.wrap_i64];omega
    have hcg:∀n' os',Calls Tryz.prog 306 #[.agg #[u0,u1,u2,u3,u4],.agg #[t0,t1,t2,t3,t4],.pointer (some ⟨B1,0,none⟩)] (grow (wr.drewN n') os') fun e w'=>e=.returned (.bool (decide (cmpE x y=0)))∧∃q os'',w'=grow ((grow (wr.drewN n') os').drewN q) os'':=fun n' os'=>by
     have hlw:w.heap.size≤wr.heap.size:=by rw[HWR.out];simp[grow,World.drewN]
     have hbw:RowKit.Below w0.heap.size w0 wr:=by rw[HWR.out];exact below_grow HB.out.1 HB.out.1.size _ _
     have hcw:wr.cell? ⟨B1,0,none⟩=some (.func (.func 251) #[] #[]):=by rw[HWR.out];exact(cell?_grow _ _ _ (by exact HC1.out.2)).trans HC1.out.1
     have h6:=same306 (below_grow hbw hbw.size n' os') ((cell?_grow _ _ _ (by exact Nat.lt_of_lt_of_le HC1.out.2 hlw)).trans hcw) (by simp[grow,World.drewN];have:=HC1.out.2;omega) x y
     rw[hu,ht] at h6
     exact h6
    have p0:(0:Int)≤(kp:Int)+1:=by omega
    have e0:((kp:Int)+1).toNat=kp+1:=by omega
    have kz1:(kp:Int)<(xs.length:Int):=by omega
    go_wp2_with fail
    go_quiet_grown (exact Calls.grown_of (hcg _ _))
    have HX:Hid (xs.toArray[kp+1]! =x∧xs.toArray[kp]! =y):=Lib.hid ⟨by simp[hx],by simp[hy]⟩
    have HRG:Hid (RowL (grow (wr.drewN nq) osq) blk cap xs):=Lib.hid (HRW.out.grow nq osq)
    have HWG:Hid (grow (wr.drewN nq) osq=grow (w.drewN (n+nq)) (os++osq)):=Lib.hid (by rw[HWR.out];show grow (grow ((w.drewN n).drewN nq) os) osq=_;rw[grow_grow,drewN_two])
    clear lx0 lx1 lx2 lx3 lx4 ly0 ly1 ly2 ly3 ly4 hu ht hcg hx hy
    dsimp only
    generalize grow (wr.drewN nq) osq=w2 at*
    by_cases hxy:cmpE x y=0
    ·have hd:decide (cmpE x y=0)=true:=by simp[hxy]
     have hgt:((kp:Int)+1)≤(xs.length:Int):=by omega
     have hgc:(xs.length:Int)≤(cap:Int):=by omega
     rw[hd]
     go_wp2_with fail
     have HCI:Hid (CI xs.toArray (kpE xs.toArray) (kp+1+1) (kp+1) xs.toArray):=Lib.hid (CI.start (fun j hj=>HK.out j (by omega)) (by simp only[kpE,Nat.add_sub_cancel,HX.out.1,HX.out.2];simp[hxy]))
     have HF2:Hid (Fr (only blk) w.heap.size w w2∧RowKit.Below w0.heap.size w0 w2∧w.drawn≤w2.drawn):=Lib.hid (by
      rw[HWG.out]
      exact⟨Fr.of_below (below_grow (RowKit.Below.refl _ _) (Nat.le_refl _) _ _),below_grow HB.out.1 HB.out.1.size _ _,Nat.le_add_right _ _⟩)
     clear HX HWG HK HWR HRW
     have hlc:(xs.length:Int) - ((kp:Int)+1)=((xs.length - (kp+1):Nat):Int):=by omega
     go_loopg [5,7] xs.length (fun g o5 o7 wr=>∃(kk k2:Nat) (dk:Array (El n0 w0)),o5=.int .i64 kk∧o7=.int .i64 (k2+1:Nat)∧kp+1+k2+1≤xs.length∧Hid (xs.length - (kp+1+k2)≤g)∧kk≤kp+1+k2∧Hid (CI xs.toArray (kpE xs.toArray) (kp+1+k2+1) kk dk)∧Hid (RowL wr blk cap dk.toList)∧
      Hid (Fr (only blk) w.heap.size w wr∧RowKit.Below w0.heap.size w0 wr∧w.drawn≤wr.drawn))
     case atStart=>exact⟨kp+1,0,xs.toArray,by go_num,rfl,by omega,Lib.hid (by omega),by omega,HCI,by simpa using HRG,HF2⟩
     case round=>
      obtain⟨kk,k2,dk,rfl,rfl,hk2,HG2,hkk,HCI,HRW,HF⟩:=hrel
      have HDS:Hid (dk.size=xs.length):=Lib.hid (by simpa using HCI.out.size)
      by_cases hlt2:kp+1+k2+1<xs.length
      ·have q1:(k2:Int)+1<((xs.length - (kp+1):Nat):Int):=by omega
       obtain⟨x2,hx2⟩:∃x,dk.toList[kp+1+k2+1]? =some x:=⟨_,List.getElem?_eq_getElem (by simp[HDS.out];omega)⟩
       obtain⟨y2,hy2⟩:∃y,dk.toList[kp+1+k2]? =some y:=⟨_,List.getElem?_eq_getElem (by simp[HDS.out];omega)⟩
       obtain⟨z2,hz2⟩:∃y,dk.toList[kk]? =some y:=⟨_,List.getElem?_eq_getElem (by simp[HDS.out];omega)⟩
       obtain⟨u0,u1,u2,u3,u4,hu⟩:=enc5 x2
       obtain⟨t0,t1,t2,t3,t4,ht⟩:=enc5 y2
       obtain⟨v0,v1,v2,v3,v4,hv⟩:=enc5 z2
       have la:=fun n os=>(HRW.out.grow n os).at _ ((kp+1)*5+(k2+1)*5) (by omega) _ hx2 hu
       have lb:=fun n os=>(HRW.out.grow n os).at _ ((kp+1)*5+k2*5) (by omega) _ hy2 ht
       have la0:=fun n os=>(la n os).1
       have la1:=fun n os=>(la n os).2.1
       have la2:=fun n os=>(la n os).2.2.1
       have la3:=fun n os=>(la n os).2.2.2.1
       have la4:=fun n os=>(la n os).2.2.2.2
       have lb0:=fun n os=>(lb n os).1
       have lb1:=fun n os=>(lb n os).2.1
       have lb2:=fun n os=>(lb n os).2.2.1
       have lb3:=fun n os=>(lb n os).2.2.2.1
       have lb4:=fun n os=>(lb n os).2.2.2.2
       clear la lb
       have hcg:∀n' os',Calls Tryz.prog 306 #[.agg #[u0,u1,u2,u3,u4],.agg #[t0,t1,t2,t3,t4],.pointer (some ⟨B1,0,none⟩)] (grow (wr.drewN n') os') fun e w'=>e=.returned (.bool (decide (cmpE x2 y2=0)))∧∃q os'',w'=grow ((grow (wr.drewN n') os').drewN q) os'':=fun n' os'=>by
        have hcw:wr.cell? ⟨B1,0,none⟩=some (.func (.func 251) #[] #[]):=(HF.out.1.cell (a:=⟨B1,0,none⟩) HC1.out.2 (by simp only[only];simpa using HB.out.2.2)).trans HC1.out.1
        have h6:=same306 (below_grow HF.out.2.1 HF.out.2.1.size n' os') ((cell?_grow _ _ _ (by exact Nat.lt_of_lt_of_le HC1.out.2 HF.out.1.size)).trans hcw) (by simp[grow,World.drewN];have:=HC1.out.2;have:=HF.out.1.size;omega) x2 y2
        rw[hu,ht] at h6
        exact h6
       have p2:(0:Int)≤(k2:Int)+1:=by omega
       have e2:((k2:Int)+1).toNat=k2+1:=by omega
       have q2:(k2:Int)<((xs.length - (kp+1):Nat):Int):=by omega
       have hw2:IntKind.i64.wrap (k2:Int)=(k2:Int):=by rw[IntKind.wrap_i64];omega
       go_upto_region 11 with fail
       go_quiet_grown (exact Calls.grown_of (hcg _ _))
       dsimp only
       have HRG3:Hid (RowL (grow (wr.drewN nq) osq) blk cap dk.toList):=Lib.hid (HRW.out.grow nq osq)
       have HF3:Hid (Fr (only blk) w.heap.size w (grow (wr.drewN nq) osq)∧RowKit.Below w0.heap.size w0 (grow (wr.drewN nq) osq)∧w.drawn≤(grow (wr.drewN nq) osq).drawn):=Lib.hid ⟨HF.out.1.trans ((Fr.of_below (below_grow (RowKit.Below.refl wr.heap.size wr) (Nat.le_refl _) nq osq)).mono HF.out.1.size),below_grow HF.out.2.1 HF.out.2.1.size _ _,Nat.le_trans HF.out.2.2 (Nat.le_add_right _ _)⟩
       clear la0 la1 la2 la3 la4 lb0 lb1 lb2 lb3 lb4 hcg HRW HF
       generalize grow (wr.drewN nq) osq=w3 at*
       have HX2:Hid (xs.toArray[kp+1+k2+1]! =x2∧xs.toArray[kp+1+k2]! =y2):=Lib.hid ⟨by
        rw[←HCI.out.high (kp+1+k2+1) (by omega)]
        rw[Array.getElem?_toList] at hx2
        simp only[getElem!_def,hx2],by
        rw[←HCI.out.high (kp+1+k2) (by omega)]
        rw[Array.getElem?_toList] at hy2
        simp only[getElem!_def,hy2]⟩
       have hkp:kpE xs.toArray (kp+1+k2+1)=!decide (cmpE x2 y2=0):=by
        simp only[kpE,Nat.add_sub_cancel,HX2.out.1,HX2.out.2]
        simp
       by_cases hxy2:cmpE x2 y2=0
       ·have hd2:decide (cmpE x2 y2=0)=true:=by simp[hxy2]
        rw[hd2] at hkp ⊢
        go_wp2_with fail
        go_roundg (gk - 1)
        case measure=>have:=HG2.out;omega
        case rel=>exact⟨kk,k2+1,dk,rfl,by go_num,by omega,Lib.hid (by have:=HG2.out;omega),by omega,Lib.hid (by have:=HCI.out.skip hkp;exact this),HRG3,HF3⟩
       ·have hd2:decide (cmpE x2 y2=0)=false:=by simp[hxy2]
        rw[hd2] at hkp ⊢
        obtain⟨la0,la1,la2,la3,la4⟩:=HRG3.out.at _ ((kp+1)*5+(k2+1)*5) (by omega) _ hx2 hu
        obtain⟨lc0,lc1,lc2,lc3,lc4⟩:=HRG3.out.at _ (kk*5) rfl _ hz2 hv
        have fr:=HRG3.out.frozen
        have hkl:(kk:Int)<(xs.length:Int):=by omega
        have HNW:=Lib.hid (HRG3.out.set kk x2)
        have HCK:=Lib.hid (HCI.out.keep (by have:=hlt2;simpa using this) hkp)
        rw[HX2.out.1] at HCK
        have HNE:Hid (encE x2=[u0,u1,u2,u3,u4]):=hu
        obtain⟨f0,f1,f2,f3,f4,f5,f6,hf⟩:∃f0 f1 f2 f3 f4 f5 f6,[u0,u1,u2,u3,u4]=[.int .i64 f0,.string f1,.int .i64 f2,.int .i64 f3,.slice f4 f5 f6]:=by
         rw[←hu]
         obtain⟨⟨op,nm,v,bd,args,a,c⟩,hok⟩:=x2
         exact⟨op,nm,v,bd,a,args.len,c,rfl⟩
        simp only[List.cons.injEq,and_true] at hf
        obtain⟨rfl,rfl,rfl,rfl,rfl⟩:=hf
        clear hu HX2 hkp hx2 hy2
        go_wp2_with fail
        go_roundg (gk - 1)
        case measure=>have:=HG2.out;omega
        case rel=>
         have hon:only blk blk=true:=by simp[only]
         refine⟨kk+1,k2+1,dk.setIfInBounds kk x2,by go_num,by go_num,by omega,Lib.hid (by have:=HG2.out;omega),by omega,HCK,Lib.hid ?_,Lib.hid ⟨?_,?_,HF3.out.2.2⟩⟩
         ·have:=HNW.out
          rw[HNE.out] at this
          rw[Array.toList_setIfInBounds]
          exact this
         ·exact((((HF3.out.1.setCell (.inl hon) _).setCell (.inl hon) _).setCell (.inl hon) _).setCell (.inl hon) _).setCell (.inl hon) _
         ·exact((((HF3.out.2.1.setCell HB.out.2.1 _).setCell HB.out.2.1 _).setCell HB.out.2.1 _).setCell HB.out.2.1 _).setCell HB.out.2.1 _
      ·have q1:¬(k2:Int)+1<((xs.length - (kp+1):Nat):Int):=by omega
       have hgt:(kk:Int)≤(xs.length:Int):=by omega
       obtain⟨hlk,cs,T,hbl,hcs,hcc⟩:=HRW.out
       have hcl2:=fun ty=>clear46 (c:=cap - kk) ty hbl (show 0<xs.length - kk by omega) (show(kk+(xs.length - kk))*5≤cs.size by omega)
       have hrow:=RowL.cleared HRW.out hbl (show(kk+(xs.length - kk))*5≤cs.size by omega) (show kk≤dk.toList.length by simp[HDS.out];omega)
       go_wp2_with fail
       go_ret
       have hm:kp+1+k2+1=xs.length:=by omega
       have hce:cptE xs=dk.toList.take kk:=by
        have hI:=HCI.out
        rw[hm] at hI
        apply List.ext_getElem?
        intro j
        by_cases hj:j<kk
        ·refine(hI.low j hj).trans ?_
         rw[List.getElem?_take,if_pos hj,Array.getElem?_toList]
         have:j<dk.size:=by rw[HDS.out];omega
         simp[this]
        ·rw[List.getElem?_eq_none (by have:=hI.len;unfold cptE;omega),List.getElem?_take,if_neg hj]
       rw[hce]
       have hlen:(dk.toList.take kk).length=kk:=by simp[HDS.out];omega
       rw[hlen]
       refine⟨rfl,hrow,?_,HF.out.2.2⟩
       exact HF.out.1.grown (row:=some blk) ⟨rfl,rfl,rfl,by simp[World.setRow],fun k _ hk=>setRow_other wr blk k _ (fun e=>hk (by rw[e]))⟩ HF.out.1.size (fun k e=>by cases e;exact .inl (by simp[only]))
    ·have hd:decide (cmpE x y=0)=false:=by simp[hxy]
     rw[hd]
     go_wp2_with fail
     go_roundg (gk - 1)
     case measure=>have:=HG.out;omega
     case rel=>exact⟨kp+1,n+nq,os++osq,by go_num,by omega,Lib.hid (by have:=HG.out;omega),HWG.out,Lib.hid (fun j hj=>by
      by_cases hj':j≤kp
      ·exact HK.out j hj'
      ·have:j=kp+1:=by omega
       subst this
       simp only[kpE,Nat.add_sub_cancel,HX.out.1,HX.out.2]
       simp[hxy])⟩
   ·have hltz:¬(kp:Int)+1<(xs.length:Int):=by omega
    go_wp2_with fail
    go_ret
    have hkl:kp+1=xs.length:=by omega
    have hc:cptE xs=xs:=by
     unfold cptE
     rw[upTo_all _ _ _ (fun j hj=>HK.out j (by omega))]
     have:=Lib.range_map_get xs.toArray
     simpa using this
    rw[hc]
    refine⟨rfl,HRW.out,?_,?_⟩
    ·rw[HWR.out];exact Fr.of_below (below_grow (RowKit.Below.refl _ _) (Nat.le_refl _) _ _)
    ·rw[HWR.out];exact Nat.le_add_right _ _
end
section
open Go.RowKit Go.Sort
variable {n0:Nat}
theorem cmpF_eq {f g:Fs} (hl:f.len=g.len) (h:cmpF f g=0):f=g:=keyF_inj' hl (cmpL_tc.eq _ _ h)
theorem cmpE_eq {w0:World} {x y:El n0 w0} (h:cmpE x y=0):treeE x=treeE y:=cmpF_eq rfl h
theorem cmpF_same (f:Fs):cmpF f f=0:=cmpL_same' f
 where cmpL_same' (f:Fs):cmpF f f=0:=cmpL_tc.same _
theorem upTo_mem {α:Type} [Inhabited α] {d:Array α} {kp:Nat→Bool} {m:Nat} {y:α} (h:y∈upTo d kp m):∃i,i<m∧y=d[i]! :=by
 unfold upTo at h
 rw[List.mem_map] at h
 obtain⟨i,hi,rfl⟩:=h
 exact⟨i,List.mem_range.1 (List.mem_filter.1 hi).1,rfl⟩
theorem upTo_strict {w0:World} {d:Array (El n0 w0)} (hs:∀i j,i<j→j<d.size→0≤cmpE d[j]! d[i]!):∀m,m≤d.size→
  (upTo d (kpE d) m).Pairwise (fun a b=>cmpE a b<0)∧∀i,i<m→∃y∈upTo d (kpE d) m,treeE y=treeE d[i]!
 |0,_=>⟨by simp[upTo],fun i hi=>by omega⟩
 |m+1,hm=>by
  obtain⟨h1,h2⟩:=upTo_strict hs m (by omega)
  have H:=cmpL_tc
  rw[upTo_succ]
  by_cases hk:kpE d m=true
  ·rw[if_pos hk]
   refine⟨List.pairwise_append.2 ⟨h1,by simp,fun a ha b hb=>?_⟩,fun i hi=>?_⟩
   ·obtain⟨i,hi,rfl⟩:=upTo_mem ha
    rw[List.mem_singleton] at hb
    subst hb
    have hne:cmpE d[m]! d[m - 1]!≠0:=by
     simp only[kpE,decide_eq_true_eq] at hk
     rcases hk with hk|hk
     ·omega
     ·exact hk
    have hlt:cmpE d[m - 1]! d[m]! <0:=H.flop _ _ (by
     have:=hs (m - 1) m (by omega) (by omega)
     show 0<cmpE d[m]! d[m - 1]!
     omega)
    by_cases hi':i=m - 1
    ·rw[hi'];exact hlt
    ·have h3:=hs i (m - 1) (by omega) (by omega)
     by_cases h0:cmpE d[m - 1]! d[i]! =0
     ·have:=cmpE_eq h0
      show cmpF (treeE d[i]!) (treeE d[m]!)<0
      rw[←this];exact hlt
     ·exact H.trans _ _ _ (H.flop _ _ (show 0<cmpE d[m - 1]! d[i]! by omega)) hlt
   ·by_cases hi':i<m
    ·obtain⟨y,hy,e⟩:=h2 i hi'
     exact⟨y,List.mem_append_left _ hy,e⟩
    ·have:i=m:=by omega
     subst this
     exact⟨_,List.mem_append_right _ (List.mem_singleton.2 rfl),rfl⟩
  ·rw[if_neg hk,List.append_nil]
   refine⟨h1,fun i hi=>?_⟩
   by_cases hi':i<m
   ·exact h2 i hi'
   ·have:i=m:=by omega
    subst this
    simp only[kpE,decide_eq_true_eq,not_or,Classical.not_not] at hk
    obtain⟨y,hy,e⟩:=h2 (i - 1) (by omega)
    exact⟨y,hy,e.trans (cmpE_eq hk.2).symm⟩
def Dist {w0:World} (xs ys:List (El n0 w0)):Prop:=ys.Pairwise (fun a b=>cmpE a b<0)∧∀t,t∈ys.map treeE↔t∈xs.map treeE
theorem dist_of {w0:World} {xs ys:List (El n0 w0)} (hp:ys.Perm xs) (hs:∀i j (hi:i<j) (hj:j<ys.length),0≤cmpE ys[j] (ys[i]'(Nat.lt_trans hi hj))):Dist xs (cptE ys):=by
 have hs':∀i j,i<j→j<ys.toArray.size→0≤cmpE ys.toArray[j]! ys.toArray[i]! :=fun i j hi hj=>by
  have hj':j<ys.length:=by simpa using hj
  have:=hs i j hi hj'
  simpa[hj',Nat.lt_trans hi hj'] using this
 obtain⟨h1,h2⟩:=upTo_strict hs' ys.length (by simp)
 refine⟨h1,fun t=>?_⟩
 rw[List.mem_map,List.mem_map]
 constructor
 ·rintro⟨y,hy,rfl⟩
  obtain⟨i,hi,rfl⟩:=upTo_mem hy
  refine⟨_,hp.mem_iff.1 ?_,rfl⟩
  simp[hi]
 ·rintro⟨x,hx,rfl⟩
  obtain⟨i,hi,rfl⟩:=List.getElem_of_mem (hp.mem_iff.2 hx)
  obtain⟨y,hy,e⟩:=h2 i hi
  refine⟨y,hy,e.trans ?_⟩
  simp[hi]
set_option maxRecDepth 100000 in
set_option maxHeartbeats 4000000 in
theorem compact305_short {a:Option Addr} {n cap:Nat} {fv:Value} (w:World) (hn:n<2):Calls Tryz.prog 305 #[.slice a n cap,fv] w fun e w'=>e=.returned (.slice a n cap)∧w'=w:=by
 have h2z:(n:Int)<2:=by omega
 go_enter Tryz.func305,Tryz.ntmps305
 go_wp2_with fail
 go_ret
 exact⟨rfl,rfl⟩
def ListAt {w0:World} (W:World) (lo:Nat) (a:Option Addr) (cap:Nat) (xs:List (El n0 w0)):Prop:=(a=none∧xs=[]∧cap=0)∨∃blk,a=some ⟨blk,0,none⟩∧lo≤blk∧RowL W blk cap xs
set_option maxRecDepth 100000 in
set_option maxHeartbeats 4000000 in
theorem distinct250 {w0 w:World} {a:Option Addr} {cap lo:Nat} {xs:List (El n0 w0)} (hB:RowKit.Below w0.heap.size w0 w) (hlo:w0.heap.size≤lo) (hlw:lo≤w.heap.size) (h:ListAt w lo a cap xs) (hsz:xs.length≤1000000):
  Calls Tryz.prog 250 #[.slice a xs.length cap,.func (.func 251) #[] #[]] w fun e w'=>
   ∃ys:List (El n0 w0),Dist xs ys∧e=.returned (.slice a ys.length cap)∧ListAt w' lo a cap ys∧RowKit.Below w0.heap.size w0 w'∧w.drawn≤w'.drawn∧RowKit.Below lo w w':=by
 have k0:=World.alloc_heap_new w (.cells #[.func (.func 251) #[] #[]] 145)
 have kB:=(RowKit.Below.refl w.heap.size w).alloc (Nat.le_refl _) (.cells #[.func (.func 251) #[] #[]] 145)
 have kS:=World.size_alloc w (.cells #[.func (.func 251) #[] #[]] 145)
 have kd:(w.alloc (.cells #[.func (.func 251) #[] #[]] 145)).drawn=w.drawn:=rfl
 have HK:=Lib.hid (And.intro kB (And.intro kS kd))
 go_enter Tryz.func250,Tryz.ntmps250
 have c1:(w.alloc (.cells #[.func (.func 251) #[] #[]] 145)).cell? ⟨w.heap.size,0,none⟩=some (.func (.func 251) #[] #[]):=cell_new w #[.func (.func 251) #[] #[]] 145 0
 clear kB kS kd k0
 rcases h with⟨rfl,rfl,rfl⟩|⟨blk,rfl,hb0,hR⟩
 ·simp only[List.length_nil]
  go_upto_region 1 with fail
  generalize w.alloc (.cells #[.func (.func 251) #[] #[]] 145)=w1 at*
  have HW:Hid (Dist ([]:List (El n0 w0)) []∧ListAt w1 lo none 0 ([]:List (El n0 w0))∧RowKit.Below w0.heap.size w0 w1∧w.drawn≤w1.drawn∧RowKit.Below lo w w1):=Lib.hid ⟨⟨by simp,fun t=>Iff.rfl⟩,.inl ⟨rfl,rfl,rfl⟩,hB.trans (HK.out.1.mono hB.size),Nat.le_of_eq HK.out.2.2.symm,HK.out.1.mono hlw⟩
  go_wp2_with fail
  refine(show Calls Tryz.prog 304 _ _ _ from AnyF.slices_SortFunc_none Tryz.sortF none 0 (.func (.func 251) #[] #[]) w1).mono ?_
  rintro e w' ⟨rfl,rfl⟩
  go_wp2_with fail
  refine(compact305_short _ (by omega)).mono ?_
  rintro e w' ⟨rfl,rfl⟩
  go_wp2_with fail
  go_ret
  exact⟨[],HW.out.1,rfl,HW.out.2.1,HW.out.2.2.1,HW.out.2.2.2.1,HW.out.2.2.2.2⟩
 ·go_upto_region 1 with fail
  have hb:=Nat.le_trans hlo hb0
  have HBK:=Lib.hid (And.intro hB hb)
  have HLO:=Lib.hid hb0
  have HLW:=Lib.hid hlw
  clear hb0 hlo hlw
  have HRW:Hid (RowL (w.alloc (.cells #[.func (.func 251) #[] #[]] 145)) blk cap xs):=Lib.hid (by rw[alloc_eq_grow];exact hR.grow 0 _)
  have hlt:=hR.lt
  clear hB hb hR
  generalize w.alloc (.cells #[.func (.func 251) #[] #[]] 145)=w1 at*
  have HB1:Hid (RowKit.Below w0.heap.size w0 w1):=Lib.hid (HBK.out.1.trans (HK.out.1.mono HBK.out.1.size))
  go_wp2_with fail
  refine(sort304 HB1.out HBK.out.2 HRW.out (by omega)).mono ?_
  rintro e w2 ⟨rfl,zs,hz1,hz2,hz3,hz4,hz5⟩
  have c2:=(hz4.cell (a:=⟨w.heap.size,0,none⟩) (by show w.heap.size<w1.heap.size;rw[HK.out.2.1];omega) (by simp only[only];simp;omega)).trans c1
  have hlen:=hz1.length_eq
  have HZ:=Lib.hid (And.intro hz1 (And.intro hz2 (And.intro hz3 (And.intro hz4 hz5))))
  have HB2:Hid (RowKit.Below w0.heap.size w0 w2):=Lib.hid (HB1.out.trans ⟨hz4.os,hz4.tape,hz4.output,hz4.size,fun k hk=>hz4.block k (Nat.lt_of_lt_of_le hk HB1.out.size) (by simp only[only];have:=HBK.out.2;simp;omega)⟩)
  clear hz1 hz2 hz3 hz4 hz5
  have HLEN:=Lib.hid hlen
  rw[←hlen]
  clear hlen
  go_wp2_with fail
  refine(compact305 HB2.out HBK.out.2 c2 (by have:=HZ.out.2.2.2.1.size;rw[HK.out.2.1] at this;omega) (by omega) HZ.out.2.2.1 (by have:=HLEN.out;omega)).mono ?_
  rintro e w3 ⟨rfl,hy1,hy2,hy3⟩
  have HY:=Lib.hid (And.intro hy1 (And.intro hy2 hy3))
  clear hy1 hy2 hy3
  go_wp2_with fail
  go_ret
  refine⟨cptE zs,dist_of HZ.out.1 HZ.out.2.1,rfl,.inr ⟨blk,rfl,HLO.out,HY.out.1⟩,?_,?_,?_⟩
  ·have hy:=HY.out.2.1
   exact HB2.out.trans ⟨hy.os,hy.tape,hy.output,hy.size,fun k hk=>hy.block k (Nat.lt_of_lt_of_le hk HB2.out.size) (by simp only[only];have:=HBK.out.2;simp;omega)⟩
  ·have h1:=HK.out.2.2
   have h2:=HZ.out.2.2.2.2
   have h3:=HY.out.2.2
   omega
  ·have hz:=HZ.out.2.2.2.1
   have hy:=HY.out.2.1
   have hl:=HLO.out
   have hw:=HLW.out
   have hs:=HK.out.2.1
   have e2:RowKit.Below lo w1 w2:=⟨hz.os,hz.tape,hz.output,hz.size,fun k hk=>hz.block k (by omega) (by simp only[only];simp;omega)⟩
   have e3:RowKit.Below lo w2 w3:=⟨hy.os,hy.tape,hy.output,hy.size,fun k hk=>hy.block k (by have:=hz.size;omega) (by simp only[only];simp;omega)⟩
   exact(HK.out.1.mono hw).trans (e2.trans e3)
end
section
open Go.RowKit Go.Sort
variable {n0:Nat}
theorem El.first {w0:World} (x:El n0 w0) (h:x.1.args.len≠0):∃(y:El n0 w0) (rest:Fs) (b o:Nat),x.1.args=.cons y.1.op y.1.nm y.1.v y.1.bd y.1.args rest∧x.1.a=some ⟨b,o,none⟩∧b<w0.heap.size∧
  w0.cell? ⟨b,o,none⟩=some (.int .i64 y.1.op)∧w0.cell? ⟨b,o+1,none⟩=some (.string y.1.nm)∧w0.cell? ⟨b,o+2,none⟩=some (.int .i64 y.1.v)∧w0.cell? ⟨b,o+3,none⟩=some (.int .i64 y.1.bd)∧w0.cell? ⟨b,o+4,none⟩=some (.slice y.1.a y.1.args.len y.1.c):=by
 obtain⟨⟨op,nm,v,bd,args,a,c⟩,hf,hp,hnm,hl,hc,hn⟩:=x
 dsimp only at*
 obtain⟨b,o,rfl,hb,hat⟩:=hf h
 obtain⟨hln,hpat⟩:=hp b o rfl h
 cases args with
 |nil=>exact absurd rfl h
 |cons op' nm' v' bd' args' rest=>
  obtain⟨c0,c1,c2,c3,c4,c5,⟨a',c',c6,c7,c8⟩,c9⟩:=hat
  refine⟨⟨⟨op',nm',v',bd',args',a',c'⟩,c8,fun p o' e h0=>?_,c2,c5,c7,by simp only[Fs.nodes] at hn;show args'.nodes≤100000;omega⟩,rest,b,o,rfl,rfl,hb,c0,c1,c3,c4,c6⟩
  subst e
  exact hpat.1 p o' _ _ c6 h0
set_option maxRecDepth 100000 in
set_option maxHeartbeats 4000000 in
theorem neg_no {W:World} {op v bd:Int} {nm:ByteArray} {a:Option Addr} {n c:Nat} (h4:op≠4):
  Calls Tryz.prog 253 #[.agg #[.int .i64 op,.string nm,.int .i64 v,.int .i64 bd,.slice a n c]] W fun e w'=>(∃q os,w'=grow (W.drewN q) os)∧e=.returned (.tuple #[.agg zero48,.bool false]):=by
 have hb:(op !=4)=true:=by simp[h4]
 go_enter Tryz.func253,Tryz.ntmps253
 go_wp2_with fail
 try simp only[Exit.inBlock,Exit.then]
 refine bodyPost_ret (v:=.tuple #[.agg #[.int .i64 0,.string ⟨#[]⟩,.int .i64 0,.int .i64 0,.slice none 0 0],.bool false]) (by
  simp[results,Tryz.f253,go_sem]) rfl ?_
 refine⟨?_,rfl⟩
 rw[alloc_eq_grow,alloc_eq_grow,grow_grow]
 exact⟨0,_,rfl⟩
set_option maxRecDepth 100000 in
set_option maxHeartbeats 4000000 in
theorem neg_yes {W:World} {v bd op' v' bd':Int} {nm nm':ByteArray} {b o n c n' c':Nat} {a':Option Addr} (hn:0<n) (hb:b<W.heap.size) (e4:W.cell? ⟨b,o,none⟩=some (.int .i64 op')) (e5:W.cell? ⟨b,o+1,none⟩=some (.string nm')) (e6:W.cell? ⟨b,o+2,none⟩=some (.int .i64 v'))
  (e7:W.cell? ⟨b,o+3,none⟩=some (.int .i64 bd')) (e8:W.cell? ⟨b,o+4,none⟩=some (.slice a' n' c')):
  Calls Tryz.prog 253 #[.agg #[.int .i64 4,.string nm,.int .i64 v,.int .i64 bd,.slice (some ⟨b,o,none⟩) n c]] W fun e w'=>(∃q os,w'=grow (W.drewN q) os)∧e=.returned (.tuple #[.agg #[.int .i64 op',.string nm',.int .i64 v',.int .i64 bd',.slice a' n' c'],.bool true]):=by
 have hnz:(0:Int)<(n:Int):=by omega
 go_enter Tryz.func253,Tryz.ntmps253
 go_wp2_with fail
 try simp only[Exit.inBlock,Exit.then]
 refine bodyPost_ret (v:=.tuple #[.agg #[.int .i64 op',.string nm',.int .i64 v',.int .i64 bd',.slice a' n' c'],.bool true]) (by
  simp[results,Tryz.f253,go_sem]) rfl ?_
 refine⟨?_,rfl⟩
 rw[alloc_eq_grow,alloc_eq_grow,grow_grow]
 exact⟨0,_,rfl⟩
theorem negated253 {w0 W:World} (hB:RowKit.Below w0.heap.size w0 W) (x:El n0 w0) (hx:x.1.op=4→x.1.args.len≠0):
  Calls Tryz.prog 253 #[.agg (encE x).toArray] W fun e w'=>(∃q os,w'=grow (W.drewN q) os)∧
   ((x.1.op≠4∧e=.returned (.tuple #[.agg zero48,.bool false]))∨∃(y:El n0 w0) (rest:Fs),x.1.op=4∧x.1.args=.cons y.1.op y.1.nm y.1.v y.1.bd y.1.args rest∧e=.returned (.tuple #[.agg (encE y).toArray,.bool true])):=by
 by_cases h4:x.1.op=4
 ·obtain⟨y,rest,b,o,e1,e2,e3,e4,e5,e6,e7,e8⟩:=x.first (hx h4)
  have hc:∀i,W.cell? ⟨b,i,none⟩=w0.cell? ⟨b,i,none⟩:=fun i=>hB.cell (p:=⟨b,i,none⟩) e3
  have:=neg_yes (nm:=x.1.nm) (v:=x.1.v) (bd:=x.1.bd) (n:=x.1.args.len) (c:=x.1.c) (Nat.pos_of_ne_zero (hx h4)) (Nat.lt_of_lt_of_le e3 hB.size) ((hc _).trans e4) ((hc _).trans e5) ((hc _).trans e6) ((hc _).trans e7) ((hc _).trans e8)
  rw[←h4,←e2] at this
  exact this.mono fun e w' h=>⟨h.1,.inr ⟨y,rest,h4,e1,h.2⟩⟩
 ·exact(neg_no (nm:=x.1.nm) (v:=x.1.v) (bd:=x.1.bd) (a:=x.1.a) (n:=x.1.args.len) (c:=x.1.c) h4).mono fun e w' h=>⟨h.1,.inl ⟨h4,h.2⟩⟩
end
section
open Go.RowKit Go.Sort
variable {n0:Nat}
set_option maxRecDepth 100000 in
set_option maxHeartbeats 40000000 in
theorem search308 {w0 w:World} {blk cap:Nat} {ys:List (El n0 w0)} (hB:RowKit.Below w0.heap.size w0 w) (h:RowL w blk cap ys) (hs:ys.Pairwise (fun a b=>cmpE a b<0)) (hsz:ys.length≤1000000) (y:El n0 w0):
  Calls Tryz.prog 308 #[.slice (some ⟨blk,0,none⟩) ys.length cap,.agg (encE y).toArray,.func (.func 251) #[] #[]] w fun e w'=>
   (∃q os,w'=grow (w.drewN q) os)∧∃i:Int,e=.returned (.tuple #[.int .i64 i,.bool (decide (∃z∈ys,cmpE z y=0))]):=by
 have mixed:Tryz.prog.follows .mixedOrders=true:=by kernel_rfl
 have HS:=Lib.hid hs
 have HR:=Lib.hid h
 have HB:=Lib.hid hB
 obtain⟨t0,t1,t2,t3,t4,ht⟩:=enc5 y
 have HT:Hid (encE y=[t0,t1,t2,t3,t4]):=ht
 rw[ht]
 clear hs h hB ht
 go_enter Tryz.func308,Tryz.ntmps308
 go_upto_region 1 with fail
 have k0:=cell_new w #[t0,t1,t2,t3,t4] 48
 have kW:Hid (∃q os,w.alloc (.cells #[t0,t1,t2,t3,t4] 48)=grow (w.drewN q) os):=Lib.hid ⟨0,_,alloc_eq_grow _ _⟩
 have HS1:Hid (w.heap.size<(w.alloc (.cells #[t0,t1,t2,t3,t4] 48)).heap.size):=Lib.hid (by simp)
 generalize w.alloc (.cells #[t0,t1,t2,t3,t4] 48)=w1 at*
 go_wp2_with fail
 go_loopg [9,10] ys.length (fun g o9 o10 wr=>∃(i j:Nat),o9=.int .i64 i∧o10=.int .i64 j∧i≤j∧j≤ys.length∧Hid (j - i≤g)∧Hid (∃q os,wr=grow (w1.drewN q) os)∧Hid (∀p (h:p<ys.length),p<i→cmpE ys[p] y<0)∧Hid (∀p (h:p<ys.length),j≤p→0≤cmpE ys[p] y))
 case atStart=>exact⟨0,ys.length,rfl,rfl,Nat.zero_le _,Nat.le_refl _,Lib.hid (by omega),Lib.hid ⟨0,#[],by simp[World.drewN]⟩,Lib.hid (fun p _ h=>by omega),Lib.hid (fun p h h'=>by omega)⟩
 case round=>
  obtain⟨i,j,rfl,rfl,hij,hj,HG,HW,HL,HH⟩:=hrel
  have HRW:Hid (RowL wr blk cap ys):=Lib.hid (by
   obtain⟨q,os,rfl⟩:=kW.out
   obtain⟨q',os',rfl⟩:=HW.out
   exact(HR.out.grow _ _).grow _ _)
  have HBW:Hid (RowKit.Below w0.heap.size w0 wr):=Lib.hid (by
   obtain⟨q,os,rfl⟩:=kW.out
   obtain⟨q',os',rfl⟩:=HW.out
   exact below_grow (below_grow HB.out HB.out.size _ _) (by have:=HB.out.size;simp[grow,World.drewN];omega) _ _)
  have hcell:∀n os c v,c<5→(#[t0,t1,t2,t3,t4]:Array Value)[c]? =some v→(grow (wr.drewN n) os).cell? ⟨w.heap.size,c,none⟩=some v:=fun n os c v hc hv=>by
   have h1:w.heap.size<w1.heap.size:=HS1.out
   obtain⟨q',os',rfl⟩:=HW.out
   rw[cell?_grow _ _ _ (by show w.heap.size<(grow (w1.drewN q') os').heap.size;simp[grow,World.drewN];omega)]
   show(grow (w1.drewN q') os').cell? _=_
   rw[cell?_grow _ _ _ (by exact h1)]
   exact(k0 c).trans hv
  have hb0:=fun n os=>hcell n os 0 t0 (by omega) rfl
  have hb1:=fun n os=>hcell n os 1 t1 (by omega) rfl
  have hb2:=fun n os=>hcell n os 2 t2 (by omega) rfl
  have hb3:=fun n os=>hcell n os 3 t3 (by omega) rfl
  have hb4:=fun n os=>hcell n os 4 t4 (by omega) rfl
  clear hcell
  have HCG:∀(x:El n0 w0) u0 u1 u2 u3 u4,encE x=[u0,u1,u2,u3,u4]→∀n' os',Calls Tryz.prog 251 #[.agg #[u0,u1,u2,u3,u4],.agg #[t0,t1,t2,t3,t4]] (grow (wr.drewN n') os') fun e w'=>e=.returned (.int .i64 (cmpE x y))∧∃q os'',w'=grow ((grow (wr.drewN n') os').drewN q) os'':=fun x u0 u1 u2 u3 u4 hu n' os'=>by
   have h6:=compareE (below_grow HBW.out HBW.out.size n' os') x y
   rw[hu,HT.out] at h6
   exact h6
  by_cases hlt:i<j
  ·have hz:(i:Int)<(j:Int):=by omega
   go_upto_region 5 with fail
   obtain⟨h,hh⟩:∃h,h=(i+j) / 2:=⟨_,rfl⟩
   have hhz:((i:Int)+(j:Int)) / 2=(h:Int):=by omega
   have hhj:h<j:=by omega
   obtain⟨x,hx⟩:∃x,ys[h]? =some x:=⟨_,List.getElem?_eq_getElem (by omega)⟩
   obtain⟨u0,u1,u2,u3,u4,hu⟩:=enc5 x
   obtain⟨lx0,lx1,lx2,lx3,lx4⟩:=HRW.out.load _ _ hx hu
   have hcg:=HCG x u0 u1 u2 u3 u4 hu
   have hk:(h:Int)<(ys.length:Int):=by omega
   clear HCG
   rw[hhz]
   have hih:i≤h:=by omega
   clear hh hhz
   go_quiet_grown (exact Calls.grown_of (hcg _ _))
   dsimp only
   have HWG:Hid (∃q os,grow (wr.drewN nq) osq=grow (w1.drewN q) os):=Lib.hid (by
    obtain⟨q',os',rfl⟩:=HW.out
    exact⟨q'+nq,os'++osq,by show grow (grow ((w1.drewN q').drewN nq) os') osq=_;rw[grow_grow,drewN_two]⟩)
   have HX:Hid (∃h':h<ys.length,ys[h]=x):=Lib.hid (by
    have hl:h<ys.length:=by omega
    exact⟨hl,by rw[List.getElem?_eq_getElem hl] at hx;exact Option.some.inj hx⟩)
   clear lx0 lx1 lx2 lx3 lx4 hb0 hb1 hb2 hb3 hb4 hcg hx
   generalize grow (wr.drewN nq) osq=w2 at*
   by_cases hc:cmpE x y<0
   ·have hd:decide (cmpE x y<0)=true:=by simp[hc]
    go_wp2_with fail
    go_roundg (gk - 1)
    case measure=>have:=HG.out;omega
    case rel=>
     refine⟨h+1,j,by go_num,rfl,by omega,hj,Lib.hid (by have:=HG.out;omega),HWG,Lib.hid (fun p hp hlt'=>?_),HH⟩
     obtain⟨hl,rfl⟩:=HX.out
     by_cases hp':p=h
     ·subst hp';exact hc
     ·exact cmpL_tc.trans _ _ _ (List.pairwise_iff_getElem.1 HS.out p h hp hl (by omega)) hc
   ·have hd:decide (cmpE x y<0)=false:=by simp[hc]
    go_wp2_with fail
    go_roundg (gk - 1)
    case measure=>have:=HG.out;omega
    case rel=>
     refine⟨i,h,rfl,rfl,by omega,by omega,Lib.hid (by have:=HG.out;omega),HWG,HL,Lib.hid (fun p hp hle=>?_)⟩
     obtain⟨hl,rfl⟩:=HX.out
     by_cases hp':p=h
     ·subst hp';omega
     ·have h1:=cmpL_tc.flip _ _ (List.pairwise_iff_getElem.1 HS.out h p hl hp (by omega))
      by_cases h0:cmpE ys[p] y<0
      ·have h2:cmpE ys[h] y<0:=cmpL_tc.trans _ _ _ (List.pairwise_iff_getElem.1 HS.out h p hl hp (by omega)) h0
       omega
      ·omega
  ·have hz:¬(i:Int)<(j:Int):=by omega
   have hij':i=j:=by omega
   subst hij'
   by_cases hin:i<ys.length
   ·have hd:decide ((i:Int)<(ys.length:Int))=true:=by simp;omega
    obtain⟨x,hx⟩:∃x,ys[i]? =some x:=⟨_,List.getElem?_eq_getElem (by omega)⟩
    obtain⟨u0,u1,u2,u3,u4,hu⟩:=enc5 x
    obtain⟨lx0,lx1,lx2,lx3,lx4⟩:=HRW.out.load _ _ hx hu
    have hcg:=HCG x u0 u1 u2 u3 u4 hu
    have hk:(i:Int)<(ys.length:Int):=by omega
    clear HCG
    go_upto_region 8 with fail
    go_quiet_grown (exact Calls.grown_of (hcg _ _))
    dsimp only
    go_wp2_with fail
    refine bodyPost_ret (v:=.tuple #[.int .i64 i,.bool (cmpE x y==0)]) (by
     simp[results,Tryz.f308,go_sem]) rfl ?_
    have hl:i<ys.length:=hin
    have hxi:ys[i]=x:=by rw[List.getElem?_eq_getElem hl] at hx;exact Option.some.inj hx
    have hdec:decide (∃z∈ys,cmpE z y=0)=(cmpE x y==0):=by
     by_cases h0:cmpE x y=0
     ·rw[decide_eq_true ⟨x,by rw[←hxi];exact List.getElem_mem hl,h0⟩]
      simp[h0]
     ·rw[decide_eq_false]
      ·simp[h0]
      ·rintro⟨z,hz,hzy⟩
       obtain⟨p,hp,rfl⟩:=List.getElem_of_mem hz
       by_cases hpi:p<i
       ·have:=HL.out p hp hpi;omega
       ·by_cases hpe:p=i
        ·subst hpe;rw[hxi] at hzy;exact h0 hzy
        ·have h1:=HH.out i hl (Nat.le_refl _)
         rw[hxi] at h1
         have h2:=List.pairwise_iff_getElem.1 HS.out i p hl hp (by omega)
         rw[hxi] at h2
         have h3:cmpE x y<0:=by
          have:=cmpE_eq hzy
          show cmpF (treeE x) (treeE y)<0
          rw[←this];exact h2
         omega
    refine⟨?_,i,by rw[hdec]⟩
    obtain⟨q',os',rfl⟩:=HW.out
    obtain⟨q0,os0,rfl⟩:=kW.out
    exact⟨q0+(q'+nq),os0++(os'++osq),by show grow (grow (grow (((w.drewN q0).drewN q').drewN nq) os0) os') osq=_;rw[grow_grow,grow_grow,drewN_two,drewN_two]⟩
   ·have hie:i=ys.length:=by omega
    subst hie
    clear HCG
    go_upto_region 8 with fail
    go_quiet_grown (fail)
    dsimp only
    go_wp2_with fail
    refine bodyPost_ret (v:=.tuple #[.int .i64 (ys.length:Nat),.bool false]) (by
     simp[results,Tryz.f308,go_sem]) rfl ?_
    have hdec:decide (∃z∈ys,cmpE z y=0)=false:=by
     rw[decide_eq_false]
     rintro⟨z,hz,hzy⟩
     obtain⟨p,hp,rfl⟩:=List.getElem_of_mem hz
     have:=HL.out p hp hp
     omega
    refine⟨?_,_,by rw[hdec]⟩
    obtain⟨q',os',rfl⟩:=HW.out
    obtain⟨q0,os0,rfl⟩:=kW.out
    exact⟨q0+(q'+nq),os0++(os'++osq),by show grow (grow (grow (((w.drewN q0).drewN q').drewN nq) os0) os') osq=_;rw[grow_grow,grow_grow,drewN_two,drewN_two]⟩
end
section
open Go.RowKit Go.Sort
variable {n0:Nat}
def negT:Fs→Option Fs
 | .cons op _ _ _ (.cons o n v b a _) _=>if op=4 then some (.cons o n v b a .nil) else none
 |_=>none
def Opp (ts:List Fs):Prop:=∃t∈ts,∃u,negT t=some u∧u∈ts
theorem negT_not {w0:World} (x:El n0 w0) (h:x.1.op≠4):negT (treeE x)=none:=by
 obtain⟨⟨op,nm,v,bd,args,a,c⟩,hx⟩:=x
 cases args<;>simp_all [treeE,ElA.tree,negT]
theorem negT_yes {w0:World} (x y:El n0 w0) {rest:Fs} (h:x.1.op=4) (ha:x.1.args=.cons y.1.op y.1.nm y.1.v y.1.bd y.1.args rest):negT (treeE x)=some (treeE y):=by
 show negT (.cons x.1.op x.1.nm x.1.v x.1.bd x.1.args .nil)=_
 rw[ha,h]
 rfl
theorem enc5f {w0:World} (x:El n0 w0):∃f0 f1 f2 f3 f4 f5 f6,encE x=[.int .i64 f0,.string f1,.int .i64 f2,.int .i64 f3,.slice f4 f5 f6]:=⟨_,_,_,_,_,_,_,rfl⟩
def OppOut (ts:List Fs) (e:Ending):Prop:=∃b:Bool,e=.returned (.bool b)∧(b=true↔Opp ts)
set_option maxRecDepth 100000 in
set_option maxHeartbeats 40000000 in
theorem opposed252 {w0 w:World} {a:Option Addr} {cap lo:Nat} {ys:List (El n0 w0)} (hB:RowKit.Below w0.heap.size w0 w) (h:ListAt w lo a cap ys) (hs:ys.Pairwise (fun a b=>cmpE a b<0)) (hsz:ys.length≤1000000) (hx:∀x∈ys,x.1.op=4→x.1.args.len≠0):
  Calls Tryz.prog 252 #[.slice a ys.length cap,.func (.func 251) #[] #[],.func (.func 253) #[] #[]] w fun e w'=>
   (∃q os,w'=grow (w.drewN q) os)∧OppOut (ys.map treeE) e:=by
 have HS:=Lib.hid hs
 have HR:=Lib.hid h
 have HB:=Lib.hid hB
 have HX:=Lib.hid hx
 clear hs h hB hx
 go_enter Tryz.func252,Tryz.ntmps252
 go_wp2_with fail
 go_loopg [15] ys.length (fun g o wr=>∃(i:Nat),o=.int .i64 i∧i≤ys.length∧Hid (ys.length - i≤g)∧Hid (∃q os,wr=grow (w.drewN q) os)∧Hid (∀p (h:p<ys.length),p<i→¬∃u,negT (treeE ys[p])=some u∧u∈ys.map treeE))
 case atStart=>exact⟨0,rfl,Nat.zero_le _,Lib.hid (by omega),Lib.hid ⟨0,#[],by simp[World.drewN]⟩,Lib.hid (fun p _ h=>by omega)⟩
 case round=>
  obtain⟨i,rfl,hi,HG,HW,HN⟩:=hrel
  by_cases hlt:i<ys.length
  ·have hz:(i:Int)<(ys.length:Int):=by omega
   obtain⟨blk,rfl,hlo,HR0⟩:∃blk,a=some ⟨blk,0,none⟩∧lo≤blk∧Hid (RowL w blk cap ys):=by
    rcases HR.out with⟨_,h0,_⟩|h
    ·rw[h0] at hlt;exact absurd hlt (Nat.not_lt_zero _)
    ·obtain⟨blk,e,h1,h2⟩:=h;exact⟨blk,e,h1,h2⟩
   obtain⟨x,hx⟩:∃x,ys[i]? =some x:=⟨_,List.getElem?_eq_getElem hlt⟩
   obtain⟨f0,f1,f2,f3,f4,f5,f6,hu⟩:=enc5f x
   have HRW:Hid (RowL wr blk cap ys):=Lib.hid (by
    obtain⟨q',os',rfl⟩:=HW.out
    exact HR0.out.grow _ _)
   have HBW:Hid (RowKit.Below w0.heap.size w0 wr):=Lib.hid (by
    obtain⟨q',os',rfl⟩:=HW.out
    exact below_grow HB.out HB.out.size _ _)
   obtain⟨lx0,lx1,lx2,lx3,lx4⟩:=HRW.out.at i (i*5) rfl x hx hu
   have hxm:x∈ys:=List.mem_of_getElem? hx
   have HXI:Hid (∃h:i<ys.length,ys[i]=x):=Lib.hid ⟨hlt,by rw[List.getElem?_eq_getElem hlt] at hx;exact Option.some.inj hx⟩
   clear hx
   go_upto_region 4 with fail
   have HA:Hid (∃q os,wr.alloc (.cells #[.int .i64 f0,.string f1,.int .i64 f2,.int .i64 f3,.slice f4 f5 f6] 48)=grow (w.drewN q) os):=Lib.hid (by
    obtain⟨q',os',rfl⟩:=HW.out
    exact⟨q',os'++ #[_],by rw[alloc_eq_grow,grow_grow]⟩)
   have k0:=cell_new wr #[.int .i64 f0,.string f1,.int .i64 f2,.int .i64 f3,.slice f4 f5 f6] 48
   generalize wr.alloc (.cells #[.int .i64 f0,.string f1,.int .i64 f2,.int .i64 f3,.slice f4 f5 f6] 48)=w1 at*
   have HB1:Hid (RowKit.Below w0.heap.size w0 w1):=Lib.hid (by
    obtain⟨q',os',rfl⟩:=HA.out
    exact below_grow HB.out HB.out.size _ _)
   have HN1:=negated253 HB1.out x (HX.out x hxm)
   rw[hu] at HN1
   have HN1:=Lib.hid HN1
   clear lx0 lx1 lx2 lx3 lx4
   go_wp2_with fail
   refine HN1.out.mono ?_
   rintro e w2 ⟨⟨q2,os2,rfl⟩,hcase⟩
   have HA2:Hid (∃q os,grow (w1.drewN q2) os2=grow (w.drewN q) os):=Lib.hid (by
    obtain⟨q',os',rfl⟩:=HA.out
    exact⟨q'+q2,os'++os2,by show grow (grow ((w.drewN q').drewN q2) os') os2=_;rw[grow_grow,drewN_two]⟩)
   clear k0 HN1
   generalize grow (w1.drewN q2) os2=w2 at*
   rcases hcase with⟨hop,rfl⟩|⟨y,rest,hop,hargs,rfl⟩
   ·simp only[zero48]
    go_wp2_with fail
    go_roundg (gk - 1)
    case measure=>have:=HG.out;omega
    case rel=>
     refine⟨i+1,by go_num,by omega,Lib.hid (by have:=HG.out;omega),Lib.hid ?_,Lib.hid (fun p hp hpi=>?_)⟩
     ·obtain⟨q',os',rfl⟩:=HA2.out
      exact⟨q',os'++ #[_],by rw[alloc_eq_grow,grow_grow]⟩
     ·by_cases hpe:p=i
      ·subst hpe
       obtain⟨hl,e⟩:=HXI.out
       rw[e,negT_not x hop]
       rintro⟨u,h1,_⟩
       cases h1
      ·exact HN.out p hp (by omega)
   ·obtain⟨g0,g1,g2,g3,g4,g5,g6,hv⟩:=enc5f y
    rw[hv]
    have HNT:Hid (negT (treeE x)=some (treeE y)):=Lib.hid (negT_yes x y hop hargs)
    clear hop hargs
    go_upto_region 6 with fail
    have k3:=cell_new w2 #[.int .i64 g0,.string g1,.int .i64 g2,.int .i64 g3,.slice g4 g5 g6] 48
    have HA3:Hid (∃q os,w2.alloc (.cells #[.int .i64 g0,.string g1,.int .i64 g2,.int .i64 g3,.slice g4 g5 g6] 48)=grow (w.drewN q) os):=Lib.hid (by
     obtain⟨q',os',rfl⟩:=HA2.out
     exact⟨q',os'++ #[_],by rw[alloc_eq_grow,grow_grow]⟩)
    generalize w2.alloc (.cells #[.int .i64 g0,.string g1,.int .i64 g2,.int .i64 g3,.slice g4 g5 g6] 48)=w3 at*
    have HR3:Hid (RowKit.Below w0.heap.size w0 w3∧RowL w3 blk cap ys):=Lib.hid (by
     obtain⟨q',os',rfl⟩:=HA3.out
     exact⟨below_grow HB.out HB.out.size _ _,HR0.out.grow _ _⟩)
    have hsr:=search308 HR3.out.1 HR3.out.2 HS.out hsz y
    rw[hv] at hsr
    have HSR:=Lib.hid hsr
    clear hsr
    go_wp2_with fail
    refine HSR.out.mono ?_
    rintro e w4 ⟨⟨q4,os4,rfl⟩,i4,rfl⟩
    have HA4:Hid (∃q os,grow (w3.drewN q4) os4=grow (w.drewN q) os):=Lib.hid (by
     obtain⟨q',os',rfl⟩:=HA3.out
     exact⟨q'+q4,os'++os4,by show grow (grow ((w.drewN q').drewN q4) os') os4=_;rw[grow_grow,drewN_two]⟩)
    generalize grow (w3.drewN q4) os4=w4 at*
    by_cases hfd:∃z∈ys,cmpE z y=0
    ·have HFD:Hid (∃z∈ys,cmpE z y=0):=Lib.hid hfd
     rw[decide_eq_true hfd]
     clear hfd
     go_wp2_with fail
     go_ret
     obtain⟨hl,e⟩:=HXI.out
     obtain⟨z,hz,hzy⟩:=HFD.out
     exact⟨HA4.out,true,rfl,fun _=>⟨treeE x,List.mem_map_of_mem (by rw[←e];exact List.getElem_mem hl),treeE y,HNT.out,by rw[←cmpE_eq hzy];exact List.mem_map_of_mem hz⟩,fun _=>rfl⟩
    ·have HFD:Hid (¬∃z∈ys,cmpE z y=0):=Lib.hid hfd
     rw[decide_eq_false hfd]
     clear hfd
     go_wp2_with fail
     go_roundg (gk - 1)
     case measure=>have:=HG.out;omega
     case rel=>
      refine⟨i+1,by go_num,by omega,Lib.hid (by have:=HG.out;omega),HA4,Lib.hid (fun p hp hpi=>?_)⟩
      by_cases hpe:p=i
      ·subst hpe
       obtain⟨hl,e⟩:=HXI.out
       rw[e,HNT.out]
       rintro⟨u,h1,h2⟩
       injection h1 with h1
       subst h1
       rw[List.mem_map] at h2
       obtain⟨z,hz,hzy⟩:=h2
       exact HFD.out ⟨z,hz,by show cmpF (treeE z) (treeE y)=0;rw[hzy];exact cmpF_same _⟩
      ·exact HN.out p hp (by omega)
  ·have hz:¬(i:Int)<(ys.length:Int):=by omega
   go_wp2_with fail
   go_ret
   refine⟨HW.out,false,rfl,?_⟩
   refine⟨fun h=>(by cases h),fun⟨t,ht,u,h1,h2⟩=>?_⟩
   rw[List.mem_map] at ht
   obtain⟨z,hz,rfl⟩:=ht
   obtain⟨p,hp,rfl⟩:=List.getElem_of_mem hz
   exact absurd ⟨u,h1,h2⟩ (HN.out p hp (by omega))
end
section
inductive Wf where
 |tt
 |ff
 |is (nm:ByteArray) (v:Int)
 |nis (nm:ByteArray) (v:Int)
 |con (k:Bool) (l:List Wf)
 |next (a:Wf)
 |unt (a b:Wf)
 |rel (a b:Wf)
 |yes (v:Bool) (a:Wf)
 |snc (k v:Bool) (a b:Wf)
theorem Wf.ind {P:Wf→Prop} (h1:P .tt) (h2:P .ff) (h3:∀nm v,P (.is nm v)) (h4:∀nm v,P (.nis nm v)) (h5:∀k l,(∀x∈l,P x)→P (.con k l)) (h6:∀a,P a→P (.next a)) (h7:∀a b,P a→P b→P (.unt a b)) (h8:∀a b,P a→P b→P (.rel a b))
  (h9:∀v a,P a→P (.yes v a)) (h10:∀k v a b,P a→P b→P (.snc k v a b)) (f:Wf):P f:=
 Wf.rec (motive_1:=P) (motive_2:=fun l=>∀x∈l,P x) h1 h2 h3 h4 h5 h6 h7 h8 h9 h10 (fun _ h=>by cases h) (fun x l hx hl y hy=>by
  rcases List.mem_cons.1 hy with rfl|hy
  ·exact hx
  ·exact hl y hy) f
structure Lt where
 lt:Wf→Wf→Bool
 irr:∀a,lt a a=false
 trans:∀a b c,lt a b=true→lt b c=true→lt a c=true
 tri:∀a b,lt a b=true∨a=b∨lt b a=true
section
variable (O:Lt)
def ins (x:Wf):List Wf→List Wf
 |[]=>[x]
 |y::r=>if O.lt x y=true then x::y::r else if O.lt y x=true then y::ins x r else y::r
def srt (l:List Wf):List Wf:=l.foldr (ins O) []
def Srt (l:List Wf):Prop:=l.Pairwise fun a b=>O.lt a b=true
theorem mem_ins {x z:Wf}:∀ {l:List Wf},z∈ins O x l↔z=x∨z∈l
 |[]=>by simp[ins]
 |y::r=>by
  unfold ins
  split
  ·simp
  ·split
   ·rw[List.mem_cons,mem_ins (l:=r),List.mem_cons]
    constructor
    ·rintro(h|h|h)
     ·exact .inr (.inl h)
     ·exact .inl h
     ·exact .inr (.inr h)
    ·rintro(h|h|h)
     ·exact .inr (.inl h)
     ·exact .inl h
     ·exact .inr (.inr h)
   ·rename_i h1 h2
    have hxy:x=y:=by
     rcases O.tri x y with h|h|h
     ·exact absurd h h1
     ·exact h
     ·exact absurd h h2
    subst hxy
    simp
theorem mem_srt {z:Wf}:∀ {l:List Wf},z∈srt O l↔z∈l
 |[]=>by simp[srt]
 |x::l=>by
  have:=mem_srt (z:=z) (l:=l)
  show z∈ins O x (srt O l)↔_
  rw[mem_ins,this,List.mem_cons]
theorem srt_ins {x:Wf}:∀ {l:List Wf},Srt O l→Srt O (ins O x l)
 |[],_=>by simp[ins,Srt]
 |y::r,h=>by
  obtain⟨h1,h2⟩:=List.pairwise_cons.1 h
  unfold ins
  split
  ·rename_i hxy
   refine List.pairwise_cons.2 ⟨fun z hz=>?_,h⟩
   rcases List.mem_cons.1 hz with rfl|hz
   ·exact hxy
   ·exact O.trans _ _ _ hxy (h1 z hz)
  ·split
   ·rename_i hyx
    refine List.pairwise_cons.2 ⟨fun z hz=>?_,srt_ins h2⟩
    rcases(mem_ins O).1 hz with rfl|hz
    ·exact hyx
    ·exact h1 z hz
   ·exact h
theorem srt_srt:∀l:List Wf,Srt O (srt O l)
 |[]=>List.Pairwise.nil
 |_::l=>srt_ins O (srt_srt l)
theorem srt_one:∀ {l m:List Wf},Srt O l→Srt O m→(∀z,z∈l↔z∈m)→l=m
 |[],[],_,_,_=>rfl
 |[],y::m,_,_,h=>by have:=(h y).2 (by simp);cases this
 |x::l,[],_,_,h=>by have:=(h x).1 (by simp);cases this
 |x::l,y::m,hl,hm,h=>by
  obtain⟨l1,l2⟩:=List.pairwise_cons.1 hl
  obtain⟨m1,m2⟩:=List.pairwise_cons.1 hm
  have hxy:x=y:=by
   rcases List.mem_cons.1 ((h x).1 (by simp)) with e|e
   ·exact e
   ·rcases List.mem_cons.1 ((h y).2 (by simp)) with e'|e'
    ·exact e'.symm
    ·have h1:=m1 x e
     have h2:=l1 y e'
     have:=O.trans _ _ _ h1 h2
     rw[O.irr] at this
     cases this
  subst hxy
  congr 1
  refine srt_one l2 m2 fun z=>⟨fun hz=>?_,fun hz=>?_⟩
  ·rcases List.mem_cons.1 ((h z).1 (List.mem_cons_of_mem _ hz)) with e|e
   ·subst e
    have:=l1 z hz
    rw[O.irr] at this
    cases this
   ·exact e
  ·rcases List.mem_cons.1 ((h z).2 (List.mem_cons_of_mem _ hz)) with e|e
   ·subst e
    have:=m1 z hz
    rw[O.irr] at this
    cases this
   ·exact e
theorem srt_congr {l m:List Wf} (h:∀z,z∈l↔z∈m):srt O l=srt O m:=
 srt_one O (srt_srt O l) (srt_srt O m) fun z=>by rw[mem_srt,mem_srt,h]
theorem srt_id {l:List Wf} (h:Srt O l):srt O l=l:=srt_one O (srt_srt O l) h fun _=>mem_srt O
def unit (k:Bool):Wf:=if k then .tt else .ff
def zero (k:Bool):Wf:=if k then .ff else .tt
def opp (S:List Wf):Prop:=∃nm v,Wf.is nm v∈S∧Wf.nis nm v∈S
def flat (k:Bool):Wf→List Wf
 | .con k' l=>if k'=k then l else [.con k' l]
 | .tt=>if k then [] else [.tt]
 | .ff=>if k then [.ff] else []
 |x=>[x]
open Classical in
noncomputable def build (k:Bool) (S:List Wf):Wf:=
 if zero k∈S∨opp S then zero k else match srt O S with
  |[]=>unit k
  |[x]=>x
  |l=>.con k l
def parts (k:Bool) (L:List Wf):List Wf:=L.flatMap (flat k)
noncomputable def J (k:Bool) (L:List Wf):Wf:=build O k (parts k L)
theorem build_congr {k:Bool} {S T:List Wf} (h:∀z,z∈S↔z∈T):build O k S=build O k T:=by
 unfold build
 have e:(zero k∈S∨opp S)↔(zero k∈T∨opp T):=by
  unfold opp
  simp only[h]
 by_cases hc:zero k∈S∨opp S
 ·rw[if_pos hc,if_pos (e.1 hc)]
 ·rw[if_neg hc,if_neg (fun h'=>hc (e.2 h')),srt_congr O h]
theorem parts_congr {k:Bool} {L M:List Wf} (h:∀z,z∈L↔z∈M):∀z,z∈parts k L↔z∈parts k M:=fun z=>by
 unfold parts
 simp only[List.mem_flatMap,h]
theorem J_congr {k:Bool} {L M:List Wf} (h:∀z,z∈L↔z∈M):J O k L=J O k M:=build_congr O (parts_congr h)
theorem build_zero {k:Bool} {S:List Wf} (h:zero k∈S∨opp S):build O k S=zero k:=by
 unfold build
 rw[if_pos h]
theorem build_nil (k:Bool):build O k []=unit k:=by
 unfold build
 rw[if_neg (by simp[opp])]
 rfl
theorem build_cases (k:Bool) (S:List Wf):((zero k∈S∨opp S)∧build O k S=zero k)∨(¬(zero k∈S∨opp S)∧((S=[]∧build O k S=unit k)∨(∃x,x∈S∧(∀z∈S,z=x)∧build O k S=x)∨(2≤(srt O S).length∧build O k S=.con k (srt O S)))):=by
 by_cases hc:zero k∈S∨opp S
 ·exact .inl ⟨hc,build_zero O hc⟩
 ·refine .inr ⟨hc,?_⟩
  unfold build
  rw[if_neg hc]
  match hs:srt O S with
  |[]=>
   refine .inl ⟨?_,rfl⟩
   cases S with
   |nil=>rfl
   |cons x S=>have:=(mem_srt O (z:=x) (l:=x::S)).2 (by simp);rw[hs] at this;cases this
  |[x]=>
   refine .inr (.inl ⟨x,(mem_srt O).1 (by rw[hs];simp),fun z hz=>?_,rfl⟩)
   have:=(mem_srt O).2 hz
   rw[hs] at this
   exact List.mem_singleton.1 this
  |x::y::r=>exact .inr (.inr ⟨by simp,rfl⟩)
inductive Nf:Wf→Prop where
 |tt:Nf .tt
 |ff:Nf .ff
 |is (nm v):Nf (.is nm v)
 |nis (nm v):Nf (.nis nm v)
 |con (k l):(∀y∈l,Nf y)→(∀y∈l,flat k y=[y])→Srt O l→2≤l.length→¬(zero k∈l∨opp l)→Nf (.con k l)
 |next (a):Nf (.next a)
 |unt (a b):Nf (.unt a b)
 |rel (a b):Nf (.rel a b)
 |yes (v a):Nf (.yes v a)
 |snc (k v a b):Nf (.snc k v a b)
theorem flat_nf {x:Wf} (h:Nf O x) (k:Bool):∀y∈flat k x,Nf O y∧flat k y=[y]:=by
 intro y hy
 cases h with
 |con k' l h1 h2 h3 h4 h5=>
  by_cases e:k'=k
  ·subst e
   have ef:flat k' (.con k' l)=l:=by simp[flat]
   rw[ef] at hy
   exact⟨h1 y hy,h2 y hy⟩
  ·have ef:flat k (.con k' l)=[.con k' l]:=by simp[flat,e]
   rw[ef,List.mem_singleton] at hy
   subst hy
   exact⟨.con k' l h1 h2 h3 h4 h5,ef⟩
 |tt=>cases k<;>simp[flat] at hy;subst hy;exact⟨.tt,rfl⟩
 |ff=>cases k<;>simp[flat] at hy;subst hy;exact⟨.ff,rfl⟩
 |is nm v=>simp[flat] at hy;subst hy;exact⟨.is nm v,rfl⟩
 |nis nm v=>simp[flat] at hy;subst hy;exact⟨.nis nm v,rfl⟩
 |next a=>simp[flat] at hy;subst hy;exact⟨.next a,rfl⟩
 |unt a b=>simp[flat] at hy;subst hy;exact⟨.unt a b,rfl⟩
 |rel a b=>simp[flat] at hy;subst hy;exact⟨.rel a b,rfl⟩
 |yes v a=>simp[flat] at hy;subst hy;exact⟨.yes v a,rfl⟩
 |snc k' v a b=>simp[flat] at hy;subst hy;exact⟨.snc k' v a b,rfl⟩
theorem parts_nf {L:List Wf} (h:∀x∈L,Nf O x) (k:Bool):∀y∈parts k L,Nf O y∧flat k y=[y]:=fun y hy=>by
 obtain⟨x,hx,hy⟩:=List.mem_flatMap.1 hy
 exact flat_nf O (h x hx) k y hy
theorem nf_unit (k:Bool):Nf O (unit k):=by cases k;exact .ff;exact .tt
theorem nf_zero (k:Bool):Nf O (zero k):=by cases k;exact .tt;exact .ff
theorem J_nf {k:Bool} {L:List Wf} (h:∀x∈L,Nf O x):Nf O (J O k L):=by
 have hp:=parts_nf O h k
 unfold J
 rcases build_cases O k (parts k L) with⟨_,e⟩|⟨hz,⟨_,e⟩|⟨x,hx,_,e⟩|⟨h2,e⟩⟩
 ·rw[e];exact nf_zero O k
 ·rw[e];exact nf_unit O k
 ·rw[e];exact(hp x hx).1
 ·rw[e]
  refine .con k _ (fun y hy=>(hp y ((mem_srt O).1 hy)).1) (fun y hy=>(hp y ((mem_srt O).1 hy)).2) (srt_srt O _) h2 ?_
  unfold opp at hz ⊢
  simpa only[mem_srt] using hz
theorem J_single {x:Wf} (h:Nf O x) (k:Bool):J O k [x]=x:=by
 have e1:parts k [x]=flat k x:=by simp[parts]
 have single:flat k x=[x]→x≠zero k→build O k [x]=x:=fun _ hz=>by
  unfold build
  rw[if_neg]
  ·simp[srt,ins]
  ·rintro(h'|⟨nm,v,h1,h2⟩)
   ·exact hz (List.mem_singleton.1 h').symm
   ·have a1:=List.mem_singleton.1 h1
    have a2:=List.mem_singleton.1 h2
    rw[←a1] at a2
    cases a2
 have zr:x=zero k→build O k (flat k x)=x:=fun e=>by
  subst e
  exact build_zero O (.inl (by cases k<;>simp[flat,zero]))
 unfold J
 rw[e1]
 by_cases hz:x=zero k
 ·exact zr hz
 cases h with
 |con k' l h1 h2 h3 h4 h5=>
  by_cases e:k'=k
  ·subst e
   have ef:flat k' (.con k' l)=l:=by simp[flat]
   rw[ef]
   unfold build
   rw[if_neg h5,srt_id O h3]
   match l,h4 with
   |_::_::_,_=>rfl
  ·have ef:flat k (.con k' l)=[.con k' l]:=by simp[flat,e]
   rw[ef]
   exact single ef hz
 |tt=>cases k with
  |true=>exact build_nil O true
  |false=>exact absurd rfl hz
 |ff=>cases k with
  |true=>exact absurd rfl hz
  |false=>exact build_nil O false
 |is nm v=>exact single rfl hz
 |nis nm v=>exact single rfl hz
 |next a=>exact single rfl hz
 |unt a b=>exact single rfl hz
 |rel a b=>exact single rfl hz
 |yes v a=>exact single rfl hz
 |snc k' v a b=>exact single rfl hz
theorem opp_mono {S T:List Wf} (h:∀z∈S,z∈T):opp S→opp T:=fun⟨nm,v,h1,h2⟩=>⟨nm,v,h _ h1,h _ h2⟩
theorem mem_parts_append {k:Bool} {L M:List Wf} {z:Wf}:z∈parts k (L++M)↔z∈parts k L∨z∈parts k M:=by
 unfold parts
 rw[List.flatMap_append,List.mem_append]
theorem J_expand {k:Bool} {M C:List Wf} (hM:∀x∈M,Nf O x):J O k (J O k M::C)=J O k (M++C):=by
 have hp:=parts_nf O hM k
 have key:∀z,z∈parts k (J O k M::C)↔z∈flat k (J O k M)∨z∈parts k C:=fun z=>by simp[parts]
 rcases build_cases O k (parts k M) with⟨hz,e⟩|⟨hz,⟨h0,e⟩|⟨x,hx,hall,e⟩|⟨h2,e⟩⟩
 ·have e1:J O k M=zero k:=e
  have l1:zero k∈parts k (J O k M::C):=(key _).2 (.inl (by rw[e1];cases k<;>simp[flat,zero]))
  have r1:zero k∈parts k (M++C)∨opp (parts k (M++C)):=by
   rcases hz with hz|hz
   ·exact .inl (mem_parts_append.2 (.inl hz))
   ·exact .inr (opp_mono (fun z hz=>mem_parts_append.2 (.inl hz)) hz)
  unfold J at l1 ⊢
  rw[build_zero O (.inl l1),build_zero O r1]
 ·refine build_congr O fun z=>?_
  have e1:J O k M=unit k:=e
  rw[key,mem_parts_append,e1,h0]
  have:flat k (unit k)=[]:=by cases k<;>rfl
  rw[this]
 ·refine build_congr O fun z=>?_
  have e1:J O k M=x:=e
  rw[key,mem_parts_append,e1,(hp x hx).2,List.mem_singleton]
  constructor
  ·rintro(rfl|h)
   ·exact .inl hx
   ·exact .inr h
  ·rintro(h|h)
   ·exact .inl (hall z h)
   ·exact .inr h
 ·refine build_congr O fun z=>?_
  have e1:J O k M=.con k (srt O (parts k M)):=e
  have e2:flat k (.con k (srt O (parts k M)))=srt O (parts k M):=by simp[flat]
  rw[key,mem_parts_append,e1,e2,mem_srt]
theorem J_swap {k:Bool} {A B C:List Wf}:J O k (A++(B++C))=J O k (B++(A++C)):=J_congr O fun z=>by
 simp only[List.mem_append]
 constructor
 ·rintro(h|h|h)
  ·exact .inr (.inl h)
  ·exact .inl h
  ·exact .inr (.inr h)
 ·rintro(h|h|h)
  ·exact .inr (.inl h)
  ·exact .inl h
  ·exact .inr (.inr h)
structure Hom (F:Wf→Wf):Prop where
 con:∀k l,F (.con k l)=J O k (l.map F)
 tt:F .tt=.tt
 ff:F .ff=.ff
 opp:∀k nm v (M:List Wf),F (.is nm v)∈M→F (.nis nm v)∈M→J O k M=zero k
 nf:∀x,Nf O (F x)
variable {O}
theorem Hom.un {F:Wf→Wf} (h:Hom O F) (k:Bool):F (unit k)=unit k:=by cases k;exact h.ff;exact h.tt
theorem Hom.ze {F:Wf→Wf} (h:Hom O F) (k:Bool):F (zero k)=zero k:=by cases k;exact h.tt;exact h.ff
theorem Hom.open_ {F:Wf→Wf} (h:Hom O F) (k:Bool):∀(L C:List Wf),J O k (L.map F++C)=J O k ((parts k L).map F++C)
 |[],C=>rfl
 |x::L,C=>by
  have ih:=h.open_ k L
  have e1:parts k (x::L)=flat k x++parts k L:=by simp[parts]
  have gen:flat k x=[x]→J O k ((x::L).map F++C)=J O k ((parts k (x::L)).map F++C):=fun e=>by
   have h1:=ih (F x::C)
   have s1:=J_swap O (k:=k) (A:=[F x]) (B:=L.map F) (C:=C)
   have s2:=J_swap O (k:=k) (A:=[F x]) (B:=(parts k L).map F) (C:=C)
   rw[e1,e]
   simp only[List.map_cons,List.cons_append,List.nil_append] at*
   rw[s1,h1,s2]
  cases x with
  |con k' l=>
   by_cases e:k'=k
   ·subst e
    have ef:flat k' (.con k' l)=l:=by simp[flat]
    rw[e1,ef,List.map_cons,h.con,List.cons_append,J_expand O (fun y hy=>by obtain⟨z,_,rfl⟩:=List.mem_map.1 hy;exact h.nf z),J_swap O,ih,J_swap O,List.map_append,List.append_assoc]
   ·exact gen (by simp[flat,e])
  |tt=>
   cases k with
   |true=>
    have ef:flat true .tt=[]:=rfl
    rw[e1,ef,List.nil_append,←ih,List.map_cons,h.tt]
    exact build_congr O fun z=>by simp[parts,flat]
   |false=>exact gen rfl
  |ff=>
   cases k with
   |true=>exact gen rfl
   |false=>
    have ef:flat false .ff=[]:=rfl
    rw[e1,ef,List.nil_append,←ih,List.map_cons,h.ff]
    exact build_congr O fun z=>by simp[parts,flat]
  |is nm v=>exact gen rfl
  |nis nm v=>exact gen rfl
  |next a=>exact gen rfl
  |unt a b=>exact gen rfl
  |rel a b=>exact gen rfl
  |yes v a=>exact gen rfl
  |snc k' v a b=>exact gen rfl
theorem Hom.join {F:Wf→Wf} (h:Hom O F) (k:Bool) (L:List Wf):F (J O k L)=J O k (L.map F):=by
 have h1:=h.open_ k L []
 rw[List.append_nil,List.append_nil] at h1
 rw[h1]
 show F (build O k (parts k L))=_
 generalize parts k L=S
 rcases build_cases O k S with⟨hz,e⟩|⟨hz,⟨h0,e⟩|⟨x,hx,hall,e⟩|⟨h2,e⟩⟩
 ·rw[e,h.ze]
  rcases hz with hz|⟨nm,v,a1,a2⟩
  ·symm
   refine build_zero O (.inl ?_)
   refine List.mem_flatMap.2 ⟨zero k,?_,by cases k<;>simp[flat,zero]⟩
   have:=List.mem_map_of_mem (f:=F) hz
   rw[h.ze] at this
   exact this
  ·exact(h.opp k nm v _ (List.mem_map_of_mem a1) (List.mem_map_of_mem a2)).symm
 ·subst h0
  rw[e,h.un]
  exact(build_nil O k).symm
 ·rw[e,←J_single O (h.nf x) k]
  refine J_congr O fun z=>?_
  rw[List.mem_singleton,List.mem_map]
  constructor
  ·rintro rfl
   exact⟨x,hx,rfl⟩
  ·rintro⟨y,hy,rfl⟩
   rw[hall y hy]
 ·rw[e,h.con]
  refine J_congr O fun z=>?_
  simp only[List.mem_map,mem_srt]
end
end
end Go.Proofs.YtckdgniecdfedaaGreatDoor
