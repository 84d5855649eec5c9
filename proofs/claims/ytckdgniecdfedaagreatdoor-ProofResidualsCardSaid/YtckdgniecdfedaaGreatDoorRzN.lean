/- The writer's formulas while all is well. The start of Encode; questions whether parts of a claim are empty, at empty parts. The walk of Encode at claims of residuals all of whose numbers can be writte -/
import Derived.Test.YtckdgniecdfedaaGreatDoorRzM
namespace Go.Proofs.YtckdgniecdfedaaGreatDoor
section
open Go.RowKit
namespace X
section
variable {w0:World} {wb:Nat} {w:World} {L:List Int} {n:Nat} {P:Prop} {K:List (Nat×Obj)}
def InF:Fs→Prop
 | .nil=>True
 | .cons op nm v bd args rest=>(InR op∧nm.size<65520∧InR v∧InR bd∧InR (args.len:Int))∧InF args∧InF rest
def TopF:Fs→Prop
 | .nil=>True
 | .cons _ _ _ _ args rest=>(args.nodes+1≤400∧depF args+1≤60)∧TopF rest
theorem InF.at:∀ {f:Fs} {k:Nat} {op:Int} {nm:ByteArray} {v bd:Int} {args rest:Fs},InF f→f.drop k=.cons op nm v bd args rest→(InR op∧nm.size<65520∧InR v∧InR bd∧InR (args.len:Int))∧InF args
 | .nil,0,_,_,_,_,_,_,_,e=>by simp[Fs.drop] at e
 | .nil,_+1,_,_,_,_,_,_,_,e=>by simp[Fs.drop] at e
 | .cons ..,0,_,_,_,_,_,_,h,e=>by
  simp only[Fs.drop,Fs.cons.injEq] at e
  obtain⟨rfl,rfl,rfl,rfl,rfl,rfl⟩:=e
  exact⟨h.1,h.2.1⟩
 | .cons _ _ _ _ _ r,k+1,_,_,_,_,_,_,h,e=>InF.at (f:=r) (k:=k) h.2.2 (by simpa[Fs.drop] using e)
theorem TopF.at:∀ {f:Fs} {k:Nat} {op:Int} {nm:ByteArray} {v bd:Int} {args rest:Fs},TopF f→f.drop k=.cons op nm v bd args rest→args.nodes+1≤400∧depF args+1≤60
 | .nil,0,_,_,_,_,_,_,_,e=>by simp[Fs.drop] at e
 | .nil,_+1,_,_,_,_,_,_,_,e=>by simp[Fs.drop] at e
 | .cons ..,0,_,_,_,_,_,_,h,e=>by
  simp only[Fs.drop,Fs.cons.injEq] at e
  obtain⟨rfl,rfl,rfl,rfl,rfl,rfl⟩:=e
  exact h.1
 | .cons _ _ _ _ _ r,k+1,_,_,_,_,_,_,h,e=>TopF.at (f:=r) (k:=k) h.2 (by simpa[Fs.drop] using e)
def StkI (S:List Fs):Prop:=∀j (h:j<S.length),InF S[j]∧depF S[j]+j≤60
theorem StkI.one {op:Int} {nm:ByteArray} {v bd:Int} {args:Fs} (h:(InR op∧nm.size<65520∧InR v∧InR bd∧InR (args.len:Int))∧InF args) (hd:depF args+1≤60):StkI [.cons op nm v bd args .nil]:=fun j hj=>by
 have:j=0:=by simpa using hj
 subst this
 exact⟨⟨h.1,h.2,trivial⟩,by simp only[List.getElem_cons_zero,depF];omega⟩
theorem StkI.pop {S:List Fs} {t:Fs} (h:StkI (S++[t])):StkI S:=fun j hj=>by
 have:=h j (by simp;omega)
 rwa[List.getElem_append_left hj] at this
theorem StkI.last {S:List Fs} {t:Fs} (h:StkI (S++[t])):InF t∧depF t+S.length≤60:=by
 have:=h S.length (by simp)
 simpa using this
theorem StkI.add {S:List Fs} {t:Fs} (h:StkI S) (ht:InF t) (hd:depF t+S.length≤60):StkI (S++[t]):=fun j hj=>by
 by_cases hlt:j<S.length
 ·rw[List.getElem_append_left hlt];exact h j hlt
 ·have:j=S.length:=by simp at hj;omega
  subst this
  simpa using And.intro ht hd
theorem StkI.node {S:List Fs} {op:Int} {nm:ByteArray} {v bd:Int} {args rest:Fs} (h:StkI (S++[.cons op nm v bd args rest])):InR op∧nm.size<65520∧InR v∧InR bd∧InR (args.len:Int):=h.last.1.1
theorem StkI.deep {S:List Fs} {op:Int} {nm:ByteArray} {v bd:Int} {args rest:Fs} (h:StkI (S++[.cons op nm v bd args rest])):S.length+1≤60:=by
 have:=h.last.2
 simp only[depF] at this
 omega
theorem StkI.pop1 {S:List Fs} {op:Int} {nm:ByteArray} {v bd:Int} {args rest:Fs} (h:StkI (S++[.cons op nm v bd args rest])):StkI (S++[rest]):=by
 have:=h.last.2
 simp only[depF] at this
 exact h.pop.add h.last.1.2.2 (by omega)
theorem StkI.push1 {S:List Fs} {op:Int} {nm:ByteArray} {v bd:Int} {args rest:Fs} (h:StkI (S++[.cons op nm v bd args rest])):StkI (S++[rest]++[args]):=by
 have:=h.last.2
 simp only[depF] at this
 exact h.pop1.add h.last.1.2.1 (by simp;omega)
def Frm (w0:World) (wb:Nat) (P:Prop) (K:List (Nat×Obj)) (LT:List Int) (NT:Nat) (g:Nat) (y o:Value) (wr:World):Prop:=
 ∃(S:List Fs) (B q cap:Nat) (cs:Array Value) (kn m1:Nat) (L1:List Int),y=.int .i64 kn∧o=.slice (some ⟨B,0,none⟩) q cap∧q≤cap∧Hid (cap≤9223372036854775807)∧Hid (S.length=q)∧Hid (cs.size=cap)∧Hid (Wr w0 wb wr L1 m1 P ((B,.cells cs 46 (0,0))::K))∧Hid (w0.heap.size≤B)∧Hid (∀p∈K,p.1≠B)∧Hid (Stk w0 K cs S)∧
  Hid (L1++stc S=LT)∧Hid (m1+stn S=NT)∧kn≤m1∧q≤kn+1∧2*stn S+q≤g∧Hid (kn+stn S≤400)∧Hid (StkI S)
theorem frm_pop {LT:List Int} {NT g:Nat} {y o:Value} {wr:World} {S':List Fs} {B q cap:Nat} {cs:Array Value} {kn m1:Nat} {L1:List Int} {op x bd:Int} {nm:ByteArray} {args rest:Fs}
  (ho:o=.slice (some ⟨B,0,none⟩) (q+1) cap) (hy:y=.int .i64 ((kn+1:Nat):Int)) (hq:q+1≤cap) (hcm:cap≤9223372036854775807) (hl:S'.length=q) (hc:cs.size=cap)
  (hw:Wr w0 wb wr (L1++[op]++txt nm.data.toList++[x,bd,(args.len:Int)]) (m1+1) P ((B,.cells cs 46 (0,0))::K)) (hB:w0.heap.size≤B) (hK:∀p∈K,p.1≠B) (hS:Stk w0 K cs (S'++[rest]))
  (h1:L1++stc (S'++[.cons op nm x bd args rest])=LT) (h2:m1+stn (S'++[.cons op nm x bd args rest])=NT) (hk:kn≤m1) (hqk:q+1≤kn+1) (hI:StkI (S'++[.cons op nm x bd args rest])) (hN:kn+stn (S'++[.cons op nm x bd args rest])≤400) (hg:2*stn (S'++[.cons op nm x bd args rest])+(q+1)≤g) (ha:args=.nil):
  Frm w0 wb P K LT NT (g - 1) y o wr:=by
 subst ha
 have hI2:=hI.pop1
 rw[stn_snoc] at h2 hg hN
 rw[stc_snoc] at h1
 simp only[Fs.nodes] at h2 hg hN
 refine⟨S'++[rest],B,q+1,cap,cs,kn+1,m1+1,_,hy,ho,hq,Lib.hid hcm,Lib.hid (by simp[hl]),Lib.hid hc,Lib.hid hw,Lib.hid hB,Lib.hid hK,Lib.hid hS,Lib.hid ?_,Lib.hid ?_,by omega,by omega,?_,Lib.hid ?_,Lib.hid ?_⟩
 ·rw[←h1,stc_snoc]
  simp[Fs.code]
 ·rw[stn_snoc];omega
 ·rw[stn_snoc];omega
 ·rw[stn_snoc];omega
 ·exact hI2
theorem frm_push {LT:List Int} {NT g:Nat} {y o:Value} {wr:World} {S':List Fs} {B q cap:Nat} {cs:Array Value} {kn m1:Nat} {L1:List Int} {op x bd:Int} {nm:ByteArray} {args rest:Fs}
  (ho:o=.slice (some ⟨B,0,none⟩) (q+1+1) cap) (hy:y=.int .i64 ((kn+1:Nat):Int)) (hq:q+1+1≤cap) (hcm:cap≤9223372036854775807) (hl:S'.length=q) (hc:cs.size=cap)
  (hw:Wr w0 wb wr (L1++[op]++txt nm.data.toList++[x,bd,(args.len:Int)]) (m1+1) P ((B,.cells cs 46 (0,0))::K)) (hB:w0.heap.size≤B) (hK:∀p∈K,p.1≠B) (hS:Stk w0 K cs (S'++[rest]++[args]))
  (h1:L1++stc (S'++[.cons op nm x bd args rest])=LT) (h2:m1+stn (S'++[.cons op nm x bd args rest])=NT) (hk:kn≤m1) (hqk:q+1≤kn+1) (hI:StkI (S'++[.cons op nm x bd args rest])) (hN:kn+stn (S'++[.cons op nm x bd args rest])≤400) (hg:2*stn (S'++[.cons op nm x bd args rest])+(q+1)≤g):
  Frm w0 wb P K LT NT (g - 1) y o wr:=by
 have hI2:=hI.push1
 rw[stn_snoc] at h2 hg hN
 rw[stc_snoc] at h1
 simp only[Fs.nodes] at h2 hg hN
 refine⟨S'++[rest]++[args],B,q+1+1,cap,cs,kn+1,m1+1,_,hy,ho,hq,Lib.hid hcm,Lib.hid (by simp[hl]),Lib.hid hc,Lib.hid hw,Lib.hid hB,Lib.hid hK,Lib.hid hS,Lib.hid ?_,Lib.hid ?_,by omega,by omega,?_,Lib.hid ?_,Lib.hid ?_⟩
 ·rw[←h1,stc_snoc,stc_snoc]
  simp[Fs.code]
 ·rw[stn_snoc,stn_snoc];omega
 ·rw[stn_snoc,stn_snoc];omega
 ·rw[stn_snoc,stn_snoc];omega
 ·exact hI2
set_option maxRecDepth 100000 in
set_option maxHeartbeats 4000000 in
theorem formulas_any (h:Wr w0 wb w L n P K) {v:Value} {f:Fs} (hv:FArg w0 K v f) (hn:n+f.nodes<33554432) (hr:InF f∧TopF f):
  Calls Tryz.prog 70 #[.pointer (some ⟨wb,0,none⟩),v] w (Wrote w0 wb (L++f.code) (n+f.nodes) P K):=by
 obtain⟨hfl,a,c,rfl,hc⟩:=hv.len
 have HW:=Lib.hid h
 have HV:=Lib.hid hv
 obtain⟨i0,hi,hz0,hz1,hz2⟩:=info_parts Tryz.info46
 have HRR:=Lib.hid hr
 clear h hv hr
 go_enter Tryz.func70,Tryz.ntmps70
 go_wp2_with fail
 go_loopw [4,5,6,7,8,11] (fun _ _ _ _ _ i wr=>∃(k m:Nat) (L':List Int),k≤f.len∧i=.int .i64 k∧Wr w0 wb wr L' m P K∧Hid (L'++(f.drop k).code=L++f.code)∧Hid (m+(f.drop k).nodes=n+f.nodes)) (fun _ _ _ _ _ i _=>f.len - (intOf i).toNat)
 case atStart=>exact⟨0,n,L,Nat.zero_le _,rfl,HW.out,Lib.hid (by cases f<;>rfl),Lib.hid (by cases f<;>rfl)⟩
 case round=>
  obtain⟨k,m,L',hk,rfl,hw,HL,HN⟩:=hrel
  by_cases hlt:k<f.len
  ·have hdl:=Fs.drop_len f k
   cases hfd:f.drop k with
   |nil=>rw[hfd] at hdl;simp[Fs.len] at hdl;omega
   |cons op nm x bd args rest=>
    obtain⟨b1,o1,c1,ev, -, -, -, -, -, -, -, -, -,hone⟩:=FArg.read hw HV.out k hfd
    simp only[Value.slice.injEq,true_and] at ev
    obtain⟨rfl,rfl⟩:=ev
    rw[hfd] at HL HN
    have HS:=Lib.hid (Fs.drop_succ hfd)
    have HO:=Lib.hid hone
    have HV':=Lib.hid hw
    have hd:decide (k<f.len)=true:=by simpa using hlt
    have hck:(k:Int)+1≤(c:Int):=by omega
    have HTP:=Lib.hid (And.intro (InF.at HRR.out.1 hfd) (TopF.at HRR.out.2 hfd))
    clear hone hw hfd hdl
    go_wp2_with fail
    go_loopg [5,6,7,8] (2*(args.nodes+1)+1) (fun g y o _ _ wr=>Frm w0 wb P K (L'++(Fs.cons op nm x bd args .nil).code) (m+(args.nodes+1)) g y o wr)
    case atStart=>
     refine⟨[.cons op nm x bd args .nil],_,1,1,_,0,m,L',rfl,rfl,Nat.le_refl _,Lib.hid (by omega),Lib.hid rfl,Lib.hid rfl,Lib.hid (HV'.out.alloc _),Lib.hid HV'.out.lt0,Lib.hid (fun p hp=>?_),Lib.hid ?_,Lib.hid (by simp[stc]),Lib.hid (by simp[stn,Fs.nodes]),Nat.zero_le _,Nat.le_refl _,by simp[stn,Fs.nodes],Lib.hid (by have:=HTP.out.2.1;simp only[stn,Fs.nodes];omega),Lib.hid (StkI.one HTP.out.1 HTP.out.2.2)⟩
     ·have:=(Array.getElem?_eq_some_iff.1 (HV'.out.kept p hp).2).1
      omega
     ·intro j hj
      have:j=0:=by simpa using hj
      subst this
      exact⟨_,rfl,HO.out _ (by omega)⟩
    case round=>
     obtain⟨S,B,q,cap,cs,kn,m1,L1,rfl,rfl,hq,HCM,HSl,HC,HW1,HB0,HK,HSt,HL1,HN1,hkn,hqk,hg,HK4,HSI⟩:=hrel
     cases q with
     |zero=>
      have hS0:S=[]:=List.eq_nil_of_length_eq_zero HSl.out
      subst hS0
      have HW2:=Lib.hid HW1.out.tail
      clear HW1 HSt
      go_wp2_with fail
      go_roundw
      case rel=>
       refine⟨k+1,m1,L1,by omega,by go_num,HW2.out,Lib.hid ?_,Lib.hid ?_⟩
       ·have h1:=HL1.out
        have h2:=HL.out
        simp only[stc,Fs.code,List.append_nil] at h1 h2
        rw[HS.out,h1,←h2]
        simp
       ·have h1:=HN1.out
        have h2:=HN.out
        simp only[stn,Fs.nodes] at h1 h2
        rw[HS.out]
        omega
      case measure=>simp[intOf];omega
     |succ q=>
      obtain⟨S',t,rfl⟩:∃S' t,S=S'++[t]:=by
       rcases List.eq_nil_or_concat S with rfl|⟨S',t,e⟩
       ·have:=HSl.out;simp at this
       ·exact⟨S',t,by simpa using e⟩
      obtain rfl:S'.length=q:=by have:=HSl.out;simp at this;exact this
      obtain⟨v,hv1,hv2⟩:=HSt.out.top
      have hB:=HW1.out.headK
      have p1:wr.cell? ⟨B,S'.length,none⟩=some v:=by simp[World.cell?,hB.1,hv1]
      have pf:wr.frozen? ⟨B,S'.length,none⟩=false:=by simp[World.frozen?,hB.1]
      obtain⟨aw,cw,bw,gw,hh,hown,hP,k0,k1,k2,k3,kf⟩:=HW1.out.cells
      have HH:=Lib.hid hh
      have hd2:decide ((m1:Int)<33554432)=true:=by
       have h1:=HN1.out
       have h2:=HN.out
       simp only[Fs.nodes] at h2
       simp
       omega
      have hq25:S'.length≤33554432:=by
       have:(m1:Int)<33554432:=of_decide_eq_true hd2
       omega
      have HT:=Lib.hid hv2
      have HV1:=Lib.hid hv1
      have HQK:=Lib.hid hqk
      have HG:=Lib.hid hg
      have HKN:=Lib.hid hkn
      have HQ:=Lib.hid (rfl:S'.length=S'.length)
      generalize hql:S'.length=q at hq hq25 p1 pf HG HQ HQK HSl HV1 ⊢
      have HQL:=Lib.hid hql
      clear hh hown hP k0 k2 k3 hB hv1 hv2 kf hg hkn hqk hql HQ HSl
      cases t with
      |nil=>
       obtain⟨-,a2,c2,rfl, -⟩:=HT.out.len
       simp only[Fs.len] at p1
       go_wp2_with fail
       go_roundg (gk - 1)
       case measure=>have:=HG.out;omega
       case rel=>
        have h1:=HL1.out
        have h2:=HN1.out
        have h3:=HG.out
        rw[stn_snoc] at h2 h3
        rw[stc_snoc] at h1
        simp only[Fs.code,Fs.nodes,List.nil_append,Nat.zero_add] at h1 h2 h3
        exact⟨S',B,q,cap,cs,kn,m1,L1,rfl,rfl,by omega,HCM,HQL,HC,HW1,HB0,HK,Lib.hid HSt.out.pop,Lib.hid (by rw[h1];simp[Fs.code]),Lib.hid h2,HKN.out,by have:=HQK.out;omega,by omega,Lib.hid (by have:=HK4.out;rw[stn_snoc] at this;simp only[Fs.nodes] at this;omega),Lib.hid HSI.out.pop⟩
      |cons op' nm' x' bd' args' rest'=>
       have HND:=Lib.hid (HSI.out.node)
       have HQ60:Hid (S'.length+1≤60):=Lib.hid HSI.out.deep
       obtain⟨b2,o2,c2,rfl,hc2,d0,d1,hnm,d2,d3,hal,⟨a3,c3,d4,hA⟩,hR, -⟩:=FArg.read HW1.out.tail HT.out 0 rfl
       simp only[Nat.zero_mul,Nat.zero_add,Nat.add_zero,Nat.one_mul] at d0 d1 d2 d3 d4 hR
       simp only[Fs.len] at p1 hc2
       have HR:=Lib.hid (hR (c2 - 1) (by omega))
       have HA:=Lib.hid hA
       have hr64:rest'.len+1≤9223372036854775807:=HT.out.len.1
       generalize hr:rest'.len+1=r at p1 hc2 hr64
       have hd3:((r:Int)==0)=false:=by simp;omega
       have hr0:(0:Int)<(r:Int):=by omega
       have hr1:(1:Int)≤(r:Int):=by omega
       have hrc:(r:Int)≤(c2:Int):=by omega
       have HRR3:=Lib.hid hr
       clear hA hR hr
       go_upto_region 10 with fail
       have A1:=(HW1.out.alloc (.cells #[.int .i64 op',.string nm',.int .i64 x',.int .i64 bd',.slice a3 args'.len c3] 48)).swap
       have hB2:=A1.headK
       have hv3:=HV1.out
       simp only[Fs.len,HRR3.out] at hv3
       have e1:(wr.alloc (.cells #[.int .i64 op',.string nm',.int .i64 x',.int .i64 bd',.slice a3 args'.len c3] 48)).cell? ⟨B,q,none⟩=some (.slice (some ⟨b2,o2,none⟩) r c2):=by simp[World.cell?,hB2.1,hv3]
       have ef:(wr.alloc (.cells #[.int .i64 op',.string nm',.int .i64 x',.int .i64 bd',.slice a3 args'.len c3] 48)).frozen? ⟨B,q,none⟩=false:=by simp[World.frozen?,hB2.1]
       have HA1:=Lib.hid A1
       have HZ:Hid (B≠wr.heap.size):=Lib.hid fun e=>by
        have:=(Array.getElem?_eq_some_iff.1 HW1.out.headK.1).1
        omega
       clear A1 hB2 hv3 p1 pf d0 d1 d2 d3 d4
       generalize hwa:wr.alloc (.cells #[.int .i64 op',.string nm',.int .i64 x',.int .i64 bd',.slice a3 args'.len c3] 48)=wa at e1 ef HA1 ⊢
       generalize wr.heap.size=Bf at HA1 HZ ⊢
       clear hwa
       go_upto_region 11 with fail
       have HR2:Hid (FArg w0 K (Value.slice (if c2=1 then some ⟨b2,o2,none⟩ else some ⟨b2,o2+5,none⟩) (r - 1) (c2 - 1)) rest'):=Lib.hid (by
        have h1:=HRR3.out
        by_cases h:c2=1
        ·have h0:rest'.len=0:=by omega
         have e:rest'=.nil:=by cases rest'<;>simp[Fs.len] at h0 ⊢
         subst e
         simp only[Fs.len] at h1
         have e2:r - 1=0:=by omega
         rw[e2]
         exact FArg.zero _ _
        ·rw[if_neg h]
         have e2:r - 1=rest'.len:=by omega
         rw[e2]
         exact HR.out)
       generalize Value.slice (if c2=1 then some ⟨b2,o2,none⟩ else some ⟨b2,o2+5,none⟩) (r - 1) (c2 - 1)=vs at*
       have HST2:Hid (Stk w0 K (cs.setIfInBounds q vs) (S'++[rest'])):=Lib.hid (by have:=HSt.out.set HR2.out;rwa[HQL.out] at this)
       have HC2:Hid ((cs.setIfInBounds q vs).size=cap):=Lib.hid (by rw[Array.size_setIfInBounds];exact HC.out)
       have A2:=(HA1.out.setK HB0.out (fun p hp=>by
        rcases List.mem_cons.1 hp with rfl|hp
        ·exact fun e=>HZ.out e.symm
        ·exact HK.out p hp) q vs).swap
       clear e1 ef
       generalize wa.setCell ⟨B,q,none⟩ vs=wc at A2 ⊢
       generalize cs.setIfInBounds q vs=cs2 at A2 HST2 HC2
       have t0:=A2.cell 0
       have t1:=A2.cell 1
       have t2:=A2.cell 2
       have t3:=A2.cell 3
       have t4:=A2.cell 4
       simp only[List.getElem?_toArray,List.getElem?_cons_succ,List.getElem?_cons_zero] at t0 t1 t2 t3 t4
       have HA2:=Lib.hid A2
       clear A2
       go_wp2_with fail
       refine(put1 HA2.out _ HND.out.1).mono ?_
       rintro e w2 ⟨rfl,h2⟩
       have s1:=h2.cell 1
       have s2:=h2.cell 2
       have s3:=h2.cell 3
       have s4:=h2.cell 4
       simp only[List.getElem?_toArray,List.getElem?_cons_succ,List.getElem?_cons_zero] at s1 s2 s3 s4
       have H2:=Lib.hid h2
       clear h2 t0 t1 t2 t3 t4
       go_wp2_with fail
       refine(text_wr H2.out nm' HND.out.2.1).mono ?_
       rintro e w3 ⟨rfl,h3⟩
       have t2:=h3.cell 2
       have t3:=h3.cell 3
       have t4:=h3.cell 4
       simp only[List.getElem?_toArray,List.getElem?_cons_succ,List.getElem?_cons_zero] at t2 t3 t4
       have H3:=Lib.hid h3
       clear h3 s1 s2 s3 s4
       go_wp2_with fail
       refine(put3 H3.out _ _ _ HND.out.2.2.1 HND.out.2.2.2.1 HND.out.2.2.2.2).mono ?_
       rintro e w4 ⟨rfl,h4⟩
       have t4:=h4.cell 4
       simp only[List.getElem?_toArray,List.getElem?_cons_succ,List.getElem?_cons_zero] at t4
       have H4:=Lib.hid h4
       have hkn25:kn≤33554432:=by
        have:(m1:Int)<33554432:=of_decide_eq_true hd2
        have:=HKN.out
        omega
       obtain⟨ax,cx,bx,gx,hh,hown,hP,k0,k1,k2,k3,kf⟩:=h4.cells
       have f1:=kf 1
       have H5:=Lib.hid h4.node
       clear h4 hh hown hP k0 k2 k3 kf t2 t3
       have hm25:m1<33554432:=by
        have:(m1:Int)<33554432:=of_decide_eq_true hd2
        omega
       go_upto_region 16 with fail
       clear t4 f1 k1
       generalize w4.setCell ⟨wb,1,none⟩ (.int .i64 ((m1:Int)+1))=w5 at H5 ⊢
       obtain⟨ay,cy,by_,gy,hh,hown,hP,k0,k1,k2,k3,kf⟩:=H5.out.cells
       have f3:=kf 3
       clear hh hown hP k0 k1 k2 kf
       have hd4:decide ((400:Int)<(kn:Int)+1)=false:=by
        have:=HK4.out
        rw[stn_snoc] at this
        simp only[Fs.nodes] at this
        simp
        omega
       have hd5:decide ((60:Int)<(q:Int)+1)=false:=by
        have:=HQ60.out
        have:=HQL.out
        simp
        omega
       go_upto_region 18 with fail
       clear k3 f3
       have H6:=H5
       clear H5
       generalize w5=w6 at H6 ⊢
       have t4:=H6.out.cell 4
       simp only[List.getElem?_toArray,List.getElem?_cons_succ,List.getElem?_cons_zero] at t4
       by_cases ha0:args'.len=0
       ·have hd6:decide (0<args'.len)=false:=by simp[ha0]
        have HE:Hid (args'=.nil):=Lib.hid (by cases args'<;>simp[Fs.len] at ha0 ⊢)
        clear ha0
        go_wp2_with fail
        go_roundg (gk - 1)
        case measure=>have:=HG.out;omega
        case rel=>exact frm_pop rfl (by go_num) hq HCM.out HQL.out HC2.out H6.out.tail HB0.out HK.out HST2.out HL1.out HN1.out HKN.out HQK.out HSI.out HK4.out HG.out HE.out
       ·have hd6:decide (0<args'.len)=true:=by simp;omega
        have hrow:w6.ownsRow w0.heap.size 46 1 (.slice (some ⟨B,0,none⟩) (q+1) cap) (q+1) (cs2.toList.take (q+1)):=by
         have:=stack_row H6.out.tail HB0.out (q:=q+1) (by rw[HC2.out];exact hq) (by rw[HC2.out];exact HCM.out)
         rwa[HC2.out] at this
        have HROW:=Lib.hid hrow
        have HWs:Hid (w0.heap.size≤w6.heap.size):=Lib.hid H6.out.lt0
        clear hrow ha0
        go_wp2_with (first
         |(at_builtin;refine wpList_append_own_at _ rfl _ _ 189 rfl w0.heap.size 46 i0 (.slice none 0 0) 1 24 Tryz.underlying189 hi hz0 hz1 hz2 rfl (by decide) _ _ _ rfl (HROW.out.alloc _) ⟨w6.heap.size,0,none⟩ 1 1 [.slice a3 args'.len c3] rfl rfl (cell_one_new _ _ _) (by intro u hu;simp at hu;subst hu;rfl) (by unfold maxLen;omega) (by omega) (by rw[World.size_alloc];exact Nat.le_succ_of_le HWs.out) ?_))
        intro v' w7 hown' hgrow _ hat
        obtain⟨B',cap',cs',rfl,j1,j2,j3,j4,j5,j6,j7⟩:=stack_push H6.out.tail HB0.out HK.out HST2.out (q:=q+1) (by simp[HQL.out]) (by rw[HC2.out];exact hq) HA.out hown' hgrow (by simpa[Value.ownBlock] using hat)
        have J3:=Lib.hid j3
        have J4:=Lib.hid j4
        have J6:=Lib.hid j6
        have J7:=Lib.hid j7
        clear hown' hgrow hat j3 j4 j6 j7
        go_wp2_with fail
        go_roundg (gk - 1)
        case measure=>have:=HG.out;omega
        case rel=>exact frm_push rfl (by go_num) j1 j2 HQL.out J3.out J4.out j5 J6.out J7.out HL1.out HN1.out HKN.out HQK.out HSI.out HK4.out HG.out
  ·obtain rfl:k=f.len:=by omega
   have e0:f.drop f.len=.nil:=by
    have:=Fs.drop_len f f.len
    cases h:f.drop f.len with
    |nil=>rfl
    |cons=>rw[h] at this;simp[Fs.len] at this
   rw[e0] at HL HN
   have HW2:=Lib.hid hw
   have hd:decide (f.len<f.len)=false:=by simp
   clear hw e0
   go_wp2_with fail
   (try simp only[Exit.inBlock,Exit.then])
   refine bodyPost_end (results_none rfl _ _ _) rfl ⟨rfl,?_⟩
   have h1:=HL.out
   have h2:=HN.out
   simp only[Fs.code,Fs.nodes,List.append_nil,Nat.add_zero] at h1 h2
   rw[←h1,←h2]
   exact HW2.out
end
end X
end
section
open Go.RowKit
namespace X
theorem Wr.start (w0:World):Wr w0 w0.heap.size (w0.alloc (.cells #[.slice none 0 0,.int .i64 0,.bool false,.bool false] 128)) [] 0 True []:=
 ⟨⟨.slice none 0 0,false,false,heap_alloc_new _ _,⟨rfl,.inl ⟨rfl,rfl⟩⟩,⟨rfl,rfl⟩,fun p hp=>by cases hp⟩,Nat.le_refl _,(Below.refl _ _).alloc (Nat.le_refl _) _,fun p hp=>by cases hp⟩
theorem claim_start (w:World) (cs:Array Value):∃w0 w1:World,w1=((w.alloc (.cells cs 59)).alloc (.cells #[.slice none 0 0,.int .i64 0] 30)).alloc (.cells #[.slice none 0 0,.int .i64 0,.bool false,.bool false] 128)∧Below w.heap.size w w0∧
  (∀(wr:World) (L:List Int) (n:Nat) (P:Prop) (K:List (Nat×Obj)),Wr w0 (w.heap.size+1+1) wr L n P K→∀j,wr.cell? ⟨w.heap.size,j,none⟩=cs[j]?)∧(∀(wr:World) (L:List Int) (n:Nat) (P:Prop) (K:List (Nat×Obj)),Wr w0 (w.heap.size+1+1) wr L n P K→wr.heap[w.heap.size+1]? =some (.cells #[.slice none 0 0,.int .i64 0] 30))∧
  w0.heap.size=w.heap.size+1+1∧Wr w0 (w.heap.size+1+1) w1 [] 0 True []:=by
 have hs:((w.alloc (.cells cs 59)).alloc (.cells #[.slice none 0 0,.int .i64 0] 30)).heap.size=w.heap.size+1+1:=by simp
 have hc:∀j,((w.alloc (.cells cs 59)).alloc (.cells #[.slice none 0 0,.int .i64 0] 30)).cell? ⟨w.heap.size,j,none⟩=cs[j]? :=fun j=>(World.cell?_alloc_past _ _ _ (by simp)).trans (cell_new w _ 59 j)
 have hr:((w.alloc (.cells cs 59)).alloc (.cells #[.slice none 0 0,.int .i64 0] 30)).heap[w.heap.size+1]? =some (.cells #[.slice none 0 0,.int .i64 0] 30):=by
  have:=heap_alloc_new (w.alloc (.cells cs 59)) (.cells #[.slice none 0 0,.int .i64 0] 30)
  rwa[World.size_alloc] at this
 have hb:Below w.heap.size w ((w.alloc (.cells cs 59)).alloc (.cells #[.slice none 0 0,.int .i64 0] 30)):=((Below.refl _ _).alloc (Nat.le_refl _) _).alloc (by simp) _
 generalize (w.alloc (.cells cs 59)).alloc (.cells #[.slice none 0 0,.int .i64 0] 30)=w0 at*
 refine⟨w0,_,rfl,hb,fun wr L n P K h j=>(h.below.cell (p:=⟨w.heap.size,j,none⟩) (by rw[hs];show w.heap.size<_;omega)).trans (hc j),fun wr L n P K h=>(h.below.block _ (by rw[hs];omega)).trans hr,hs,?_⟩
 have:=Wr.start w0
 rwa[hs] at this
set_option maxRecDepth 100000 in
set_option maxHeartbeats 1000000 in
theorem filled_no (w:World):Calls Tryz.prog 68 #[.agg #[.slice none 0 0,.slice none 0 0,.slice none 0 0],.slice none 0 0,.slice none 0 0,.slice none 0 0] w fun e w'=>e=.returned (.bool false)∧w'=w.alloc (.cells #[.slice none 0 0,.slice none 0 0,.slice none 0 0] 39):=by
 have d0:=cell_new w #[.slice none 0 0,.slice none 0 0,.slice none 0 0] 39 0
 have d1:=cell_new w #[.slice none 0 0,.slice none 0 0,.slice none 0 0] 39 1
 have d2:=cell_new w #[.slice none 0 0,.slice none 0 0,.slice none 0 0] 39 2
 simp only[List.getElem?_toArray,List.getElem?_cons_succ,List.getElem?_cons_zero] at d0 d1 d2
 go_enter Tryz.func68,Tryz.ntmps68
 go_wp2_with fail
 go_ret
 exact⟨rfl,rfl⟩
set_option maxRecDepth 100000 in
set_option maxHeartbeats 1000000 in
theorem noCtrl_yes (w:World):Calls Tryz.prog 73 #[.agg #[.int .i64 0,.int .i64 0,.int .i64 0,.slice none 0 0,.slice none 0 0]] w fun e w'=>e=.returned (.bool true)∧w'=w.alloc (.cells #[.int .i64 0,.int .i64 0,.int .i64 0,.slice none 0 0,.slice none 0 0] 54):=by
 have d0:=cell_new w #[.int .i64 0,.int .i64 0,.int .i64 0,.slice none 0 0,.slice none 0 0] 54 0
 have d1:=cell_new w #[.int .i64 0,.int .i64 0,.int .i64 0,.slice none 0 0,.slice none 0 0] 54 1
 have d2:=cell_new w #[.int .i64 0,.int .i64 0,.int .i64 0,.slice none 0 0,.slice none 0 0] 54 2
 have d3:=cell_new w #[.int .i64 0,.int .i64 0,.int .i64 0,.slice none 0 0,.slice none 0 0] 54 3
 have d4:=cell_new w #[.int .i64 0,.int .i64 0,.int .i64 0,.slice none 0 0,.slice none 0 0] 54 4
 simp only[List.getElem?_toArray,List.getElem?_cons_succ,List.getElem?_cons_zero] at d0 d1 d2 d3 d4
 go_enter Tryz.func73,Tryz.ntmps73
 go_wp2_with fail
 go_ret
 exact⟨rfl,rfl⟩
set_option maxRecDepth 100000 in
set_option maxHeartbeats 1000000 in
theorem noEnv_yes (w:World):Calls Tryz.prog 71 #[.agg #[.int .i64 0,.int .i64 0,.int .i64 0,.slice none 0 0,.slice none 0 0]] w fun e w'=>e=.returned (.bool true)∧w'=w.alloc (.cells #[.int .i64 0,.int .i64 0,.int .i64 0,.slice none 0 0,.slice none 0 0] 56):=by
 have d0:=cell_new w #[.int .i64 0,.int .i64 0,.int .i64 0,.slice none 0 0,.slice none 0 0] 56 0
 have d1:=cell_new w #[.int .i64 0,.int .i64 0,.int .i64 0,.slice none 0 0,.slice none 0 0] 56 1
 have d2:=cell_new w #[.int .i64 0,.int .i64 0,.int .i64 0,.slice none 0 0,.slice none 0 0] 56 2
 have d3:=cell_new w #[.int .i64 0,.int .i64 0,.int .i64 0,.slice none 0 0,.slice none 0 0] 56 3
 have d4:=cell_new w #[.int .i64 0,.int .i64 0,.int .i64 0,.slice none 0 0,.slice none 0 0] 56 4
 simp only[List.getElem?_toArray,List.getElem?_cons_succ,List.getElem?_cons_zero] at d0 d1 d2 d3 d4
 go_enter Tryz.func71,Tryz.ntmps71
 go_wp2_with fail
 go_ret
 exact⟨rfl,rfl⟩
end X
end
section
open Go.RowKit
namespace X
def clR (a1:Option Addr) (n1 c1:Nat) (op:Int) (nm:ByteArray) (v bd:Int) (a6:Option Addr) (n6 c6:Nat) (a22:Option Addr) (n22 c22:Nat) (a23:Option Addr) (n23 c23:Nat):Array Value:=
 #[.int .i64 4,.slice a1 n1 c1,.int .i64 op,.string nm,.int .i64 v,.int .i64 bd,.slice a6 n6 c6,
  .int .i64 0,.int .i64 0,.int .i64 0,.slice none 0 0,.slice none 0 0,
  .int .i64 0,.int .i64 0,.int .i64 0,.slice none 0 0,.slice none 0 0,
  .slice none 0 0,.slice none 0 0,.slice none 0 0,.slice none 0 0,.slice none 0 0,
  .slice a22 n22 c22,.slice a23 n23 c23]
def codeR (sg:List Sg) (f:Fs) (ls:List Int) (rs:Fs):List Int:=4::(sg.length:Int)::sgs sg++f.code++lst ls++(rs.len:Int)::rs.code
def CodedR (w:World) (L:List Int) (e:Ending) (w':World):Prop:=
 Below w.heap.size w w'∧∃(az:Option Addr) (ln cz:Nat) (s k:Int),e=.returned (.tuple #[.agg #[.slice az ln cz,.int .i64 s],.int .i64 k])∧((20000<L.length∧k=2)∨(L.length≤20000∧k=0∧w'.ownsRow (w.heap.size+1+1+1) 3 1 (.slice az ln cz) L.length (L.map (Value.int .i64))))
set_option maxRecDepth 100000 in
set_option maxHeartbeats 40000000 in
theorem encode_R (w:World) {a1 a6 a22 a23:Option Addr} {c1 c6 c22 c23:Nat} {op v bd:Int} {nm:ByteArray} {args rs:Fs} {sg:List Sg} {ls:List Int}
  (h1:SgV w (.slice a1 sg.length c1) sg) (h6:FV w (.slice a6 args.len c6) args) (h22:Nums w (.slice a22 ls.length c22) ls) (h23:FV w (.slice a23 rs.len c23) rs)
  (g1:sg.length<65520∧∀s∈sg,s.name.size<65520∧InR s.size) (g2:InF (.cons op nm v bd args .nil)∧TopF (.cons op nm v bd args .nil)) (g3:ls.length<65520∧∀x∈ls,InR x)
  (g4:rs.len=ls.length) (g5:InF rs∧TopF rs) (g6:args.nodes+1+rs.nodes<33554432):
  Calls Tryz.prog 23 #[.agg (clR a1 sg.length c1 op nm v bd a6 args.len c6 a22 ls.length c22 a23 rs.len c23)] w (CodedR w (codeR sg (.cons op nm v bd args .nil) ls rs)):=by
 obtain⟨w0,w1,e1,hB,hC,hR,hs,hW⟩:=claim_start w (clR a1 sg.length c1 op nm v bd a6 args.len c6 a22 ls.length c22 a23 rs.len c23)
 have H1:=Lib.hid (h1.keep hB)
 have HF6:=Lib.hid (h6.keep hB)
 have H22:=Lib.hid (h22.keep hB)
 have H23:=Lib.hid (h23.keep hB)
 have G1:=Lib.hid g1
 have G2:=Lib.hid g2
 have G3:=Lib.hid g3
 have G4:=Lib.hid g4
 have G5:=Lib.hid g5
 have G6:=Lib.hid g6
 have HBl:=Lib.hid hB
 have HC:=Lib.hid hC
 have HR:=Lib.hid hR
 have HS0:=Lib.hid hs
 have HW:=Lib.hid hW
 have E1:=Lib.hid e1
 clear h1 h6 h22 h23 g1 g2 g3 g4 g5 g6 hB hC hR hs hW e1
 unfold clR at HC E1 ⊢
 go_enter Tryz.func23,Tryz.ntmps23
 go_upto_region 2 with fail
 rw[←E1.out]
 clear E1
 generalize Value.agg #[.int .i64 4,.slice a1 sg.length c1,.int .i64 op,.string nm,.int .i64 v,.int .i64 bd,.slice a6 args.len c6,.int .i64 0,.int .i64 0,.int .i64 0,.slice none 0 0,.slice none 0 0,.int .i64 0,.int .i64 0,.int .i64 0,.slice none 0 0,.slice none 0 0,.slice none 0 0,.slice none 0 0,.slice none 0 0,.slice none 0 0,.slice none 0 0,.slice a22 ls.length c22,.slice a23 rs.len c23]=big
 have t0:=HC.out _ _ _ _ _ HW.out 0
 simp only[List.getElem?_toArray,List.getElem?_cons_zero] at t0
 generalize hbc:w.heap.size=bc at*
 have HBC:=Lib.hid hbc
 clear hbc
 go_upto_region 3 with(first|(go_at_call 67;refine(put1 HW.out _ ⟨by decide,by decide⟩).mono ?_;rintro e w2 ⟨rfl,h2⟩))
 have H2:=Lib.hid h2
 have t2:=HC.out _ _ _ _ _ h2 0
 simp only[List.getElem?_toArray,List.getElem?_cons_zero] at t2
 clear h2 t0
 go_upto_region 5 with fail
 clear t2
 go_upto_region 21 with fail
 obtain⟨aw,cw,b,g,hh,hown,hP,q0,q1,q2,q3,kf⟩:=H2.out.cells
 obtain⟨rfl,rfl⟩:=hP
 have f2:=kf 2
 clear hh hown q0 q1 q3 kf
 have t18:=HC.out _ _ _ _ _ H2.out 18
 have t19:=HC.out _ _ _ _ _ H2.out 19
 have t20:=HC.out _ _ _ _ _ H2.out 20
 have t21:=HC.out _ _ _ _ _ H2.out 21
 simp only[List.getElem?_toArray,List.getElem?_cons_succ,List.getElem?_cons_zero] at t18 t19 t20 t21
 go_wp2_with fail
 refine(filled_no _).mono ?_
 rintro e ww ⟨rfl,rfl⟩
 have HN:=Lib.hid (H2.out.alloc (.cells #[.slice none 0 0,.slice none 0 0,.slice none 0 0] 39)).tail
 clear f2 q2
 generalize w2.alloc (.cells #[.slice none 0 0,.slice none 0 0,.slice none 0 0] 39)=wn at*
 clear t18 t19 t20 t21
 obtain⟨aw,cw,b,g,hh,hown,hP,q0,q1,q2,q3,kf⟩:=HN.out.cells
 obtain⟨rfl,rfl⟩:=hP
 have f2:=kf 2
 have HA:=Lib.hid (HN.out.store (x:=.bool false) (j:=2) (n':=0) (P':=True) hh (b':=false) (g':=false) rfl ⟨rfl,rfl⟩)
 clear hh hown q0 q1 q3 kf
 go_upto_region 22 with fail
 clear f2 q2 HN H2
 generalize wn.setCell ⟨bc+1+1,2,none⟩ (.bool false)=w3 at*
 have H3:=HA
 clear HA
 obtain⟨aw,cw,b,g,hh,hown,hP,q0,q1,q2,q3,kf⟩:=H3.out.cells
 obtain⟨rfl,rfl⟩:=hP
 have f2:=kf 2
 clear hh hown q0 q1 q3 kf
 have t7:=HC.out _ _ _ _ _ H3.out 7
 have t8:=HC.out _ _ _ _ _ H3.out 8
 have t9:=HC.out _ _ _ _ _ H3.out 9
 have t10:=HC.out _ _ _ _ _ H3.out 10
 have t11:=HC.out _ _ _ _ _ H3.out 11
 simp only[List.getElem?_toArray,List.getElem?_cons_succ,List.getElem?_cons_zero] at t7 t8 t9 t10 t11
 go_wp2_with fail
 refine(noCtrl_yes _).mono ?_
 rintro e ww ⟨rfl,rfl⟩
 have HN:=Lib.hid (H3.out.alloc (.cells #[.int .i64 0,.int .i64 0,.int .i64 0,.slice none 0 0,.slice none 0 0] 54)).tail
 clear f2 q2 t7 t8 t9 t10 t11
 generalize w3.alloc (.cells #[.int .i64 0,.int .i64 0,.int .i64 0,.slice none 0 0,.slice none 0 0] 54)=wctrl at*
 have t12:=HC.out _ _ _ _ _ HN.out 12
 have t13:=HC.out _ _ _ _ _ HN.out 13
 have t14:=HC.out _ _ _ _ _ HN.out 14
 have t15:=HC.out _ _ _ _ _ HN.out 15
 have t16:=HC.out _ _ _ _ _ HN.out 16
 simp only[List.getElem?_toArray,List.getElem?_cons_succ,List.getElem?_cons_zero] at t12 t13 t14 t15 t16
 go_wp2_with fail
 refine(noEnv_yes _).mono ?_
 rintro e ww ⟨rfl,rfl⟩
 have HM:=Lib.hid (HN.out.alloc (.cells #[.int .i64 0,.int .i64 0,.int .i64 0,.slice none 0 0,.slice none 0 0] 56)).tail
 clear t12 t13 t14 t15 t16 HN
 generalize wctrl.alloc (.cells #[.int .i64 0,.int .i64 0,.int .i64 0,.slice none 0 0,.slice none 0 0] 56)=wenv at*
 have t17:=HC.out _ _ _ _ _ HM.out 17
 simp only[List.getElem?_toArray,List.getElem?_cons_succ,List.getElem?_cons_zero] at t17
 obtain⟨aw,cw,b,g,hh,hown,hP,q0,q1,q2,q3,kf⟩:=HM.out.cells
 obtain⟨rfl,rfl⟩:=hP
 have f2:=kf 2
 have H4:=Lib.hid (HM.out.store (x:=.bool false) (j:=2) (n':=0) (P':=True) hh (b':=false) (g':=false) rfl ⟨rfl,rfl⟩)
 clear hh hown q0 q1 q3 kf
 go_upto_region 23 with fail
 clear f2 q2 HM t17 H3
 generalize wenv.setCell ⟨bc+1+1,2,none⟩ (.bool false)=w4 at*
 have t1:=HC.out _ _ _ _ _ H4.out 1
 simp only[List.getElem?_toArray,List.getElem?_cons_succ,List.getElem?_cons_zero] at t1
 go_wp2_with fail
 refine(signals_any H4.out H1.out G1.out).mono ?_
 rintro e w5 ⟨rfl,hz⟩
 have H5:=Lib.hid hz
 clear hz t1
 have t2:=HC.out _ _ _ _ _ H5.out 2
 have t3:=HC.out _ _ _ _ _ H5.out 3
 have t4:=HC.out _ _ _ _ _ H5.out 4
 have t5:=HC.out _ _ _ _ _ H5.out 5
 have t6:=HC.out _ _ _ _ _ H5.out 6
 simp only[List.getElem?_toArray,List.getElem?_cons_succ,List.getElem?_cons_zero] at t2 t3 t4 t5 t6
 go_wp2_with fail
 refine(formulas_any (H5.out.alloc (.cells #[.int .i64 op,.string nm,.int .i64 v,.int .i64 bd,.slice a6 args.len c6] 48)) (f:=.cons op nm v bd args .nil) (.inr ⟨w5.heap.size,1,op,nm,v,bd,a6,c6,args,rfl,Nat.le_refl _,List.mem_cons_self,rfl,by have:=G2.out.1.1.2.1;omega,HF6.out⟩) (by have:=G6.out;simp only[Fs.nodes];omega) G2.out).mono ?_
 rintro e w6 ⟨rfl,hz⟩
 have H6:=Lib.hid hz.tail
 clear hz t2 t3 t4 t5 t6
 have t22:=HC.out _ _ _ _ _ H6.out 22
 simp only[List.getElem?_toArray,List.getElem?_cons_succ,List.getElem?_cons_zero] at t22
 go_wp2_with fail
 refine(list_any H6.out (.inl H22.out) G3.out.1 G3.out.2).mono ?_
 rintro e w7 ⟨rfl,hz⟩
 have H7:=Lib.hid hz
 clear hz t22
 have t22:=HC.out _ _ _ _ _ H7.out 22
 have t23:=HC.out _ _ _ _ _ H7.out 23
 simp only[List.getElem?_toArray,List.getElem?_cons_succ,List.getElem?_cons_zero] at t22 t23
 go_wp2_with fail
 rw[G4.out]
 refine(need1 H7.out (s:=w7.heap.size) rfl _).mono ?_
 rintro e w8 ⟨rfl,hz⟩
 have H8:=Lib.hid hz
 clear hz t22 t23
 have t23:=HC.out _ _ _ _ _ H8.out 23
 simp only[List.getElem?_toArray,List.getElem?_cons_succ,List.getElem?_cons_zero] at t23
 go_wp2_with fail
 refine(put1 H8.out _ ⟨by omega,by have:=G3.out.1;have:=G4.out;omega⟩).mono ?_
 rintro e w9 ⟨rfl,hz⟩
 have H9:=Lib.hid hz
 clear hz t23
 have t23:=HC.out _ _ _ _ _ H9.out 23
 simp only[List.getElem?_toArray,List.getElem?_cons_succ,List.getElem?_cons_zero] at t23
 go_wp2_with fail
 refine(formulas_any H9.out (f:=rs) (.inl H23.out) (by have:=G6.out;simp only[Fs.nodes];omega) G5.out).mono ?_
 rintro e w10 ⟨rfl,hz⟩
 have H10:=Lib.hid hz
 clear hz t23
 obtain⟨az,cz,bz,gz,hh,hown,hP,z0,z1,z2,z3,kf⟩:=H10.out.cells
 have hr:=HR.out _ _ _ _ _ H10.out
 have r0:w10.cell? ⟨bc+1,0,none⟩=some (.slice none 0 0):=by simp[World.cell?,hr]
 have r1:w10.cell? ⟨bc+1,1,none⟩=some (.int .i64 0):=by simp[World.cell?,hr]
 have s0:w10.frozen? ⟨bc+1,0,none⟩=false:=by simp[World.frozen?,hr]
 have s1:w10.frozen? ⟨bc+1,1,none⟩=false:=by simp[World.frozen?,hr]
 obtain⟨rfl,rfl⟩:=hP
 have HO:=Lib.hid hown
 clear hh hown z1 kf hr
 have t17:=HC.out _ _ _ _ _ H10.out 17
 simp only[List.getElem?_toArray,List.getElem?_cons_succ,List.getElem?_cons_zero] at t17
 have HE:Hid (Below bc w w10):=Lib.hid (HBl.out.trans (H10.out.below.mono (by rw[HS0.out];omega)))
 have HRR:=Lib.hid (HR.out _ _ _ _ _ H10.out)
 have HCD:Hid ([]++[4]++(sg.length:Int)::sgs sg++(Fs.cons op nm v bd args .nil).code++lst ls++[(rs.len:Int)]++rs.code=codeR sg (.cons op nm v bd args .nil) ls rs):=Lib.hid (by unfold codeR;simp)
 rw[HCD.out] at z0 HO
 generalize codeR sg (.cons op nm v bd args .nil) ls rs=L at*
 clear HCD H10 H9 H8 H7 H6 H5 H4
 generalize hcl:cut20 L=cl at z0 HO
 have HCL:=Lib.hid hcl
 clear hcl
 by_cases hln:20000<cl.length
 case pos=>
  have hd9:decide (20000<cl.length)=true:=by simpa using hln
  have hd9':decide ((20000:Int)<(cl.length:Int))=true:=by simp;omega
  have HLL:Hid (20000<L.length):=Lib.hid (by have h:=HCL.out;unfold cut20 at h;subst h;rw[List.length_take] at hln;omega)
  clear hln
  go_wp2_with fail
  obtain⟨e0,e1,e2⟩:=stored (.slice none 0 0) (.int .i64 0) HRR.out HE.out HBC.out
  exact coded_end rfl rfl e0 e1 ⟨e2,_,_,_,_,2,rfl,.inl ⟨HLL.out,rfl⟩⟩
 have hd9:decide (20000<cl.length)=false:=by simpa using hln
 have hd9':decide ((20000:Int)<(cl.length:Int))=false:=by simp;omega
 have HLL:=Lib.hid hln
 clear hln
 have NZ:Hid (Nums w10 (.slice az cl.length cz) cl):=Lib.hid (nums_owned HO.out)
 go_wp2_with fail
 go_region_held3 (fun w'=>w'.cell? ⟨bc+1+1,0,none⟩=some (.slice az cl.length cz)) (go_keep) (first|(go_at_call 10;refine(seal_some _ (NZ.out.drawn 1) (by have:=HLL.out;omega)).mono ?_;rintro e w9 ⟨⟨sl,rfl⟩,rfl⟩))
 go_wp2_with fail
 obtain⟨e0,e1,e2⟩:=stored (wz:=w10.drewN 1) (.slice az cl.length cz) (.int .i64 sl) HRR.out (below_drawn HE.out 1) HBC.out
 have HLC:=cut_eq HCL.out HLL.out
 refine coded_end rfl rfl e0 e1 ⟨e2,_,_,_,_,0,rfl,.inr ⟨?_,rfl,?_⟩⟩
 ·rw[HLC];have:=HLL.out;omega
 ·rw[HLC,HBC.out]
  exact ownsRow_setCell_below (ownsRow_setCell_below (w:=w10.drewN 1) HO.out (a:=⟨bc+1,0,none⟩) (show bc+1<bc+1+1+1 by omega) _) (a:=⟨bc+1,1,none⟩) (show bc+1<bc+1+1+1 by omega) _
end X
end
section
open Go.RowKit Go.Sort
def lastW (zs:List Wf) (z:Wf):Wf:=zs.getLast?.getD z
theorem lastW_cons (y:Wf) (zs:List Wf) (z:Wf):lastW (y::zs) z=lastW zs y:=by
 cases zs with
 |nil=>rfl
 |cons u us=>simp[lastW,List.getLast?_cons]
theorem lastW_snoc (zs:List Wf) (y z:Wf):lastW (zs++[y]) z=y:=by simp[lastW]
theorem resO_snoc {l:List Sg}:∀(xs:List Int) (x:Int) (z:Wf) (zs:List Wf),resO l xs z=some zs→resO l (xs++[x]) z=(stepO l x (lastW zs z)).map fun y=>zs++[y]
 |[],x,z,zs,h=>by
  cases h
  rw[List.nil_append,resO]
  show _=(stepO l x z).map _
  cases stepO l x z<;>rfl
 |a::xs,x,z,zs,h=>by
  rw[resO] at h
  rw[List.cons_append,resO]
  cases hs:stepO l a z with
  |none=>rw[hs] at h;cases h
  |some y=>
   rw[hs] at h
   simp only at h ⊢
   cases hr:resO l xs y with
   |none=>rw[hr] at h;cases h
   |some us=>
    rw[hr] at h
    cases h
    rw[resO_snoc xs x y us hr]
    simp only[lastW_cons]
    cases stepO l x (lastW us y)<;>rfl
theorem resO_pre {l:List Sg}:∀(xs ys:List Int) (z:Wf),resO l xs z=none→resO l (xs++ys) z=none
 |[],_,_,h=>by cases h
 |a::xs,ys,z,h=>by
  rw[resO] at h
  rw[List.cons_append,resO]
  cases hs:stepO l a z with
  |none=>rfl
  |some y=>
   rw[hs] at h
   simp only at h ⊢
   cases hr:resO l xs y with
   |none=>rw[resO_pre xs ys y hr];rfl
   |some us=>rw[hr] at h;cases h
theorem resO_next {l:List Sg} {ls:List Int} {k:Nat} (hk:k<ls.length) {z y:Wf} {zs:List Wf} (h:resO l (ls.take k) z=some zs) (hs:stepO l ls[k] (lastW zs z)=some y):resO l (ls.take (k+1)) z=some (zs++[y]):=by
 rw[List.take_succ_eq_append_getElem hk,resO_snoc _ _ _ _ h,hs];rfl
theorem resO_stop {l:List Sg} {ls:List Int} {k:Nat} (hk:k<ls.length) {z:Wf} {zs:List Wf} (h:resO l (ls.take k) z=some zs) (hs:stepO l ls[k] (lastW zs z)=none):resO l ls z=none:=by
 have e:ls=ls.take (k+1)++ls.drop (k+1):=(List.take_append_drop _ _).symm
 rw[e]
 refine resO_pre _ _ _ ?_
 rw[List.take_succ_eq_append_getElem hk,resO_snoc _ _ _ _ h,hs];rfl
theorem nameB_size {nm:ByteArray} (h:nameB nm=true):nm.size≤12:=by
 unfold nameB at h
 simp only[Bool.and_eq_true,decide_eq_true_eq] at h
 exact h.1.1.2
open X in
theorem inF_trC (z:Wf):∀r,gdp pN z=true→size z≤60000→InF r→InF (trC z r):=by
 have e0:(⟨#[]⟩:ByteArray).size<65520:=by decide
 have z0:InR 0:=⟨by decide,by decide⟩
 have bi:∀v:Bool,InR (bI v):=fun v=>by cases v<;>exact⟨by decide,by decide⟩
 have is3:∀(nm:ByteArray) (v:Int) (r:Fs),pN nm v=true→InF r→InF (.cons 3 nm v 0 .nil r):=fun nm v r h hr=>by
  unfold pN at h
  simp only[Bool.and_eq_true,decide_eq_true_eq] at h
  have h1:=nameB_size h.1
  exact⟨⟨⟨by decide,by decide⟩,by omega,⟨by omega,by omega⟩,z0,⟨by decide,by decide⟩⟩,trivial,hr⟩
 have l1:∀a:Wf,InR ((trC a .nil).len:Int):=fun a=>by rw[show(trC a .nil).len=1 from trs_len [a]];exact⟨by decide,by decide⟩
 have l2:∀a b:Wf,InR ((trC a (trC b .nil)).len:Int):=fun a b=>by rw[show(trC a (trC b .nil)).len=2 from trs_len [a,b]];exact⟨by decide,by decide⟩
 induction z using Wf.ind with
 |h1=>exact fun r _ _ hr=>⟨⟨⟨by decide,by decide⟩,e0,z0,z0,⟨by decide,by decide⟩⟩,trivial,hr⟩
 |h2=>exact fun r _ _ hr=>⟨⟨⟨by decide,by decide⟩,e0,z0,z0,⟨by decide,by decide⟩⟩,trivial,hr⟩
 |h3 nm v=>exact fun r hg _ hr=>is3 nm v r hg hr
 |h4 nm v=>exact fun r hg _ hr=>⟨⟨⟨by decide,by decide⟩,e0,z0,z0,(show InR ((1:Nat):Int) from⟨by decide,by decide⟩)⟩,is3 nm v .nil hg trivial,hr⟩
 |h5 k L ih=>
  intro r hg hs hr
  simp only[gdp,Bool.and_eq_true] at hg
  simp only[size] at hs
  have hl:∀m:List Wf,(∀x∈m,x∈L)→InF (trs m):=by
   intro m
   induction m with
   |nil=>exact fun _=>trivial
   |cons x m jh=>
    intro hm
    have hx:=hm x (by simp)
    have:=sizes_mem hx
    exact ih x hx _ ((gdps_all pN L).1 hg.2 x hx) (by omega) (jh fun y hy=>hm y (by simp[hy]))
  have hn:=nodes_trs L
  rw[sizes_trs] at hn
  refine⟨⟨by cases k<;>exact⟨by decide,by decide⟩,e0,z0,z0,?_⟩,hl L fun _ h=>h,hr⟩
  rw[trs_len]
  exact⟨by omega,by omega⟩
 |h6 a ia=>intro r hg hs hr;simp only[gdp,size] at hg hs;exact⟨⟨⟨by decide,by decide⟩,e0,z0,z0,l1 a⟩,ia .nil hg (by omega) trivial,hr⟩
 |h7 a b ia ib=>intro r hg hs hr;simp only[gdp,size,Bool.and_eq_true] at hg hs;exact⟨⟨⟨by decide,by decide⟩,e0,z0,z0,l2 a b⟩,ia _ hg.1 (by omega) (ib .nil hg.2 (by omega) trivial),hr⟩
 |h8 a b ia ib=>intro r hg hs hr;simp only[gdp,size,Bool.and_eq_true] at hg hs;exact⟨⟨⟨by decide,by decide⟩,e0,z0,z0,l2 a b⟩,ia _ hg.1 (by omega) (ib .nil hg.2 (by omega) trivial),hr⟩
 |h9 v a ia=>intro r hg hs hr;simp only[gdp,size] at hg hs;exact⟨⟨⟨by decide,by decide⟩,e0,bi v,z0,l1 a⟩,ia .nil hg (by omega) trivial,hr⟩
 |h10 k v a b ia ib=>intro r hg hs hr;simp only[gdp,size,Bool.and_eq_true] at hg hs;exact⟨⟨by cases k<;>exact⟨by decide,by decide⟩,e0,bi v,z0,l2 a b⟩,ia _ hg.1 (by omega) (ib .nil hg.2 (by omega) trivial),hr⟩
open X in
theorem forest_write:∀L:List Wf,(∀z∈L,Lo z)→InF (trs L)∧TopF (trs L)
 |[],_=>⟨trivial,trivial⟩
 |z::L,h=>by
  obtain⟨i1,i2⟩:=forest_write L fun y hy=>h y (by simp[hy])
  have hz:=h z (by simp)
  have h400:=hz.size
  have h60:=hz.dep
  refine⟨inF_trC z _ hz.gd (by omega) i1,?_⟩
  obtain⟨op,nm,v,bd,a,e1,e2⟩:=trC_cons z (trs L)
  have hn:=trC_nodes z e2
  rw[trs,e2]
  exact⟨⟨by omega,by omega⟩,i2⟩
open X in
theorem valid_write {l:List Sg} (h:validB l=true):l.length≤6∧(∀s∈l,s.name.size≤12∧InR s.size)∧letN l≤64:=by
 unfold letN
 rw[if_pos h]
 unfold validB at h
 simp only[Bool.and_eq_true,decide_eq_true_eq] at h
 obtain⟨⟨h1,h2⟩,h3⟩:=h
 refine⟨h1.2,fun s hs=>?_,h3⟩
 obtain⟨i,hi,rfl⟩:=List.getElem_of_mem hs
 have:=List.all_eq_true.1 h2 i (by simpa using hi)
 rw[sigB_at hi] at this
 simp only[Bool.and_eq_true,decide_eq_true_eq] at this
 exact⟨nameB_size this.1.1,⟨by omega,by omega⟩⟩
end
end Go.Proofs.YtckdgniecdfedaaGreatDoor
