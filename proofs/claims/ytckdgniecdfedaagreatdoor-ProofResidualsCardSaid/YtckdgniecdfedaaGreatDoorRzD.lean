/- The walk of the iterator over the nodes of a formula: each node comes ahead of its arguments. The iterator over the nodes of a formula, as a whole. The walk of formula.bare: whether a formula has the  -/
import Derived.Test.YtckdgniecdfedaaGreatDoorRzC
import Derived.Lib.AppendZeros
import Derived.LaidEqlPtr
namespace Go.Proofs.YtckdgniecdfedaaGreatDoor
section
open Go.RowKit Go.Shelf
attribute [local go_sem] Oper.semAt_some
structure NodA where
 b:Nat
 off:Nat
 op:Int
 v:Int
 bd:Int
 nm:ByteArray
 args:Fs
 rest:Fs
 ins:Bool
def NodA.ok (w0:World) (x:NodA):Prop:=FAt w0 (.cons x.op x.nm x.v x.bd x.args x.rest) x.b x.off∧x.b<w0.heap.size
abbrev NodW (w0:World):= {x:NodA // x.ok w0}
structure Nod where
 op:Int
 v:Int
 bd:Int
 nm:ByteArray
 args:Fs
 ins:Bool
def NodA.nod (x:NodA):Nod:=⟨x.op,x.v,x.bd,x.nm,x.args,x.ins⟩
def preF:Fs→Bool→List Nod
 | .nil,_=>[]
 | .cons op nm v bd args rest,i=>⟨op,v,bd,nm,args,i⟩::(preF args (i||(formL op).past)++preF rest i)
def depF:Fs→Nat
 | .nil=>0
 | .cons _ _ _ _ args rest=>max (depF args+1) (depF rest)
def encN {w0:World} (x:NodW w0):Array Value:= #[.pointer (some ⟨x.1.b,x.1.off,none⟩),.bool x.1.ins]
theorem depF_drop:∀(f:Fs) (k:Nat),depF (f.drop k)≤depF f
 | .nil,0=>Nat.le_refl _
 | .nil,k+1=>Nat.le_refl _
 | .cons ..,0=>Nat.le_refl _
 | .cons _ _ _ _ a r,k+1=>by
  have:=depF_drop r k
  simp only[Fs.drop,depF]
  omega
theorem grow_of {w w':World} (h:Below w.heap.size w w') (row:Option Nat):w.grownBy w' row:=⟨h.os,h.tape,h.output,h.size,fun k hk _=>h.block k hk⟩
def nods {w0:World} (xs:List (NodW w0)):List Nod:=xs.map fun x=>x.1.nod
theorem nods_append {w0:World} (a b:List (NodW w0)):nods (a++b)=nods a++nods b:=by simp[nods]
theorem nods_one {w0:World} (x:NodW w0):nods [x]=[x.1.nod]:=rfl
theorem yield_any {m:Nat} (m':Nat) {P:Program} {l:Nat} {args:Array Value} {W:World} {R:Ending→World→Prop} (h:YieldAt Fence.wide m P l args W R):YieldAt Fence.wide m' P l args W R:=by
 obtain⟨fn,tmps,assign,body,hy,hR⟩:=h
 exact⟨fn,tmps,assign,body,hy,hR.1,fun c cs _=>hR.2 c cs (room_wide _)⟩
set_option maxRecDepth 100000 in
set_option maxHeartbeats 4000000 in
theorem visit238 (w0:World) (y lb tb yb vb Bq:Nat) (hF:Forms w0) (J Jx:List (NodW w0)→World→Prop) (hJ:AbidesZ Bq J) (hlb:w0.heap.size≤lb) (hyb:yb≠lb) (hvb:vb≠lb)
  (hY:∀m pre x W,J pre W→YieldAt Fence.wide m Tryz.prog y (encN x) W fun e W'=>
   (e=.returned (.bool true)∧J (pre++[x]) W'∧Fr (only lb) W.heap.size W W')∨(e=.returned (.bool false)∧Jx (pre++[x]) W')):
  ∀(N:Nat) (x:NodW w0) (d:Nat),x.1.args.nodes<N→d+depF x.1.args<5000→∀(pre:List (NodW w0)) (W:World),Below w0.heap.size w0 W→Bq≤W.heap.size→J pre W→yb<W.heap.size→vb<W.heap.size→
  W.cell? ⟨yb,0,none⟩=some (.func (.yield y) #[] #[])→W.cell? ⟨vb,0,none⟩=some (.func (.func 238) #[] #[.pointer (some ⟨tb,0,none⟩),.pointer (some ⟨yb,0,none⟩),.pointer (some ⟨vb,0,none⟩)])→
  CallsIn Fence.wide 9 Tryz.prog 238 #[.pointer (some ⟨x.1.b,x.1.off,none⟩),.bool x.1.ins,.int .i64 (d:Int),.pointer (some ⟨tb,0,none⟩),.pointer (some ⟨yb,0,none⟩),.pointer (some ⟨vb,0,none⟩)] W fun e W'=>
   (e=.returned (.bool true)∧∃xs:List (NodW w0),nods xs=x.1.nod::preF x.1.args (x.1.ins||(formL x.1.op).past)∧J (pre++xs) W'∧Fr (only lb) W.heap.size W W')∨
   (e=.returned (.bool false)∧∃xs:List (NodW w0),nods xs <+: x.1.nod::preF x.1.args (x.1.ins||(formL x.1.op).past)∧Jx (pre++xs) W'):=by
 intro N
 induction N with
 |zero=>intro x d h;omega
 |succ N ih=>
  intro x d hN hd pre W hB hBq hj hy1 hv1 cy cv
  obtain⟨x,hx⟩:=x
  dsimp only at hN hd ⊢
  obtain⟨hA,hb⟩:=hx
  have HX:Hid (NodA.ok w0 x):=Lib.hid ⟨hA,hb⟩
  have HIH:=Lib.hid ih
  have HY:=Lib.hid hY
  obtain⟨fn,tmps,assign,body,hy,hR⟩:=hY 8 pre ⟨x,HX.out⟩ W hj
  have HR:=Lib.hid hR
  have HB:=Lib.hid hB
  have HCV:=Lib.hid cv
  have HCY:=Lib.hid cy
  have HD:=Lib.hid hd
  have HNN:=Lib.hid hN
  have hd1:((d:Int)==5000)=false:=by simp;omega
  have hdm:d≤5000:=by omega
  unfold encN at hy
  dsimp only at hy
  clear ih hY hR hB cv hA hj hd hN
  refine callsIn_of_wp Tryz.func238 rfl trivial ?_ rfl
  simp only[Tryz.ntmps238,List.size_toArray,List.length_cons,List.length_nil,Nat.reduceAdd,Nat.reduceSub,Array.replicate_succ,Array.replicate_zero,List.push_toArray,List.append_toArray,List.nil_append,List.cons_append]
  gi_wp2
  refine HR.out.mono ?_
  rintro e W3 (⟨rfl,hJ3,hk3⟩|⟨rfl,hx3⟩)
  ·have HJ3:=Lib.hid hJ3
   have HK3:=Lib.hid hk3
   have HB3:Hid (Below w0.heap.size w0 W3):=Lib.hid (below_fr2 HB.out hk3 hlb (HB.out.size))
   have HF3:=Lib.hid (formOf_any (w:=W3) (op:=x.op) (hF.keep HB3.out))
   have HA3:=Lib.hid (FAt.keep HB3.out hb HX.out.1)
   obtain⟨c0, -⟩:=HA3.out
   clear hJ3 hk3 cy HR hy
   generalize hf:formL x.op=f at*
   have HFF:=Lib.hid hf
   clear hf
   obtain⟨f1,f2,f3,f4,f5,f6,f7,f8⟩:=f
   simp only[Form.agg] at HF3
   gi_wp2
   refine⟨trivial,(callsIn_wide.2 HF3.out).mono ?_⟩
   rintro e W4 ⟨rfl,hB4⟩
   have HB4:=Lib.hid hB4
   clear hB4 c0
   have HB5:Hid (Below w0.heap.size w0 (W4.alloc (.cells #[.int .i64 f1,.int .i64 f2,.int .i64 f3,.int .i64 f4,.bool f5,.bool f6,.bool f7,.bool f8] 227))):=Lib.hid ((HB3.out.trans (HB4.out.mono HB3.out.size)).alloc (Nat.le_trans HB3.out.size HB4.out.size) _)
   have HK5:Hid (Fr (only lb) W.heap.size W (W4.alloc (.cells #[.int .i64 f1,.int .i64 f2,.int .i64 f3,.int .i64 f4,.bool f5,.bool f6,.bool f7,.bool f8] 227))):=Lib.hid ((HK3.out.trans ((Fr.of_below HB4.out).mono HK3.out.size)).alloc (Nat.le_trans HK3.out.size HB4.out.size) _)
   have HJ5:Hid (J (pre++[⟨x,HX.out⟩]) (W4.alloc (.cells #[.int .i64 f1,.int .i64 f2,.int .i64 f3,.int .i64 f4,.bool f5,.bool f6,.bool f7,.bool f8] 227))):=Lib.hid (hJ.alloc _ (hJ _ _ _ none HJ3.out (grow_of HB4.out none) (fun r e=>by cases e)))
   obtain⟨-, -, -, -, -,c5,⟨aa,ca,c4, -,c7⟩, -⟩:=HX.out.1
   have d4:=(HB5.out.cell (p:=⟨x.b,x.off+4,none⟩) hb).trans c4
   have d5:=cell_new W4 #[.int .i64 f1,.int .i64 f2,.int .i64 f3,.int .i64 f4,.bool f5,.bool f6,.bool f7,.bool f8] 227 5
   simp only[List.getElem?_toArray,List.getElem?_cons_succ,List.getElem?_cons_zero] at d5
   have HC7:=Lib.hid c7
   have HC4:=Lib.hid c4
   clear c4 c7
   gi_upto_region 7 with fail
   generalize W4.alloc (.cells #[.int .i64 f1,.int .i64 f2,.int .i64 f3,.int .i64 f4,.bool f5,.bool f6,.bool f7,.bool f8] 227)=W5 at*
   gi_cut [1] from 15 (fun i wx=>i=.bool (x.ins||f6)∧wx=W5)
   case first=>
    cases hin:x.ins with
    |true=>
     gi_wp2
     gi_meet
     exact⟨by rw[hin];rfl,rfl⟩
    |false=>
     gi_wp2
     gi_meet
     exact⟨by rw[hin];rfl,rfl⟩
   case rest=>
    obtain⟨rfl,rfl⟩:=hcut
    have HGOAL:Hid ((x.ins||(formL x.op).past)=(x.ins||f6)):=Lib.hid (by rw[HFF.out])
    generalize (x.ins||f6)=i1 at*
    clear HF3 d5 HB4 HK3 HJ3 HB3 HA3
    gi_wp2
    gi_loopw [44] (fun j wr=>∃(k:Nat) (xs:List (NodW w0)),k≤x.args.len∧j=.int .i64 k∧Hid (nods xs++preF (x.args.drop k) i1=x.nod::preF x.args i1)∧Hid (J (pre++xs) wr)∧Hid (Fr (only lb) W.heap.size W wr)∧Hid (Below w0.heap.size w0 wr))
     (fun j _=>x.args.len - (intOf j).toNat)
    case atStart=>exact⟨0,[⟨x,HX.out⟩],Nat.zero_le _,rfl,Lib.hid (by rw[nods_one];cases x.args<;>rfl),HJ5,HK5,HB5⟩
    case round=>
     obtain⟨k,xs,hk,rfl,HE,HJw,HKw,HBw⟩:=hrel
     by_cases hlt:(k:Int)<(x.args.len:Int)
     ·have hd3:decide ((k:Int)<(x.args.len:Int))=true:=by simpa using hlt
      have hk':k<x.args.len:=by omega
      obtain⟨b',o',rfl,hb',hat⟩:=HC7.out (by omega)
      obtain⟨op',nm',v',bd',sub,hdr⟩:=Fs.drop_cons x.args k hk'
      have hdn:=Fs.drop_nodes x.args k
      have hdd:=depF_drop x.args k
      have hok:NodA.ok w0 ⟨b',o'+k*5,op',v',bd',nm',sub,x.args.drop (k+1),i1⟩:=⟨by rw[←hdr];exact FAt.drop k hat,hb'⟩
      have HIH1:=Lib.hid (HIH.out ⟨_,hok⟩ (d+1) (by have:=HNN.out;rw[hdr] at hdn;simp only[Fs.nodes] at hdn;dsimp only;omega) (by have:=HD.out;rw[hdr] at hdd;simp only[depF] at hdd;dsimp only;omega) (pre++xs) wr.drew
       (below_drawn HBw.out 1) (Nat.le_trans hBq (by have:=HKw.out.size;exact this)) (hJ _ wr wr.drew none HJw.out (grow_of (below_drawn (Below.refl _ _) 1) none) (fun r e=>by cases e)) (Nat.lt_of_lt_of_le hy1 HKw.out.size) (Nat.lt_of_lt_of_le hv1 HKw.out.size)
       ((HKw.out.cell (a:=⟨yb,0,none⟩) hy1 (by simp only[only];simpa using hyb)).trans HCY.out) ((HKw.out.cell (a:=⟨vb,0,none⟩) hv1 (by simp only[only];simpa using hvb)).trans HCV.out))
      have t5:=(HKw.out.cell (a:=⟨vb,0,none⟩) hv1 (by simp only[only];simpa using hvb)).trans HCV.out
      have t4:=(HBw.out.cell (p:=⟨x.b,x.off+4,none⟩) hb).trans HC4.out
      have HKd:Hid (Fr (only lb) W.heap.size W wr.drew):=Lib.hid (HKw.out.drawn 1)
      have HBd:Hid (Below w0.heap.size w0 wr.drew):=Lib.hid (below_drawn HBw.out 1)
      have hwd:IntKind.i64.wrap ((d:Int)+1)=(d:Int)+1:=by rw[IntKind.wrap_i64];omega
      have hnil:((some (⟨x.b,x.off,none⟩:Addr)).isNone)=false:=rfl
      dsimp only at HIH1
      clear hat hdn hdd HJw HKw HBw HIH
      gi_upto_region 11 with fail
      refine wpIn_wide.2 ?_
      go_still_tail 10,(by kernel_rfl)
      change wpList _ _ _ _ _ wr.drew
      generalize wr.drew=wd at*
      clear t4 t5 d4
      go_wp2_with fail
      refine(callsIn_wide.1 HIH1.out).mono ?_
      rintro e w6 (⟨rfl,xs',hx',hJ',hK'⟩|⟨rfl,xs',hx',hJ'⟩)
      ·have HJ6:Hid (J (pre++(xs++xs')) w6):=Lib.hid (by rw[←List.append_assoc];exact hJ')
       have HK6:Hid (Fr (only lb) W.heap.size W w6):=Lib.hid (HKd.out.trans (hK'.mono HKd.out.size))
       have HB6:Hid (Below w0.heap.size w0 w6):=Lib.hid (below_fr2 HBd.out hK' hlb HBd.out.size)
       have HE6:Hid (nods (xs++xs')++preF (x.args.drop (k+1)) i1=x.nod::preF x.args i1):=Lib.hid (by
        rw[nods_append,hx',←HE.out,hdr]
        simp only[preF,NodA.nod,List.append_assoc,List.cons_append])
       clear hx' hJ' hK'
       go_wp2_with fail
       gi_wp2
       go_roundw
       case rel=>exact⟨k+1,xs++xs',by omega,by go_num,HE6,HJ6,HK6,HB6⟩
       case measure=>simp[intOf];omega
      ·have HE6:Hid (nods (xs++xs') <+: x.nod::preF x.args (x.ins||(formL x.op).past)):=Lib.hid (by
        obtain⟨t,ht⟩:=hx'
        refine⟨t++preF (x.args.drop (k+1)) i1,?_⟩
        rw[HGOAL.out,nods_append,←HE.out,hdr]
        have e:preF (.cons op' nm' v' bd' sub (x.args.drop (k+1))) i1=(nods xs'++t)++preF (x.args.drop (k+1)) i1:=by
         rw[ht];simp only[preF,NodA.nod,List.cons_append]
        rw[e]
        simp only[List.append_assoc])
       have HJ6:Hid (Jx (pre++(xs++xs')) w6):=Lib.hid (by rw[←List.append_assoc];exact hJ')
       clear hx' hJ'
       go_wp2_with fail
       gi_wp2
       refine bodyPost_ret (v:=.bool false) (by first|rfl|simp[results,Tryz.f238,go_sem]) rfl ?_
       exact .inr ⟨rfl,xs++xs',HE6.out,HJ6.out⟩
     ·have hd3:decide ((k:Int)<(x.args.len:Int))=false:=by simpa using hlt
      have HE2:Hid (nods xs=x.nod::preF x.args i1):=Lib.hid (by
       have hl:=Fs.drop_len x.args k
       have h:=HE.out
       cases hdr:x.args.drop k with
       |nil=>rw[hdr] at h;simpa[preF] using h
       |cons _ _ _ _ _ _=>rw[hdr] at hl;simp only[Fs.len] at hl;omega)
      gi_wp2
      refine bodyPost_ret (v:=.bool true) (by first|rfl|simp[results,Tryz.f238,go_sem]) rfl ?_
      exact .inl ⟨rfl,xs,by rw[HE2.out,←HGOAL.out],HJw.out,HKw.out⟩
  ·gi_wp2
   refine bodyPost_ret (v:=.bool false) (by first|rfl|simp[results,Tryz.f238,go_sem]) rfl ?_
   exact .inr ⟨rfl,[⟨x,HX.out⟩],by rw[nods_one];exact⟨_,rfl⟩,hx3⟩
end
section
open Go.RowKit Go.Shelf
attribute [local go_sem] Oper.semAt_some
set_option maxRecDepth 100000 in
set_option maxHeartbeats 4000000 in
theorem nodes237 (w0:World) (y lb fb:Nat) (x:NodW w0) (hi:x.1.ins=false) (hF:Forms w0) (hd:depF x.1.args<5000) (J Jx:List (NodW w0)→World→Prop) (W:World) (hJ:AbidesZ W.heap.size J) (hlb:w0.heap.size≤lb) (hlb2:lb<W.heap.size)
  (hY:∀m pre x W,J pre W→YieldAt Fence.wide m Tryz.prog y (encN x) W fun e W'=>
   (e=.returned (.bool true)∧J (pre++[x]) W'∧Fr (only lb) W.heap.size W W')∨(e=.returned (.bool false)∧Jx (pre++[x]) W'))
  (hB:Below w0.heap.size w0 W) (hfb:W.cell? ⟨fb,0,none⟩=some (.pointer (some ⟨x.1.b,x.1.off,none⟩))) (h0:J [] W):
  CallsIn Fence.wide 9 Tryz.prog 237 #[.func (.yield y) #[] #[],.pointer (some ⟨fb,0,none⟩)] W fun e W'=>(∃v,e=.returned v)∧
   ((∃xs,nods xs=x.1.nod::preF x.1.args (formL x.1.op).past∧J xs W')∨(∃pre,nods pre <+: x.1.nod::preF x.1.args (formL x.1.op).past∧Jx pre W')):=by
 have HB:=Lib.hid hB
 have HY:=Lib.hid hY
 have HJ0:=Lib.hid h0
 have HD:=Lib.hid hd
 have hfl:fb<W.heap.size:=World.block_lt_of_cell? W ⟨fb,0,none⟩ hfb
 clear hB hY h0 hd
 have hmf:∀(fn:Fn) (first cap:Array Value) (w:World),(Instr.makeFunc fn first cap).run Tryz.prog w=.ok (.func fn first cap) w:=fun _ _ _ _=>rfl
 have hfb1:=(World.cell?_alloc_past (w:=W) (.cells #[.func (.yield y) #[] #[]] 317) fb 0 hfl).trans hfb
 obtain⟨k0,k1,k2,k3,ks,kB⟩:=new4 W (.cells #[.func (.yield y) #[] #[]] 317) (.cells #[.pointer (some ⟨x.1.b,x.1.off,none⟩),.bool false] 319) (.cells #[.slice (some ⟨W.heap.size+1,0,none⟩) 1 1] 320) (.cells #[.func (.func 238) #[] #[.pointer (some ⟨W.heap.size+1+1,0,none⟩),.pointer (some ⟨W.heap.size,0,none⟩),.pointer (some ⟨W.heap.size+1+1+1,0,none⟩)]] 321)
 refine callsIn_wide.2 ?_
 go_enter Tryz.func237,Tryz.ntmps237
 go_wp2_with fail
 generalize (((W.alloc (.cells #[.func (.yield y) #[] #[]] 317)).alloc (.cells #[.pointer (some ⟨x.1.b,x.1.off,none⟩),.bool false] 319)).alloc (.cells #[.slice (some ⟨W.heap.size+1,0,none⟩) 1 1] 320)).alloc (.cells #[.func (.func 238) #[] #[.pointer (some ⟨W.heap.size+1+1,0,none⟩),.pointer (some ⟨W.heap.size,0,none⟩),.pointer (some ⟨W.heap.size+1+1+1,0,none⟩)]] 321)=W1 at*
 refine wp_loop_rounds 2 ?_
 rw[rounds_succ]
 have c2:=(cell_one k2).1
 have f2:=(cell_one k2).2
 have c1:W1.cell? ⟨W.heap.size+1,0,none⟩=some (.pointer (some ⟨x.1.b,x.1.off,none⟩)):=by simp[World.cell?,k1]
 have c1':W1.cell? ⟨W.heap.size+1,1,none⟩=some (.bool false):=by simp[World.cell?,k1]
 have c3:=(cell_one k3).1
 have KK:=Lib.hid (And.intro k0 (And.intro k1 (And.intro k2 (And.intro k3 (And.intro ks kB)))))
 clear k0 k1 k2 k3 kB hfb1
 go_upto_region 6 with fail
 have m1:=World.alloc_heap_new W1 (.cells #[.pointer (some ⟨x.1.b,x.1.off,none⟩),.bool false] 319)
 have mB:=(Below.refl W1.heap.size W1).alloc (Nat.le_refl _) (.cells #[.pointer (some ⟨x.1.b,x.1.off,none⟩),.bool false] 319)
 have mS:=World.size_alloc W1 (.cells #[.pointer (some ⟨x.1.b,x.1.off,none⟩),.bool false] 319)
 rw[ks] at m1 mS
 generalize W1.alloc (.cells #[.pointer (some ⟨x.1.b,x.1.off,none⟩),.bool false] 319)=W2 at*
 have q0:=(mB.block W.heap.size (by omega)).trans KK.out.1
 have q2:=(mB.block (W.heap.size+1+1) (by omega)).trans KK.out.2.2.1
 have q3:=(mB.block (W.heap.size+1+1+1) (by omega)).trans KK.out.2.2.2.1
 have HB2:Hid (Below W.heap.size W W2):=Lib.hid (KK.out.2.2.2.2.2.trans (mB.mono (by omega)))
 have c2:=(cell_one q2).1
 have f2:=(cell_one q2).2
 have QQ:=Lib.hid (And.intro q0 (And.intro q2 (And.intro q3 (And.intro m1 mS))))
 clear q0 q2 q3 m1 mB mS c1 c1' c3 KK
 go_upto_region 7 with fail
 obtain⟨W3,hW3⟩:∃W3,W3=W2.setCell ⟨W.heap.size+1+1,0,none⟩ (.slice (some ⟨W.heap.size+1,0,none⟩) 0 1):=⟨_,rfl⟩
 have r2:W3.heap[W.heap.size+1+1]? =some (.cells #[.slice (some ⟨W.heap.size+1,0,none⟩) 0 1] 320 (0,0)):=by rw[hW3];exact heap_setCell_same W2 _ 0 _ 320 _ QQ.out.2.1
 have r0:W3.heap[W.heap.size]? =some (.cells #[.func (.yield y) #[] #[]] 317 (0,0)):=by rw[hW3,heap_setCell_other W2 ⟨W.heap.size+1+1,0,none⟩ _ _ (by show W.heap.size≠W.heap.size+1+1;omega)];exact QQ.out.1
 have r3:W3.heap[W.heap.size+1+1+1]? =some (.cells #[.func (.func 238) #[] #[.pointer (some ⟨W.heap.size+1+1,0,none⟩),.pointer (some ⟨W.heap.size,0,none⟩),.pointer (some ⟨W.heap.size+1+1+1,0,none⟩)]] 321 (0,0)):=by
  rw[hW3,heap_setCell_other W2 ⟨W.heap.size+1+1,0,none⟩ _ _ (by show W.heap.size+1+1+1≠W.heap.size+1+1;omega)];exact QQ.out.2.2.1
 have r4:W3.heap[W.heap.size+1+1+1+1]? =some (.cells #[.pointer (some ⟨x.1.b,x.1.off,none⟩),.bool false] 319 (0,0)):=by
  rw[hW3,heap_setCell_other W2 ⟨W.heap.size+1+1,0,none⟩ _ _ (by show W.heap.size+1+1+1+1≠W.heap.size+1+1;omega)];exact QQ.out.2.2.2.1
 have rS:W3.heap.size=W.heap.size+1+1+1+1+1:=by rw[hW3];simpa using QQ.out.2.2.2.2
 have HB3:Hid (Below W.heap.size W W3):=Lib.hid (by rw[hW3];exact HB2.out.setCell (by show W.heap.size≤W.heap.size+1+1;omega) _)
 rw[←hW3]
 have HV:=Lib.hid (visit238 w0 y lb (W.heap.size+1+1) W.heap.size (W.heap.size+1+1+1) W.heap.size hF J Jx hJ hlb (by omega) (by omega) HY.out (x.1.args.nodes+1) x 0 (by omega) (by have:=HD.out;omega) [] W3
  (HB.out.trans (HB3.out.mono HB.out.size)) (by omega) (hJ _ W W3 none HJ0.out (grow_of HB3.out none) (fun r e=>by cases e)) (by omega) (by omega) (cell_one r0).1 (cell_one r3).1)
 rw[hi] at HV
 simp only[Bool.false_or,List.nil_append,Int.ofNat_zero] at HV
 have g3:=(cell_one r3).1
 have g4:W3.cell? ⟨W.heap.size+1+1+1+1,0,none⟩=some (.pointer (some ⟨x.1.b,x.1.off,none⟩)):=by simp[World.cell?,r4]
 have g5:W3.cell? ⟨W.heap.size+1+1+1+1,1,none⟩=some (.bool false):=by simp[World.cell?,r4]
 have HR:=Lib.hid (And.intro r2 rS)
 clear hW3 r0 r2 r3 r4 rS c2 f2 QQ HB2
 go_wp2_with fail
 refine(callsIn_wide.1 HV.out).mono ?_
 rintro e w6 (⟨rfl,xs,hx,hj,hk⟩|⟨rfl,xs,hx,hj⟩)
 ·have t2:=(hk.cell (a:=⟨W.heap.size+1+1,0,none⟩) (by show W.heap.size+1+1<W3.heap.size;have:=HR.out.2;omega) (by simp only[only];simp;omega)).trans (cell_one HR.out.1).1
  have HE:=Lib.hid (And.intro hx hj)
  clear g3 g4 g5 hx hj hk
  go_wp2_with fail
  rw[rounds_succ]
  go_wp2_with fail
  go_end0
  exact⟨⟨_,rfl⟩,.inl ⟨xs,HE.out.1,HE.out.2⟩⟩
 ·have HE:=Lib.hid (And.intro hx hj)
  clear g3 g4 g5 hx hj
  go_wp2_with fail
  refine bodyPost_ret (results_none rfl _ _ _) rfl ?_
  exact⟨⟨_,rfl⟩,.inr ⟨xs,HE.out.1,HE.out.2⟩⟩
theorem nodes154 (w:World) (p:Option Addr):Calls Tryz.prog 154 #[.pointer p] w fun e w'=>e=.returned (.func (.func 237) #[] #[.pointer (some ⟨w.heap.size,0,none⟩)])∧w'=w.alloc (.cells #[.pointer p] 122):=by
 have hmf:∀(fn:Fn) (first cap:Array Value) (w:World),(Instr.makeFunc fn first cap).run Tryz.prog w=.ok (.func fn first cap) w:=fun _ _ _ _=>rfl
 go_enter Tryz.func154,Tryz.ntmps154
 go_wp2
 go_ret
 exact⟨rfl,rfl⟩
theorem nodes_stops (w0 w:World) (fb:Nat) (x:NodW w0) (hi:x.1.ins=false) (hF:Forms w0) (hd:depF x.1.args<5000) (hB:Below w0.heap.size w0 w) (hfb:w.cell? ⟨fb,0,none⟩=some (.pointer (some ⟨x.1.b,x.1.off,none⟩))):
  SeqStopsZ Fence.wide 9 Tryz.prog 237 #[.pointer (some ⟨fb,0,none⟩)] (encN (w0:=w0)) (fun W W'=>Fr (only (w.heap.size+1)) W.heap.size W W') (fun ys=>nods ys=x.1.nod::preF x.1.args (formL x.1.op).past) (fun pre=>nods pre <+: x.1.nod::preF x.1.args (formL x.1.op).past) w:=fun l J Jx W hW hsz hJ _ hY h0=>
 nodes237 w0 l (w.heap.size+1) fb x hi hF hd J Jx W hJ (Nat.le_trans hB.size (by omega)) (by omega) (fun m pre x W hj=>yield_any m (hY pre x W hj)) (hB.trans (hW.mono hB.size)) ((hW.cell (p:=⟨fb,0,none⟩) (World.block_lt_of_cell? w ⟨fb,0,none⟩ hfb)).trans hfb) h0
end
section
open Go.RowKit Go.Shelf
attribute [local go_sem] Oper.semAt_some
theorem new2 (w:World) (o0 o1:Obj):((w.alloc o0).alloc o1).heap[w.heap.size]? =some o0∧((w.alloc o0).alloc o1).heap[w.heap.size+1]? =some o1∧((w.alloc o0).alloc o1).heap.size=w.heap.size+2∧Below w.heap.size w ((w.alloc o0).alloc o1):=by
 have h:((w.alloc o0).alloc o1).heap=(w.heap.push o0).push o1:=rfl
 refine⟨?_,?_,?_,?_⟩
 ·rw[h];simp only[Array.getElem?_push,Array.size_push];(repeat rw[if_neg (by omega)]);simp
 ·rw[h];simp only[Array.getElem?_push,Array.size_push];(repeat rw[if_neg (by omega)]);simp
 ·rw[h];simp
 ·exact((Below.refl _ w).alloc (Nat.le_refl _) _).alloc (by simp) _
def firstOp:Fs→Int
 | .nil=>0
 | .cons op _ _ _ _ _=>op
def bareN (x:Nod):Bool:=(formL x.op).loose&&shB x.op x.nm x.v x.bd x.args&& !((formL x.op).future&&x.ins)&& !(decide (x.op=4)&&decide (firstOp x.args≠3))
def bareB (op:Int) (nm:ByteArray) (v bd:Int) (args:Fs):Bool:=((⟨op,v,bd,nm,args,false⟩:Nod)::preF args (formL op).past).all bareN
theorem shB_len {op:Int} {nm:ByteArray} {v bd:Int} {args:Fs} (h:shB op nm v bd args=true) (ho:op=4):1≤args.len:=by
 subst ho
 unfold shB at h
 simp only[Bool.and_eq_true] at h
 have h2:=h.2
 unfold shp at h2
 by_cases hc:(args.len:Int)<(formL 4).least∨(formL 4).most<(args.len:Int)
 ·rw[if_pos hc] at h2;cases h2
 ·have:(formL 4).least=1:=rfl
  rw[this] at hc
  omega
theorem others_of {W W':World} (h:Below W.heap.size W W'):KeepsOthers W W':=KeepsOthers.of_grownBy (grow_of h none) (fun j o e=>by cases e)
theorem results102 {tmps:Array Value} {w:World} {g:Nat} {v:Value} (hp:tmps.getD 2 undef=.pointer (some ⟨g,0,none⟩)) (h0:w.cell? ⟨g,0,none⟩=some v):(results Tryz.f102 tmps).run Tryz.prog w=.ok v w:=by
 simp only[Array.getD_eq_getD_getElem?] at hp
 simp only[results,Tryz.f102]
 simp[asAddr,go_sem,h0,hp]
theorem bad_end {w W1 W Wk:World} {pre:List (NodW w)} {z:NodW w} (hB1:Below w.heap.size w W1) (hBW:Below W1.heap.size W1 W) (hB:Below W.heap.size W Wk) (hlt:w.heap.size<W1.heap.size) (hr0:W.heap[w.heap.size]? =some (.cells #[.bool false] 4 (0,0))) (h1:bareN z.1.nod=false):
  KeepsOthers W (Wk.setCell ⟨w.heap.size,0,none⟩ (.bool false))∧((nods (pre++[z])).all bareN=false∧(Wk.setCell ⟨w.heap.size,0,none⟩ (.bool false)).heap[w.heap.size]? =some (.cells #[.bool false] 4 (0,0))∧
   Below w.heap.size w (Wk.setCell ⟨w.heap.size,0,none⟩ (.bool false))∧W1.heap.size≤(Wk.setCell ⟨w.heap.size,0,none⟩ (.bool false)).heap.size):=by
 have hs:=hBW.size
 have hr:Wk.heap[w.heap.size]? =some (.cells #[.bool false] 4 (0,0)):=(hB.block _ (by omega)).trans hr0
 refine⟨(others_of hB).trans (KeepsOthers.setCell _ _ _),?_,heap_setCell_same Wk _ 0 _ 4 (.bool false) hr,?_,?_⟩
 ·rw[nods_append,nods_one,List.all_append];simp[h1]
 ·exact((hB1.trans (hBW.mono (by omega))).trans (hB.mono (by omega))).setCell (Nat.le_refl _) _
 ·have:=hB.size
  simp
  omega
theorem good_end {w W1 W Wk:World} {lb:Nat} {pre:List (NodW w)} {z:NodW w} (hBW:Below W1.heap.size W1 W) (hB:Below W.heap.size W Wk) (hlt:w.heap.size<W1.heap.size) (hr0:W.heap[w.heap.size]? =some (.cells #[.bool false] 4 (0,0))) (h0:(nods pre).all bareN=true) (h1:bareN z.1.nod=true):
  KeepsOthers W Wk∧Fr (only lb) W.heap.size W Wk∧((nods (pre++[z])).all bareN=true∧Wk.heap[w.heap.size]? =some (.cells #[.bool false] 4 (0,0))∧Below W1.heap.size W1 Wk):=by
 have hs:=hBW.size
 refine⟨others_of hB,Fr.of_below hB,?_,(hB.block _ (by omega)).trans hr0,hBW.trans (hB.mono hs)⟩
 rw[nods_append,nods_one,List.all_append,h0];simp[h1]
set_option maxRecDepth 100000 in
set_option maxHeartbeats 4000000 in
theorem bare102 {w:World} {b off:Nat} {op v bd:Int} {nm:ByteArray} {args rest:Fs} (hA:FAt w (.cons op nm v bd args rest) b off) (hb:b<w.heap.size) (hF:Forms w) (hK:Keys w) (hd:depF args<5000):
  CallsIn Fence.wide 10 Tryz.prog 102 #[.pointer (some ⟨b,off,none⟩)] w fun e w'=>e=.returned (.bool (bareB op nm v bd args))∧Below w.heap.size w w':=by
 obtain⟨x,hx⟩:∃x:NodW w,x=⟨⟨b,off,op,v,bd,nm,args,rest,false⟩,⟨hA,hb⟩⟩:=⟨_,rfl⟩
 have HF:=Lib.hid hF
 have HK:=Lib.hid hK
 have HX:=Lib.hid hx
 have HD:=Lib.hid hd
 have HA:=Lib.hid hA
 clear hF hK hx hd
 refine callsIn_of_wp_marks Tryz.func102 rfl trivial ?_ rfl
 simp only[Tryz.ntmps102,List.size_toArray,List.length_cons,List.length_nil,Nat.reduceAdd,Nat.reduceSub,Array.replicate_succ,Array.replicate_zero,List.push_toArray,List.append_toArray,List.nil_append,List.cons_append]
 gi_wp2
 refine⟨trivial,(callsIn_wide.2 (nodes154 _ _)).mono ?_⟩
 rintro e W1 ⟨rfl,rfl⟩
 obtain⟨k0,k1,kS,kB⟩:=new2 w (.cells #[.bool false] 4) (.cells #[.pointer (some ⟨b,off,none⟩)] 122)
 have HB1:=Lib.hid kB
 clear kB
 gi_wp2
 generalize (w.alloc (.cells #[.bool false] 4)).alloc (.cells #[.pointer (some ⟨b,off,none⟩)] 122)=W1 at*
 have hlst:Hid ((⟨op,v,bd,nm,args,false⟩:Nod)::preF args (formL op).past=x.1.nod::preF x.1.args (formL x.1.op).past):=Lib.hid (by rw[HX.out];rfl)
 refine wpIn_rangeFunc_ownZ (w:=W1) rfl (by omega) (gf:=237) (lb:= #[.pointer (some ⟨w.heap.size+1,0,none⟩)]) rfl trivial (enters_of Tryz.func237 (by kernel_rfl) rfl)
  (nodes_stops w W1 (w.heap.size+1) x (by rw[HX.out]) HF.out (by rw[HX.out];exact HD.out) HB1.out (by rw[HX.out];exact(cell_one k1).1))
  (fun h k=>h.trans (k.mono h.size))
  (fun W o'=>⟨rfl,rfl,rfl,by simp,fun k _ hk=>World.putObj_heap_other (by simp only[only] at hk;simp at hk;omega)⟩)
  (Below.refl _ _) (fun _=>rfl)
  (fun pre W=>(nods pre).all bareN=true∧W.heap[w.heap.size]? =some (.cells #[.bool false] 4 (0,0))∧Below W1.heap.size W1 W)
  (fun c pre W=>c=.ret∧(nods pre).all bareN=false∧W.heap[w.heap.size]? =some (.cells #[.bool false] 4 (0,0))∧Below w.heap.size w W∧W1.heap.size≤W.heap.size)
  (fun s A B row ⟨h0,h1,h2⟩ hg hr=>⟨h0,(hg.block _ (Array.getElem?_eq_some_iff.1 h1).1 (fun e=>by have:=hr _ e.symm;omega)).trans h1,h2.grown hg h2.size hr⟩)
  (fun c s A B row ⟨hc,h0,h1,h2,h3⟩ hg hr=>⟨hc,h0,(hg.block _ (Array.getElem?_eq_some_iff.1 h1).1 (fun e=>by have:=hr _ e.symm;omega)).trans h1,h2.grown hg h2.size (fun k e=>by have:=hr k e;omega),Nat.le_trans h3 hg.size⟩)
  ⟨rfl,k0,Below.refl _ _⟩
  (fun z=> {tmps:= #[.pointer (some ⟨b,off,none⟩),undef,.pointer (some ⟨w.heap.size,0,none⟩),.pointer (some ⟨z.1.b,z.1.off,none⟩),.bool z.1.ins,undef,undef,.pointer (some ⟨b,off,none⟩),.func (.func 237) #[] #[.pointer (some ⟨w.heap.size+1,0,none⟩)],.pointer (some ⟨z.1.b,z.1.off,none⟩),.bool z.1.ins,undef,undef,undef,undef,undef,undef,undef,undef,undef,undef,undef,undef,undef,undef,undef,undef,undef,undef,undef,undef,undef,undef,undef,undef,undef,undef,undef,undef,undef,undef,undef,undef,undef,undef,undef,undef,undef,undef],defers:=[]}) ?assign ?body ?done ?stop
 case assign=>
  intro y z W K hK
  unfold encN
  gi_wp2
  exact hK
 case body=>
  rintro y pre ⟨z,hz⟩ W ⟨hall,hr0,hBW⟩
  dsimp only
  have HBW:=Lib.hid hBW
  have HW:Hid (Below w.heap.size w W):=Lib.hid (HB1.out.trans (hBW.mono (by omega)))
  have HFO:=Lib.hid (formOf_any (w:=W) (op:=z.op) (HF.out.keep HW.out))
  have HZ:Hid (NodA.ok w z):=Lib.hid hz
  have HR0:=Lib.hid (And.intro hall hr0)
  have HLT:Hid (w.heap.size<W1.heap.size):=Lib.hid (by omega)
  have HBAD:=Lib.hid (fun(Wk:World) (hB:Below W.heap.size W Wk) (h1:bareN z.nod=false)=>bad_end (pre:=pre) (z:=⟨z,HZ.out⟩) HB1.out HBW.out hB HLT.out hr0 h1)
  have HGOOD:=Lib.hid (fun(Wk:World) (hB:Below W.heap.size W Wk) (h1:bareN z.nod=true)=>good_end (lb:=W1.heap.size+1) (pre:=pre) (z:=⟨z,HZ.out⟩) HBW.out hB HLT.out hr0 hall h1)
  obtain⟨c0, -⟩:=(FAt.keep HW.out hz.2 hz.1)
  have hzb:z.b<w.heap.size:=hz.2
  clear hBW hall hr0 k0 k1
  generalize hf:formL z.op=f at*
  have HFF:=Lib.hid hf
  clear hf
  obtain⟨f1,f2,f3,f4,f5,f6,f7,f8⟩:=f
  simp only[Form.agg] at HFO
  gi_wp2
  refine⟨trivial,(CallsIn.inRound y (callsIn_wide.2 HFO.out)).mono ?_⟩
  rintro e W2 ⟨rfl,hB2⟩
  have HB3:Hid (Below W.heap.size W (W2.alloc (.cells #[.int .i64 f1,.int .i64 f2,.int .i64 f3,.int .i64 f4,.bool f5,.bool f6,.bool f7,.bool f8] 227))):=Lib.hid (hB2.alloc hB2.size _)
  have d7:=cell_new W2 #[.int .i64 f1,.int .i64 f2,.int .i64 f3,.int .i64 f4,.bool f5,.bool f6,.bool f7,.bool f8] 227 7
  have d6:=cell_new W2 #[.int .i64 f1,.int .i64 f2,.int .i64 f3,.int .i64 f4,.bool f5,.bool f6,.bool f7,.bool f8] 227 6
  simp only[List.getElem?_toArray,List.getElem?_cons_succ,List.getElem?_cons_zero] at d6 d7
  have hs2:W2.heap.size<(W2.alloc (.cells #[.int .i64 f1,.int .i64 f2,.int .i64 f3,.int .i64 f4,.bool f5,.bool f6,.bool f7,.bool f8] 227)).heap.size:=by rw[World.size_alloc];omega
  clear c0 hB2 HFO
  gi_upto_region 5 with fail
  generalize W2.alloc (.cells #[.int .i64 f1,.int .i64 f2,.int .i64 f3,.int .i64 f4,.bool f5,.bool f6,.bool f7,.bool f8] 227)=W3 at*
  cases f8 with
  |false=>
   have h1:bareN z.nod=false:=by unfold bareN NodA.nod;rw[HFF.out];rfl
   have HE:=Lib.hid (HBAD.out W3 HB3.out h1)
   have hr3:W3.heap[w.heap.size]? =some (.cells #[.bool false] 4 (0,0)):=(HB3.out.block _ (by have:=HBW.out.size;omega)).trans HR0.out.2
   have s0:=(cell_one hr3).1
   have s1:=(cell_one hr3).2
   clear d6
   gi_wp2
   refine⟨trivial,?_⟩
   gi_wp2
   exact⟨HE.out.1,rfl,HE.out.2⟩
  |true=>
   have HSH:=Lib.hid (shaped_any (w:=W3) (HF.out.keep (HW.out.trans (HB3.out.mono HW.out.size))) (HK.out.keep (HW.out.trans (HB3.out.mono HW.out.size))) (FAt.keep (HW.out.trans (HB3.out.mono HW.out.size)) hzb HZ.out.1) (Nat.lt_of_lt_of_le hzb (HW.out.trans (HB3.out.mono HW.out.size)).size))
   have D6:=Lib.hid d6
   clear d6
   gi_wp2
   refine⟨trivial,(CallsIn.inRound y (callsIn_wide.2 HSH.out)).mono ?_⟩
   rintro e W4 ⟨rfl,hB4⟩
   have HB4:Hid (Below W.heap.size W W4):=Lib.hid (HB3.out.trans (hB4.mono HB3.out.size))
   have d6:=(hB4.cell (p:=⟨W2.heap.size,6,none⟩) hs2).trans D6.out
   have hr4:W4.heap[w.heap.size]? =some (.cells #[.bool false] 4 (0,0)):=(HB4.out.block _ (by have:=HBW.out.size;omega)).trans HR0.out.2
   have s0:=(cell_one hr4).1
   have s1:=(cell_one hr4).2
   obtain⟨c0, -, -, -, -, -,⟨aa,ca,c4, -,c7⟩, -⟩:=(FAt.keep (HW.out.trans (HB4.out.mono HW.out.size)) hzb HZ.out.1)
   have HC7:=Lib.hid c7
   have HSL:=Lib.hid (fun(h:shB z.op z.nm z.v z.bd z.args=true)=>shB_len h)
   have HBN:Hid (bareN z.nod=(shB z.op z.nm z.v z.bd z.args&& !(f7&&z.ins)&& !(decide (z.op=4)&&decide (firstOp z.args≠3)))):=Lib.hid (by unfold bareN NodA.nod;rw[HFF.out];simp)
   clear hB4 d7 hr4 c7 D6 HSH
   generalize shB z.op z.nm z.v z.bd z.args=sb at*
   cases sb with
   |false=>
    have HE:=Lib.hid (HBAD.out W4 HB4.out (by rw[HBN.out];rfl))
    clear d6 c0 c4
    gi_wp2
    exact⟨HE.out.1,rfl,HE.out.2⟩
   |true=>
    cases hfi:(f7&&z.ins) with
    |true=>
     have HE:=Lib.hid (HBAD.out W4 HB4.out (by rw[HBN.out,hfi];rfl))
     simp only[Bool.and_eq_true] at hfi
     obtain⟨rfl,hins⟩:=hfi
     clear c0 c4
     gi_wp2
     exact⟨HE.out.1,rfl,HE.out.2⟩
    |false=>
     have HBN2:Hid (bareN z.nod=!(decide (z.op=4)&&decide (firstOp z.args≠3))):=Lib.hid (by rw[HBN.out,hfi];simp)
     have hcase:f7=false∨(f7=true∧z.ins=false):=by cases f7<;>simp_all
     clear hfi
     rcases hcase with rfl|⟨rfl,hins⟩
     all_goals
      gi_upto_region 7 with fail
      by_cases h4:z.op=4
      ·have hd4:(z.op==4)=true:=by simpa using h4
       have hl:=HSL.out (by first|trivial|rfl) h4
       obtain⟨b',o',rfl,hb',hat⟩:=HC7.out (by omega)
       obtain⟨op',nm',v',bd',sub,hdr⟩:=Fs.drop_cons z.args 0 (by omega)
       have e0:z.args.drop 0=z.args:=by cases z.args<;>rfl
       rw[e0] at hdr
       have hfo:firstOp z.args=op':=by rw[hdr];rfl
       have c8:W4.cell? ⟨b',o',none⟩=some (.int .i64 op'):=by rw[hdr] at hat;exact hat.1
       have hl0:(0:Int)<(z.args.len:Int):=by omega
       rw[hfo] at HBN2
       clear hat e0 hdr
       by_cases h3:op'=3
       ·have hd3:(op' !=3)=false:=by simpa using h3
        have HE:=Lib.hid (HGOOD.out W4 HB4.out (by rw[HBN2.out,h3];simp))
        clear s0 s1 d6
        gi_wp2
        exact HE.out
       ·have hd3:(op' !=3)=true:=by simpa using h3
        have HE:=Lib.hid (HBAD.out W4 HB4.out (by rw[HBN2.out];simp[h3,h4]))
        clear d6
        gi_wp2
        exact⟨HE.out.1,rfl,HE.out.2⟩
      ·have hd4:(z.op==4)=false:=by simpa using h4
       have HE:=Lib.hid (HGOOD.out W4 HB4.out (by rw[HBN2.out];simp[h4]))
       clear s0 s1 d6
       gi_wp2
       exact HE.out
 case done=>
  rintro D ys W hD hS ⟨hall,hr0,hBW⟩ hK
  have hv:bareB op nm v bd args=true:=by unfold bareB;rw[hlst.out,←hS];exact hall
  have HVV:=Lib.hid hv
  have hne:w.heap.size≠D:=by omega
  have s0:=(cell_one hr0).1
  have s1:=(cell_one hr0).2
  have hKD:(W.setCell ⟨w.heap.size,0,none⟩ (.bool true)).heap[D]? =some (.deferred (some [])):=(heap_setCell_other W ⟨w.heap.size,0,none⟩ D _ (by show D≠w.heap.size;omega)).trans hK
  have hr2:((W.setCell ⟨w.heap.size,0,none⟩ (.bool true)).putObj D (.deferred none)).heap[w.heap.size]? =some (.cells #[.bool true] 4 (0,0)):=(World.putObj_heap_other hne).trans (heap_setCell_same W _ 0 _ 4 (.bool true) hr0)
  have HB:=Lib.hid (((HB1.out.trans (hBW.mono (by omega))).setCell (p:=⟨w.heap.size,0,none⟩) (Nat.le_refl _) (.bool true)).grown (grownBy_putObj' _ D (.deferred none)) (by have:=hBW.size;simp;omega) (fun k e=>by cases e;omega))
  gi_wp2
  refine⟨by simp,.inl ⟨_,_,rfl,run_takeDeferred hKD,?_⟩⟩
  exact⟨_,results102 rfl (cell_one hr2).1,by rw[HVV.out],HB.out⟩
 case stop=>
  rintro D c pre W hD hS ⟨rfl,hall,hr0,hBW,hsz⟩ hK
  have hv:bareB op nm v bd args=false:=by
   unfold bareB
   obtain⟨t,ht⟩:=hS
   rw[hlst.out,←ht,List.all_append,hall,Bool.false_and]
  have HVV:=Lib.hid hv
  have hne:w.heap.size≠D:=by omega
  have hr2:(W.putObj D (.deferred none)).heap[w.heap.size]? =some (.cells #[.bool false] 4 (0,0)):=(World.putObj_heap_other hne).trans hr0
  have HB:=Lib.hid (hBW.grown (grownBy_putObj' W D (.deferred none)) hBW.size (fun k e=>by cases e;omega))
  gi_wp2
  refine⟨by simp,.inl ⟨_,_,rfl,run_takeDeferred hK,?_⟩⟩
  exact⟨_,results102 rfl (cell_one hr2).1,by rw[HVV.out],HB.out⟩
end
section
open Go.RowKit
theorem Tryz.info391:(Tryz.prog.info? 391).map (fun i=>(i.zero,i.size,i.bytes))=some (some (.agg #[.slice none 0 0,.slice none 0 0]),2,48):=by kernel_rfl
theorem append_room (P:Program) (w:World) (t ty e T:TypeId) (i:TypeInfo) (ht:P.underlying t=some (.slice e)) (hi:P.info? e=some i)
  (g sLen sCap:Nat) (cur:Array Value) (hg:w.heap[g]? =some (.cells cur T (0,0)))
  (a:Addr) (m c:Nat) (news:List Value) (hl:news.length=m*i.size) (hnews:∀j u,news[j]? =some u→w.cell? (a.add j)=some u) (h1:∀u∈news,u.oneCell'=true)
  (hroom:sLen+m≤sCap) (hfit:sLen*i.size+news.length≤cur.size):
  (Builtin.append_ #[t,t] ty #[.slice (some ⟨g,0,none⟩) sLen sCap,.slice (some a) m c]).run P w=
   .ok (.slice (some ⟨g,0,none⟩) (sLen+m) sCap) (w.setRow g (cur.toList.take (sLen*i.size)++news++cur.toList.drop (sLen*i.size+news.length)).toArray):=by
 have hf:=run_firstCells_some (P:=P) w i.size m a m c news hl hnews
 have hst:=run_storeCells_at P g (sLen*i.size) T news 0 cur w hg (by simpa using hfit) h1
 simp only[Nat.add_zero] at hst
 simp[Builtin.append_,run_underlying ht,sizeOf,typeInfo,hi,Builtin.lenOf,hroom,hf,Addr.add_lit,hst]
theorem get_mid {l m r:List Value} {j:Nat} (h:j<l.length):(l++m++r)[j]? =l[j]? :=by
 rw[List.append_assoc,List.getElem?_append_left h]
theorem push391 {W:World} {B q cap nb:Nat} {cs:Array Value} {T:TypeId} {x y:Value} (hB:W.heap[B]? =some (.cells cs T (0,0))) (hcs:cs.size=cap*2) (hq:q≤cap) (hcm:cap≤maxLen) (hsm:q+1≤1000000)
  (hx:x.oneCell'=true) (hy:y.oneCell'=true) (n0:W.cell? ⟨nb,0,none⟩=some x) (n1:W.cell? ⟨nb,1,none⟩=some y):
  ∃B' cap' cs' T' W',(Builtin.append_ #[393,393] 393 #[.slice (some ⟨B,0,none⟩) q cap,.slice (some ⟨nb,0,none⟩) 1 1]).run Tryz.prog W=.ok (.slice (some ⟨B',0,none⟩) (q+1) cap') W'∧
   W'.heap[B']? =some (.cells cs' T' (0,0))∧cs'.size=cap'*2∧q+1≤cap'∧cap'≤maxLen∧(∀j,j<2*q→cs'[j]? =cs[j]?)∧cs'[2*q]? =some x∧cs'[2*q+1]? =some y∧W.grownBy W' (some B)∧W.drawn≤W'.drawn∧(B'=B∨W.heap.size≤B'):=by
 obtain⟨i,hi,hz,hs,hb⟩:=info_parts Tryz.info391
 have hnews:∀j u,([x,y]:List Value)[j]? =some u→W.cell? ((⟨nb,0,none⟩:Addr).add j)=some u:=by
  intro j u hj
  match j,hj with
  |0,hj=>simp at hj;subst hj;simpa[Addr.add] using n0
  |1,hj=>simp at hj;subst hj;simpa[Addr.add] using n1
  |j+2,hj=>simp at hj
 have h1:∀u∈([x,y]:List Value),u.oneCell'=true:=by
  intro u hu
  simp at hu
  rcases hu with rfl|rfl
  ·exact hx
  ·exact hy
 by_cases hr:q+1≤cap
 ·have hrun:=append_room Tryz.prog W 393 393 391 T i Tryz.underlying393 hi B q cap cs hB ⟨nb,0,none⟩ 1 1 [x,y] (by rw[hs];rfl) hnews h1 hr (by rw[hs,hcs];simp;omega)
  rw[hs] at hrun
  have hlt:(cs.toList.take (q*2)).length=2*q:=by rw[List.length_take,Array.length_toList,hcs];omega
  refine⟨B,cap,_,T,_,hrun,setRow_heap W B cs _ T _ hB,?_,hr,hcm,?_,?_,?_,⟨rfl,rfl,rfl,by simp[World.setRow],fun k _ hk=>setRow_other W B k _ (fun e=>hk (by rw[e]))⟩,Nat.le_refl _,.inl rfl⟩
  ·simp only[List.size_toArray,List.length_append,hlt,List.length_drop,Array.length_toList,hcs,List.length_cons,List.length_nil]
   omega
  ·intro j hj
   rw[List.getElem?_toArray,get_mid (by omega),List.getElem?_take,if_pos (by omega),Array.getElem?_toList]
  ·rw[List.getElem?_toArray,List.append_assoc,List.getElem?_append_right (by omega),hlt];simp
  ·rw[List.getElem?_toArray,List.append_assoc,List.getElem?_append_right (by omega),hlt]
   rw[show 2*q+1 - 2*q=1 by omega];rfl
 ·have hqc:q=cap:=by omega
  have holds:∀j u,cs.toList[j]? =some u→W.cell? ((⟨B,0,none⟩:Addr).add j)=some u:=by
   intro j u hj
   rw[Array.getElem?_toList] at hj
   rw[Addr.add_lit,Nat.zero_add]
   simp[World.cell?,hB,hj]
  have hrun:=run_append_grow (P:=Tryz.prog) W 393 393 391 i _ Tryz.underlying393 hi hz ⟨B,0,none⟩ q cap cs.toList (by rw[hs,Array.length_toList,hcs,hqc]) holds ⟨nb,0,none⟩ 1 1 [x,y] (by rw[hs];rfl) hnews (by omega) (by omega) (growslice_fits (by omega) (by rw[hb];omega))
  have hge:=grownCap_ge W (q+1) cap 391
  have hgm:=grownCap_le_maxLen W (q+1) cap 391 (by unfold maxLen;omega)
  refine⟨_,_,_,_,_,hrun,World.alloc_heap_new W.drew _,?_,hge,hgm,?_,?_,?_,⟨rfl,rfl,rfl,by simp,fun k hk _=>heap_alloc_old W.drew _ hk⟩,Nat.le_succ _,.inr (Nat.le_refl _)⟩
  ·simp only[Array.size_append,List.size_toArray,Array.length_toList,hcs,size_zeroCells,List.length_cons,List.length_nil]
   have e2:(Value.cells (.agg #[.slice none 0 0,.slice none 0 0])).size=2:=rfl
   rw[e2]
   omega
  ·intro j hj
   rw[Array.append_assoc,Array.getElem?_append_left (by simp;omega)]
  ·rw[Array.append_assoc,Array.getElem?_append_right (by simp;omega)]
   simp only[List.size_toArray,Array.length_toList,hcs,hqc,Nat.mul_comm,Nat.sub_self]
   rw[Array.getElem?_append_left (by simp)]
   rfl
  ·rw[Array.append_assoc,Array.getElem?_append_right (by simp;omega)]
   have e3:2*q+1 - cs.toList.toArray.size=1:=by simp[hcs,hqc];omega
   rw[e3,Array.getElem?_append_left (by simp)]
   rfl
end
section
open Go.RowKit
variable {n0:Nat}
theorem compareInt_eq {x y:Int} (h:Lib.compareInt x y=0):x=y:=by
 unfold Lib.compareInt at h
 split at h
 ·cases h
 ·split at h
  ·cases h
  ·omega
theorem compareInt_same (x:Int):Lib.compareInt x x=0:=by unfold Lib.compareInt;simp
theorem compareBytes_eq:∀ {a b:List UInt8},Lib.compareBytes a b=0→a=b
 |[],[],_=>rfl
 |[],_::_,h=>by cases h
 |_::_,[],h=>by cases h
 |a::l,b::m,h=>by
  unfold Lib.compareBytes at h
  split at h
  ·cases h
  ·split at h
   ·cases h
   ·rename_i h1 h2
    have:a=b:=by
     apply UInt8.toNat_inj.1
     have h1:¬a.toNat<b.toNat:=fun e=>h1 (UInt8.lt_iff_toNat_lt.2 e)
     have h2:¬b.toNat<a.toNat:=fun e=>h2 (UInt8.lt_iff_toNat_lt.2 e)
     omega
    rw[this,compareBytes_eq h]
theorem cmpKy_eq {a b:Ky} (h:cmpKy a b=0):a=b:=by
 obtain⟨o,n,v,d,k⟩:=a
 obtain⟨o',n',v',d',k'⟩:=b
 unfold cmpKy at h
 dsimp only at h
 by_cases h0:o=o'
 ·by_cases h1:n=n'
  ·by_cases h2:v=v'
   ·by_cases h3:d=d'
    ·simp only[h0,h1,h2,h3,ne_eq,not_true_eq_false,if_false] at h
     have:=compareInt_eq h
     have:k=k':=by omega
     rw[h0,h1,h2,h3,this]
    ·simp only[h0,h1,h2,h3,ne_eq,not_true_eq_false,if_false,not_false_eq_true,if_true] at h
     exact absurd (compareInt_eq h) h3
   ·simp only[h0,h1,h2,ne_eq,not_true_eq_false,if_false,not_false_eq_true,if_true] at h
    exact absurd (compareInt_eq h) h2
  ·simp only[h0,h1,ne_eq,not_true_eq_false,if_false,not_false_eq_true,if_true] at h
   exact absurd (ByteArray.ext (Array.toList_inj.1 (compareBytes_eq h))) h1
 ·simp only[h0,ne_eq,not_false_eq_true,if_true] at h
  exact absurd (compareInt_eq h) h0
theorem cmpKy_same (a:Ky):cmpKy a a=0:=by unfold cmpKy;simp[compareInt_same]
def keyF:Fs→List Ky
 | .nil=>[]
 | .cons op nm v bd args rest=>⟨op,nm,v,bd,args.len⟩::(keyF args++keyF rest)
def cmpL:List Ky→List Ky→Int
 |[],[]=>0
 |[],_::_=> -1
 |_::_,[]=>1
 |a::l,b::m=>if cmpKy a b=0 then cmpL l m else cmpKy a b
theorem cmpL_same (z x y:List Ky):cmpL (z++x) (z++y)=cmpL x y:=by
 induction z with
 |nil=>rfl
 |cons a z ih=>simp only[List.cons_append,cmpL,cmpKy_same,if_true,ih]
theorem FAt.det {w:World}:∀ {f g:Fs} {b off:Nat},f.len=g.len→FAt w f b off→FAt w g b off→f=g
 | .nil,.nil,_,_,_,_,_=>rfl
 | .nil,.cons ..,_,_,h,_,_=>by simp[Fs.len] at h
 | .cons ..,.nil,_,_,h,_,_=>by simp[Fs.len] at h
 | .cons op nm v bd args rest,.cons op' nm' v' bd' args' rest',b,off,h,⟨c0,c1,_,c2,c3,_,⟨a,c,c4,_,c7⟩,c8⟩,⟨d0,d1,_,d2,d3,_,⟨a',c',d4,_,d7⟩,d8⟩=>by
  rw[c0] at d0;rw[c1] at d1;rw[c2] at d2;rw[c3] at d3;rw[c4] at d4
  simp only[Option.some.injEq,Value.int.injEq,true_and,Value.string.injEq,Value.slice.injEq] at d0 d1 d2 d3 d4
  obtain⟨rfl,hl,rfl⟩:=d4
  subst d0 d1 d2 d3
  have hr:=FAt.det (by simpa[Fs.len] using h) c8 d8
  have ha:args=args':=by
   by_cases h0:args.len=0
   ·rw[Fs.nil_of h0,Fs.nil_of (show args'.len=0 by omega)]
   ·obtain⟨p,o,e,_,x1⟩:=c7 h0
    obtain⟨p',o',e',_,x2⟩:=d7 (by omega)
    rw[e] at e'
    simp only[Option.some.injEq,Addr.mk.injEq,and_true] at e'
    obtain⟨rfl,rfl⟩:=e'
    exact FAt.det hl x1 x2
  rw[hr,ha]
def stkF (p:Fs×Fs→Fs):List (Fs×Fs)→List Ky
 |[]=>[]
 |t::S=>stkF p S++keyF (p t)
theorem stkF_snoc (p:Fs×Fs→Fs):∀(S:List (Fs×Fs)) (t:Fs×Fs),stkF p (S++[t])=keyF (p t)++stkF p S
 |[],t=>by simp[stkF]
 |s::S,t=>by simp only[List.cons_append,stkF,stkF_snoc p S t,List.append_assoc]
def stkN:List (Fs×Fs)→Nat
 |[]=>0
 |t::S=>stkN S+2*t.1.nodes+1
theorem stkN_snoc:∀(S:List (Fs×Fs)) (t:Fs×Fs),stkN (S++[t])=stkN S+2*t.1.nodes+1
 |[],t=>by simp[stkN]
 |s::S,t=>by simp only[List.cons_append,stkN,stkN_snoc S t];omega
def Alone (w:World) (b:Nat):Prop:=∃cs t,w.heap[b]? =some (.cells cs t (0,0))
def Lone (n0:Nat) (w:World) (b:Nat):Prop:=n0≤b∧Alone w b
theorem Lone.keep {w w':World} {b:Nat} (h:Lone n0 w b) (hB:Below w.heap.size w w'):Lone n0 w' b:=by
 obtain⟨hn,cs,t,h⟩:=h
 exact⟨hn,cs,t,(hB.block b (Array.getElem?_eq_some_iff.1 h).1).trans h⟩
def PAt (n0:Nat) (w:World):Fs→Nat→Nat→Prop
 | .nil,_,_=>True
 | .cons _ _ _ _ args rest,b,off=>(∀p o l c,w.cell? ⟨b,off+4,none⟩=some (.slice (some ⟨p,o,none⟩) l c)→args.len≠0→Lone n0 w p∧PAt n0 w args p o)∧PAt n0 w rest b (off+5)
def PArgs (n0:Nat) (w:World) (a:Option Addr) (f:Fs):Prop:=∀p o,a=some ⟨p,o,none⟩→f.len≠0→Lone n0 w p∧PAt n0 w f p o
theorem PAt.keep {w w':World} (hB:Below w.heap.size w w'):∀ {f:Fs} {b off:Nat},b<w.heap.size→FAt w f b off→PAt n0 w f b off→PAt n0 w' f b off
 | .nil,_,_,_,_,_=>trivial
 | .cons op nm v bd args rest,b,off,hb,⟨_,_,_,_,_,_,⟨a,c,c6,_,c7⟩,c8⟩,⟨h1,h2⟩=>
  ⟨fun p o l c' e h0=>by
   have e0:=(hB.cell (p:=⟨b,off+4,none⟩) hb).symm.trans e
   obtain⟨b',o',ea,hb',h'⟩:=c7 h0
   subst ea
   rw[c6] at e0
   simp only[Option.some.injEq,Value.slice.injEq,Addr.mk.injEq,and_true] at e0
   obtain⟨⟨rfl,rfl⟩,rfl,rfl⟩:=e0
   obtain⟨k1,k2⟩:=h1 _ _ _ _ c6 h0
   exact⟨k1.keep hB,PAt.keep hB hb' h' k2⟩,PAt.keep hB hb c8 h2⟩
theorem PArgs.keep {w w':World} {a:Option Addr} {f:Fs} (h:PArgs n0 w a f) (hF:FArgs w a f) (hB:Below w.heap.size w w'):PArgs n0 w' a f:=fun p o e h0=>by
 obtain⟨b,o',e',hb,h'⟩:=hF h0
 rw[e] at e'
 simp only[Option.some.injEq,Addr.mk.injEq,and_true] at e'
 obtain⟨rfl,rfl⟩:=e'
 exact⟨(h p o e h0).1.keep hB,PAt.keep hB hb h' (h p o e h0).2⟩
def GV (n0:Nat) (w:World) (v:Value) (f:Fs):Prop:=FV w v f∧∀a l c,v=.slice a l c→PArgs n0 w a f
def StkC (n0:Nat) (w:World) (cs:Array Value) (S:List (Fs×Fs)):Prop:=∀j (h:j<S.length),S[j].1.len=S[j].2.len∧∃v1 v2,cs[2*j]? =some v1∧cs[2*j+1]? =some v2∧GV n0 w v1 S[j].1∧GV n0 w v2 S[j].2
theorem StkC.pop {w:World} {cs:Array Value} {S:List (Fs×Fs)} {t:Fs×Fs} (h:StkC n0 w cs (S++[t])):StkC n0 w cs S:=fun j hj=>by
 have:=h j (by simp;omega)
 rw[List.getElem_append_left hj] at this
 exact this
theorem StkC.top {w:World} {cs:Array Value} {S:List (Fs×Fs)} {t:Fs×Fs} (h:StkC n0 w cs (S++[t])):t.1.len=t.2.len∧∃v1 v2,cs[2*S.length]? =some v1∧cs[2*S.length+1]? =some v2∧GV n0 w v1 t.1∧GV n0 w v2 t.2:=by
 have:=h S.length (by simp)
 simpa using this
theorem StkC.push {w:World} {cs cs':Array Value} {S:List (Fs×Fs)} {f g:Fs} {v1 v2:Value} (h:StkC n0 w cs S) (he:∀j,j<2*S.length→cs'[j]? =cs[j]?) (hl:f.len=g.len) (h1:cs'[2*S.length]? =some v1) (h2:cs'[2*S.length+1]? =some v2) (hv1:GV n0 w v1 f) (hv2:GV n0 w v2 g):
  StkC n0 w cs' (S++[(f,g)]):=fun j hj=>by
 by_cases hlt:j<S.length
 ·rw[List.getElem_append_left hlt]
  obtain⟨e,x1,x2,y1,y2,z1,z2⟩:=h j hlt
  exact⟨e,x1,x2,(he _ (by omega)).trans y1,(he _ (by omega)).trans y2,z1,z2⟩
 ·have:j=S.length:=by simp at hj;omega
  subst this
  simp only[List.getElem_concat_length]
  exact⟨hl,v1,v2,h1,h2,hv1,hv2⟩
theorem pushN {W:World} {B q cap:Nat} {cs:Array Value} {T:TypeId} {x y:Value} (hB:W.heap[B]? =some (.cells cs T (0,0))) (hcs:cs.size=cap*2) (hq:q≤cap) (hcm:cap≤maxLen) (hsm:q+1≤1000000)
  (hx:x.oneCell'=true) (hy:y.oneCell'=true):
  ∃B' cap' cs' T' W',(Builtin.append_ #[393,393] 393 #[.slice (some ⟨B,0,none⟩) q cap,.slice (some ⟨W.heap.size,0,none⟩) 1 1]).run Tryz.prog (W.alloc (.cells #[x,y] 391))=.ok (.slice (some ⟨B',0,none⟩) (q+1) cap') W'∧
   W'.heap[B']? =some (.cells cs' T' (0,0))∧cs'.size=cap'*2∧q+1≤cap'∧cap'≤maxLen∧(∀j,j<2*q→cs'[j]? =cs[j]?)∧cs'[2*q]? =some x∧cs'[2*q+1]? =some y∧W.grownBy W' (some B)∧W.drawn≤W'.drawn∧(B'=B∨W.heap.size≤B'):=by
 have hlt:B<W.heap.size:=(Array.getElem?_eq_some_iff.1 hB).1
 obtain⟨B',cap',cs',T',W',h1,h2,h3,h4,h5,h6,h7,h8,h9,h10,h11⟩:=push391 (W:=W.alloc (.cells #[x,y] 391)) (nb:=W.heap.size) ((heap_alloc_old W _ hlt).trans hB) hcs hq hcm hsm hx hy (cell_new W #[x,y] 391 0) (cell_new W #[x,y] 391 1)
 refine⟨B',cap',cs',T',W',h1,h2,h3,h4,h5,h6,h7,h8,⟨h9.os,h9.tape,h9.output,by have:=h9.size;simp at this;omega,fun k hk hne=>(h9.block k (by simp;omega) hne).trans (heap_alloc_old W _ hk)⟩,h10,h11.imp id (fun h=>by simp at h;omega)⟩
def PtrNe (p1 o1 p2 o2:Nat):Prop:=¬(p1=p2∧o1=o2)
@[go_sem] theorem run_eql122_ne {w:World} {p1 o1 p2 o2:Nat} (h:PtrNe p1 o1 p2 o2) (h1:Alone w p1) (h2:Alone w p2):(binOp .eql 122 (.pointer (some ⟨p1,o1,none⟩)) (.pointer (some ⟨p2,o2,none⟩))).run Tryz.prog w=.ok (.bool false) w:=by
 obtain⟨c1,t1,h1⟩:=h1
 obtain⟨c2,t2,h2⟩:=h2
 obtain⟨j,hj,hjs⟩:∃j,Tryz.prog.info? 48=some j∧j.size≠0:=by
  have hs:(Tryz.prog.info? 48).map (·.size)=some 5:=by kernel_rfl
  cases hi:Tryz.prog.info? 48 with
  |none=>rw[hi] at hs;simp at hs
  |some j=>exact⟨j,rfl,by rw[hi] at hs;simp at hs;omega⟩
 exact run_eql_ptr_other w Tryz.underlying122 hj hjs (fun e=>h (by simpa using e)) h1 h2
@[go_sem] theorem run_eql122_same {w:World} {p o:Nat}:(binOp .eql 122 (.pointer (some ⟨p,o,none⟩)) (.pointer (some ⟨p,o,none⟩))).run Tryz.prog w=.ok (.bool true) w:=by
 obtain⟨j,hj⟩:∃j,Tryz.prog.info? 48=some j:=by
  have hs:(Tryz.prog.info? 48).map (·.size)=some 5:=by kernel_rfl
  cases hi:Tryz.prog.info? 48 with
  |none=>rw[hi] at hs;simp at hs
  |some j=>exact⟨j,rfl⟩
 exact run_eql_ptr_same w _ Tryz.underlying122 hj
theorem step_append_run {w:World} {ops:Array Oper} {o:Oper} {a:Act} {K:Act→World→Prop} {Q:Exit→Act→World→Prop} {E:Prop} (hgd:o.guard=none) (s x:Operand) (t tn:TypeId) (d:Option Tmp) (hd:o.dst=d)
  (ho:o.op=.call {callee:=.builtin .append,args:= #[s,x],argTypes:= #[t,tn]}) (vs vx:Value) (hs:a.eval s=vs) (hx:a.eval x=vx) (v':Value) (w':World) (hr:(Builtin.append_ #[t,tn] o.type #[vs,vx]).run Tryz.prog w=.ok v' w') (h:K (a.put d v') w'):
  if Region.wanted o (yielded ops a.tmps)=true then Oper.wp Tryz.prog o a w K Q else E:=by
 subst hd
 have e:Region.wanted o (yielded ops a.tmps)=true:=by simp[Region.wanted,hgd]
 rw[if_pos e]
 exact Lib.wp_append_run w s x t tn ho vs vx hs hx v' w' hr h
end
end Go.Proofs.YtckdgniecdfedaaGreatDoor
