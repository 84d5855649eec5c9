/- The walk of formula.within. The walks of formula.formOf and shaped. The walk of formula.shaped. -/
import Derived.Test.YtckdgniecdfedaaGreatDoorRzA
import Derived.RangeFuncNested
import Derived.RangeFuncBound
section
namespace Go.Proofs
@[go_sem] theorem run_store_func_own (P:Program) (w:World) (a:Addr) (m:Mode) (f:Fn) (x y:Array Value):(store a (.func f x y) m).run P w=stored P w a (.func f x y) m:=run_store P w a _ m rfl
end Go.Proofs
namespace Go.Proofs.YtckdgniecdfedaaGreatDoor
open Go.RowKit
theorem below_dim {w w':World} (h:Below w.heap.size w w'):Below w.heap.size w (dim (only w.heap.size) w'):=
 ⟨h.os,h.tape,h.output,by rw[dim_size];exact h.size,fun k hk=>by
  rw[dim_get,h.block k hk]
  have:only w.heap.size k=false:=by simp[only];omega
  simp[this]⟩
theorem below_fr {w w' w'':World} (h:Below w.heap.size w w') (k:Fr (only w.heap.size) w'.heap.size w' w''):Below w.heap.size w w'':=
 ⟨k.os.trans h.os,k.tape.trans h.tape,k.output.trans h.output,Nat.le_trans h.size k.size,fun i hi=>(k.block i (Nat.lt_of_lt_of_le hi h.size) (by simp[only];omega)).trans (h.block i hi)⟩
set_option maxRecDepth 100000 in
set_option maxHeartbeats 4000000 in
theorem within101 {w:World} {b off:Nat} {op v bd:Int} {nm:ByteArray} {args rest:Fs} {s d:Int} (hF:FAt w (.cons op nm v bd args rest) b off) (hb:b<w.heap.size) (s0:0≤s) (s1:s≤100000) (d0:0≤d) (d1:d≤100000):
  Calls Tryz.prog 101 #[.pointer (some ⟨b,off,none⟩),.int .i64 s,.int .i64 d] w fun e w'=>e=.returned (.bool (fitN args s d).1)∧Below w.heap.size w w':=by
 have HF:=Lib.hid hF
 have HB:=Lib.hid hb
 clear hF hb
 go_enter Tryz.func101,Tryz.ntmps101
 obtain⟨W1,hW1⟩:∃W1,W1=(w.alloc (.cells #[.int .i64 s] 3)).alloc (.cells #[.nilFunc] 222):=⟨_,rfl⟩
 have hz1:W1.heap[w.heap.size+1]? =some (.cells #[.nilFunc] 222 (0,0)):=by rw[hW1];have:=World.alloc_heap_new (w.alloc (.cells #[.int .i64 s] 3)) (.cells #[.nilFunc] 222);rw[World.size_alloc] at this;exact this
 have hz0:W1.heap[w.heap.size]? =some (.cells #[.int .i64 s] 3 (0,0)):=by rw[hW1,heap_alloc_old _ _ (by rw[World.size_alloc];omega)];exact World.alloc_heap_new w _
 have HB1:Hid (Below w.heap.size w W1):=Lib.hid (by rw[hW1];exact((Below.refl _ _).alloc (Nat.le_refl _) _).alloc (by rw[World.size_alloc];omega) _)
 have hs1:W1.heap.size=w.heap.size+2:=by rw[hW1,World.size_alloc,World.size_alloc]
 have y1:W1.cell? ⟨w.heap.size+1,0,none⟩=some .nilFunc:=by simp[World.cell?,hz1]
 have y2:W1.frozen? ⟨w.heap.size+1,0,none⟩=false:=by simp[World.frozen?,hz1]
 have HS:Hid (W1.heap[w.heap.size]? =some (.cells #[.int .i64 s] 3 (0,0))∧W1.heap[w.heap.size+1]? =some (.cells #[.nilFunc] 222 (0,0))):=Lib.hid ⟨hz0,hz1⟩
 clear hz0 hz1
 have z0:w.heap.size+1+1=w.heap.size+2:=rfl
 go_upto_region 2 with fail
 rw[←hW1]
 clear hW1
 go_upto_region 3 with fail
 have HC:Hid (Ctr (W1.setCell ⟨w.heap.size+1,0,none⟩ (.func (.func 153) #[] #[.pointer (some ⟨w.heap.size,0,none⟩),.pointer (some ⟨w.heap.size+1,0,none⟩)])) w.heap.size s):=Lib.hid (by
  unfold Ctr
  rw[heap_setCell_other W1 ⟨w.heap.size+1,0,none⟩ w.heap.size _ (by show w.heap.size≠w.heap.size+1;omega)]
  exact HS.out.1)
 have tcl:(W1.setCell ⟨w.heap.size+1,0,none⟩ (.func (.func 153) #[] #[.pointer (some ⟨w.heap.size,0,none⟩),.pointer (some ⟨w.heap.size+1,0,none⟩)])).cell? ⟨w.heap.size+1,0,none⟩=some (.func (.func 153) #[] #[.pointer (some ⟨w.heap.size,0,none⟩),.pointer (some ⟨w.heap.size+1,0,none⟩)]):=by
  have:=heap_setCell_same W1 (w.heap.size+1) 0 _ 222 (.func (.func 153) #[] #[.pointer (some ⟨w.heap.size,0,none⟩),.pointer (some ⟨w.heap.size+1,0,none⟩)]) HS.out.2
  simp[World.cell?,this]
 have HB2:Hid (Below w.heap.size w (W1.setCell ⟨w.heap.size+1,0,none⟩ (.func (.func 153) #[] #[.pointer (some ⟨w.heap.size,0,none⟩),.pointer (some ⟨w.heap.size+1,0,none⟩)]))):=Lib.hid (HB1.out.setCell (by simp) _)
 have hs2:(W1.setCell ⟨w.heap.size+1,0,none⟩ (.func (.func 153) #[] #[.pointer (some ⟨w.heap.size,0,none⟩),.pointer (some ⟨w.heap.size+1,0,none⟩)])).heap.size=w.heap.size+2:=by simpa using hs1
 generalize W1.setCell ⟨w.heap.size+1,0,none⟩ (.func (.func 153) #[] #[.pointer (some ⟨w.heap.size,0,none⟩),.pointer (some ⟨w.heap.size+1,0,none⟩)])=W2 at*
 have HCALL:=Lib.hid (fits153 _ op nm v bd args rest (Nat.le_refl _) W2 b off w.heap.size (w.heap.size+1) s d s0 s1 d0 d1 (FAt.keep (w:=w) (w':=dim (only w.heap.size) W2) (below_dim HB2.out) HB.out HF.out) (by rw[hs2];have:=HB.out;omega) (by have:=HB.out;omega) HC.out (by rw[hs2];omega) (by rw[dim_cell_of (by simp[only])];exact tcl))
 clear y1 y2 HS HB1 HC
 go_wp2_with fail
 refine HCALL.out.mono ?_
 rintro e w3 ⟨rfl,hC3,hF3⟩
 have HF3:=Lib.hid hF3
 clear hF3 hC3
 go_wp2_with fail
 go_ret
 exact⟨rfl,below_fr HB2.out HF3.out⟩
end Go.Proofs.YtckdgniecdfedaaGreatDoor
end
namespace Go.Proofs.YtckdgniecdfedaaGreatDoor
section
open Go.RowKit
structure Form where
 least:Int
 most:Int
 val:Int
 bound:Int
 named:Bool
 past:Bool
 future:Bool
 loose:Bool
def Form.agg (f:Form):Value:=.agg #[.int .i64 f.least,.int .i64 f.most,.int .i64 f.val,.int .i64 f.bound,.bool f.named,.bool f.past,.bool f.future,.bool f.loose]
def FormIn (w:World) (op:Nat) (f:Form):Prop:=0<w.heap.size∧w.cell? ⟨0,op*8,none⟩=some (.int .i64 f.least)∧w.cell? ⟨0,op*8+1,none⟩=some (.int .i64 f.most)∧w.cell? ⟨0,op*8+2,none⟩=some (.int .i64 f.val)∧w.cell? ⟨0,op*8+3,none⟩=some (.int .i64 f.bound)∧w.cell? ⟨0,op*8+4,none⟩=some (.bool f.named)∧w.cell? ⟨0,op*8+5,none⟩=some (.bool f.past)∧w.cell? ⟨0,op*8+6,none⟩=some (.bool f.future)∧w.cell? ⟨0,op*8+7,none⟩=some (.bool f.loose)
theorem FormIn.keep {w w':World} {op:Nat} {f:Form} (hB:Below w.heap.size w w') (h:FormIn w op f):FormIn w' op f:=by
 obtain⟨hz,h0,h1,h2,h3,h4,h5,h6,h7⟩:=h
 exact⟨Nat.lt_of_lt_of_le hz hB.size,(hB.cell hz).trans h0,(hB.cell hz).trans h1,(hB.cell hz).trans h2,(hB.cell hz).trans h3,(hB.cell hz).trans h4,(hB.cell hz).trans h5,(hB.cell hz).trans h6,(hB.cell hz).trans h7⟩
set_option maxRecDepth 100000 in
set_option maxHeartbeats 4000000 in
theorem formOf155 {w:World} {op:Nat} {f:Form} (o0:1≤op) (o1:op<20) (hf:FormIn w op f):
  Calls Tryz.prog 155 #[.int .i64 op] w fun e w'=>e=.returned (.tuple #[f.agg,.bool true])∧Below w.heap.size w w':=by
 obtain⟨l,m,v,b,n,p,u,o⟩:=f
 have HB:Hid (Below w.heap.size w (w.alloc (.cells #[.int .i64 0,.int .i64 0,.int .i64 0,.int .i64 0,.bool false,.bool false,.bool false,.bool false] 227))):=Lib.hid ((Below.refl _ _).alloc (Nat.le_refl _) _)
 obtain⟨-,h0,h1,h2,h3,h4,h5,h6,h7⟩:=hf.keep HB.out
 have HNW:Hid ((w.alloc (.cells #[.int .i64 0,.int .i64 0,.int .i64 0,.int .i64 0,.bool false,.bool false,.bool false,.bool false] 227)).heap[w.heap.size]? =some (.cells #[.int .i64 0,.int .i64 0,.int .i64 0,.int .i64 0,.bool false,.bool false,.bool false,.bool false] 227)):=Lib.hid (World.alloc_heap_new w _)
 have hd1:decide ((op:Int)<1)=false:=by simp;omega
 have hd2:decide ((20:Int)≤op)=false:=by simp;omega
 clear hf
 go_enter Tryz.func155,Tryz.ntmps155
 go_upto_region 3 with fail
 go_wp2_with fail
 clear h0 h1 h2 h3 h4 h5 h6 h7
 try simp only[Exit.inBlock,Exit.then]
 refine bodyPost_ret (v:=.tuple #[Form.agg ⟨l,m,v,b,n,p,u,o⟩,.bool true]) (by
  simp[results,Tryz.f155,go_sem,Form.agg]) rfl ?_
 exact⟨rfl,(Below.refl _ _).alloc (Nat.le_refl _) _⟩
end
section
open Go.RowKit
def shp (f:Form) (nm:ByteArray) (v bd:Int) (n:Nat) (nb:Bool):Bool:=
 if(n:Int)<f.least∨f.most<(n:Int) then false else if(v<0∨f.val<v)∨(bd<0∨f.bound<bd) then false else if f.named=true then nb else nm.toList.isEmpty
set_option maxRecDepth 100000 in
set_option maxHeartbeats 4000000 in
theorem shaped156 {w:World} {b off op:Nat} {v bd:Int} {nm:ByteArray} {args rest:Fs} {f:Form} {nb:Bool} (o0:1≤op) (o1:op<20) (hf:FormIn w op f) (hF:FAt w (.cons op nm v bd args rest) b off) (hb:b<w.heap.size)
  (hN:f.named=true→∀w',Below w.heap.size w w'→Calls Tryz.prog 172 #[.string nm] w' fun e w''=>e=.returned (.bool nb)∧Below w'.heap.size w' w''):
  Calls Tryz.prog 156 #[.pointer (some ⟨b,off,none⟩)] w fun e w'=>e=.returned (.bool (shp f nm v bd args.len nb))∧Below w.heap.size w w':=by
 obtain⟨c0,c1,c2,c3,c4,c5,⟨a,c,c6,cc,c7⟩,c8⟩:=hF
 have HC:=Lib.hid (formOf155 (w:=w) o0 o1 hf)
 have HN:=Lib.hid hN
 have HF:=Lib.hid (And.intro c0 (And.intro c1 (And.intro c3 (And.intro c4 c6))))
 have HB:=Lib.hid hb
 clear hN hb hf c1 c3 c4 c6 c7 c8
 obtain⟨least,most,val,bound,named,past,future,loose⟩:=f
 simp only[Form.agg] at HC
 simp only at HN
 go_enter Tryz.func156,Tryz.ntmps156
 go_wp2_with fail
 refine HC.out.mono ?_
 rintro e w1 ⟨rfl,hB1⟩
 have HB1:=Lib.hid hB1
 clear hB1
 go_upto_region 2 with fail
 have HNW:Hid ((w1.alloc (.cells #[.int .i64 least,.int .i64 most,.int .i64 val,.int .i64 bound,.bool named,.bool past,.bool future,.bool loose] 227)).heap[w1.heap.size]? =some (.cells #[.int .i64 least,.int .i64 most,.int .i64 val,.int .i64 bound,.bool named,.bool past,.bool future,.bool loose] 227)):=Lib.hid (World.alloc_heap_new w1 _)
 have HB2:Hid (Below w.heap.size w (w1.alloc (.cells #[.int .i64 least,.int .i64 most,.int .i64 val,.int .i64 bound,.bool named,.bool past,.bool future,.bool loose] 227))):=Lib.hid (HB1.out.alloc HB1.out.size _)
 generalize w1.alloc (.cells #[.int .i64 least,.int .i64 most,.int .i64 val,.int .i64 bound,.bool named,.bool past,.bool future,.bool loose] 227)=w2 at*
 have rd:∀w':World,Below (w1.heap.size+1) w2 w'→(w'.cell? ⟨b,off+1,none⟩=some (.string nm)∧w'.cell? ⟨b,off+2,none⟩=some (.int .i64 v)∧w'.cell? ⟨b,off+3,none⟩=some (.int .i64 bd)∧w'.cell? ⟨b,off+4,none⟩=some (.slice a args.len c))∧w'.cell? ⟨w1.heap.size,0,none⟩=some (.int .i64 least)∧w'.cell? ⟨w1.heap.size,1,none⟩=some (.int .i64 most)∧w'.cell? ⟨w1.heap.size,2,none⟩=some (.int .i64 val)∧w'.cell? ⟨w1.heap.size,3,none⟩=some (.int .i64 bound)∧w'.cell? ⟨w1.heap.size,4,none⟩=some (.bool named):=fun w' hq=>by
  have hbb:b<w1.heap.size+1:=Nat.lt_succ_of_lt (Nat.lt_of_lt_of_le HB.out HB1.out.size)
  have hh:=(hq.block w1.heap.size (Nat.lt_succ_self _)).trans HNW.out
  refine⟨⟨?_,?_,?_,?_⟩,?_,?_,?_,?_,?_⟩
  ·exact(hq.cell hbb).trans ((HB2.out.cell (p:=⟨b,off+1,none⟩) HB.out).trans HF.out.2.1)
  ·exact(hq.cell hbb).trans ((HB2.out.cell (p:=⟨b,off+2,none⟩) HB.out).trans HF.out.2.2.1)
  ·exact(hq.cell hbb).trans ((HB2.out.cell (p:=⟨b,off+3,none⟩) HB.out).trans HF.out.2.2.2.1)
  ·exact(hq.cell hbb).trans ((HB2.out.cell (p:=⟨b,off+4,none⟩) HB.out).trans HF.out.2.2.2.2)
  all_goals simp[World.cell?,hh]
 have RD:=Lib.hid rd
 clear rd HNW
 obtain⟨⟨s1,s2,s3,s4⟩,g0,g1,g2,g3,g4⟩:=RD.out w2 (Below.refl _ w2)
 have wl:IntKind.i64.wrap (args.len:Int)=args.len:=by rw[IntKind.wrap_i64];omega
 by_cases A1:(args.len:Int)<least
 ·have hd1:decide ((args.len:Int)<least)=true:=by simpa using A1
  have hr:shp ⟨least,most,val,bound,named,past,future,loose⟩ nm v bd args.len nb=false:=by unfold shp;rw[if_pos (.inl A1)]
  go_quiet (fail)
  have HQ:Hid (Below w.heap.size w (w2.drewN nq)):=Lib.hid (below_drawn HB2.out nq)
  generalize w2.drewN nq=w3 at*
  clear s1 s2 s3 s4 g0 g1 g2 g3 g4
  go_wp2_with fail
  go_ret
  exact⟨by first|rfl|exact congrArg (fun x=>Ending.returned (.bool x)) hr.symm,HQ.out⟩
 ·have hd1:decide ((args.len:Int)<least)=false:=by simpa using A1
  by_cases A2:most<(args.len:Int)
  ·have hd2:decide (most<(args.len:Int))=true:=by simpa using A2
   have hr:shp ⟨least,most,val,bound,named,past,future,loose⟩ nm v bd args.len nb=false:=by unfold shp;rw[if_pos (.inr A2)]
   go_quiet (fail)
   have HQ:Hid (Below w.heap.size w (w2.drewN nq)):=Lib.hid (below_drawn HB2.out nq)
   generalize w2.drewN nq=w3 at*
   clear s1 s2 s3 s4 g0 g1 g2 g3 g4
   go_wp2_with fail
   go_ret
   exact⟨by first|rfl|exact congrArg (fun x=>Ending.returned (.bool x)) hr.symm,HQ.out⟩
  ·have hd2:decide (most<(args.len:Int))=false:=by simpa using A2
   go_quiet (fail)
   have HQN:Hid (Below w.heap.size w (w2.drewN nq)):=Lib.hid (below_drawn HB2.out nq)
   have RDN:=RD.out (w2.drewN nq) (below_drawn (Below.refl _ w2) nq)
   generalize w2.drewN nq=w3 at*
   clear s1 s2 s3 s4 g0 g1 g2 g3 g4
   obtain⟨⟨s1,s2,s3,s4⟩,g0,g1,g2,g3,g4⟩:=RDN
   go_upto_region 4 with fail
   by_cases B1:v<0
   ·have e1:decide (v<0)=true:=by simpa using B1
    have hr:shp ⟨least,most,val,bound,named,past,future,loose⟩ nm v bd args.len nb=false:=by unfold shp;rw[if_neg (by simp only[not_or];exact⟨A1,A2⟩),if_pos (.inl (.inl B1))]
    go_quiet (fail)
    have HQ:Hid (Below w.heap.size w (w3.drewN nq)):=Lib.hid (below_drawn HQN.out nq)
    generalize w3.drewN nq=w4 at*
    clear s1 s2 s3 s4 g0 g1 g2 g3 g4
    go_wp2_with fail
    go_ret
    exact⟨by first|rfl|exact congrArg (fun x=>Ending.returned (.bool x)) hr.symm,HQ.out⟩
   ·have e1:decide (v<0)=false:=by simpa using B1
    by_cases B2:val<v
    ·have e2:decide (val<v)=true:=by simpa using B2
     have hr:shp ⟨least,most,val,bound,named,past,future,loose⟩ nm v bd args.len nb=false:=by unfold shp;rw[if_neg (by simp only[not_or];exact⟨A1,A2⟩),if_pos (.inl (.inr B2))]
     go_quiet (fail)
     have HQ:Hid (Below w.heap.size w (w3.drewN nq)):=Lib.hid (below_drawn HQN.out nq)
     generalize w3.drewN nq=w4 at*
     clear s1 s2 s3 s4 g0 g1 g2 g3 g4
     go_wp2_with fail
     go_ret
     exact⟨by first|rfl|exact congrArg (fun x=>Ending.returned (.bool x)) hr.symm,HQ.out⟩
    ·have e2:decide (val<v)=false:=by simpa using B2
     by_cases B3:bd<0
     ·have e3:decide (bd<0)=true:=by simpa using B3
      have hr:shp ⟨least,most,val,bound,named,past,future,loose⟩ nm v bd args.len nb=false:=by unfold shp;rw[if_neg (by simp only[not_or];exact⟨A1,A2⟩),if_pos (.inr (.inl B3))]
      go_quiet (fail)
      have HQ:Hid (Below w.heap.size w (w3.drewN nq)):=Lib.hid (below_drawn HQN.out nq)
      generalize w3.drewN nq=w4 at*
      clear s1 s2 s3 s4 g0 g1 g2 g3 g4
      go_wp2_with fail
      go_ret
      exact⟨by first|rfl|exact congrArg (fun x=>Ending.returned (.bool x)) hr.symm,HQ.out⟩
     ·have e3:decide (bd<0)=false:=by simpa using B3
      by_cases B4:bound<bd
      ·have e4:decide (bound<bd)=true:=by simpa using B4
       have hr:shp ⟨least,most,val,bound,named,past,future,loose⟩ nm v bd args.len nb=false:=by unfold shp;rw[if_neg (by simp only[not_or];exact⟨A1,A2⟩),if_pos (.inr (.inr B4))]
       go_quiet (fail)
       have HQ:Hid (Below w.heap.size w (w3.drewN nq)):=Lib.hid (below_drawn HQN.out nq)
       generalize w3.drewN nq=w4 at*
       clear s1 s2 s3 s4 g0 g1 g2 g3 g4
       go_wp2_with fail
       go_ret
       exact⟨by first|rfl|exact congrArg (fun x=>Ending.returned (.bool x)) hr.symm,HQ.out⟩
      ·have e4:decide (bound<bd)=false:=by simpa using B4
       have hr:shp ⟨least,most,val,bound,named,past,future,loose⟩ nm v bd args.len nb=if named=true then nb else nm.toList.isEmpty:=by unfold shp;rw[if_neg (by simp only[not_or];exact⟨A1,A2⟩),if_neg (by simp only[not_or];exact⟨⟨B1,B2⟩,B3,B4⟩)]
       go_quiet (fail)
       have HR:=Lib.hid hr
       have HQ:Hid (Below w.heap.size w (w3.drewN nq)):=Lib.hid (below_drawn HQN.out nq)
       have s1:(w3.drewN nq).cell? ⟨b,off+1,none⟩=some (.string nm):=s1
       have g4:(w3.drewN nq).cell? ⟨w1.heap.size,4,none⟩=some (.bool named):=g4
       generalize w3.drewN nq=w4 at*
       clear s2 s3 s4 g0 g1 g2 g3 hr
       cases named with
       |true=>
        go_wp2_with fail
        refine(HN.out trivial w4 HQ.out).mono ?_
        rintro e w5 ⟨rfl,hB5⟩
        have HQ5:Hid (Below w.heap.size w w5):=Lib.hid (HQ.out.trans (hB5.mono HQ.out.size))
        clear hB5 s1 g4
        go_wp2_with fail
        go_ret
        exact⟨congrArg (fun x=>Ending.returned (.bool x)) (HR.out.trans (if_pos trivial)).symm,HQ5.out⟩
       |false=>
        go_wp2_with fail
        go_ret
        exact⟨congrArg (fun x=>Ending.returned (.bool x)) (HR.out.trans (if_neg (by simp))).symm,HQ.out⟩
end
section
open Go.RowKit
def Form.none:Form:=⟨0,0,0,0,false,false,false,false⟩
set_option maxRecDepth 100000 in
set_option maxHeartbeats 4000000 in
theorem formOf155_out {w:World} {op:Int} (o:op<1∨20≤op):
  Calls Tryz.prog 155 #[.int .i64 op] w fun e w'=>e=.returned (.tuple #[Form.none.agg,.bool false])∧Below w.heap.size w w':=by
 by_cases h1:op<1
 ·have hd1:decide (op<1)=true:=by simpa using h1
  go_enter Tryz.func155,Tryz.ntmps155
  go_wp2_with fail
  try simp only[Exit.inBlock,Exit.then]
  refine bodyPost_ret (v:=.tuple #[Form.none.agg,.bool false]) (by
   simp[results,Tryz.f155,go_sem,Form.agg,Form.none]) rfl ?_
  exact⟨rfl,(Below.refl _ _).alloc (Nat.le_refl _) _⟩
 ·have hd1:decide (op<1)=false:=by simpa using h1
  have hd2:decide ((20:Int)≤op)=true:=by simp;omega
  go_enter Tryz.func155,Tryz.ntmps155
  go_wp2_with fail
  try simp only[Exit.inBlock,Exit.then]
  refine bodyPost_ret (v:=.tuple #[Form.none.agg,.bool false]) (by
   simp[results,Tryz.f155,go_sem,Form.agg,Form.none]) rfl ?_
  exact⟨rfl,(Below.refl _ _).alloc (Nat.le_refl _) _⟩
set_option maxRecDepth 100000 in
set_option maxHeartbeats 4000000 in
theorem shaped156_out {w:World} {b off:Nat} {op v bd:Int} {nm:ByteArray} {args rest:Fs} (o:op<1∨20≤op) (hF:FAt w (.cons op nm v bd args rest) b off) (hb:b<w.heap.size):
  Calls Tryz.prog 156 #[.pointer (some ⟨b,off,none⟩)] w fun e w'=>e=.returned (.bool false)∧Below w.heap.size w w':=by
 obtain⟨c0, -⟩:=hF
 have HC:=Lib.hid (formOf155_out (w:=w) o)
 have HB:=Lib.hid hb
 clear hb
 simp only[Form.agg,Form.none] at HC
 go_enter Tryz.func156,Tryz.ntmps156
 go_wp2_with fail
 refine HC.out.mono ?_
 rintro e w1 ⟨rfl,hB1⟩
 have HB1:=Lib.hid hB1
 clear hB1
 go_upto_region 2 with fail
 have HB2:Hid (Below w.heap.size w (w1.alloc (.cells #[.int .i64 0,.int .i64 0,.int .i64 0,.int .i64 0,.bool false,.bool false,.bool false,.bool false] 227))):=Lib.hid (HB1.out.alloc HB1.out.size _)
 generalize w1.alloc (.cells #[.int .i64 0,.int .i64 0,.int .i64 0,.int .i64 0,.bool false,.bool false,.bool false,.bool false] 227)=w2 at*
 go_quiet (fail)
 have HQ:Hid (Below w.heap.size w (w2.drewN nq)):=Lib.hid (below_drawn HB2.out nq)
 generalize w2.drewN nq=w3 at*
 clear c0
 go_wp2_with fail
 go_ret
 exact⟨rfl,HQ.out⟩
end
section
open Go.RowKit
def keyL:List (List UInt8):=[[105,110,112,117,116],[111,117,116,112,117,116],[112,97,114,116],[97,115,115,117,109,101],[103,117,97,114,97,110,116,101,101],[116,114,117,101],[102,97,108,115,101],[97,100,100],[100,114,111,112],[114,101,112,108,97,99,101]]
def keyAt (j:Nat):ByteArray:=⟨(keyL.getD j []).toArray⟩
def Keys (w:World):Prop:=2<w.heap.size∧∀j,j<10→w.cell? ⟨2,j,none⟩=some (.string (keyAt j))
def chr (i:Nat) (c:UInt8):Bool:=(97≤c.toNat&&c.toNat≤122)||(0<i&&((48≤c.toNat&&c.toNat≤57)||c.toNat=95))
def nameB (s:ByteArray):Bool:=decide (1≤s.size∧s.size≤12)&&(List.range s.size).all (fun i=>chr i (s.data.toList.getD i 0))&&(List.range 10).all (fun j=>!(decide (keyAt j=s)))
theorem all_step {k:Nat} {p:Nat→Bool} (h:(List.range k).all p=true) (hp:p k=true):(List.range (k+1)).all p=true:=by
 rw[List.range_succ,List.all_append,h];simp[hp]
theorem all_stop {n k:Nat} {p:Nat→Bool} (hk:k<n) (hp:p k=false):(List.range n).all p=false:=by
 rw[List.all_eq_false]
 exact⟨k,List.mem_range.2 hk,by simp[hp]⟩
theorem nameB_no {s:ByteArray} (h:¬(1≤s.size∧s.size≤12)):nameB s=false:=by unfold nameB;rw[decide_eq_false h];rfl
theorem run_index333 {A:Array Value} {k:Nat} {v:Value} (hk:k<10) (h:A[k]? =some v) (w:World):(Instr.index 333 (.agg A) (.int .i64 (k:Int))).run Tryz.prog w=.ok v w:=by
 have h0:(0:Int)≤(k:Int)∧(k:Int)<10:=by omega
 simp[Instr.index,run_underlying Tryz.underlying333,asIntOf,go_sem,part,Tryz.sizeOf9,Tryz.isAgg9,h0,h]
 omega
theorem bytes_ne {a b:ByteArray} (h:a≠b):(a.toList==b.toList)=false:=by
 rw[beq_eq_false_iff_ne]
 intro e
 rw[ByteArray.toList_eq,ByteArray.toList_eq] at e
 exact h (ByteArray.ext (Array.toList_inj.1 e))
set_option maxRecDepth 100000 in
set_option maxHeartbeats 4000000 in
theorem name172 {w:World} {s:ByteArray} (hs:s.size≤9223372036854775807) (hK:Keys w):
  Calls Tryz.prog 172 #[.string s] w fun e w'=>e=.returned (.bool (nameB s))∧Below w.heap.size w w':=by
 have K:=Lib.hid hK
 clear hK
 by_cases h1:(s.size:Int)<1
 ·have HN:=Lib.hid (nameB_no (s:=s) (by omega))
  have hd1:decide ((s.size:Int)<1)=true:=by simpa using h1
  go_enter Tryz.func172,Tryz.ntmps172
  go_wp2_with fail
  go_step3
  go_wp2_with fail
  rw[Exit.noGoto_ret]
  go_ret
  exact⟨congrArg (fun x=>Ending.returned (.bool x)) HN.out.symm,Below.refl _ _⟩
 ·have hd1:decide ((s.size:Int)<1)=false:=by simpa using h1
  by_cases h2:(12:Int)<s.size
  ·have HN:=Lib.hid (nameB_no (s:=s) (by omega))
   have hd2:decide ((12:Int)<s.size)=true:=by simpa using h2
   go_enter Tryz.func172,Tryz.ntmps172
   go_wp2_with fail
   go_step3
   go_wp2_with fail
   rw[Exit.noGoto_ret]
   go_ret
   exact⟨congrArg (fun x=>Ending.returned (.bool x)) HN.out.symm,Below.refl _ _⟩
  ·have hd2:decide ((12:Int)<s.size)=false:=by simpa using h2
   go_enter Tryz.func172,Tryz.ntmps172
   go_wp2_with fail
   go_step3
   go_upto_region 4 with fail
   go_step3
   go_upto_block 0 with fail
   go_cut [3] from 18 to 46 (fun x wx=>wx=w∧x=.bool ((List.range s.size).all (fun i=>chr i (s.data.toList.getD i 0))))
   case first=>
    go_wp2_with fail
    go_loopw [3,18] (fun o i wr=>∃k:Nat,k≤s.size∧i=.int .i64 k∧o=.bool true∧wr=w∧Hid ((List.range k).all (fun i=>chr i (s.data.toList.getD i 0))=true)) (fun _ i _=>s.size - (intOf i).toNat)
    case atStart=>exact⟨0,Nat.zero_le _,rfl,rfl,rfl,Lib.hid rfl⟩
    case round=>
     obtain⟨k,hk,rfl,rfl,rfl,HA⟩:=hrel
     by_cases hlt:(k:Int)<(s.size:Int)
     ·have hd:decide ((k:Int)<(s.size:Int))=true:=by simpa using hlt
      have hk':k<s.size:=by omega
      have HG:Hid (s.data.toList.getD k 0=s[k]):=Lib.hid (by
       have hl:s.data.toList.length=s.size:=Array.length_toList
       rw[List.getD_eq_getElem?_getD,List.getElem?_eq_getElem (by omega)]
       rfl)
      have HS:=Lib.hid (fun(hc:chr k s[k]=true)=>all_step HA.out (by show chr k (s.data.toList.getD k 0)=true;rw[HG.out];exact hc))
      have HT:=Lib.hid (fun(hc:chr k s[k]=false)=>all_stop (p:=fun i=>chr i (s.data.toList.getD i 0)) hk' (by show chr k (s.data.toList.getD k 0)=false;rw[HG.out];exact hc))
      clear HG HA
      go_wp2_with fail
      all_goals first
       |(refine⟨⟨k+1,by omega,by go_num,rfl,trivial,Lib.hid (HS.out ?_)⟩,by simp[intOf];omega⟩
         unfold chr;simp at*;omega)
       |(go_meet
         case rel=>
          refine⟨rfl,congrArg Value.bool (HT.out ?_).symm⟩
          unfold chr;simp at*;omega)
     ·have hd:decide ((k:Int)<(s.size:Int))=false:=by simpa using hlt
      have:k=s.size:=by omega
      subst this
      go_wp2_with fail
      go_meet
      case rel=>exact⟨rfl,congrArg Value.bool HA.out.symm⟩
   case rest=>
    obtain⟨rfl,rfl⟩:=hcut
    generalize hall:(List.range s.size).all (fun i=>chr i (s.data.toList.getD i 0))=ok
    have HO:=Lib.hid hall
    clear hall
    have kk:=K.out.2
    have t0:=kk 0 (by omega)
    have t1:=kk 1 (by omega)
    have t2:=kk 2 (by omega)
    have t3:=kk 3 (by omega)
    have t4:=kk 4 (by omega)
    have t5:=kk 5 (by omega)
    have t6:=kk 6 (by omega)
    have t7:=kk 7 (by omega)
    have t8:=kk 8 (by omega)
    have t9:=kk 9 (by omega)
    clear kk
    go_wp2_with fail
    clear t0 t1 t2 t3 t4 t5 t6 t7 t8 t9
    generalize hA:(#[Value.string (keyAt 0),Value.string (keyAt 1),Value.string (keyAt 2),Value.string (keyAt 3),Value.string (keyAt 4),Value.string (keyAt 5),Value.string (keyAt 6),Value.string (keyAt 7),Value.string (keyAt 8),Value.string (keyAt 9)]:Array Value)=A
    have HA:Hid (∀j,j<10→A[j]? =some (.string (keyAt j))):=Lib.hid (fun j hj=>by
     subst hA
     match j,hj with
     |0,_=>rfl|1,_=>rfl|2,_=>rfl|3,_=>rfl|4,_=>rfl|5,_=>rfl|6,_=>rfl|7,_=>rfl|8,_=>rfl|9,_=>rfl)
    have hsz:A.size=10:=by subst hA;rfl
    clear hA
    go_loopw [48] (fun i wr=>∃k:Nat,k≤10∧i=.int .i64 k∧wr=wc∧Hid ((List.range k).all (fun j=>!(decide (keyAt j=s)))=true)) (fun i _=>10 - (intOf i).toNat)
    case atStart=>exact⟨0,Nat.zero_le _,rfl,rfl,Lib.hid rfl⟩
    case round=>
     obtain⟨k,hk,rfl,rfl,HR⟩:=hrel
     by_cases hlt:(k:Int)<10
     ·have hd:decide ((k:Int)<10)=true:=by simpa using hlt
      have hk':k<10:=by omega
      have hg:=run_index333 hk' (HA.out k hk') wr
      generalize hkey:keyAt k=key at*
      have HY:=Lib.hid hkey
      clear hkey
      by_cases he:key=s
      ·have hb:(key.toList==s.toList)=true:=by rw[he];simp
       have HN:Hid (nameB s=false):=Lib.hid (by
        unfold nameB
        rw[all_stop (n:=10) (k:=k) (p:=fun j=>!(decide (keyAt j=s))) hk' (by rw[HY.out,he];simp),Bool.and_false])
       go_wp2_with fail
       rw[Exit.noGoto_ret]
       go_ret
       exact⟨congrArg (fun x=>Ending.returned (.bool x)) HN.out.symm,Below.refl _ _⟩
      ·have hb:(key.toList==s.toList)=false:=bytes_ne he
       have HS:Hid ((List.range (k+1)).all (fun j=>!(decide (keyAt j=s)))=true):=Lib.hid (all_step HR.out (by rw[HY.out];simpa using he))
       go_wp2_with fail
       exact⟨⟨k+1,by omega,by go_num,trivial,HS⟩,by simp[intOf];omega⟩
     ·have hd:decide ((k:Int)<10)=false:=by simpa using hlt
      have:k=10:=by omega
      subst this
      have HN:Hid (nameB s=ok):=Lib.hid (by
       unfold nameB
       rw[HR.out,HO.out,decide_eq_true (by omega)]
       simp)
      go_wp2_with fail
      try rw[Exit.noGoto_ret]
      go_ret
      exact⟨congrArg (fun x=>Ending.returned (.bool x)) HN.out.symm,Below.refl _ _⟩
end
section
open Go.RowKit
structure Ky where
 op:Int
 nm:ByteArray
 v:Int
 bd:Int
 n:Nat
def cmpKy (a b:Ky):Int:=
 if a.op≠b.op then Lib.compareInt a.op b.op else if a.nm≠b.nm then Lib.compareBytes a.nm.data.toList b.nm.data.toList else if a.v≠b.v then Lib.compareInt a.v b.v else if a.bd≠b.bd then Lib.compareInt a.bd b.bd else Lib.compareInt a.n b.n
theorem drewN_two (w:World) (a b:Nat):(w.drewN a).drewN b=w.drewN (a+b):=by simp[World.drewN,Nat.add_assoc]
set_option maxRecDepth 100000 in
set_option maxHeartbeats 4000000 in
theorem compare307 {w:World} {b off b' off':Nat} {op v bd op' v' bd':Int} {nm nm':ByteArray} {args rest args' rest':Fs} (hF:FAt w (.cons op nm v bd args rest) b off) (hG:FAt w (.cons op' nm' v' bd' args' rest') b' off'):
  Calls Tryz.prog 307 #[.pointer (some ⟨b,off,none⟩),.pointer (some ⟨b',off',none⟩)] w fun e w'=>e=.returned (.int .i64 (cmpKy ⟨op,nm,v,bd,args.len⟩ ⟨op',nm',v',bd',args'.len⟩))∧∃q,w'=w.drewN q:=by
 have q216:∀x y W,Calls Tryz.prog 216 #[.int .i64 x,.int .i64 y] W fun e w'=>e=.returned (.int .i64 (Lib.compareInt x y))∧∃m,w'=W.drewN m:=fun x y W=>(Tryz.cmp_Compare_int x y W).mono fun e w' h=>⟨h.1,0,h.2⟩
 have q354:∀x y W,Calls Tryz.prog 354 #[.string x,.string y] W fun e w'=>e=.returned (.int .i64 (Lib.compareBytes x.data.toList y.data.toList))∧∃m,w'=W.drewN m:=fun x y W=>(Tryz.strings_Compare x y W).mono fun e w' h=>⟨h.1,0,h.2⟩
 obtain⟨c0,c1, -,c2,c3,c5,⟨a,c,c4, -, -⟩, -⟩:=hF
 obtain⟨d0,d1, -,d2,d3,d5,⟨a',c',d4, -, -⟩, -⟩:=hG
 by_cases h0:op=op'
 ·have b0:(op !=op')=false:=by simp[h0]
  by_cases h1:nm=nm'
  ·have b1:(nm.toList==nm'.toList)=true:=by rw[h1];simp
   by_cases h2:v=v'
   ·have b2:(v !=v')=false:=by simp[h2]
    by_cases h3:bd=bd'
    ·have b3:(bd !=bd')=false:=by simp[h3]
     have HC:Hid (cmpKy ⟨op,nm,v,bd,args.len⟩ ⟨op',nm',v',bd',args'.len⟩=Lib.compareInt args.len args'.len):=Lib.hid (by unfold cmpKy;simp[h0,h1,h2,h3])
     generalize hr:cmpKy ⟨op,nm,v,bd,args.len⟩ ⟨op',nm',v',bd',args'.len⟩=r at*
     clear hr
     go_enter Tryz.func307,Tryz.ntmps307
     go_upto_region 1 with fail
     go_quiet (fail)
     have c0:(w.drewN nq).cell? ⟨b,off,none⟩=some (.int .i64 op):=c0
     have c1:(w.drewN nq).cell? ⟨b,off+1,none⟩=some (.string nm):=c1
     have c2:(w.drewN nq).cell? ⟨b,off+2,none⟩=some (.int .i64 v):=c2
     have c3:(w.drewN nq).cell? ⟨b,off+3,none⟩=some (.int .i64 bd):=c3
     have c4:(w.drewN nq).cell? ⟨b,off+4,none⟩=some (.slice a args.len c):=c4
     have d0:(w.drewN nq).cell? ⟨b',off',none⟩=some (.int .i64 op'):=d0
     have d1:(w.drewN nq).cell? ⟨b',off'+1,none⟩=some (.string nm'):=d1
     have d2:(w.drewN nq).cell? ⟨b',off'+2,none⟩=some (.int .i64 v'):=d2
     have d3:(w.drewN nq).cell? ⟨b',off'+3,none⟩=some (.int .i64 bd'):=d3
     have d4:(w.drewN nq).cell? ⟨b',off'+4,none⟩=some (.slice a' args'.len c'):=d4
     have HW1:Hid (∃q,w.drewN nq=w.drewN q):=Lib.hid ⟨nq,rfl⟩
     generalize w.drewN nq=w1 at*
     go_upto_region 3 with fail
     go_quiet (fail)
     have c0:(w1.drewN nq).cell? ⟨b,off,none⟩=some (.int .i64 op):=c0
     have c1:(w1.drewN nq).cell? ⟨b,off+1,none⟩=some (.string nm):=c1
     have c2:(w1.drewN nq).cell? ⟨b,off+2,none⟩=some (.int .i64 v):=c2
     have c3:(w1.drewN nq).cell? ⟨b,off+3,none⟩=some (.int .i64 bd):=c3
     have c4:(w1.drewN nq).cell? ⟨b,off+4,none⟩=some (.slice a args.len c):=c4
     have d0:(w1.drewN nq).cell? ⟨b',off',none⟩=some (.int .i64 op'):=d0
     have d1:(w1.drewN nq).cell? ⟨b',off'+1,none⟩=some (.string nm'):=d1
     have d2:(w1.drewN nq).cell? ⟨b',off'+2,none⟩=some (.int .i64 v'):=d2
     have d3:(w1.drewN nq).cell? ⟨b',off'+3,none⟩=some (.int .i64 bd'):=d3
     have d4:(w1.drewN nq).cell? ⟨b',off'+4,none⟩=some (.slice a' args'.len c'):=d4
     have HW2:Hid (∃q,w1.drewN nq=w.drewN q):=Lib.hid (by obtain⟨q,hq⟩:=HW1.out;exact⟨q+nq,by rw[hq,drewN_two]⟩)
     generalize w1.drewN nq=w2 at*
     go_upto_region 5 with fail
     go_quiet (fail)
     have c0:(w2.drewN nq).cell? ⟨b,off,none⟩=some (.int .i64 op):=c0
     have c1:(w2.drewN nq).cell? ⟨b,off+1,none⟩=some (.string nm):=c1
     have c2:(w2.drewN nq).cell? ⟨b,off+2,none⟩=some (.int .i64 v):=c2
     have c3:(w2.drewN nq).cell? ⟨b,off+3,none⟩=some (.int .i64 bd):=c3
     have c4:(w2.drewN nq).cell? ⟨b,off+4,none⟩=some (.slice a args.len c):=c4
     have d0:(w2.drewN nq).cell? ⟨b',off',none⟩=some (.int .i64 op'):=d0
     have d1:(w2.drewN nq).cell? ⟨b',off'+1,none⟩=some (.string nm'):=d1
     have d2:(w2.drewN nq).cell? ⟨b',off'+2,none⟩=some (.int .i64 v'):=d2
     have d3:(w2.drewN nq).cell? ⟨b',off'+3,none⟩=some (.int .i64 bd'):=d3
     have d4:(w2.drewN nq).cell? ⟨b',off'+4,none⟩=some (.slice a' args'.len c'):=d4
     have HW3:Hid (∃q,w2.drewN nq=w.drewN q):=Lib.hid (by obtain⟨q,hq⟩:=HW2.out;exact⟨q+nq,by rw[hq,drewN_two]⟩)
     generalize w2.drewN nq=w3 at*
     go_upto_region 7 with fail
     go_quiet (fail)
     have c0:(w3.drewN nq).cell? ⟨b,off,none⟩=some (.int .i64 op):=c0
     have c1:(w3.drewN nq).cell? ⟨b,off+1,none⟩=some (.string nm):=c1
     have c2:(w3.drewN nq).cell? ⟨b,off+2,none⟩=some (.int .i64 v):=c2
     have c3:(w3.drewN nq).cell? ⟨b,off+3,none⟩=some (.int .i64 bd):=c3
     have c4:(w3.drewN nq).cell? ⟨b,off+4,none⟩=some (.slice a args.len c):=c4
     have d0:(w3.drewN nq).cell? ⟨b',off',none⟩=some (.int .i64 op'):=d0
     have d1:(w3.drewN nq).cell? ⟨b',off'+1,none⟩=some (.string nm'):=d1
     have d2:(w3.drewN nq).cell? ⟨b',off'+2,none⟩=some (.int .i64 v'):=d2
     have d3:(w3.drewN nq).cell? ⟨b',off'+3,none⟩=some (.int .i64 bd'):=d3
     have d4:(w3.drewN nq).cell? ⟨b',off'+4,none⟩=some (.slice a' args'.len c'):=d4
     have HW4:Hid (∃q,w3.drewN nq=w.drewN q):=Lib.hid (by obtain⟨q,hq⟩:=HW3.out;exact⟨q+nq,by rw[hq,drewN_two]⟩)
     generalize w3.drewN nq=w4 at*
     go_upto_region 9 with fail
     go_quiet ((go_at_call 216;with_reducible exact Calls.quiet_of (q216 _ _ _)))
     go_wp2_with fail
     go_ret
     exact⟨congrArg (fun x=>Ending.returned (.int .i64 x)) HC.out.symm,(by obtain⟨q,hq⟩:=HW4.out;exact⟨q+nq,by rw[hq,drewN_two]⟩)⟩
    ·have b3:(bd !=bd')=true:=by simp[h3]
     have HC:Hid (cmpKy ⟨op,nm,v,bd,args.len⟩ ⟨op',nm',v',bd',args'.len⟩=Lib.compareInt bd bd'):=Lib.hid (by unfold cmpKy;simp[h0,h1,h2,h3])
     generalize hr:cmpKy ⟨op,nm,v,bd,args.len⟩ ⟨op',nm',v',bd',args'.len⟩=r at*
     clear hr
     go_enter Tryz.func307,Tryz.ntmps307
     go_upto_region 1 with fail
     go_quiet (fail)
     have c0:(w.drewN nq).cell? ⟨b,off,none⟩=some (.int .i64 op):=c0
     have c1:(w.drewN nq).cell? ⟨b,off+1,none⟩=some (.string nm):=c1
     have c2:(w.drewN nq).cell? ⟨b,off+2,none⟩=some (.int .i64 v):=c2
     have c3:(w.drewN nq).cell? ⟨b,off+3,none⟩=some (.int .i64 bd):=c3
     have c4:(w.drewN nq).cell? ⟨b,off+4,none⟩=some (.slice a args.len c):=c4
     have d0:(w.drewN nq).cell? ⟨b',off',none⟩=some (.int .i64 op'):=d0
     have d1:(w.drewN nq).cell? ⟨b',off'+1,none⟩=some (.string nm'):=d1
     have d2:(w.drewN nq).cell? ⟨b',off'+2,none⟩=some (.int .i64 v'):=d2
     have d3:(w.drewN nq).cell? ⟨b',off'+3,none⟩=some (.int .i64 bd'):=d3
     have d4:(w.drewN nq).cell? ⟨b',off'+4,none⟩=some (.slice a' args'.len c'):=d4
     have HW1:Hid (∃q,w.drewN nq=w.drewN q):=Lib.hid ⟨nq,rfl⟩
     generalize w.drewN nq=w1 at*
     go_upto_region 3 with fail
     go_quiet (fail)
     have c0:(w1.drewN nq).cell? ⟨b,off,none⟩=some (.int .i64 op):=c0
     have c1:(w1.drewN nq).cell? ⟨b,off+1,none⟩=some (.string nm):=c1
     have c2:(w1.drewN nq).cell? ⟨b,off+2,none⟩=some (.int .i64 v):=c2
     have c3:(w1.drewN nq).cell? ⟨b,off+3,none⟩=some (.int .i64 bd):=c3
     have c4:(w1.drewN nq).cell? ⟨b,off+4,none⟩=some (.slice a args.len c):=c4
     have d0:(w1.drewN nq).cell? ⟨b',off',none⟩=some (.int .i64 op'):=d0
     have d1:(w1.drewN nq).cell? ⟨b',off'+1,none⟩=some (.string nm'):=d1
     have d2:(w1.drewN nq).cell? ⟨b',off'+2,none⟩=some (.int .i64 v'):=d2
     have d3:(w1.drewN nq).cell? ⟨b',off'+3,none⟩=some (.int .i64 bd'):=d3
     have d4:(w1.drewN nq).cell? ⟨b',off'+4,none⟩=some (.slice a' args'.len c'):=d4
     have HW2:Hid (∃q,w1.drewN nq=w.drewN q):=Lib.hid (by obtain⟨q,hq⟩:=HW1.out;exact⟨q+nq,by rw[hq,drewN_two]⟩)
     generalize w1.drewN nq=w2 at*
     go_upto_region 5 with fail
     go_quiet (fail)
     have c0:(w2.drewN nq).cell? ⟨b,off,none⟩=some (.int .i64 op):=c0
     have c1:(w2.drewN nq).cell? ⟨b,off+1,none⟩=some (.string nm):=c1
     have c2:(w2.drewN nq).cell? ⟨b,off+2,none⟩=some (.int .i64 v):=c2
     have c3:(w2.drewN nq).cell? ⟨b,off+3,none⟩=some (.int .i64 bd):=c3
     have c4:(w2.drewN nq).cell? ⟨b,off+4,none⟩=some (.slice a args.len c):=c4
     have d0:(w2.drewN nq).cell? ⟨b',off',none⟩=some (.int .i64 op'):=d0
     have d1:(w2.drewN nq).cell? ⟨b',off'+1,none⟩=some (.string nm'):=d1
     have d2:(w2.drewN nq).cell? ⟨b',off'+2,none⟩=some (.int .i64 v'):=d2
     have d3:(w2.drewN nq).cell? ⟨b',off'+3,none⟩=some (.int .i64 bd'):=d3
     have d4:(w2.drewN nq).cell? ⟨b',off'+4,none⟩=some (.slice a' args'.len c'):=d4
     have HW3:Hid (∃q,w2.drewN nq=w.drewN q):=Lib.hid (by obtain⟨q,hq⟩:=HW2.out;exact⟨q+nq,by rw[hq,drewN_two]⟩)
     generalize w2.drewN nq=w3 at*
     go_upto_region 7 with fail
     go_quiet (fail)
     have c0:(w3.drewN nq).cell? ⟨b,off,none⟩=some (.int .i64 op):=c0
     have c1:(w3.drewN nq).cell? ⟨b,off+1,none⟩=some (.string nm):=c1
     have c2:(w3.drewN nq).cell? ⟨b,off+2,none⟩=some (.int .i64 v):=c2
     have c3:(w3.drewN nq).cell? ⟨b,off+3,none⟩=some (.int .i64 bd):=c3
     have c4:(w3.drewN nq).cell? ⟨b,off+4,none⟩=some (.slice a args.len c):=c4
     have d0:(w3.drewN nq).cell? ⟨b',off',none⟩=some (.int .i64 op'):=d0
     have d1:(w3.drewN nq).cell? ⟨b',off'+1,none⟩=some (.string nm'):=d1
     have d2:(w3.drewN nq).cell? ⟨b',off'+2,none⟩=some (.int .i64 v'):=d2
     have d3:(w3.drewN nq).cell? ⟨b',off'+3,none⟩=some (.int .i64 bd'):=d3
     have d4:(w3.drewN nq).cell? ⟨b',off'+4,none⟩=some (.slice a' args'.len c'):=d4
     have HW4:Hid (∃q,w3.drewN nq=w.drewN q):=Lib.hid (by obtain⟨q,hq⟩:=HW3.out;exact⟨q+nq,by rw[hq,drewN_two]⟩)
     generalize w3.drewN nq=w4 at*
     go_upto_region 8 with fail
     go_quiet ((go_at_call 216;with_reducible exact Calls.quiet_of (q216 _ _ _)))
     go_wp2_with fail
     go_ret
     exact⟨congrArg (fun x=>Ending.returned (.int .i64 x)) HC.out.symm,(by obtain⟨q,hq⟩:=HW4.out;exact⟨q+nq,by rw[hq,drewN_two]⟩)⟩
   ·have b2:(v !=v')=true:=by simp[h2]
    have HC:Hid (cmpKy ⟨op,nm,v,bd,args.len⟩ ⟨op',nm',v',bd',args'.len⟩=Lib.compareInt v v'):=Lib.hid (by unfold cmpKy;simp[h0,h1,h2])
    generalize hr:cmpKy ⟨op,nm,v,bd,args.len⟩ ⟨op',nm',v',bd',args'.len⟩=r at*
    clear hr
    go_enter Tryz.func307,Tryz.ntmps307
    go_upto_region 1 with fail
    go_quiet (fail)
    have c0:(w.drewN nq).cell? ⟨b,off,none⟩=some (.int .i64 op):=c0
    have c1:(w.drewN nq).cell? ⟨b,off+1,none⟩=some (.string nm):=c1
    have c2:(w.drewN nq).cell? ⟨b,off+2,none⟩=some (.int .i64 v):=c2
    have c3:(w.drewN nq).cell? ⟨b,off+3,none⟩=some (.int .i64 bd):=c3
    have c4:(w.drewN nq).cell? ⟨b,off+4,none⟩=some (.slice a args.len c):=c4
    have d0:(w.drewN nq).cell? ⟨b',off',none⟩=some (.int .i64 op'):=d0
    have d1:(w.drewN nq).cell? ⟨b',off'+1,none⟩=some (.string nm'):=d1
    have d2:(w.drewN nq).cell? ⟨b',off'+2,none⟩=some (.int .i64 v'):=d2
    have d3:(w.drewN nq).cell? ⟨b',off'+3,none⟩=some (.int .i64 bd'):=d3
    have d4:(w.drewN nq).cell? ⟨b',off'+4,none⟩=some (.slice a' args'.len c'):=d4
    have HW1:Hid (∃q,w.drewN nq=w.drewN q):=Lib.hid ⟨nq,rfl⟩
    generalize w.drewN nq=w1 at*
    go_upto_region 3 with fail
    go_quiet (fail)
    have c0:(w1.drewN nq).cell? ⟨b,off,none⟩=some (.int .i64 op):=c0
    have c1:(w1.drewN nq).cell? ⟨b,off+1,none⟩=some (.string nm):=c1
    have c2:(w1.drewN nq).cell? ⟨b,off+2,none⟩=some (.int .i64 v):=c2
    have c3:(w1.drewN nq).cell? ⟨b,off+3,none⟩=some (.int .i64 bd):=c3
    have c4:(w1.drewN nq).cell? ⟨b,off+4,none⟩=some (.slice a args.len c):=c4
    have d0:(w1.drewN nq).cell? ⟨b',off',none⟩=some (.int .i64 op'):=d0
    have d1:(w1.drewN nq).cell? ⟨b',off'+1,none⟩=some (.string nm'):=d1
    have d2:(w1.drewN nq).cell? ⟨b',off'+2,none⟩=some (.int .i64 v'):=d2
    have d3:(w1.drewN nq).cell? ⟨b',off'+3,none⟩=some (.int .i64 bd'):=d3
    have d4:(w1.drewN nq).cell? ⟨b',off'+4,none⟩=some (.slice a' args'.len c'):=d4
    have HW2:Hid (∃q,w1.drewN nq=w.drewN q):=Lib.hid (by obtain⟨q,hq⟩:=HW1.out;exact⟨q+nq,by rw[hq,drewN_two]⟩)
    generalize w1.drewN nq=w2 at*
    go_upto_region 5 with fail
    go_quiet (fail)
    have c0:(w2.drewN nq).cell? ⟨b,off,none⟩=some (.int .i64 op):=c0
    have c1:(w2.drewN nq).cell? ⟨b,off+1,none⟩=some (.string nm):=c1
    have c2:(w2.drewN nq).cell? ⟨b,off+2,none⟩=some (.int .i64 v):=c2
    have c3:(w2.drewN nq).cell? ⟨b,off+3,none⟩=some (.int .i64 bd):=c3
    have c4:(w2.drewN nq).cell? ⟨b,off+4,none⟩=some (.slice a args.len c):=c4
    have d0:(w2.drewN nq).cell? ⟨b',off',none⟩=some (.int .i64 op'):=d0
    have d1:(w2.drewN nq).cell? ⟨b',off'+1,none⟩=some (.string nm'):=d1
    have d2:(w2.drewN nq).cell? ⟨b',off'+2,none⟩=some (.int .i64 v'):=d2
    have d3:(w2.drewN nq).cell? ⟨b',off'+3,none⟩=some (.int .i64 bd'):=d3
    have d4:(w2.drewN nq).cell? ⟨b',off'+4,none⟩=some (.slice a' args'.len c'):=d4
    have HW3:Hid (∃q,w2.drewN nq=w.drewN q):=Lib.hid (by obtain⟨q,hq⟩:=HW2.out;exact⟨q+nq,by rw[hq,drewN_two]⟩)
    generalize w2.drewN nq=w3 at*
    go_upto_region 6 with fail
    go_quiet ((go_at_call 216;with_reducible exact Calls.quiet_of (q216 _ _ _)))
    go_wp2_with fail
    go_ret
    exact⟨congrArg (fun x=>Ending.returned (.int .i64 x)) HC.out.symm,(by obtain⟨q,hq⟩:=HW3.out;exact⟨q+nq,by rw[hq,drewN_two]⟩)⟩
  ·have b1:(nm.toList==nm'.toList)=false:=bytes_ne h1
   have HC:Hid (cmpKy ⟨op,nm,v,bd,args.len⟩ ⟨op',nm',v',bd',args'.len⟩=Lib.compareBytes nm.data.toList nm'.data.toList):=Lib.hid (by unfold cmpKy;simp[h0,h1])
   generalize hr:cmpKy ⟨op,nm,v,bd,args.len⟩ ⟨op',nm',v',bd',args'.len⟩=r at*
   clear hr
   go_enter Tryz.func307,Tryz.ntmps307
   go_upto_region 1 with fail
   go_quiet (fail)
   have c0:(w.drewN nq).cell? ⟨b,off,none⟩=some (.int .i64 op):=c0
   have c1:(w.drewN nq).cell? ⟨b,off+1,none⟩=some (.string nm):=c1
   have c2:(w.drewN nq).cell? ⟨b,off+2,none⟩=some (.int .i64 v):=c2
   have c3:(w.drewN nq).cell? ⟨b,off+3,none⟩=some (.int .i64 bd):=c3
   have c4:(w.drewN nq).cell? ⟨b,off+4,none⟩=some (.slice a args.len c):=c4
   have d0:(w.drewN nq).cell? ⟨b',off',none⟩=some (.int .i64 op'):=d0
   have d1:(w.drewN nq).cell? ⟨b',off'+1,none⟩=some (.string nm'):=d1
   have d2:(w.drewN nq).cell? ⟨b',off'+2,none⟩=some (.int .i64 v'):=d2
   have d3:(w.drewN nq).cell? ⟨b',off'+3,none⟩=some (.int .i64 bd'):=d3
   have d4:(w.drewN nq).cell? ⟨b',off'+4,none⟩=some (.slice a' args'.len c'):=d4
   have HW1:Hid (∃q,w.drewN nq=w.drewN q):=Lib.hid ⟨nq,rfl⟩
   generalize w.drewN nq=w1 at*
   go_upto_region 3 with fail
   go_quiet (fail)
   have c0:(w1.drewN nq).cell? ⟨b,off,none⟩=some (.int .i64 op):=c0
   have c1:(w1.drewN nq).cell? ⟨b,off+1,none⟩=some (.string nm):=c1
   have c2:(w1.drewN nq).cell? ⟨b,off+2,none⟩=some (.int .i64 v):=c2
   have c3:(w1.drewN nq).cell? ⟨b,off+3,none⟩=some (.int .i64 bd):=c3
   have c4:(w1.drewN nq).cell? ⟨b,off+4,none⟩=some (.slice a args.len c):=c4
   have d0:(w1.drewN nq).cell? ⟨b',off',none⟩=some (.int .i64 op'):=d0
   have d1:(w1.drewN nq).cell? ⟨b',off'+1,none⟩=some (.string nm'):=d1
   have d2:(w1.drewN nq).cell? ⟨b',off'+2,none⟩=some (.int .i64 v'):=d2
   have d3:(w1.drewN nq).cell? ⟨b',off'+3,none⟩=some (.int .i64 bd'):=d3
   have d4:(w1.drewN nq).cell? ⟨b',off'+4,none⟩=some (.slice a' args'.len c'):=d4
   have HW2:Hid (∃q,w1.drewN nq=w.drewN q):=Lib.hid (by obtain⟨q,hq⟩:=HW1.out;exact⟨q+nq,by rw[hq,drewN_two]⟩)
   generalize w1.drewN nq=w2 at*
   go_upto_region 4 with fail
   go_quiet ((go_at_call 354;with_reducible exact Calls.quiet_of (q354 _ _ _)))
   go_wp2_with fail
   go_ret
   exact⟨congrArg (fun x=>Ending.returned (.int .i64 x)) HC.out.symm,(by obtain⟨q,hq⟩:=HW2.out;exact⟨q+nq,by rw[hq,drewN_two]⟩)⟩
 ·have b0:(op !=op')=true:=by simp[h0]
  have HC:Hid (cmpKy ⟨op,nm,v,bd,args.len⟩ ⟨op',nm',v',bd',args'.len⟩=Lib.compareInt op op'):=Lib.hid (by unfold cmpKy;simp[h0])
  generalize hr:cmpKy ⟨op,nm,v,bd,args.len⟩ ⟨op',nm',v',bd',args'.len⟩=r at*
  clear hr
  go_enter Tryz.func307,Tryz.ntmps307
  go_upto_region 1 with fail
  go_quiet (fail)
  have c0:(w.drewN nq).cell? ⟨b,off,none⟩=some (.int .i64 op):=c0
  have c1:(w.drewN nq).cell? ⟨b,off+1,none⟩=some (.string nm):=c1
  have c2:(w.drewN nq).cell? ⟨b,off+2,none⟩=some (.int .i64 v):=c2
  have c3:(w.drewN nq).cell? ⟨b,off+3,none⟩=some (.int .i64 bd):=c3
  have c4:(w.drewN nq).cell? ⟨b,off+4,none⟩=some (.slice a args.len c):=c4
  have d0:(w.drewN nq).cell? ⟨b',off',none⟩=some (.int .i64 op'):=d0
  have d1:(w.drewN nq).cell? ⟨b',off'+1,none⟩=some (.string nm'):=d1
  have d2:(w.drewN nq).cell? ⟨b',off'+2,none⟩=some (.int .i64 v'):=d2
  have d3:(w.drewN nq).cell? ⟨b',off'+3,none⟩=some (.int .i64 bd'):=d3
  have d4:(w.drewN nq).cell? ⟨b',off'+4,none⟩=some (.slice a' args'.len c'):=d4
  have HW1:Hid (∃q,w.drewN nq=w.drewN q):=Lib.hid ⟨nq,rfl⟩
  generalize w.drewN nq=w1 at*
  go_upto_region 2 with fail
  go_quiet ((go_at_call 216;with_reducible exact Calls.quiet_of (q216 _ _ _)))
  go_wp2_with fail
  go_ret
  exact⟨congrArg (fun x=>Ending.returned (.int .i64 x)) HC.out.symm,(by obtain⟨q,hq⟩:=HW1.out;exact⟨q+nq,by rw[hq,drewN_two]⟩)⟩
end
section
open Go.RowKit
def AbidesZ {β:Type} (B:Nat) (J:β→World→Prop):Prop:=∀s W W' row,J s W→W.grownBy W' row→(∀r,row=some r→B≤r)→J s W'
def SeqStopsZ {α:Type} (F:Fence) (n:Nat) (P:Program) (g:Nat) (lb:Array Value) (encs:α→Array Value) (Kp:World→World→Prop) (S Sp:List α→Prop) (w:World):Prop:=
 ∀(l:Nat) (J Jx:List α→World→Prop) (W:World),Below w.heap.size w W→w.heap.size+2≤W.heap.size→AbidesZ W.heap.size J→AbidesZ W.heap.size Jx→
  (∀pre x W1,J pre W1→YieldAt F (n - 1) P l (encs x) W1 fun e W'=>
   (e=.returned (.bool true)∧J (pre++[x]) W'∧Kp W1 W')∨(e=.returned (.bool false)∧Jx (pre++[x]) W'))→
  J [] W→
  CallsIn F n P g (#[.func (.yield l) #[] #[]]++lb) W fun e W'=>(∃v,e=.returned v)∧((∃xs,S xs∧J xs W')∨(∃pre,Sp pre∧Jx pre W'))
theorem AbidesZ.putObj {β:Type} {B:Nat} {I:β→World→Prop} (h:AbidesZ B I) {s:β} {W:World} {l:Nat} (o':Obj) (hs:I s W) (hB:B≤l):I s (W.putObj l o'):=
 h s W _ (some l) hs (grownBy_putObj' W l o') (fun r e=>by cases e;exact hB)
theorem AbidesZ.alloc {β:Type} {B:Nat} {I:β→World→Prop} (h:AbidesZ B I) {s:β} {W:World} (o:Obj) (hs:I s W):I s (W.alloc o):=
 h s W _ none hs (World.grownBy_alloc W o none) (fun r e=>by cases e)
theorem keepsZ {W W':World} {row:Option Nat} {B:Nat} (hg:W.grownBy W' row) (hrow:∀r,row=some r→B≤r) {k:Nat} {o:Obj} (hkB:k<B) (hk:W.heap[k]? =some o):W'.heap[k]? =some o:=by
 refine(hg.block k (Array.getElem?_eq_some_iff.1 hk).1 ?_).trans hk
 intro e
 have:=hrow k e.symm
 omega
variable {F:Fence} {n:Nat} {P:Program}
theorem wpIn_rangeFunc_ownZ {α:Type} {g:Operand} {ps:Array Tmp} {assign body:Code} {Q:Exit→Act→World→Prop} {a:Act} {w:World}
  (hro:F.round=none) (h1:1≤n) {gf:Nat} {lb:Array Value} (hg:a.eval g=.func (.func gf) #[] lb) (hFg:F.fn gf) (eg:∀args w,(callFunc gf args).run P w=.ok (.enter gf args) w)
  {encs:α→Array Value} {Kp:World→World→Prop} {S Sp:List α→Prop} {w0:World} (hseq:SeqStopsZ F (n - 1) P gf lb encs Kp S Sp w0)
  (hKt:∀ {A B C:World},Kp A B→Kp B C→Kp A C) (hKb:∀(W:World) (o':Obj),Kp W (W.putObj (w.heap.size+1) o')) (hb0:Below w0.heap.size w0 w) (hps:∀x,(encs x).size=ps.size)
  (I:List α→World→Prop) (Ix:Code→List α→World→Prop) (hI:AbidesZ w.heap.size I) (hIx:∀c,AbidesZ w.heap.size (Ix c)) (h0:I [] w) (a₁:α→Act)
  (hassign:∀(l:Nat) (x:α) (W:World) (K:Act→World→Prop),K (a₁ x) W→
   assign.wpIn (F.inRound l) (n - 1 - 1) P (Exit.then K (fun _ _ _=>False)) {tmps:=(ps.zip (encs x)).foldl (fun t (p,v)=>t.setIfInBounds p v) a.tmps,defers:=[]} W)
  (hbody:∀(l:Nat) (pre:List α) (x:α) (W:World),I pre W→body.wpIn (F.inRound l) (n - 1 - 1) P (ownPostK Kp I Ix (pre++[x]) W) (a₁ x) W)
  (hdone:∀(D:Nat) (xs:List α) (W:World),w.heap.size≤D→S xs→I xs W→W.heap[D]? =some (.deferred (some []))→Q .normal {a with defers:= {target:=.collected D,args:= #[]}::a.defers} W)
  (hstop:∀(D:Nat) (c:Code) (pre:List α) (W:World),w.heap.size≤D→Sp pre→Ix c pre W→W.heap[D]? =some (.deferred (some []))→c.wpIn F n P Q {a with defers:= {target:=.collected D,args:= #[]}::a.defers} W):
  (Code.rangeFunc g ps assign body).wpIn F n P Q a w:=by
 refine wpIn_rangeFunc ?_
 intro fn hfn
 rw[hro]
 obtain⟨rec,hrec⟩:∃rec:LoopState→Option Code→Loop,rec=fun st pe=> {state:=st,pending:=pe,fn,tmps:=a.tmps,params:=ps,assign,body,defers:=w.heap.size}:=⟨_,rfl⟩
 obtain⟨W1,hW1⟩:∃W1,(w.alloc (.deferred (some []))).alloc (.loop (rec .ready none))=W1:=⟨_,rfl⟩
 have hL1:W1.heap[w.heap.size+1]? =some (.loop (rec .ready none)):=by
  rw[←hW1];have:=World.alloc_heap_new (w.alloc (.deferred (some []))) (.loop (rec .ready none));rwa[World.size_alloc] at this
 have hK1:W1.heap[w.heap.size]? =some (.deferred (some [])):=by
  rw[←hW1];exact(Below.heap_alloc _ _ _ (by simp)).trans (World.alloc_heap_new w _)
 have hI1:I [] W1:=by rw[←hW1];exact hI.alloc _ (hI.alloc _ h0)
 have hb1:Below w0.heap.size w0 W1:=by
  rw[←hW1];exact hb0.trans ((((Below.refl _ w).alloc (Nat.le_refl _) _).alloc (by simp) _).mono hb0.size)
 refine⟨w.heap.size+1,[{target:=.collected w.heap.size,args:= #[]}],W1,{target:=.fn (.func gf) lb,args:= #[.func (.yield (w.heap.size+1)) #[] #[]]},W1,gf,
  #[.func (.yield (w.heap.size+1)) #[] #[]]++lb,W1,?_,?_,?_,?_,fun _=>h1,?_⟩
 ·rw[←hW1,hrec];exact run_enterLoop_outer _ _ _ _ _
 ·simp only[resolve,hg]
  simp[go_sem]
 ·intro f' hf';simp[Target.leads] at hf';subst hf';exact hFg
 ·simp[invoke,go_sem,eg]
 ·have hs1:W1.heap.size=w.heap.size+2:=by rw[←hW1];simp
  have hnw:∀ {row:Option Nat},(∀r,row=some r→W1.heap.size≤r)→(∀r,row=some r→w.heap.size≤r):=fun hr r e=>by have:=hr r e;omega
  refine(hseq (w.heap.size+1)
   (fun pre W=>I pre W∧W.heap[w.heap.size+1]? =some (.loop (rec .ready none))∧W.heap[w.heap.size]? =some (.deferred (some [])))
   (fun pre W=>∃c,Ix c pre W∧W.heap[w.heap.size+1]? =some (.loop (rec .done (some c)))∧W.heap[w.heap.size]? =some (.deferred (some [])))
   W1 hb1 (by have:=hb0.size;omega)
   (fun s A B row hs hg' hr=>⟨hI s A B row hs.1 hg' (hnw hr),keepsZ hg' hr (by omega) hs.2.1,keepsZ hg' hr (by omega) hs.2.2⟩)
   (fun s A B row hs hg' hr=>by
    obtain⟨c,hc,hl,hk⟩:=hs
    exact⟨c,hIx c s A B row hc hg' (hnw hr),keepsZ hg' hr (by omega) hl,keepsZ hg' hr (by omega) hk⟩)
   ?_ ⟨hI1,hL1,hK1⟩).mono ?_
  ·rintro pre x W ⟨hi,hl,hk⟩
   have hlt:w.heap.size+1<W.heap.size:=(Array.getElem?_eq_some_iff.1 hl).1
   have hy:=run_yield (P:=P) (args:=encs x) hl (by rw[hrec];exact hps x)
   rw[hrec] at hy
   refine⟨fn,_,assign,body,hy,roundIn_of_wpIn hfn (hassign _ x W _ ⟨_,run_beginRound hl (by rw[hrec]),?_⟩)⟩
   have hl2:(W.putObj (w.heap.size+1) (.loop {rec .ready none with state:=.busy})).heap[w.heap.size+1]? =some (.loop {rec .ready none with state:=.busy}):=World.putObj_heap_same hlt
   have hk2:(W.putObj (w.heap.size+1) (.loop {rec .ready none with state:=.busy})).heap[w.heap.size]? =some (.deferred (some [])):=(World.putObj_heap_other (by omega)).trans hk
   have hw2:Kp W (W.putObj (w.heap.size+1) (.loop {rec .ready none with state:=.busy})):=hKb _ _
   refine wpIn_mono (hbody _ pre x _ (hI.putObj _ hi (by omega))) ?_
   have fin:∀(jump:Option Code) (W3:World),KeepsOthers (W.putObj (w.heap.size+1) (.loop {rec .ready none with state:=.busy})) W3→
     (Instr.endRound (w.heap.size+1) jump).run P W3=.ok (.bool jump.isNone) (W3.putObj (w.heap.size+1) (.loop (rec (if jump.isNone then .ready else .done) jump)))∧
     W3.heap[w.heap.size+1]? =some (.loop {rec .ready none with state:=.busy})∧
     (W3.putObj (w.heap.size+1) (.loop (rec (if jump.isNone then .ready else .done) jump))).heap[w.heap.size+1]? =some (.loop (rec (if jump.isNone then .ready else .done) jump))∧
     (W3.putObj (w.heap.size+1) (.loop (rec (if jump.isNone then .ready else .done) jump))).heap[w.heap.size]? =some (.deferred (some [])):=fun jump W3 hk3=>by
    have hl3:=hk3.same _ _ hl2 rfl
    have:=run_endRound (P:=P) jump hl3
    rw[hrec] at this ⊢
    exact⟨this,by rw[hrec] at hl3;exact hl3,World.putObj_heap_same (Array.getElem?_eq_some_iff.1 hl3).1,(World.putObj_heap_other (by omega)).trans (hk3.same _ _ hk2 rfl)⟩
   rintro e a3 W3 hp
   cases e with
   |normal=>
    obtain⟨hk3,hkp3,hi3⟩:=hp
    obtain⟨hr,hl3,hl4,hk4⟩:=fin none W3 hk3
    exact⟨_,_,hr,.inl ⟨rfl,⟨hI.putObj _ hi3 (by omega),hl4,hk4⟩,hKt (hKt hw2 hkp3) (hKb _ _)⟩⟩
   |ret=>
    obtain⟨hk3,hi3⟩:=hp
    obtain⟨hr,hl3,hl4,hk4⟩:=fin (some .ret) W3 hk3
    exact⟨_,_,hr,.inr ⟨rfl,.ret,(hIx _).putObj _ hi3 (by omega),hl4,hk4⟩⟩
   |exit id=>
    obtain⟨hk3,hi3⟩:=hp
    obtain⟨hr,hl3,hl4,hk4⟩:=fin (some (.exit id)) W3 hk3
    exact⟨_,_,hr,.inr ⟨rfl,.exit id,(hIx _).putObj _ hi3 (by omega),hl4,hk4⟩⟩
   |goto t=>
    obtain⟨hk3,hi3⟩:=hp
    obtain⟨hr,hl3,hl4,hk4⟩:=fin (some (.goto t)) W3 hk3
    exact⟨_,_,hr,.inr ⟨rfl,.goto t,(hIx _).putObj _ hi3 (by omega),hl4,hk4⟩⟩
   |panic ch=>exact hp.elim
   |outgrown=>exact hp.elim
  ·rintro e W2 ⟨⟨v,rfl⟩,(⟨xs,hS,hi,hl,hk⟩|⟨pre,hSp,c,hi,hl,hk⟩)⟩
   ·exact⟨none,_,by have:=run_endLoop (P:=P) hl (by rw[hrec];simp);rw[hrec] at this;exact this,hdone _ xs _ (Nat.le_refl _) hS (hI.putObj _ hi (by omega)) ((World.putObj_heap_other (by omega)).trans hk)⟩
   ·exact⟨some c,_,by have:=run_endLoop (P:=P) hl (by rw[hrec];simp);rw[hrec] at this;exact this,hstop _ c pre _ (Nat.le_refl _) hSp ((hIx c).putObj _ hi (by omega)) ((World.putObj_heap_other (by omega)).trans hk)⟩
end
section
open Go.RowKit
def findI (l:List Sg) (nm:ByteArray):Int:=match l.findIdx? (fun s=>decide (s.name=nm)) with
 |some k=>k
 |none=> -1
theorem findI_hit {l:List Sg} {nm:ByteArray} {k:Nat} (hk:k<l.length) (h:l[k].name=nm) (hn:∀j (h:j<k),l[j].name≠nm):findI l nm=k:=by
 have:l.findIdx? (fun s=>decide (s.name=nm))=some k:=by
  rw[List.findIdx?_eq_some_iff_getElem]
  exact⟨hk,by simpa using h,fun j hj=>by simpa using hn j hj⟩
 simp[findI,this]
theorem findI_none {l:List Sg} {nm:ByteArray} (hn:∀j (h:j<l.length),l[j].name≠nm):findI l nm= -1:=by
 have:l.findIdx? (fun s=>decide (s.name=nm))=none:=by
  rw[List.findIdx?_eq_none_iff]
  intro x hx
  obtain⟨j,hj,rfl⟩:=List.getElem_of_mem hx
  simpa using hn j hj
 simp[findI,this]
theorem findI_cases (l:List Sg) (nm:ByteArray):findI l nm= -1∨∃k:Nat,∃h:k<l.length,findI l nm=k∧l[k].name=nm:=by
 unfold findI
 cases h:l.findIdx? (fun s=>decide (s.name=nm)) with
 |none=>exact .inl rfl
 |some k=>
  rw[List.findIdx?_eq_some_iff_getElem] at h
  obtain⟨hk,h1, -⟩:=h
  exact .inr ⟨k,hk,rfl,by simpa using h1⟩
end
end Go.Proofs.YtckdgniecdfedaaGreatDoor
