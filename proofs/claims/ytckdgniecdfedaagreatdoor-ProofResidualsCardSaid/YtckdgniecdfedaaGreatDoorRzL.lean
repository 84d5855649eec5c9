/- The walks of progress.loose, known and fits. The walk of readerOf. The walks of fits, residual and Step. -/
import Derived.Test.YtckdgniecdfedaaGreatDoorRzK
namespace Go.Proofs.YtckdgniecdfedaaGreatDoor
section
open Go.RowKit Go.Sort
theorem opW_pos (z:Wf):1≤opW z:=by
 cases z with
 |con k l=>cases k<;>simp[opW,kop]
 |snc k v a b=>cases k<;>simp[opW]
 |_=>simp[opW]
theorem tree_op {x:ElA} {z:Wf} (h:x.tree=tr z):x.op=opW z:=by
 have h2:=trC_eq z .nil
 have h:Fs.cons x.op x.nm x.v x.bd x.args .nil=trC z .nil:=h
 rw[h2] at h
 simp only[Fs.cons.injEq] at h
 exact h.1
theorem fld48:(match Tryz.prog.underlying 48 with|some (.struct fs)=>(fs[0]?).map (fun f=>(f.type,f.offset))|_=>none)=some (3,0):=by kernel_rfl
theorem run_field48 (x0:Int) (x1:ByteArray) (x2 x3:Int) (a:Option Addr) (n c:Nat) (w:World):(Instr.field 48 (.agg #[.int .i64 x0,.string x1,.int .i64 x2,.int .i64 x3,.slice a n c]) 0).run Tryz.prog w=.ok (.int .i64 x0) w:=by
 have h:=fld48
 split at h
 ·rename_i fs hu
  obtain⟨f,hf,hp⟩:=Option.map_eq_some_iff.1 h
  simp only[Prod.mk.injEq] at hp
  simp[Instr.field,run_underlying hu,hf,hp,part,Tryz.sizeOf3,Tryz.isAgg3,go_sem,asAgg]
 ·cases h
section
variable {w:World} {b o:Nat} {op v bd:Int} {nm:ByteArray} {args rest:Fs}
set_option maxRecDepth 100000 in
set_option maxHeartbeats 4000000 in
theorem loose125 (hF:FAt w (.cons op nm v bd args rest) b o) (hb:b<w.heap.size) (hFo:Forms w) (hK:Keys w):Calls Tryz.prog 125 #[.pointer (some ⟨b,o,none⟩)] w fun e w'=>e=.returned (.bool (looseB op nm v bd args))∧RowKit.Below w.heap.size w w':=by
 obtain⟨a,c,hx,c0,c1,c2,c3,c4⟩:=hF.rd rfl
 have HKE:=Lib.hid (kernel40 hx hFo hK)
 have HCA:Hid (∀W,RowKit.Below w.heap.size w W→Calls Tryz.prog 63 #[.agg #[.int .i64 op,.string nm,.int .i64 v,.int .i64 bd,.slice a args.len c]] W (CanonOut 0 W ⟨op,nm,v,bd,args,a,c⟩)):=Lib.hid fun W hB=>canon63 (Nat.zero_le _) (hx.keep hB) (hFo.keep hB) (hK.keep hB)
 have HE:=Lib.hid (And.intro c0 (And.intro c1 (And.intro c2 (And.intro c3 c4))))
 have HKL:Hid (kernB op nm v bd args=true→looseB op nm v bd args=true):=Lib.hid kern_loose
 have HLZ:Hid (looseB op nm v bd args=true→∃z,ElA.tree ⟨op,nm,v,bd,args,a,c⟩=tr z∧Lo z):=Lib.hid fun h=>by
  obtain⟨z,e,hl⟩:=loose_lo h
  exact⟨z,e .nil,hl⟩
 clear hF hFo hK hx
 simp only[ElA.enc] at HKE
 go_enter Tryz.func125,Tryz.ntmps125
 go_wp2_with fail
 refine HKE.out.mono ?_
 rintro e w1 ⟨rfl,hB1⟩
 have HB1:=Lib.hid hB1
 have d0:=(hB1.cell (p:=⟨b,o,none⟩) hb).trans c0
 have d1:=(hB1.cell (p:=⟨b,o+1,none⟩) hb).trans c1
 have d2:=(hB1.cell (p:=⟨b,o+2,none⟩) hb).trans c2
 have d3:=(hB1.cell (p:=⟨b,o+3,none⟩) hb).trans c3
 have d4:=(hB1.cell (p:=⟨b,o+4,none⟩) hb).trans c4
 clear c0 c1 c2 c3 c4 hB1
 cases hk:kernB op nm v bd args with
 |true=>
  have HA:=Lib.hid (HKL.out hk)
  clear HKL HLZ HKE HCA
  go_wp2_with fail
  go_ret
  exact⟨by rw[HA.out];rfl,HB1.out⟩
 |false=>
  have HC:=Lib.hid (HCA.out w1 HB1.out)
  clear HKL HKE HCA
  go_wp2_with fail
  refine HC.out.mono ?_
  intro e w2 hC
  cases hl:looseB op nm v bd args with
  |false=>
   obtain⟨x,hx,ht,rfl,hB2⟩:=hC.1 hl
   have hop:x.op=0:=by
    have ht:Fs.cons x.op x.nm x.v x.bd x.args .nil=tz:=ht
    simp only[tz,Fs.cons.injEq] at ht
    exact ht.1
   have hB3:=HB1.out.trans (hB2.mono HB1.out.size)
   have HB3:=Lib.hid hB3
   obtain⟨x0,x1,x2,x3,x4,x5,x6⟩:=x
   have hop:x0=0:=hop
   subst hop
   clear hx ht hB2 hB3 hC HLZ
   simp only[ElA.enc]
   have hfd:=fun W=>run_field48 0 x1 x2 x3 x5 x4.len x6 W
   go_wp2_with fail
   go_ret
   exact⟨rfl,HB3.out⟩
  |true=>
   obtain⟨z,hz,hlo⟩:=HLZ.out hl
   obtain⟨x,hx,ht,rfl,hB2⟩:=hC.2 z hz hlo
   have hop:(x.op !=0)=true:=by
    rw[tree_op ht]
    have:=opW_pos (canon ordF z)
    simp;omega
   have hB3:=HB1.out.trans (hB2.mono HB1.out.size)
   have HB3:=Lib.hid hB3
   obtain⟨x0,x1,x2,x3,x4,x5,x6⟩:=x
   have hop:(x0 !=0)=true:=hop
   clear hx ht hB2 hB3 hC HLZ hz hlo
   simp only[ElA.enc]
   have hfd:=fun W=>run_field48 x0 x1 x2 x3 x5 x4.len x6 W
   go_wp2_with fail
   go_ret
   exact⟨rfl,HB3.out⟩
end
def kn1 (l:List Sg) (op:Int) (nm:ByteArray) (v:Int) (args:Fs):Bool:=(!(decide (op=3))||Kn l nm v)&&knF l args
set_option maxRecDepth 100000 in
set_option maxHeartbeats 4000000 in
theorem known126 (l:List Sg) (sv:Value):∀(N:Nat) (op:Int) (nm:ByteArray) (v bd:Int) (args rest:Fs),args.nodes<N→∀(w:World) (b o:Nat),SgV w sv l→b<w.heap.size→FAt w (.cons op nm v bd args rest) b o→
  Calls Tryz.prog 126 #[sv,.pointer (some ⟨b,o,none⟩)] w (Tells (kn1 l op nm v args) w):=by
 intro N
 induction N with
 |zero=>exact fun _ _ _ _ _ _ h=>absurd h (Nat.not_lt_zero _)
 |succ N ih=>
  intro op nm v bd args rest hN w b o hS hb hF
  obtain⟨c0,c1, -,c2, -,c5,⟨a,c,c4,cc,c7⟩, -⟩:=hF
  have HK:Hid (∀j,j<args.len→∃B O op' nm' v' a',a=some ⟨B,O,none⟩∧knF l (args.drop j)=(kn1 l op' nm' v' a'&&knF l (args.drop (j+1)))∧∀m,Calls Tryz.prog 126 #[sv,.pointer (some ⟨B,O+j*5,none⟩)] (w.drewN m) (Tells (kn1 l op' nm' v' a') (w.drewN m))):=Lib.hid fun j hj=>by
   obtain⟨B,O,e,hB,hf⟩:=c7 (by omega)
   obtain⟨op',nm',v',bd',a',hd⟩:=Fs.drop_cons args j hj
   have hf2:=FAt.drop j hf
   have hnn:=Fs.drop_nodes args j
   rw[hd] at hf2 hnn
   simp only[Fs.nodes] at hnn
   refine⟨B,O,op',nm',v',a',e,by rw[hd];rfl,fun m=>ih op' nm' v' bd' a' _ (by omega) (w.drewN m) B _ (hS.keep (below_drawn (RowKit.Below.refl _ _) m)) hB (hf2.drawn m)⟩
  have HA:Hid ((op=3→Kn l nm v=true)→kn1 l op nm v args=knF l args):=Lib.hid fun h=>by
   unfold kn1
   by_cases ho:op=3
   ·rw[h ho];simp
   ·simp[ho]
  have HA0:Hid (op=3→Kn l nm v=false→kn1 l op nm v args=false):=Lib.hid fun h1 h2=>by unfold kn1;rw[h2,h1];rfl
  have HD:Hid (args.drop args.len=.nil):=Lib.hid (by
   have h1:=Fs.drop_len args args.len
   cases h:args.drop args.len with
   |nil=>rfl
   |cons=>rw[h] at h1;simp[Fs.len] at h1)
  have hFI:∀W:World,W=w→Calls Tryz.prog 173 #[sv,.string nm] W fun e w'=>e=.returned (.int .i64 (findI l nm))∧w'=W:=fun W e=>by rw[e];exact find173q hS
  have HFI:=Lib.hid hFI
  obtain⟨sa,cs,esv,hSl,hSv⟩:=hS
  subst esv
  clear hFI ih hN c7
  generalize kn1 l op nm v args=ans at*
  have hloop:∀(m:Nat),(op=3→Kn l nm v=true)→True:=fun _ _=>trivial
  clear hloop
  by_cases ho:op=3
  ·have q3:(op==3)=true:=by simpa using ho
   by_cases hfi:findI l nm<0
   ·have hd:decide (findI l nm<0)=true:=by simpa using hfi
    have HR:=Lib.hid (HA0.out ho (by unfold Kn;rw[decide_eq_false (by omega:¬0≤findI l nm)];rfl))
    clear HA HA0 HK HD hSv
    go_enter Tryz.func126,Tryz.ntmps126
    go_wp2_with fail
    refine(HFI.out _ rfl).mono ?_
    rintro e w1 ⟨rfl,rfl⟩
    generalize findI l nm=fi at*
    go_upto_region 3 with fail
    go_quiet (fail)
    go_wp2_with fail
    go_ret
    exact⟨by rw[HR.out];rfl,_,rfl⟩
   ·obtain⟨k,hf,hkl⟩:=findI_lt (l:=l) (nm:=nm) (by omega)
    obtain⟨b1,o1,rfl,hb1,hsc⟩:=hSv (fun e=>by rw[e] at hkl;simp at hkl)
    obtain⟨-, -,s2, -⟩:=hsc k hkl
    have hd:decide ((k:Int)<0)=false:=decide_eq_false (by omega)
    have hkz:(k:Int)<(l.length:Int):=by omega
    have hKn:Kn l nm v=decide (v<l[k].size):=by
     unfold Kn sizeAt
     rw[hf]
     simp[List.getElem?_eq_getElem hkl]
    by_cases hv:l[k].size≤v
    ·have hd2:decide (l[k].size≤v)=true:=by simpa using hv
     have HR:=Lib.hid (HA0.out ho (by rw[hKn];simp;omega))
     clear HA HA0 HK HD hsc hKn
     generalize l[k].size=sz at*
     go_enter Tryz.func126,Tryz.ntmps126
     go_wp2_with fail
     refine(HFI.out _ rfl).mono ?_
     rintro e w1 ⟨rfl,rfl⟩
     rw[hf]
     go_upto_region 3 with fail
     go_quiet (fail)
     go_wp2_with fail
     go_ret
     exact⟨by rw[HR.out];rfl,_,rfl⟩
    ·have hd2:decide (l[k].size≤v)=false:=by simpa using hv
     have HR:=Lib.hid (HA.out (fun _=>by rw[hKn];simp;omega))
     clear HA HA0 hsc hKn
     generalize l[k].size=sz at*
     go_enter Tryz.func126,Tryz.ntmps126
     go_wp2_with fail
     refine(HFI.out _ rfl).mono ?_
     rintro e w1 ⟨rfl,rfl⟩
     rw[hf]
     go_upto_region 3 with fail
     go_quiet (fail)
     have HW0:Hid (∃q,w1.drewN nq=w1.drewN q):=Lib.hid ⟨_,rfl⟩
     have d4:(w1.drewN nq).cell? ⟨b,o+4,none⟩=some (.slice a args.len c):=c4
     generalize w1.drewN nq=w2 at*
     go_wp2_with fail
     go_loopw [6,37] (fun x i wr=>∃k:Nat,k≤args.len∧i=.int .i64 k∧Hid (∃m,wr=w1.drewN m)∧Hid (knF l args=knF l (args.drop k))) (fun _ i _=>args.len - (intOf i).toNat)
     case atStart=>exact⟨0,Nat.zero_le _,rfl,HW0,Lib.hid (by cases args<;>rfl)⟩
     case round=>
      obtain⟨k,hk,rfl,HB,HN⟩:=hrel
      have e4:wr.cell? ⟨b,o+4,none⟩=some (.slice a args.len c):=by obtain⟨m,hm⟩:=HB.out;rw[hm];exact c4
      by_cases hlt:(k:Int)<(args.len:Int)
      ·have hd:decide ((k:Int)<(args.len:Int))=true:=by simpa using hlt
       have hk':k<args.len:=by omega
       obtain⟨B,O,op',nm',v',a',rfl,hkn,hC⟩:=HK.out k hk'
       have HC:Hid (Calls Tryz.prog 126 #[.slice (some ⟨b1,o1,none⟩) l.length cs,.pointer (some ⟨B,O+k*5,none⟩)] wr (Tells (kn1 l op' nm' v' a') wr)):=Lib.hid (by obtain⟨m,hm⟩:=HB.out;rw[hm];exact hC m)
       have HT:=Lib.hid (HN.out.trans hkn)
       clear hC hkn
       generalize kn1 l op' nm' v' a'=u at*
       go_wp2_with fail
       refine HC.out.mono ?_
       rintro e w9 ⟨rfl,m,rfl⟩
       have HB1:Hid (∃q,wr.drewN m=w1.drewN q):=Lib.hid (by obtain⟨q,hq⟩:=HB.out;exact⟨q+m,by rw[hq,World.drewN_drewN]⟩)
       cases u with
       |false=>
        have HF:=Lib.hid (HR.out.trans HT.out)
        clear HT HC e4
        go_wp2_with fail
        go_ret
        exact⟨congrArg (fun x=>Ending.returned (.bool x)) HF.out.symm,HB1.out⟩
       |true=>
        have HF:Hid (knF l args=knF l (args.drop (k+1))):=Lib.hid (by rw[HT.out];rfl)
        clear HT HC e4
        go_wp2_with fail
        go_roundw
        case rel=>exact⟨k+1,by omega,by go_num,HB1,HF⟩
        case measure=>simp[intOf];omega
      ·have hd:decide ((k:Int)<(args.len:Int))=false:=by simpa using hlt
       obtain rfl:k=args.len:=by omega
       have HF:Hid (ans=true):=Lib.hid (by rw[HR.out,HN.out,HD.out];rfl)
       go_wp2_with fail
       go_ret
       exact⟨congrArg (fun x=>Ending.returned (.bool x)) HF.out.symm,HB.out⟩
  ·have q3:(op==3)=false:=by simpa using ho
   have HR:=Lib.hid (HA.out (fun h=>absurd h ho))
   clear HA HA0 hSv HFI
   have HW0:Hid (∃q,w=w.drewN q):=Lib.hid ⟨0,rfl⟩
   go_enter Tryz.func126,Tryz.ntmps126
   go_wp2_with fail
   go_loopw [6,37] (fun x i wr=>∃k:Nat,k≤args.len∧i=.int .i64 k∧Hid (∃m,wr=w.drewN m)∧Hid (knF l args=knF l (args.drop k))) (fun _ i _=>args.len - (intOf i).toNat)
   case atStart=>exact⟨0,Nat.zero_le _,rfl,HW0,Lib.hid (by cases args<;>rfl)⟩
   case round=>
    obtain⟨k,hk,rfl,HB,HN⟩:=hrel
    have e4:wr.cell? ⟨b,o+4,none⟩=some (.slice a args.len c):=by obtain⟨m,hm⟩:=HB.out;rw[hm];exact c4
    by_cases hlt:(k:Int)<(args.len:Int)
    ·have hd:decide ((k:Int)<(args.len:Int))=true:=by simpa using hlt
     have hk':k<args.len:=by omega
     obtain⟨B,O,op',nm',v',a',rfl,hkn,hC⟩:=HK.out k hk'
     have HC:Hid (Calls Tryz.prog 126 #[.slice sa l.length cs,.pointer (some ⟨B,O+k*5,none⟩)] wr (Tells (kn1 l op' nm' v' a') wr)):=Lib.hid (by obtain⟨m,hm⟩:=HB.out;rw[hm];exact hC m)
     have HT:=Lib.hid (HN.out.trans hkn)
     clear hC hkn
     generalize kn1 l op' nm' v' a'=u at*
     go_wp2_with fail
     refine HC.out.mono ?_
     rintro e w9 ⟨rfl,m,rfl⟩
     have HB1:Hid (∃q,wr.drewN m=w.drewN q):=Lib.hid (by obtain⟨q,hq⟩:=HB.out;exact⟨q+m,by rw[hq,World.drewN_drewN]⟩)
     cases u with
     |false=>
      have HF:=Lib.hid (HR.out.trans HT.out)
      clear HT HC e4
      go_wp2_with fail
      go_ret
      exact⟨congrArg (fun x=>Ending.returned (.bool x)) HF.out.symm,HB1.out⟩
     |true=>
      have HF:Hid (knF l args=knF l (args.drop (k+1))):=Lib.hid (by rw[HT.out];rfl)
      clear HT HC e4
      go_wp2_with fail
      go_roundw
      case rel=>exact⟨k+1,by omega,by go_num,HB1,HF⟩
      case measure=>simp[intOf];omega
    ·have hd:decide ((k:Int)<(args.len:Int))=false:=by simpa using hlt
     obtain rfl:k=args.len:=by omega
     have HF:Hid (ans=true):=Lib.hid (by rw[HR.out,HN.out,HD.out];rfl)
     go_wp2_with fail
     go_ret
     exact⟨congrArg (fun x=>Ending.returned (.bool x)) HF.out.symm,HB.out⟩
end
section
open Go.RowKit Go.Sort
section
variable {w:World} {B:Nat} {v:Value} {A:List Int}
theorem step_append_I {ops:Array Oper} {o:Oper} {a:Act} {K:Act→World→Prop} {Q:Exit→Act→World→Prop} {E:Prop} (hgd:o.guard=none) (s x:Operand)
  (ho:o.op=.call {callee:=.builtin .append,args:= #[s,x],argTypes:= #[25,25]}) (hown:OwnN w B v A) (hs:a.eval s=v) (hBs:B≤w.heap.size) (g c:Nat) (N:List Int) (hN:0<N.length) (hx:a.eval x=.slice (some ⟨g,0,none⟩) N.length c) (hc:∀j,j<N.length→w.cell? ⟨g,j,none⟩=some (.int .i64 (N.getD j 0))) (hl:A.length+N.length≤1000000)
  (hK:∀v' w',Hid (OwnN w' B v' (A++N))→Hid (∀B0 w0,Below B0 w0 w→B0≤B→Below B0 w0 w')→K (a.put o.dst v') w'):
  if Region.wanted o (yielded ops a.tmps)=true then Oper.wp Tryz.prog o a w K Q else E:=by
 obtain⟨i0,hi,hz0,hz1,hz2⟩:=info_parts Tryz.info3
 refine step_append_lies w hgd s x 25 ho B 3 i0 (.int .i64 0) 1 8 Tryz.underlying25 hi hz0 hz1 hz2 rfl (by decide) v A.length (A.map (Value.int .i64)) hs hown ⟨g,0,none⟩ N.length c (N.map (Value.int .i64)) hx (by simp) ?_ ?_ hN (by unfold maxLen;omega) (by omega) hBs w.heap.size rfl ?_
 ·intro j u hj
  simp only[List.getElem?_map,Option.map_eq_some_iff] at hj
  obtain⟨n,hn',rfl⟩:=hj
  have hlt:j<N.length:=by
   rcases Nat.lt_or_ge j N.length with h'|h'
   ·exact h'
   ·rw[List.getElem?_eq_none h'] at hn';cases hn'
  have:=hc j hlt
  rw[List.getD_eq_getElem?_getD,hn',Option.getD_some] at this
  rcases Nat.eq_zero_or_pos j with rfl|h0
  ·simpa[Addr.add] using this
  ·simpa[Addr.add,Nat.pos_iff_ne_zero.1 h0] using this
 ·intro u hu
  obtain⟨n,_,rfl⟩:=List.mem_map.1 hu
  rfl
 ·intro g' cap w' h1 h2 _ _
  exact hK _ w' (Lib.hid (by unfold OwnN;simpa using h1)) (Lib.hid fun B0 w0 hB hle=>hB.grown h2 (Nat.le_trans hle hBs) fun k hk=>Nat.le_trans hle (World.ownsRow.lt hown k hk).1)
end
structure MapSt (w0:World) (T:Nat) (es:Array MapEntry) (clk:Nat) (w:World):Prop where
 blk:w.heap[T]? =some (.map es clk)
 other:∀k,k≠T→w.heap[k]? =w0.heap[k]?
 size:w.heap.size=w0.heap.size
 os:w.os=w0.os
 tape:w.tape=w0.tape
 output:w.output=w0.output
 drawn:w.drawn=w0.drawn
theorem MapSt.start (w:World):MapSt (w.alloc (.map #[] 0)) w.heap.size #[] 0 (w.alloc (.map #[] 0)):=⟨World.alloc_heap_new w _,fun _ _=>rfl,rfl,rfl,rfl,rfl,rfl⟩
theorem MapSt.below {w0 w:World} {T clk:Nat} {es:Array MapEntry} (h:MapSt w0 T es clk w) {B:Nat} {u:World} (hB:RowKit.Below B u w0) (hT:B≤T):RowKit.Below B u w:=
 ⟨h.os.trans hB.os,h.tape.trans hB.tape,h.output.trans hB.output,by rw[h.size];exact hB.size,fun k hk=>(h.other k (by omega)).trans (hB.block k hk)⟩
theorem run_makeMap (t:TypeId) (W:World):(Instr.makeMap t none).run Tryz.prog W=.ok (.map (some W.heap.size)) (W.alloc (.map #[] 0)):=by
 simp[Instr.makeMap,go_sem,Result.andThen]
theorem wpList_insert_st {w0 w:World} {ops:Array Oper} {rest:List Oper} {o:Oper} {a:Act} {Q:Exit→Act→World→Prop} (hg:o.guard=none) (m x v:Operand) (t elem:TypeId) (hop:o.op=Op.insert t m x v) (hu:Tryz.prog.underlying t=some (.map 3 elem)) {T clk:Nat} {es:Array MapEntry} {k:Int} {u:Value}
  (hm:a.eval m=.map (some T)) (hx:a.eval x=.int .i64 k) (hv:a.eval v=u) (h0:0≤k) (h1:k≤9223372036854775807) (hM:MapSt w0 T es clk w) (hf:Instr.findNow (.int .i64) (.int .i64 k) es.toList 0=some none)
  (hK:∀w',MapSt w0 T (es.push {key:=.int .i64 k,val:=u,born:=clk}) (clk+1) w'→wpList Tryz.prog ops Q rest (a.put o.dst undef) w'):wpList Tryz.prog ops Q (o::rest) a w:=by
 have hrun:=insert_at (v:=u) hu hM.blk h0 h1 hf
 refine wpList_plain hg fun K' hK'=>?_
 unfold Oper.wp
 simp[execOp,hop,hm,hx,hv,hrun,Result.andThen]
 refine hK' _ _ (hK _ ⟨?_,fun j hj=>?_,?_,hM.os,hM.tape,hM.output,hM.drawn⟩)
 ·have hlt:=(Array.getElem?_eq_some_iff.1 hM.blk).1
  simp[ChangeMaps.setBlock,hlt]
 ·simp only[ChangeMaps.setBlock]
  rw[Array.getElem?_setIfInBounds_ne (by omega)]
  exact hM.other j hj
 ·simp[ChangeMaps.setBlock,hM.size]
structure RdS (w:World) (sv:Value) (l:List Sg) (x:Int) (k:Nat) (v:Value) (W:World):Prop where
 blk:W.heap[w.heap.size]? =some (.cells #[sv,v,.map none,.map none] 247 (0,0))
 own:OwnN W (w.heap.size+1) v ((List.range k).map (valN l x))
 bel:RowKit.Below w.heap.size w W
theorem RdS.lt {w:World} {sv:Value} {l:List Sg} {x:Int} {k:Nat} {v:Value} {W:World} (h:RdS w sv l x k v W):w.heap.size<W.heap.size:=(Array.getElem?_eq_some_iff.1 h.blk).1
theorem RdS.cell {w:World} {sv:Value} {l:List Sg} {x:Int} {k:Nat} {v:Value} {W:World} (h:RdS w sv l x k v W):W.cell? ⟨w.heap.size,1,none⟩=some v∧W.frozen? ⟨w.heap.size,1,none⟩=false:=by
 simp[World.cell?,World.frozen?,h.blk]
theorem RdS.below {w:World} {sv:Value} {l:List Sg} {x:Int} {k:Nat} {v:Value} {W W':World} (h:RdS w sv l x k v W) (hB:RowKit.Below W.heap.size W W'):RdS w sv l x k v W':=⟨(hB.block _ h.lt).trans h.blk,h.own.keep hB (Nat.le_refl _),h.bel.trans (hB.mono h.bel.size)⟩
theorem RdS.step {w:World} {sv:Value} {l:List Sg} {x:Int} {k:Nat} {v v':Value} {W W':World} (h:RdS w sv l x k v W) (ho:OwnN W' (w.heap.size+1) v' ((List.range k).map (valN l x)++[valN l x k])) (hB:∀B0 w0,RowKit.Below B0 w0 W→B0≤w.heap.size+1→RowKit.Below B0 w0 W'):
  W'.cell? ⟨w.heap.size,1,none⟩=some v∧W'.frozen? ⟨w.heap.size,1,none⟩=false∧Hid (RdS w sv l x (k+1) v' (W'.setCell ⟨w.heap.size,1,none⟩ v')):=by
 have hb:=((hB (w.heap.size+1) W (RowKit.Below.refl _ _) (Nat.le_refl _)).block w.heap.size (Nat.lt_succ_self _)).trans h.blk
 refine⟨by simp[World.cell?,hb],by simp[World.frozen?,hb],Lib.hid ⟨heap_setCell_same W' _ 1 _ 247 _ hb,?_,(hB _ _ h.bel (Nat.le_succ _)).setCell (Nat.le_refl _) _⟩⟩
 have h2:=ownsRow_setCell_below ho (a:=⟨w.heap.size,1,none⟩) (Nat.lt_succ_self _) v'
 unfold OwnN
 rw[List.range_succ,List.map_append]
 exact h2
structure RdM (w:World) (sv:Value) (l:List Sg) (x:Int) (v:Value) (T:Nat) (W:World):Prop where
 blk:W.heap[w.heap.size]? =some (.cells #[sv,v,.map (some T),.map none] 247 (0,0))
 map:W.heap[T]? =some (.map (truthE w.heap.size) 9)
 own:OwnN W (w.heap.size+1) v ((List.range l.length).map (valN l x))
 bel:RowKit.Below w.heap.size w W
 apart:w.heap.size<T
theorem RdS.maps {w:World} {sv:Value} {l:List Sg} {x:Int} {v:Value} {wr wi:World} (h:RdS w sv l x l.length v wr) (hM:MapSt (wr.alloc (.map #[] 0)) wr.heap.size (truthE w.heap.size) 9 wi):
  RdM w sv l x v wr.heap.size (wi.setCell ⟨w.heap.size,2,none⟩ (.map (some wr.heap.size))):=by
 have hlt:=h.lt
 have hB:RowKit.Below wr.heap.size wr wi:=hM.below ((RowKit.Below.refl _ _).alloc (Nat.le_refl _) _) (Nat.le_refl _)
 have hb:=(hB.block _ hlt).trans h.blk
 refine⟨heap_setCell_same wi _ 2 _ 247 _ hb,(heap_setCell_other wi ⟨w.heap.size,2,none⟩ _ _ (by show wr.heap.size≠w.heap.size;omega)).trans hM.blk,?_,(h.bel.trans (hB.mono h.bel.size)).setCell (Nat.le_refl _) _,hlt⟩
 exact ownsRow_setCell_below (h.own.keep hB (Nat.le_refl _)) (a:=⟨w.heap.size,2,none⟩) (Nat.lt_succ_self _) _
theorem RdM.maps {w:World} {sv:Value} {l:List Sg} {x:Int} {v:Value} {T:Nat} {W wi:World} (h:RdM w sv l x v T W) (hM:MapSt (W.alloc (.map #[] 0)) W.heap.size (rawE w.heap.size) 5 wi) (hS:SgV w sv l) (hl:0<l.length):
  Rdr (wi.setCell ⟨w.heap.size,3,none⟩ (.map (some W.heap.size))) w.heap.size l x∧RowKit.Below w.heap.size w (wi.setCell ⟨w.heap.size,3,none⟩ (.map (some W.heap.size))):=by
 have hlt:w.heap.size<W.heap.size:=(Array.getElem?_eq_some_iff.1 h.blk).1
 have hT:T<W.heap.size:=(Array.getElem?_eq_some_iff.1 h.map).1
 have hB:RowKit.Below W.heap.size W wi:=hM.below ((RowKit.Below.refl _ _).alloc (Nat.le_refl _) _) (Nat.le_refl _)
 have hb:=(hB.block _ hlt).trans h.blk
 have hb3:=heap_setCell_same wi _ 3 _ 247 (.map (some W.heap.size)) hb
 have hbel:RowKit.Below w.heap.size w (wi.setCell ⟨w.heap.size,3,none⟩ (.map (some W.heap.size))):=(h.bel.trans (hB.mono h.bel.size)).setCell (Nat.le_refl _) _
 have hap:=h.apart
 have hmap:=(heap_setCell_other wi ⟨w.heap.size,3,none⟩ T (.map (some W.heap.size)) (by show T≠w.heap.size;omega)).trans ((hB.block T hT).trans h.map)
 have hraw:=(heap_setCell_other wi ⟨w.heap.size,3,none⟩ W.heap.size (.map (some W.heap.size)) (by show W.heap.size≠w.heap.size;omega)).trans hM.blk
 have hown:OwnN (wi.setCell ⟨w.heap.size,3,none⟩ (.map (some W.heap.size))) (w.heap.size+1) v ((List.range l.length).map (valN l x)):=ownsRow_setCell_below (h.own.keep hB (Nat.le_refl _)) (a:=⟨w.heap.size,3,none⟩) (Nat.lt_succ_self _) _
 refine⟨⟨(Array.getElem?_eq_some_iff.1 hb3).1,⟨sv,by simp[World.cell?,hb3],hS.keep hbel⟩,?_,⟨T,by simp[World.cell?,hb3],hmap⟩,⟨W.heap.size,by simp[World.cell?,hb3],hraw⟩⟩,hbel⟩
 have hlen:((List.range l.length).map (valN l x)).length=l.length:=by simp
 obtain⟨a,c,e1,e2, -⟩:=hown.cap
 rw[hlen] at e1 e2
 obtain⟨a',c',e3,e4⟩:=hown.nums
 have hr:=hown
 unfold OwnN at hr
 rcases hr.2 with⟨e,h0⟩|⟨g,cap,cur,e,_⟩
 ·rw[hlen] at h0;omega
 ·rw[hlen] at e e3
  obtain⟨b',o',e5,hb',hc'⟩:=e4 (fun e=>by rw[e] at hlen;simp only[List.length_nil] at hlen;omega)
  rw[e1] at e e3
  simp only[Value.slice.injEq,true_and] at e e3
  obtain⟨rfl,rfl⟩:=e
  obtain⟨rfl,rfl⟩:=e3
  simp only[Option.some.injEq,Addr.mk.injEq,and_true] at e5
  obtain⟨rfl,rfl⟩:=e5
  refine⟨g,c,by simp[World.cell?,hb3,e1],e2,hb',fun i hi=>?_⟩
  have:=hc' i (by simpa using hi)
  rw[Nat.zero_add] at this
  rw[this]
  simp[List.getD_eq_getElem?_getD,hi]
set_option maxRecDepth 100000 in
set_option maxHeartbeats 40000000 in
theorem reader129 {w:World} {sv:Value} {l:List Sg} {x:Int} (hS:SgV w sv l) (hK:Keys w) (hva:validB l=true) (x0:0≤x) (x1:x<prodS l):
  Calls Tryz.prog 129 #[sv,.int .i64 x] w fun e w'=>∃R,e=.returned (.pointer (some ⟨R,0,none⟩))∧Rdr w' R l x∧RowKit.Below w.heap.size w w':=by
 have HV:Hid (∀W i,RowKit.Below w.heap.size w W→i<l.length→Calls Tryz.prog 177 #[sv,.int .i64 x,.int .i64 (i:Int)] W fun e w'=>e=.returned (.int .i64 (valN l x i))∧RowKit.Below W.heap.size W w'):=Lib.hid fun W i hB hi=>callsIn_wide.1 (value177 (hS.keep hB) (hK.keep hB) hva x0 x1 hi)
 have HL:Hid (1≤l.length∧l.length≤6):=Lib.hid (by
  unfold validB at hva
  simp only[Bool.and_eq_true,decide_eq_true_eq] at hva
  exact hva.1.1)
 have HS:=Lib.hid hS
 obtain⟨sa,sc,rfl,hsl, -⟩:=hS
 clear hK hva x0 x1
 go_enter Tryz.func129,Tryz.ntmps129
 go_upto_region 2 with fail
 have HR1:Hid (RdS w (.slice sa l.length sc) l x 0 (.slice none 0 0) (w.alloc (.cells #[.slice sa l.length sc,.slice none 0 0,.map none,.map none] 247))):=Lib.hid ⟨World.alloc_heap_new w _,OwnN.nil _ _,(RowKit.Below.refl _ _).alloc (Nat.le_refl _) _⟩
 generalize w.alloc (.cells #[.slice sa l.length sc,.slice none 0 0,.map none,.map none] 247)=w1 at*
 have hl6:=HL.out.2
 go_wp2_with fail
 go_loopw [6,12] (fun o6 i wr=>∃(k:Nat) (v:Value),k≤l.length∧i=.int .i64 k∧Hid (RdS w (.slice sa l.length sc) l x k v wr)) (fun _ i _=>l.length - (intOf i).toNat)
 case atStart=>exact⟨0,_,Nat.zero_le _,rfl,HR1⟩
 case round=>
  obtain⟨k,v,hk,rfl,HRS⟩:=hrel
  by_cases hlt:(k:Int)<(l.length:Int)
  ·have hd:decide ((k:Int)<(l.length:Int))=true:=by simpa using hlt
   have hk':k<l.length:=by omega
   have HC:=Lib.hid (HV.out wr.drew k (HRS.out.bel.trans (below_drawn (RowKit.Below.refl _ _) 1)) hk')
   have HAD:Hid (∀w5,RowKit.Below wr.drew.heap.size wr.drew w5→∀u:Int,RdS w (.slice sa l.length sc) l x k v w5∧RdS w (.slice sa l.length sc) l x k v (w5.alloc (.cells #[.int .i64 u] 3))):=Lib.hid fun w5 h u=>by
    have h1:=(HRS.out.below (below_drawn (RowKit.Below.refl _ wr) 1)).below h
    exact⟨h1,h1.below ((RowKit.Below.refl _ _).alloc (Nat.le_refl _) _)⟩
   obtain⟨c1,f1⟩:=HRS.out.cell
   go_upto_region 5 with fail
   go_region_law (first
    |(refine step_append_I rfl (.tmp 19) (.tmp 24) rfl HW5.out.own rfl HW5.out.lt _ 1 [valN l x k] (by simp) rfl (by intro j hj;have hj0:j=0:=(by simpa using hj);subst hj0;exact cell_new _ _ _ 0) (by simp;omega) ?_;intro v' w6 HO6 HB6;obtain⟨ga,gc,hv'⟩:=HO6.out.form;subst hv';obtain⟨s1,sf1,HNX⟩:=HW5.out.step HO6.out HB6.out)
    |(go_simp;refine HC.out.mono ?_;rintro e w5 ⟨rfl,hB6⟩;have hw5:=HAD.out w5 hB6 (valN l x k);have u1:=hw5.1.cell.1;have v1:=hw5.2.cell.1;have HW5:=Lib.hid hw5.2;clear hw5 hB6))
   all_goals
    go_wp2_with fail
    go_roundw
    case rel=>exact⟨k+1,.slice ga (k+1) gc,by omega,by go_num,Lib.hid (by have h:=HNX.out;simpa only[List.length_append,List.length_map,List.length_range,List.length_cons,List.length_nil,Nat.zero_add] using h)⟩
    case measure=>simp[intOf];omega
  ·have hd:decide ((k:Int)<(l.length:Int))=false:=by simpa using hlt
   obtain rfl:k=l.length:=by omega
   have hb:=HRS.out.blk
   have HB:=Lib.hid HRS.out.bel
   have HO:=Lib.hid HRS.out.own
   have HSZ:=Lib.hid HRS.out.lt
   have HM1:=MapSt.start wr
   have hmm:=run_makeMap 244
   go_upto_region 7 with fail
   have HC2:Hid (∀es clk W,MapSt (wr.alloc (.map #[] 0)) wr.heap.size es clk W→W.cell? ⟨w.heap.size,2,none⟩=some (.map none)∧W.frozen? ⟨w.heap.size,2,none⟩=false):=Lib.hid fun es clk W h=>by
    have h1:=(h.other w.heap.size (by have:=HSZ.out;omega)).trans ((heap_alloc_old wr _ HSZ.out).trans hb)
    simp[World.cell?,World.frozen?,h1]
   go_upto_region 8 with(first|(refine wpList_insert_st rfl _ _ _ 244 166 rfl (by kernel_rfl) rfl rfl rfl (by decide) (by decide) (by assumption) rfl ?_;intro wi hMi;obtain⟨c2,f2⟩:=HC2.out _ _ _ hMi))
   have HQ:Hid (RdM w (.slice sa l.length sc) l x v wr.heap.size (wi.setCell ⟨w.heap.size,2,none⟩ (.map (some wr.heap.size)))):=Lib.hid (HRS.out.maps hMi)
   clear hMi c2 f2 HC2 hmm HM1
   generalize wi.setCell ⟨w.heap.size,2,none⟩ (.map (some wr.heap.size))=w7 at*
   have HM2:=MapSt.start w7
   have hmm:=run_makeMap 245
   have hlt7:w.heap.size<w7.heap.size:=(Array.getElem?_eq_some_iff.1 HQ.out.blk).1
   have HC3:Hid (∀es clk W,MapSt (w7.alloc (.map #[] 0)) w7.heap.size es clk W→W.cell? ⟨w.heap.size,3,none⟩=some (.map none)∧W.frozen? ⟨w.heap.size,3,none⟩=false):=Lib.hid fun es clk W h=>by
    have h1:=(h.other w.heap.size (by omega)).trans ((heap_alloc_old w7 _ hlt7).trans HQ.out.blk)
    simp[World.cell?,World.frozen?,h1]
   go_wp2_with (first|(refine wpList_insert_st rfl _ _ _ 245 183 rfl (by kernel_rfl) rfl rfl rfl (by decide) (by decide) (by assumption) rfl ?_;intro wj hMj;obtain⟨c3,f3⟩:=HC3.out _ _ _ hMj))
   have HZ:=Lib.hid (HQ.out.maps hMj HS.out (by have:=HL.out.1;omega))
   go_ret
   exact⟨w.heap.size,rfl,HZ.out.1,HZ.out.2⟩
end
section
open Go.RowKit Go.Sort
variable {n0:Nat}
def fitB (l:List Sg) (op:Int) (nm:ByteArray) (v bd:Int) (args:Fs):Bool:=validB l&&looseB op nm v bd args&&kn1 l op nm v args
theorem kn1_tr {l:List Sg} {z:Wf} (hg:gdp pN z=true) {op:Int} {nm:ByteArray} {v bd:Int} {args r:Fs} (e:trC z r=.cons op nm v bd args r):kn1 l op nm v args=gdp (Kn l) z:=by
 have h:=kn_trC l z .nil hg
 obtain⟨op',nm',v',bd',a',e1,e2⟩:=trC_cons z .nil
 obtain⟨op'',nm'',v'',bd'',a'',k1,k2⟩:=trC_cons z r
 rw[k2] at e
 simp only[Fs.cons.injEq,and_true] at e
 obtain⟨rfl,rfl,rfl,rfl,rfl⟩:=e
 rw[k1] at h
 simpa[knF,kn1] using h
theorem fitB_fit {l:List Sg} {op:Int} {nm:ByteArray} {v bd:Int} {args:Fs} (h:fitB l op nm v bd args=true):∃z,(∀r,Fs.cons op nm v bd args r=trC z r)∧Fit l z:=by
 unfold fitB at h
 simp only[Bool.and_eq_true] at h
 obtain⟨z,e,hl⟩:=loose_lo h.1.2
 exact⟨z,e,hl,by rw[←kn1_tr hl.gd (e .nil).symm];exact h.2⟩
theorem fit_fitB {l:List Sg} {z:Wf} (hv:validB l=true) (h:Fit l z) {op:Int} {nm:ByteArray} {v bd:Int} {args r:Fs} (e:trC z r=.cons op nm v bd args r):fitB l op nm v bd args=true:=by
 unfold fitB
 rw[hv,lo_loose h.1 e,kn1_tr h.1.gd e,h.2];rfl
theorem fitB_valid {l:List Sg} {op:Int} {nm:ByteArray} {v bd:Int} {args:Fs} (h:fitB l op nm v bd args=true):validB l=true:=by
 unfold fitB at h
 simp only[Bool.and_eq_true] at h
 exact h.1.1
structure Env (w:World) (sv:Value) (l:List Sg):Prop where
 sg:SgV w sv l
 forms:Forms w
 keys:Keys w
theorem Env.keep {w w':World} {sv:Value} {l:List Sg} (h:Env w sv l) (hB:RowKit.Below w.heap.size w w'):Env w' sv l:=⟨h.sg.keep hB,h.forms.keep hB,h.keys.keep hB⟩
set_option maxRecDepth 100000 in
set_option maxHeartbeats 40000000 in
theorem fits62 {w:World} {sv:Value} {l:List Sg} {b o:Nat} {op v bd:Int} {nm:ByteArray} {args rest:Fs} (hE:Env w sv l) (hF:FAt w (.cons op nm v bd args rest) b o) (hb:b<w.heap.size):
  Calls Tryz.prog 62 #[sv,.pointer (some ⟨b,o,none⟩)] w fun e w'=>e=.returned (.bool (fitB l op nm v bd args))∧RowKit.Below w.heap.size w w':=by
 have HA:=Lib.hid (valid124 hE.sg hE.keys)
 have HB:Hid (∀W,RowKit.Below w.heap.size w W→Calls Tryz.prog 125 #[.pointer (some ⟨b,o,none⟩)] W fun e w'=>e=.returned (.bool (looseB op nm v bd args))∧RowKit.Below W.heap.size W w'):=Lib.hid fun W h=>loose125 (FAt.keep h hb hF) (Nat.lt_of_lt_of_le hb h.size) (hE.forms.keep h) (hE.keys.keep h)
 have HC:Hid (∀W,RowKit.Below w.heap.size w W→Calls Tryz.prog 126 #[sv,.pointer (some ⟨b,o,none⟩)] W (Tells (kn1 l op nm v args) W)):=Lib.hid fun W h=>known126 l sv _ op nm v bd args rest (Nat.lt_succ_self _) W b o (hE.sg.keep h) (Nat.lt_of_lt_of_le hb h.size) (FAt.keep h hb hF)
 have HR:Hid (fitB l op nm v bd args=(validB l&&looseB op nm v bd args&&kn1 l op nm v args)):=Lib.hid rfl
 obtain⟨sa,sc,rfl, -, -⟩:=hE.sg
 clear hE hF
 generalize fitB l op nm v bd args=ans at*
 generalize looseB op nm v bd args=b2 at*
 generalize kn1 l op nm v args=b3 at*
 generalize validB l=b1 at*
 go_enter Tryz.func62,Tryz.ntmps62
 go_wp2_with fail
 refine HA.out.mono ?_
 rintro e w1 ⟨rfl,hB1⟩
 have H1:=Lib.hid hB1
 clear hB1 HA
 cases b1 with
 |false=>
  have HQ:Hid (ans=false):=Lib.hid HR.out
  go_wp2_with fail
  go_ret
  exact⟨by rw[HQ.out];rfl,H1.out⟩
 |true=>
  have H2:=Lib.hid (HB.out w1 H1.out)
  go_wp2_with fail
  refine H2.out.mono ?_
  rintro e w2 ⟨rfl,hB2⟩
  have H3:=Lib.hid (H1.out.trans (hB2.mono H1.out.size))
  clear hB2 H2 HB
  cases b2 with
  |false=>
   have HQ:Hid (ans=false):=Lib.hid HR.out
   go_wp2_with fail
   go_ret
   exact⟨by rw[HQ.out];rfl,H3.out⟩
  |true=>
   have H4:=Lib.hid (HC.out w2 H3.out)
   have HQ:Hid (ans=b3):=Lib.hid (by rw[HR.out];rfl)
   go_wp2_with fail
   refine H4.out.mono ?_
   rintro e w3 ⟨rfl,m,rfl⟩
   have H5:=Lib.hid (below_drawn H3.out m)
   clear H4
   go_wp2_with fail
   go_ret
   exact⟨by rw[HQ.out];rfl,H5.out⟩
def trO:Option Wf→Fs
 |some y=>tr y
 |none=>tz
theorem at_alloc {w:World} {x:ElA} (hx:Rd w x):FAt (w.alloc (.cells x.enc.toArray 48)) (.cons x.op x.nm x.v x.bd x.args .nil) w.heap.size 0:=(hx.keep ((RowKit.Below.refl _ _).alloc (Nat.le_refl _) _)).at (w:=w) (World.alloc_heap_new w _)
theorem t_fin {w W:World} {x:ElA} {t:Fs} (hn0:n0≤w.heap.size) (hx:x.ok (w.heap.size+1) W) (ht:x.tree=t) (hB:RowKit.Below w.heap.size w W):
  TOut n0 w t (.returned (.agg x.enc.toArray)) (putRes W w.heap.size (.int .i64 x.op) (.string x.nm) (.int .i64 x.v) (.int .i64 x.bd) (.slice x.a x.args.len x.c)):=by
 have hon:only w.heap.size w.heap.size=true:=by simp[only]
 have hf:Fr (only w.heap.size) W.heap.size W (putRes W w.heap.size (.int .i64 x.op) (.string x.nm) (.int .i64 x.v) (.int .i64 x.bd) (.slice x.a x.args.len x.c)):=
  (((((Fr.refl _ _ _).setCell (.inl hon) _).setCell (.inl hon) _).setCell (.inl hon) _).setCell (.inl hon) _).setCell (.inl hon) _
 exact⟨x,ElA.mono (ElA.keepN hx (Nat.lt_succ_self _) hf) (by omega),ht,rfl,putRes_below hB (Nat.le_refl _) _ _ _ _ _⟩
set_option maxRecDepth 100000 in
set_option maxHeartbeats 40000000 in
theorem residual130 {w:World} {sv:Value} {l:List Sg} {x:Int} {R b o:Nat} {r:Fs} {z:Wf} (hn0:n0≤w.heap.size) (hE:Env w sv l) (hR:Rdr w R l x) (hb:b<w.heap.size) (hF:FAt w (trC z r) b o) (hz:Fit l z) (hx:0≤x∧x<letN l):
  Calls Tryz.prog 130 #[.pointer (some ⟨R,0,none⟩),.pointer (some ⟨b,o,none⟩)] w (TOut n0 w (trO (stepO l x z))):=by
 have HRA:Hid (∀W,RowKit.Below w.heap.size w W→Calls Tryz.prog 191 #[.pointer (some ⟨R,0,none⟩),.pointer (some ⟨b,o,none⟩)] W (FormOut W.heap.size W (raw (rho l x) z))):=Lib.hid fun W h=>raw191 l x _ z (Nat.lt_succ_self _) hz.1.size hz.1.ok hz.2 W.heap.size W R b o r (Nat.le_refl _) (hR.keep h) (Nat.lt_of_lt_of_le hb h.size) (FAt.keep h hb hF)
 have HE:=Lib.hid hE
 have HN0:=Lib.hid hn0
 have HST:Hid (∀y:ElA,y.tree=tr (raw (rho l x) z)→(looseB y.op y.nm y.v y.bd y.args=false∧stepO l x z=none)∨(Lo (raw (rho l x) z)∧stepO l x z=some (canon ordF (raw (rho l x) z)))):=Lib.hid fun y hy=>by
  by_cases hc:size (raw (rho l x) z)≤400∧dep (raw (rho l x) z)≤60
  ·exact .inr ⟨raw_lo hz.1 hc.1 hc.2,by unfold stepO;rw[if_pos ⟨hx,hc⟩]⟩
  ·refine .inl ⟨?_,by unfold stepO;rw[if_neg fun h=>hc h.2]⟩
   cases hl:looseB y.op y.nm y.v y.bd y.args with
   |false=>rfl
   |true=>
    obtain⟨z',e,hl'⟩:=loose_lo hl
    obtain rfl:=tr_inj ((show tr z'=y.tree from(e .nil).symm).trans hy)
    exact absurd ⟨hl'.size,hl'.dep⟩ hc
 clear hn0 hE hR hF hz hx hb
 generalize stepO l x z=st at*
 go_enter Tryz.func130,Tryz.ntmps130
 go_upto_region 1 with fail
 have HR:=Lib.hid (Res0.start w)
 simp only[zero48] at HR
 generalize w.alloc (.cells #[.int .i64 0,.string ⟨#[]⟩,.int .i64 0,.int .i64 0,.slice none 0 0] 48)=w1 at*
 go_wp2_with fail
 refine(HRA.out _ HR.out.bel).mono ?_
 rintro e w2 ⟨y,hy,hyt,rfl,hB2,hd2⟩
 have HR2:=Lib.hid (HR.out.below hB2 hd2)
 have HS:=Lib.hid (HST.out y hyt)
 have HYT:=Lib.hid hyt
 have HCA:Hid (∀W,RowKit.Below w2.heap.size w2 W→Calls Tryz.prog 63 #[.agg y.enc.toArray] W (CanonOut W.heap.size W y)):=Lib.hid fun W h=>canon63 (Nat.le_refl _) ((Rd.of_ok hy).keep h) ((HE.out.forms.keep HR2.out.bel).keep h) ((HE.out.keys.keep HR2.out.bel).keep h)
 clear hy hyt hB2 hd2 HST HRA
 have HT:Hid (∀e W,CanonOut W.heap.size W y e W→True):=Lib.hid fun _ _ _=>trivial
 clear HT
 obtain⟨y0,y1,y2,y3,y4,y5,y6⟩:=y
 simp only[ElA.enc] at HCA ⊢
 go_upto_region 2 with fail
 have HA2:Hid (RowKit.Below w2.heap.size w2 (w2.alloc (.cells #[.int .i64 y0,.string y1,.int .i64 y2,.int .i64 y3,.slice y5 y4.len y6] 48))):=Lib.hid ((RowKit.Below.refl _ _).alloc (Nat.le_refl _) _)
 have HR3:Hid (Res0 w (w2.alloc (.cells #[.int .i64 y0,.string y1,.int .i64 y2,.int .i64 y3,.slice y5 y4.len y6] 48))):=Lib.hid (HR2.out.below HA2.out (Nat.le_refl _))
 have k0:=cell_new w2 #[.int .i64 y0,.string y1,.int .i64 y2,.int .i64 y3,.slice y5 y4.len y6] 48 0
 have k1:=cell_new w2 #[.int .i64 y0,.string y1,.int .i64 y2,.int .i64 y3,.slice y5 y4.len y6] 48 1
 have k2:=cell_new w2 #[.int .i64 y0,.string y1,.int .i64 y2,.int .i64 y3,.slice y5 y4.len y6] 48 2
 have k3:=cell_new w2 #[.int .i64 y0,.string y1,.int .i64 y2,.int .i64 y3,.slice y5 y4.len y6] 48 3
 have k4:=cell_new w2 #[.int .i64 y0,.string y1,.int .i64 y2,.int .i64 y3,.slice y5 y4.len y6] 48 4
 simp only[List.getElem?_toArray,List.getElem?_cons_succ,List.getElem?_cons_zero] at k0 k1 k2 k3 k4
 generalize w2.alloc (.cells #[.int .i64 y0,.string y1,.int .i64 y2,.int .i64 y3,.slice y5 y4.len y6] 48)=w3 at*
 go_wp2_with fail
 refine(HCA.out w3 HA2.out).mono ?_
 intro e w4 hC
 have HX:∃u:ElA,u.ok w3.heap.size w4∧u.tree=trO st∧e=.returned (.agg u.enc.toArray)∧RowKit.Below w3.heap.size w3 w4:=by
  rcases HS.out with⟨h1,h2⟩|⟨h1,h2⟩
  ·rw[h2];exact hC.1 h1
  ·rw[h2];exact hC.2 _ HYT.out h1
 obtain⟨⟨u0,u1,u2,u3,u4,u5,u6⟩,hu,hut,rfl,hB4⟩:=HX
 have HU:=Lib.hid (And.intro (ElA.mono hu HR3.out.lt) (And.intro hut (HR3.out.bel.trans (hB4.mono HR3.out.bel.size))))
 have hr:=(hB4.block _ HR3.out.lt).trans HR3.out.res
 have r0:w4.cell? ⟨w.heap.size,0,none⟩=some (.int .i64 0):=by simp[World.cell?,hr,zero48]
 have r1:w4.cell? ⟨w.heap.size,1,none⟩=some (.string ⟨#[]⟩):=by simp[World.cell?,hr,zero48]
 have r2:w4.cell? ⟨w.heap.size,2,none⟩=some (.int .i64 0):=by simp[World.cell?,hr,zero48]
 have r3:w4.cell? ⟨w.heap.size,3,none⟩=some (.int .i64 0):=by simp[World.cell?,hr,zero48]
 have r4:w4.cell? ⟨w.heap.size,4,none⟩=some (.slice none 0 0):=by simp[World.cell?,hr,zero48]
 have r5:∀o,w4.frozen? ⟨w.heap.size,o,none⟩=false:=fun o=>by simp[World.frozen?,hr]
 clear hC hu hut hB4 hr k0 k1 k2 k3 k4
 simp only[ElA.enc]
 go_wp2_with fail
 refine bodyPost_ret (v:=.agg #[.int .i64 u0,.string u1,.int .i64 u2,.int .i64 u3,.slice u5 u4.len u6]) (by
  simp[results,Tryz.f130,go_sem,r0,r1,r2,r3,r4]) rfl ?_
 have h:=t_fin HN0.out HU.out.1 HU.out.2.1 HU.out.2.2
 simp only[ElA.enc] at h
 exact h
end
section
open Go.RowKit Go.Sort
variable {n0:Nat}
theorem t_finr {w W:World} {x:ElA} {t:Fs} {r:Nat} (hn0:n0≤w.heap.size) (hr:w.heap.size≤r) (hx:x.ok (r+1) W) (ht:x.tree=t) (hB:RowKit.Below w.heap.size w W):
  TOut n0 w t (.returned (.agg x.enc.toArray)) (putRes W r (.int .i64 x.op) (.string x.nm) (.int .i64 x.v) (.int .i64 x.bd) (.slice x.a x.args.len x.c)):=by
 have hon:only r r=true:=by simp[only]
 have hf:Fr (only r) W.heap.size W (putRes W r (.int .i64 x.op) (.string x.nm) (.int .i64 x.v) (.int .i64 x.bd) (.slice x.a x.args.len x.c)):=
  (((((Fr.refl _ _ _).setCell (.inl hon) _).setCell (.inl hon) _).setCell (.inl hon) _).setCell (.inl hon) _).setCell (.inl hon) _
 exact⟨x,ElA.mono (ElA.keepN hx (Nat.lt_succ_self _) hf) (by omega),ht,rfl,putRes_below hB hr _ _ _ _ _⟩
def FitOut1 (fb:Bool) (l:List Sg) (n0:Nat) (w:World) (t:Fs) (F:Wf→Option Wf) (e:Ending) (w':World):Prop:=
 (fb=false→TOut n0 w tz e w')∧∀z,t=tr z→Fit l z→TOut n0 w (trO (F z)) e w'
theorem fit_ways {l:List Sg} {x:ElA} (hv:validB l=true):(fitB l x.op x.nm x.v x.bd x.args=true→∃z,x.tree=tr z∧Fit l z)∧∀z,x.tree=tr z→Fit l z→fitB l x.op x.nm x.v x.bd x.args=true:=
 ⟨fun h=>by
  obtain⟨z,e,hf⟩:=fitB_fit h
  exact⟨z,e .nil,hf⟩,fun z e hf=>fit_fitB (r:=.nil) hv hf (show trC z .nil=_ from e.symm)⟩
theorem Env.valid_letters {l:List Sg} (h:validB l=true):letN l=prodS l:=by unfold letN;rw[if_pos h]
set_option maxRecDepth 100000 in
set_option maxHeartbeats 40000000 in
theorem step64 {w:World} {sv:Value} {l:List Sg} {x:ElA} {y:Int} (hn0:n0≤w.heap.size) (hE:Env w sv l) (hv:validB l=true) (hx:Rd w x):
  Calls Tryz.prog 64 #[sv,.agg x.enc.toArray,.int .i64 y] w (FitOut1 (fitB l x.op x.nm x.v x.bd x.args) l n0 w x.tree (stepO l y)):=by
 have hB0:RowKit.Below w.heap.size w (w.alloc (.cells x.enc.toArray 48)):=(RowKit.Below.refl _ _).alloc (Nat.le_refl _) _
 have hB1:RowKit.Below (w.alloc (.cells x.enc.toArray 48)).heap.size (w.alloc (.cells x.enc.toArray 48)) ((w.alloc (.cells x.enc.toArray 48)).alloc (.cells zero48 48)):=(RowKit.Below.refl _ _).alloc (Nat.le_refl _) _
 have hlt:w.heap.size<(w.alloc (.cells x.enc.toArray 48)).heap.size:=by simp
 have hFA:=FAt.keep hB1 hlt (at_alloc hx)
 have hlt1:=Nat.lt_of_lt_of_le hlt hB1.size
 have hBB:RowKit.Below w.heap.size w ((w.alloc (.cells x.enc.toArray 48)).alloc (.cells zero48 48)):=hB0.trans (hB1.mono hB0.size)
 have hr:=World.alloc_heap_new (w.alloc (.cells x.enc.toArray 48)) (.cells zero48 48)
 rw[World.size_alloc] at hr
 have HF:=Lib.hid (fits62 (hE.keep hBB) hFA hlt1)
 have HL:Hid (∀W,RowKit.Below w.heap.size w W→Calls Tryz.prog 66 #[sv] W fun e w'=>e=.returned (.int .i64 (letN l))∧RowKit.Below W.heap.size W w'):=Lib.hid fun W h=>letters66 (hE.sg.keep h) (hE.keys.keep h)
 have HRD:Hid (0≤y→y<letN l→∀W,RowKit.Below w.heap.size w W→Calls Tryz.prog 129 #[sv,.int .i64 y] W fun e w'=>∃R,e=.returned (.pointer (some ⟨R,0,none⟩))∧Rdr w' R l y∧RowKit.Below W.heap.size W w'):=Lib.hid fun h0 h1 W h=>reader129 (hE.sg.keep h) (hE.keys.keep h) hv h0 (by rw[Env.valid_letters hv] at h1;exact h1)
 have HRS:Hid (∀z,x.tree=tr z→Fit l z→0≤y→y<letN l→∀W R,RowKit.Below ((w.alloc (.cells x.enc.toArray 48)).alloc (.cells zero48 48)).heap.size ((w.alloc (.cells x.enc.toArray 48)).alloc (.cells zero48 48)) W→Rdr W R l y→Calls Tryz.prog 130 #[.pointer (some ⟨R,0,none⟩),.pointer (some ⟨w.heap.size,0,none⟩)] W (TOut W.heap.size W (trO (stepO l y z)))):=Lib.hid fun z hz hf h0 h1 W R h hR=>by
  have hF:=FAt.keep h hlt1 hFA
  have hz:Fs.cons x.op x.nm x.v x.bd x.args .nil=trC z .nil:=hz
  rw[hz] at hF
  exact residual130 (Nat.le_refl _) ((hE.keep hBB).keep h) hR (Nat.lt_of_lt_of_le hlt1 h.size) hF hf ⟨h0,h1⟩
 have HW:=Lib.hid (fit_ways (x:=x) hv)
 have HN0:=Lib.hid hn0
 have HB:=Lib.hid (And.intro hBB hr)
 have HOUT:Hid (∀z,(y<0∨letN l≤y)→stepO l y z=none):=Lib.hid fun z h=>by unfold stepO;rw[if_neg];intro h2;omega
 obtain⟨sa,sc,rfl, -, -⟩:=hE.sg
 clear hB0 hB1 hlt hFA hlt1 hBB hr hn0 hE hx hv
 generalize fitB l x.op x.nm x.v x.bd x.args=fb at*
 generalize x.tree=tx at*
 obtain⟨op,nm,v,bd,args,a,c⟩:=x
 simp only[ElA.enc,zero48] at*
 go_enter Tryz.func64,Tryz.ntmps64
 go_upto_region 1 with fail
 generalize (w.alloc (.cells #[.int .i64 op,.string nm,.int .i64 v,.int .i64 bd,.slice a args.len c] 48)).alloc (.cells #[.int .i64 0,.string ⟨#[]⟩,.int .i64 0,.int .i64 0,.slice none 0 0] 48)=w1 at*
 have HLT:Hid (w.heap.size+2≤w1.heap.size):=Lib.hid (Array.getElem?_eq_some_iff.1 HB.out.2).1
 go_wp2_with fail
 refine HF.out.mono ?_
 rintro e w2 ⟨rfl,hB2⟩
 have H2:=Lib.hid (And.intro (HB.out.1.trans (hB2.mono HB.out.1.size)) (And.intro hB2 ((hB2.block _ HLT.out).trans HB.out.2)))
 have hr:=H2.out.2.2
 clear hB2
 cases fb with
 |false=>
  have r0:w2.cell? ⟨w.heap.size+1,0,none⟩=some (.int .i64 0):=by simp[World.cell?,hr]
  have r1:w2.cell? ⟨w.heap.size+1,1,none⟩=some (.string ⟨#[]⟩):=by simp[World.cell?,hr]
  have r2:w2.cell? ⟨w.heap.size+1,2,none⟩=some (.int .i64 0):=by simp[World.cell?,hr]
  have r3:w2.cell? ⟨w.heap.size+1,3,none⟩=some (.int .i64 0):=by simp[World.cell?,hr]
  have r4:w2.cell? ⟨w.heap.size+1,4,none⟩=some (.slice none 0 0):=by simp[World.cell?,hr]
  have r5:∀o,w2.frozen? ⟨w.heap.size+1,o,none⟩=false:=fun o=>by simp[World.frozen?,hr]
  clear hr
  go_wp2_with fail
  refine bodyPost_ret (v:=.agg #[.int .i64 0,.string ⟨#[]⟩,.int .i64 0,.int .i64 0,.slice none 0 0]) (by
   simp[results,Tryz.f64,go_sem,r0,r1,r2,r3,r4]) rfl ?_
  have h:=t_finr (x:=⟨0,⟨#[]⟩,0,0,.nil,none,0⟩) (t:=tz) HN0.out (Nat.le_succ w.heap.size) (zero_ok _ _) rfl H2.out.1
  simp only[ElA.enc] at h
  exact⟨fun _=>h,fun z e hf=>absurd (HW.out.2 z e hf) (by decide)⟩
 |true=>
  obtain⟨z,hz,hf⟩:=HW.out.1 rfl
  have HZ:=Lib.hid (And.intro hz hf)
  clear hz hf HF
  by_cases hy:y<0
  ·have hd:decide (y<0)=true:=by simpa using hy
   have r0:w2.cell? ⟨w.heap.size+1,0,none⟩=some (.int .i64 0):=by simp[World.cell?,hr]
   have r1:w2.cell? ⟨w.heap.size+1,1,none⟩=some (.string ⟨#[]⟩):=by simp[World.cell?,hr]
   have r2:w2.cell? ⟨w.heap.size+1,2,none⟩=some (.int .i64 0):=by simp[World.cell?,hr]
   have r3:w2.cell? ⟨w.heap.size+1,3,none⟩=some (.int .i64 0):=by simp[World.cell?,hr]
   have r4:w2.cell? ⟨w.heap.size+1,4,none⟩=some (.slice none 0 0):=by simp[World.cell?,hr]
   have r5:∀o,w2.frozen? ⟨w.heap.size+1,o,none⟩=false:=fun o=>by simp[World.frozen?,hr]
   clear hr
   go_wp2_with fail
   refine bodyPost_ret (v:=.agg #[.int .i64 0,.string ⟨#[]⟩,.int .i64 0,.int .i64 0,.slice none 0 0]) (by
    simp[results,Tryz.f64,go_sem,r0,r1,r2,r3,r4]) rfl ?_
   have h:=t_finr (x:=⟨0,⟨#[]⟩,0,0,.nil,none,0⟩) (t:=tz) HN0.out (Nat.le_succ w.heap.size) (zero_ok _ _) rfl H2.out.1
   simp only[ElA.enc] at h
   refine⟨fun e=>absurd e (by decide),fun z' e hf=>?_⟩
   rw[HOUT.out z' (.inl hy)]
   exact h
  ·have hd:decide (y<0)=false:=by simpa using hy
   have HL2:=Lib.hid (HL.out w2 H2.out.1)
   clear hr
   go_wp2_with fail
   refine HL2.out.mono ?_
   rintro e w3 ⟨rfl,hB3⟩
   have H3:=Lib.hid (And.intro (H2.out.1.trans (hB3.mono H2.out.1.size)) (And.intro (H2.out.2.1.trans (hB3.mono H2.out.2.1.size)) ((hB3.block _ (Nat.lt_of_lt_of_le HLT.out H2.out.2.1.size)).trans H2.out.2.2)))
   have hr:=H3.out.2.2
   clear hB3 HL2
   by_cases hy2:letN l≤y
   ·have hd2:decide (letN l≤y)=true:=by simpa using hy2
    generalize letN l=ln at*
    have r0:w3.cell? ⟨w.heap.size+1,0,none⟩=some (.int .i64 0):=by simp[World.cell?,hr]
    have r1:w3.cell? ⟨w.heap.size+1,1,none⟩=some (.string ⟨#[]⟩):=by simp[World.cell?,hr]
    have r2:w3.cell? ⟨w.heap.size+1,2,none⟩=some (.int .i64 0):=by simp[World.cell?,hr]
    have r3:w3.cell? ⟨w.heap.size+1,3,none⟩=some (.int .i64 0):=by simp[World.cell?,hr]
    have r4:w3.cell? ⟨w.heap.size+1,4,none⟩=some (.slice none 0 0):=by simp[World.cell?,hr]
    have r5:∀o,w3.frozen? ⟨w.heap.size+1,o,none⟩=false:=fun o=>by simp[World.frozen?,hr]
    clear hr
    go_wp2_with fail
    refine bodyPost_ret (v:=.agg #[.int .i64 0,.string ⟨#[]⟩,.int .i64 0,.int .i64 0,.slice none 0 0]) (by
     simp[results,Tryz.f64,go_sem,r0,r1,r2,r3,r4]) rfl ?_
    have h:=t_finr (x:=⟨0,⟨#[]⟩,0,0,.nil,none,0⟩) (t:=tz) HN0.out (Nat.le_succ w.heap.size) (zero_ok _ _) rfl H3.out.1
    simp only[ElA.enc] at h
    refine⟨fun e=>absurd e (by decide),fun z' e hf=>?_⟩
    rw[HOUT.out z' (.inr hy2)]
    exact h
   ·have hd2:decide (letN l≤y)=false:=by simpa using hy2
    have HR1:=Lib.hid (HRD.out (by omega) (by omega) w3 H3.out.1)
    have HS1:=Lib.hid (HRS.out z HZ.out.1 HZ.out.2 (by omega) (by omega))
    clear hr HRD HRS HL HOUT
    generalize letN l=ln at*
    go_wp2_with fail
    refine HR1.out.mono ?_
    rintro e w4 ⟨R,rfl,hR,hB4⟩
    have H4:=Lib.hid (And.intro (H3.out.1.trans (hB4.mono H3.out.1.size)) (And.intro (H3.out.2.1.trans (hB4.mono H3.out.2.1.size)) ((hB4.block _ (Nat.lt_of_lt_of_le HLT.out H3.out.2.1.size)).trans H3.out.2.2)))
    have HSR:=Lib.hid (HS1.out w4 R H4.out.2.1 hR)
    clear hB4 hR HR1
    go_wp2_with fail
    refine HSR.out.mono ?_
    rintro e w5 ⟨⟨u0,u1,u2,u3,u4,u5,u6⟩,hu,hut,rfl,hB5⟩
    have hr:=(hB5.block _ (Nat.lt_of_lt_of_le HLT.out H4.out.2.1.size)).trans H4.out.2.2
    have HU:=Lib.hid (And.intro (ElA.mono hu (show w.heap.size+1+1≤w4.heap.size from Nat.le_trans HLT.out H4.out.2.1.size)) (And.intro hut (H4.out.1.trans (hB5.mono H4.out.1.size))))
    have r0:w5.cell? ⟨w.heap.size+1,0,none⟩=some (.int .i64 0):=by simp[World.cell?,hr]
    have r1:w5.cell? ⟨w.heap.size+1,1,none⟩=some (.string ⟨#[]⟩):=by simp[World.cell?,hr]
    have r2:w5.cell? ⟨w.heap.size+1,2,none⟩=some (.int .i64 0):=by simp[World.cell?,hr]
    have r3:w5.cell? ⟨w.heap.size+1,3,none⟩=some (.int .i64 0):=by simp[World.cell?,hr]
    have r4:w5.cell? ⟨w.heap.size+1,4,none⟩=some (.slice none 0 0):=by simp[World.cell?,hr]
    have r5:∀o,w5.frozen? ⟨w.heap.size+1,o,none⟩=false:=fun o=>by simp[World.frozen?,hr]
    clear hr hu hut hB5
    simp only[ElA.enc]
    go_wp2_with fail
    refine bodyPost_ret (v:=.agg #[.int .i64 u0,.string u1,.int .i64 u2,.int .i64 u3,.slice u5 u4.len u6]) (by
     simp[results,Tryz.f64,go_sem,r0,r1,r2,r3,r4]) rfl ?_
    have h:=t_finr HN0.out (Nat.le_succ w.heap.size) HU.out.1 HU.out.2.1 HU.out.2.2
    simp only[ElA.enc] at h
    refine⟨fun e=>absurd e (by decide),fun z' e hf=>?_⟩
    obtain rfl:z'=z:=tr_inj (e.symm.trans HZ.out.1)
    exact h
end
end Go.Proofs.YtckdgniecdfedaaGreatDoor
