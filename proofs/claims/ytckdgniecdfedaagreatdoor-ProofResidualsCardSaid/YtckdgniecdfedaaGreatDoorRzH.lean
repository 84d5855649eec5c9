/- The walk of join. Lists of new trees; the walk of canons. The walk of canon's closure 'constant'. -/
import Derived.Test.YtckdgniecdfedaaGreatDoorRzG
namespace Go.Proofs.YtckdgniecdfedaaGreatDoor
section
open Go.RowKit Go.Sort
variable {n0:Nat}
theorem nodes_trC:∀(x:Wf) (r:Fs),(trC x r).nodes=(tr x).nodes+r.nodes:=fun x r=>by
 obtain⟨op,nm,v,bd,a,e1,e2⟩:=trC_cons x r
 rw[tr,e1,e2]
 simp only[Fs.nodes]
 omega
theorem nodes_pos (x:Wf):1≤(tr x).nodes:=by
 obtain⟨op,nm,v,bd,a,e1,e2⟩:=trC_cons x .nil
 rw[tr,e1]
 simp only[Fs.nodes]
 omega
theorem nodes_trs:∀L:List Wf,L.length≤(trs L).nodes
 |[]=>Nat.le_refl _
 |x::L=>by
  have:=nodes_trs L
  have:=nodes_pos x
  simp only[trs,nodes_trC,List.length_cons]
  omega
theorem flat_nodes (k:Bool) (z:Wf):(flat k z).length≤(tr z).nodes:=by
 have:=nodes_pos z
 cases z with
 |con k' l=>
  by_cases e:k'=k
  ·subst e
   have:=nodes_trs l
   simp only[flat,if_true,tr,trC,Fs.nodes]
   omega
  ·simp[flat,e];omega
 |tt=>cases k<;>simp[flat];omega
 |ff=>cases k<;>simp[flat];omega
 |_=>simp[flat];omega
theorem parts_nodes (k:Bool):∀L:List Wf,(parts k L).length≤(trs L).nodes
 |[]=>Nat.le_refl _
 |z::L=>by
  have h1:=parts_nodes k L
  have h2:=flat_nodes k z
  simp only[parts,List.flatMap_cons,List.length_append] at*
  simp only[trs,nodes_trC]
  omega
theorem parts_take (k:Bool) (L:List Wf) (i:Nat):(parts k (L.take i)).length≤(parts k L).length:=by
 have h:parts k (L.take i++L.drop i)=parts k (L.take i)++parts k (L.drop i):=by simp only[parts,List.flatMap_append]
 rw[List.take_append_drop] at h
 rw[h,List.length_append]
 omega
theorem clip254 (w:World) {a:Option Addr} {n c:Nat} (h:n≤c):Calls Tryz.prog 254 #[.slice a n c] w fun e w'=>e=.returned (.slice a n n)∧w'=w:=by
 have h1:(n:Int)≤(c:Int):=by omega
 go_enter Tryz.func254,Tryz.ntmps254
 go_wp2_with fail
 go_ret
 exact⟨rfl,rfl⟩
theorem size_tr (f:Wf):(tr f).nodes=size f:=by
 have hl:∀l:List Wf,(∀x∈l,(tr x).nodes=size x)→(trs l).nodes=sizes l:=by
  intro l
  induction l with
  |nil=>exact fun _=>rfl
  |cons x l ih=>
   intro h
   simp only[trs,nodes_trC,sizes,h x (by simp),ih (fun y hy=>h y (by simp[hy]))]
 induction f using Wf.ind with
 |h1=>rfl
 |h2=>rfl
 |h3 nm v=>rfl
 |h4 nm v=>rfl
 |h5 k l ih=>simp only[tr,trC,Fs.nodes,hl l ih,size,Nat.add_zero]
 |h6 a ih=>simp only[tr] at ih;simp only[tr,trC,Fs.nodes,ih,size,Nat.add_zero]
 |h7 a b ia ib=>
  show(trC a (trC b .nil)).nodes+0+1=size a+size b+1
  rw[nodes_trC a,ia,show(trC b .nil).nodes=size b from ib]
 |h8 a b ia ib=>
  show(trC a (trC b .nil)).nodes+0+1=size a+size b+1
  rw[nodes_trC a,ia,show(trC b .nil).nodes=size b from ib]
 |h9 v a ih=>simp only[tr] at ih;simp only[tr,trC,Fs.nodes,ih,size,Nat.add_zero]
 |h10 k v a b ia ib=>
  show(trC a (trC b .nil)).nodes+0+1=size a+size b+1
  rw[nodes_trC a,ia,show(trC b .nil).nodes=size b from ib]
theorem sizes_trs:∀L:List Wf,(trs L).nodes=sizes L
 |[]=>rfl
 |x::L=>by simp only[trs,nodes_trC,sizes,size_tr,sizes_trs L]
theorem srt_nodes (k:Bool) (L:List Wf):(trs (srt ordF (parts k L))).nodes≤(trs L).nodes:=by
 rw[sizes_trs,sizes_trs]
 exact Nat.le_trans (sizes_srt ordF _) (sizes_parts k L)
structure JSt (w wc:World) (k:Bool) (L:List Wf) (i:Nat) (a7:Option Addr) (cap7:Nat) (xs:List (El n0 w)) (wr:World):Prop where
 list:ListAt wr wc.heap.size a7 cap7 xs
 trees:xs.map treeE=(parts k (L.take i)).map tr
 nz:zero k∉parts k (L.take i)
 bel:RowKit.Below w.heap.size w wr
 drawn:w.drawn≤wr.drawn
 cap:cap7≤maxLen
 res:wr.heap[w.heap.size]? =some (.cells zero48 48 (0,0))
 size:wc.heap.size≤wr.heap.size
theorem JSt.len {w wc:World} {k:Bool} {L:List Wf} {i:Nat} {a7:Option Addr} {cap7:Nat} {xs:List (El n0 w)} {wr:World} (h:JSt w wc k L i a7 cap7 xs wr) (hn:(trs L).nodes≤100000):xs.length≤100000:=by
 have h1:=congrArg List.length h.trees
 have h2:=parts_take k L i
 have h3:=parts_nodes k L
 simp only[List.length_map] at h1
 omega
theorem JSt.cell {w wc:World} {k:Bool} {L:List Wf} {i:Nat} {a7:Option Addr} {cap7:Nat} {xs:List (El n0 w)} {wr:World} (h:JSt w wc k L i a7 cap7 xs wr):wr.cell? ⟨w.heap.size,0,none⟩=some (.int .i64 0)∧wr.cell? ⟨w.heap.size,1,none⟩=some (.string ⟨#[]⟩)∧wr.cell? ⟨w.heap.size,2,none⟩=some (.int .i64 0)∧
  wr.cell? ⟨w.heap.size,3,none⟩=some (.int .i64 0)∧wr.cell? ⟨w.heap.size,4,none⟩=some (.slice none 0 0)∧∀o,wr.frozen? ⟨w.heap.size,o,none⟩=false:=by
 have:=h.res
 simp[World.cell?,World.frozen?,this,zero48]
theorem JSt.grow {w wc:World} {k:Bool} {L:List Wf} {i:Nat} {a7:Option Addr} {cap7:Nat} {xs:List (El n0 w)} {wr:World} (h:JSt w wc k L i a7 cap7 xs wr) (hs:w.heap.size<wc.heap.size) (q:Nat) (os:Array Obj):JSt w wc k L i a7 cap7 xs (Sort.grow (wr.drewN q) os) where
 list:=by
  rcases h.list with h|⟨blk,e,h1,h2⟩
  ·exact .inl h
  ·exact .inr ⟨blk,e,h1,h2.grow q os⟩
 trees:=h.trees
 nz:=h.nz
 bel:=below_grow h.bel h.bel.size q os
 drawn:=Nat.le_trans h.drawn (Nat.le_add_right _ _)
 cap:=h.cap
 res:=(heap_grow_old (wr.drewN q) os (Nat.lt_of_lt_of_le hs h.size)).trans h.res
 size:=Nat.le_trans h.size (by simp[Sort.grow,World.drewN])
structure JEnd (w wc:World) (k:Bool) (L:List Wf) (a7:Option Addr) (cap7:Nat) (ys:List (El n0 w)) (wr:World):Prop where
 list:ListAt wr wc.heap.size a7 cap7 ys
 trees:ys.map treeE=(srt ordF (parts k L)).map tr
 nz:zero k∉parts k L
 bel:RowKit.Below w.heap.size w wr
 drawn:w.drawn≤wr.drawn
 res:wr.heap[w.heap.size]? =some (.cells zero48 48 (0,0))
 size:wc.heap.size≤wr.heap.size
theorem JEnd.cell {w wc:World} {k:Bool} {L:List Wf} {a7:Option Addr} {cap7:Nat} {xs:List (El n0 w)} {wr:World} (h:JEnd w wc k L a7 cap7 xs wr):wr.cell? ⟨w.heap.size,0,none⟩=some (.int .i64 0)∧wr.cell? ⟨w.heap.size,1,none⟩=some (.string ⟨#[]⟩)∧wr.cell? ⟨w.heap.size,2,none⟩=some (.int .i64 0)∧
  wr.cell? ⟨w.heap.size,3,none⟩=some (.int .i64 0)∧wr.cell? ⟨w.heap.size,4,none⟩=some (.slice none 0 0)∧∀o,wr.frozen? ⟨w.heap.size,o,none⟩=false:=by
 have:=h.res
 simp[World.cell?,World.frozen?,this,zero48]
theorem JEnd.grow {w wc:World} {k:Bool} {L:List Wf} {a7:Option Addr} {cap7:Nat} {xs:List (El n0 w)} {wr:World} (h:JEnd w wc k L a7 cap7 xs wr) (hs:w.heap.size<wc.heap.size) (q:Nat) (os:Array Obj):JEnd w wc k L a7 cap7 xs (Sort.grow (wr.drewN q) os) where
 list:=by
  rcases h.list with h|⟨blk,e,h1,h2⟩
  ·exact .inl h
  ·exact .inr ⟨blk,e,h1,h2.grow q os⟩
 trees:=h.trees
 nz:=h.nz
 bel:=below_grow h.bel h.bel.size q os
 drawn:=Nat.le_trans h.drawn (Nat.le_add_right _ _)
 res:=(heap_grow_old (wr.drewN q) os (Nat.lt_of_lt_of_le hs h.size)).trans h.res
 size:=Nat.le_trans h.size (by simp[Sort.grow,World.drewN])
theorem JEnd.len {w wc:World} {k:Bool} {L:List Wf} {a7:Option Addr} {cap7:Nat} {ys:List (El n0 w)} {wr:World} (h:JEnd w wc k L a7 cap7 ys wr) (hn:(trs L).nodes≤100000):ys.length≤100000:=by
 have h1:=congrArg List.length h.trees
 have h2:=nodes_trs (srt ordF (parts k L))
 have h3:=srt_nodes k L
 simp only[List.length_map] at h1
 omega
def putRes (W:World) (r:Nat) (v0 v1 v2 v3 v4:Value):World:=((((W.setCell ⟨r,0,none⟩ v0).setCell ⟨r,1,none⟩ v1).setCell ⟨r,2,none⟩ v2).setCell ⟨r,3,none⟩ v3).setCell ⟨r,4,none⟩ v4
theorem putRes_below {n:Nat} {w W:World} {r:Nat} (h:RowKit.Below n w W) (hr:n≤r) (v0 v1 v2 v3 v4:Value):RowKit.Below n w (putRes W r v0 v1 v2 v3 v4):=
 ((((h.setCell hr _).setCell hr _).setCell hr _).setCell hr _).setCell hr _
theorem putRes_other {W:World} {r b:Nat} (h:b≠r) (v0 v1 v2 v3 v4:Value):(putRes W r v0 v1 v2 v3 v4).heap[b]? =W.heap[b]? :=by
 unfold putRes
 rw[heap_setCell_other _ _ _ _ h,heap_setCell_other _ _ _ _ h,heap_setCell_other _ _ _ _ h,heap_setCell_other _ _ _ _ h,heap_setCell_other _ _ _ _ h]
theorem ElA.keep {w W:World} {x:ElA} (h:x.ok n0 w) (hB:RowKit.Below w.heap.size w W):x.ok n0 W:=by
 obtain⟨h1,h2,h3⟩:=h
 exact⟨h1.keep hB,h2.keep h1 hB,h3⟩
def JoinOut (n0:Nat) (w:World) (k:Bool) (L:List Wf) (e:Ending) (w':World):Prop:=
 ∃x:ElA,x.ok n0 w'∧x.tree=tr (J ordF k L)∧e=.returned (.agg x.enc.toArray)∧RowKit.Below w.heap.size w w'∧w.drawn≤w'.drawn
theorem JoinOut.leaf {w W:World} {k:Bool} {L:List Wf} {n:Int} {z:Wf} (hz:tr z=.cons n ⟨#[]⟩ 0 0 .nil .nil) (hJ:J ordF k L=z) (hB:RowKit.Below w.heap.size w W) (hd:w.drawn≤W.drawn):
  JoinOut n0 w k L (.returned (.agg #[.int .i64 n,.string ⟨#[]⟩,.int .i64 0,.int .i64 0,.slice none 0 0])) W:=
 ⟨⟨n,⟨#[]⟩,0,0,.nil,none,0⟩,⟨fun h=>absurd rfl h,fun _ _ e=>(by cases e),(show(⟨#[]⟩:ByteArray).size≤9223372036854775807 by decide),Nat.zero_le _,Nat.le_refl _,Nat.zero_le _⟩,by rw[hJ,hz];rfl,rfl,hB,hd⟩
theorem tr_zero (k:Bool):tr (zero k)=.cons (zop k) ⟨#[]⟩ 0 0 .nil .nil:=by cases k<;>rfl
theorem tr_unit (k:Bool):tr (unit k)=.cons (uop k) ⟨#[]⟩ 0 0 .nil .nil:=by cases k<;>rfl
theorem flat_unit (k:Bool):flat k (unit k)=[]:=by cases k<;>rfl
theorem JSt.add {w wc:World} {k:Bool} {L:List Wf} {i:Nat} {a7:Option Addr} {cap7:Nat} {xs news:List (El n0 w)} {wr W':World} {a':Option Addr} {cap':Nat} (h:JSt w wc k L i a7 cap7 xs wr) (hi:i<L.length) (hs:w.heap.size<wc.heap.size)
  (hn:news.map treeE=(flat k L[i]).map tr) (hz:zero k∉flat k L[i]) (hl:ListAt W' wc.heap.size a' cap' (xs++news)) (hr:∃row,wr.grownBy W' row∧∀k,row=some k→wc.heap.size≤k) (hd:wr.drawn≤W'.drawn) (hc:cap'≤maxLen):
  JSt w wc k L (i+1) a' cap' (xs++news) W':=by
 have ht:L.take (i+1)=L.take i++[L[i]]:=List.take_succ_eq_append_getElem hi
 obtain⟨row,hg,hk⟩:=hr
 refine⟨hl,?_,?_,?_,Nat.le_trans h.drawn hd,hc,?_,Nat.le_trans h.size hg.size⟩
 ·rw[ht,parts_snoc,List.map_append,List.map_append,h.trees,hn]
 ·rw[ht,parts_snoc,List.mem_append]
  exact fun e=>e.elim h.nz hz
 ·exact h.bel.grown hg h.bel.size (fun k e=>by have:=hk k e;omega)
 ·rw[hg.block w.heap.size (Nat.lt_of_lt_of_le hs h.size) (fun e=>by have:=hk _ e.symm;omega)]
  exact h.res
set_option maxRecDepth 100000 in
set_option maxHeartbeats 40000000 in
theorem join176 {w:World} {k:Bool} {b o c:Nat} {L:List Wf} (hn0:n0≤w.heap.size) (hb:b<w.heap.size) (hF:FAt w (trs L) b o) (hP:PAt n0 w (trs L) b o) (hn:(trs L).nodes≤100000) (hne:∀l,Wf.con k l∈L→l≠[]∧zero k∉l):
  Calls Tryz.prog 176 #[.int .i64 (kop k),.slice (some ⟨b,o,none⟩) L.length c] w (JoinOut n0 w k L):=by
 have HF:=Lib.hid (And.intro hF hP)
 have HN:=Lib.hid hn
 have HNE:=Lib.hid hne
 clear hF hP hn hne
 go_enter Tryz.func176,Tryz.ntmps176
 go_upto_region 2 with fail
 have k0:=cell_new w zero48 48
 have kB:Hid (RowKit.Below w.heap.size w (w.alloc (.cells zero48 48))∧(w.alloc (.cells zero48 48)).heap.size=w.heap.size+1∧(w.alloc (.cells zero48 48)).drawn=w.drawn):=Lib.hid ⟨(RowKit.Below.refl w.heap.size w).alloc (Nat.le_refl _) _,by simp,rfl⟩
 have kH:Hid ((w.alloc (.cells zero48 48)).heap[w.heap.size]? =some (.cells zero48 48 (0,0))):=Lib.hid (World.alloc_heap_new w _)
 simp only[zero48] at k0 kB kH
 generalize w.alloc (.cells #[.int .i64 0,.string ⟨#[]⟩,.int .i64 0,.int .i64 0,.slice none 0 0] 48)=w1 at*
 clear k0
 go_upto_if 11 with fail
 go_cut [5,6] from 10 (fun u z wx=>u=.int .i64 (uop k)∧z=.int .i64 (zop k)∧wx=w1)
 case first=>
  cases k with
  |true=>
   simp only[kop,if_true]
   go_wp2_with fail
   go_meet
   exact⟨rfl,rfl,rfl⟩
  |false=>
   simp only[kop]
   go_wp2_with fail
   go_meet
   exact⟨rfl,rfl,rfl⟩
 case rest=>
  obtain⟨rfl,rfl,rfl⟩:=hcut
  go_wp2_with fail
  go_loopg [7,16] L.length (fun g o7 o16 wr=>∃(i:Nat) (a7:Option Addr) (cap7:Nat) (xs:List (El n0 w)),o7=.slice a7 xs.length cap7∧o16=.int .i64 i∧i≤L.length∧Hid (L.length - i≤g)∧Hid (JSt w wc k L i a7 cap7 xs wr))
  case atStart=>exact⟨0,none,0,[],rfl,rfl,Nat.zero_le _,Lib.hid (by omega),Lib.hid ⟨.inl ⟨rfl,rfl,rfl⟩,by simp[parts],by simp[parts],kB.out.1,Nat.le_of_eq kB.out.2.2.symm,Nat.zero_le _,kH.out,Nat.le_refl _⟩⟩
  case round=>
   obtain⟨i,a7,cap7,xs,rfl,rfl,hi,HG,HJ⟩:=hrel
   have hxl:xs.length≤100000:=HJ.out.len HN.out
   have hLl:L.length≤100000:=Nat.le_trans (nodes_trs L) HN.out
   by_cases hlt:i<L.length
   ·have hz:(i:Int)<(L.length:Int):=by omega
    obtain⟨x,hx,hxc⟩:=elemW HF.out.1 HF.out.2 HN.out i hlt
    have hop:=opW_eq hx
    obtain⟨f0,f1,f2,f3,f4,f5,f6,hu⟩:=enc5f x
    have HU:Hid (encE x=[.int .i64 f0,.string f1,.int .i64 f2,.int .i64 f3,.slice f4 f5 f6]):=hu
    have HX:=Lib.hid hx
    have hf0:f0=opW L[i]:=by
     have hu:[Value.int .i64 x.1.op,.string x.1.nm,.int .i64 x.1.v,.int .i64 x.1.bd,.slice x.1.a x.1.args.len x.1.c]=_:=hu
     simp only[List.cons.injEq,Value.int.injEq,true_and] at hu
     rw[←hu.1,hop]
    rw[hu] at hxc
    have hcell:∀c v,([.int .i64 f0,.string f1,.int .i64 f2,.int .i64 f3,.slice f4 f5 f6]:List Value)[c]? =some v→wr.cell? ⟨b,o+i*5+c,none⟩=some v:=fun c v hv=>(HJ.out.bel.cell (p:=⟨b,o+i*5+c,none⟩) hb).trans (hxc c v hv)
    have l0:=hcell 0 _ rfl
    have l1:=hcell 1 _ rfl
    have l2:=hcell 2 _ rfl
    have l3:=hcell 3 _ rfl
    have l4:=hcell 4 _ rfl
    simp only[Nat.add_zero] at l0
    have HW:=flat_ways k L[i]
    clear hcell hxc hx hop hu
    rw[←hf0] at HW
    have HF0:=Lib.hid hf0
    clear hf0
    go_upto_region 8 with fail
    have k8:=cell_new wr #[.int .i64 f0,.string f1,.int .i64 f2,.int .i64 f3,.slice f4 f5 f6] 48
    have HJ8:Hid (JSt w wc k L i a7 cap7 xs (wr.alloc (.cells #[.int .i64 f0,.string f1,.int .i64 f2,.int .i64 f3,.slice f4 f5 f6] 48))):=Lib.hid (by
     rw[alloc_eq_grow]
     exact HJ.out.grow (by rw[kB.out.2.1];omega) 0 _)
    clear l0 l1 l2 l3 l4
    generalize wr.alloc (.cells #[.int .i64 f0,.string f1,.int .i64 f2,.int .i64 f3,.slice f4 f5 f6] 48)=w8 at*
    rcases HW with⟨l,hl,hk⟩|⟨hl,hk,hk1⟩|⟨hl,hk,hk1,hk2⟩|⟨hl,hl1,hk,hk1,hk2⟩
    ·have q1:(f0==kop k)=true:=by simp[hk]
     go_upto_region 11 with fail
     have hlm:Wf.con k l∈L:=by rw[←hl];exact List.getElem_mem hlt
     obtain⟨hln,hlz⟩:=HNE.out l hlm
     have hxa:=argsW (HX.out.trans (by rw[hl]))
     obtain⟨hf,hp, -, -, -,hnn⟩:=x.2
     have hll:0<l.length:=Nat.pos_of_ne_zero (fun e=>hln (List.length_eq_zero_iff.1 e))
     obtain⟨b',o',ea,hb',hat⟩:=hf (by rw[hxa,trs_len];omega)
     have hpt:=(hp b' o' ea (by rw[hxa,trs_len];omega)).2
     rw[hxa] at hat hpt hnn
     obtain⟨news,hn1,hn2⟩:=elemsW hat hpt hnn
     have hnl:news.length=l.length:=by have:=congrArg List.length hn1;simpa using this
     have hfx:f4=some ⟨b',o',none⟩∧f5=news.length:=by
      have hu:[Value.int .i64 x.1.op,.string x.1.nm,.int .i64 x.1.v,.int .i64 x.1.bd,.slice x.1.a x.1.args.len x.1.c]=_:=HU.out
      simp only[List.cons.injEq,Value.slice.injEq,and_true] at hu
      exact⟨hu.2.2.2.2.1.symm.trans ea,by rw[←hu.2.2.2.2.2.1,hxa,trs_len,hnl]⟩
     obtain⟨rfl,rfl⟩:=hfx
     have hfl:flat k L[i]=l:=by rw[hl];simp[flat]
     have hxs:=congrArg List.length HJ8.out.trees
     obtain⟨a9,cap9,w9,hrun,h1,h2,h3,h4⟩:=appendE (news:=news) (cc:=f6) HJ8.out.list HJ8.out.size (sb:=b') (so:=o') (fun j hj c v hv=>(HJ8.out.bel.cell (p:=⟨b',o'+j*5+c,none⟩) hb').trans (hn2 j hj c v hv)) (by omega) HJ8.out.cap (by
      have h5:=nodes_trs l
      omega)
     have HNX:Hid (JSt w wc k L (i+1) a9 cap9 (xs++news) w9):=Lib.hid (HJ8.out.add hlt (by rw[kB.out.2.1];omega) (by rw[hfl];exact hn1) (by rw[hfl];exact hlz) h1 h2 h3 h4)
     clear h1 h2 h3 h4 hn1 hn2 hat hpt hf hp hxa hxs hfl hnl hnn
     have HRUN:=Lib.hid hrun
     clear hrun
     go_wp2_with (at_builtin;refine Lib.wpList_append_run _ rfl _ _ _ _ rfl _ _ rfl rfl _ _ HRUN.out ?_)
     go_roundg (gk - 1)
     case measure=>have:=HG.out;omega
     case rel=>exact⟨i+1,a9,cap9,xs++news,by simp,by go_num,by omega,Lib.hid (by have:=HG.out;omega),HNX⟩
    ·have q1:(f0==kop k)=false:=by simp[hk1]
     have q2:(f0==zop k)=true:=by simp[hk]
     obtain⟨r0,r1,r2,r3,r4,r5⟩:=HJ8.out.cell
     have hJ:J ordF k L=zero k:=J_has_zero ordF (by rw[←hl];exact List.getElem_mem hlt)
     go_wp2_with fail
     refine bodyPost_ret (v:=.agg #[.int .i64 (zop k),.string ⟨#[]⟩,.int .i64 0,.int .i64 0,.slice none 0 0]) (by
      simp[results,Tryz.f176,go_sem,r0,r1,r2,r3,r4]) rfl ?_
     refine JoinOut.leaf (tr_zero k) hJ ?_ HJ8.out.drawn
     exact((((HJ8.out.bel.setCell (Nat.le_refl _) _).setCell (Nat.le_refl _) _).setCell (Nat.le_refl _) _).setCell (Nat.le_refl _) _).setCell (Nat.le_refl _) _
    ·have q1:(f0==kop k)=false:=by simp[hk1]
     have q2:(f0==zop k)=false:=by simp[hk2]
     have q3:(f0==uop k)=true:=by simp[hk]
     go_wp2_with fail
     go_roundg (gk - 1)
     case measure=>have:=HG.out;omega
     case rel=>
      refine⟨i+1,a7,cap7,xs,rfl,by go_num,by omega,Lib.hid (by have:=HG.out;omega),Lib.hid ?_⟩
      have ht:parts k (L.take (i+1))=parts k (L.take i):=by rw[List.take_succ_eq_append_getElem hlt,parts_snoc,hl,flat_unit,List.append_nil]
      exact⟨HJ8.out.list,by rw[ht];exact HJ8.out.trees,by rw[ht];exact HJ8.out.nz,HJ8.out.bel,HJ8.out.drawn,HJ8.out.cap,HJ8.out.res,HJ8.out.size⟩
    ·have q1:(f0==kop k)=false:=by simp[hk]
     have q2:(f0==zop k)=false:=by simp[hk1]
     have q3:(f0==uop k)=false:=by simp[hk2]
     go_upto_region 9 with fail
     have k9:=cell_new w8 #[.int .i64 f0,.string f1,.int .i64 f2,.int .i64 f3,.slice f4 f5 f6] 48
     have HJ9:Hid (JSt w wc k L i a7 cap7 xs (w8.alloc (.cells #[.int .i64 f0,.string f1,.int .i64 f2,.int .i64 f3,.slice f4 f5 f6] 48))):=Lib.hid (by
      rw[alloc_eq_grow]
      exact HJ8.out.grow (by rw[kB.out.2.1];omega) 0 _)
     obtain⟨a9,cap9,w9,hrun,h1,h2,h3,h4⟩:=appendE (news:=[x]) (cc:=1) HJ9.out.list HJ9.out.size (sb:=w8.heap.size) (so:=0) (fun j hj c v hv=>by
      have hj0:j=0:=by simp at hj;omega
      subst hj0
      rw[List.getElem_cons_zero,HU.out] at hv
      have:=k9 c
      rw[show(0+0*5+c)=c by omega,this]
      simpa using hv) (by simp) HJ9.out.cap (by simp;omega)
     have HNX:Hid (JSt w wc k L (i+1) a9 cap9 (xs++[x]) w9):=Lib.hid (HJ9.out.add hlt (by rw[kB.out.2.1];omega) (by rw[hl];simp[HX.out]) (by rw[hl];simpa using fun e=>hl1 e.symm) h1 h2 h3 h4)
     clear h1 h2 h3 h4 k9 HJ9
     simp only[List.length_cons,List.length_nil,Nat.zero_add] at hrun
     have HRUN:=Lib.hid hrun
     clear hrun
     go_wp2_with (at_builtin;refine Lib.wpList_append_run _ rfl _ _ _ _ rfl _ _ rfl rfl _ _ HRUN.out ?_)
     go_roundg (gk - 1)
     case measure=>have:=HG.out;omega
     case rel=>exact⟨i+1,a9,cap9,xs++[x],by simp,by go_num,by omega,Lib.hid (by have:=HG.out;omega),HNX⟩
   ·have hz:¬(i:Int)<(L.length:Int):=by omega
    have hiL:i=L.length:=by omega
    subst hiL
    have hSW:w.heap.size<wc.heap.size:=by rw[kB.out.2.1];omega
    have HSW:=Lib.hid hSW
    have hT:xs.map treeE=(parts k L).map tr:=by have:=HJ.out.trees;rwa[List.take_length] at this
    have hZ:zero k∉parts k L:=by have:=HJ.out.nz;rwa[List.take_length] at this
    have HTZ:=Lib.hid (And.intro hT hZ)
    clear hT hZ hSW
    go_upto_region 16 with fail
    go_wp2_with fail
    refine(distinct250 HJ.out.bel (Nat.le_of_lt HSW.out) HJ.out.size HJ.out.list (by omega)).mono ?_
    rintro e w2 ⟨ys,hd,rfl,hl2,hb2,hd2,hlo⟩
    have HE2:Hid (JEnd w wc k L a7 cap7 ys w2):=Lib.hid ⟨hl2,dist_srt HTZ.out.1 hd,HTZ.out.2,hb2,Nat.le_trans HJ.out.drawn hd2,(hlo.block _ HSW.out).trans HJ.out.res,Nat.le_trans HJ.out.size hlo.size⟩
    have hyl:=HE2.out.len HN.out
    have HD:=Lib.hid hd
    have hnots:∀y∈ys,y.1.op=4→y.1.args.len≠0:=fun y hy=>by
     have hm:treeE y∈ys.map treeE:=List.mem_map_of_mem hy
     rw[HE2.out.trees] at hm
     obtain⟨z,_,e⟩:=List.mem_map.1 hm
     exact notW e.symm
    have HOP:=Lib.hid (opposed252 HE2.out.bel HE2.out.list hd.1 (by omega) hnots)
    clear hd hl2 hb2 hd2 hlo hnots HJ
    go_wp2_with fail
    refine HOP.out.mono ?_
    rintro e w3 ⟨⟨q3,os3,rfl⟩,hop⟩
    have HE3:Hid (JEnd w wc k L a7 cap7 ys (grow (w2.drewN q3) os3)):=Lib.hid (HE2.out.grow HSW.out q3 os3)
    clear HE2 HOP
    generalize grow (w2.drewN q3) os3=w3 at*
    obtain⟨bb,rfl,hbb⟩:=hop
    have HBB:Hid (bb=true↔opp (parts k L)):=Lib.hid (by
     rw[hbb,HE3.out.trees,Opp_tr]
     unfold opp
     simp only[mem_srt])
    clear hbb
    obtain⟨r0,r1,r2,r3,r4,r5⟩:=HE3.out.cell
    cases bb with
    |true=>
     have hJ:J ordF k L=zero k:=build_zero ordF (.inr (HBB.out.1 rfl))
     go_wp2_with fail
     refine bodyPost_ret (v:=.agg #[.int .i64 (zop k),.string ⟨#[]⟩,.int .i64 0,.int .i64 0,.slice none 0 0]) (by
      simp[results,Tryz.f176,go_sem,r0,r1,r2,r3,r4]) rfl ?_
     exact JoinOut.leaf (tr_zero k) hJ (putRes_below HE3.out.bel (Nat.le_refl _) _ _ _ _ _) HE3.out.drawn
    |false=>
     have HNO:Hid (¬(zero k∈parts k L∨opp (parts k L))):=Lib.hid (fun h=>h.elim HE3.out.nz (fun h=>by have:=HBB.out.2 h;cases this))
     have HL3:Hid (ys.length=(srt ordF (parts k L)).length):=Lib.hid (by have:=congrArg List.length HE3.out.trees;simpa using this)
     by_cases hy0:ys.length=0
     ·have hy0':((ys.length:Int)==0)=true:=by simp[hy0]
      have hJ:J ordF k L=unit k:=by
       have:srt ordF (parts k L)=[]:=List.length_eq_zero_iff.1 (by rw[←HL3.out];exact hy0)
       unfold J build
       rw[if_neg HNO.out,this]
      clear hy0
      go_wp2_with fail
      refine bodyPost_ret (v:=.agg #[.int .i64 (uop k),.string ⟨#[]⟩,.int .i64 0,.int .i64 0,.slice none 0 0]) (by
       simp[results,Tryz.f176,go_sem,r0,r1,r2,r3,r4]) rfl ?_
      exact JoinOut.leaf (tr_unit k) hJ (putRes_below HE3.out.bel (Nat.le_refl _) _ _ _ _ _) HE3.out.drawn
     ·have hy0':((ys.length:Int)==0)=false:=beq_eq_false_iff_ne.2 (by omega)
      obtain⟨blk,rfl,hlo,HRW⟩:∃blk,a7=some ⟨blk,0,none⟩∧wc.heap.size≤blk∧Hid (RowL w3 blk cap7 ys):=by
       rcases HE3.out.list with⟨_,h0,_⟩|⟨blk,e,h1,h2⟩
       ·rw[h0] at hy0;exact absurd rfl hy0
       ·exact⟨blk,e,h1,h2⟩
      by_cases hy1:ys.length=1
      ·have hy1':((ys.length:Int)==1)=true:=by simp[hy1]
       have hlp:(0:Int)<(ys.length:Int):=by omega
       obtain⟨y,hy⟩:∃y,ys[0]? =some y:=⟨_,List.getElem?_eq_getElem (by omega)⟩
       have HYL:Hid (ys=[y]):=Lib.hid (by
        match ys,hy1,hy with
        |[z],_,hy=>simp at hy;rw[hy])
       obtain⟨f0,f1,f2,f3,f4,f5,f6,hu⟩:=enc5f y
       obtain⟨l0,l1,l2,l3,l4⟩:=HRW.out.at 0 0 rfl y hy hu
       simp only[Nat.zero_add] at l1 l2 l3 l4
       have HU:Hid (encE y=[.int .i64 f0,.string f1,.int .i64 f2,.int .i64 f3,.slice f4 f5 f6]):=hu
       have HO:=Lib.hid (And.intro hy0 (And.intro hy1 hlo))
       clear hu hy hy0 hy1
       go_wp2_with fail
       refine bodyPost_ret (v:=.agg #[.int .i64 f0,.string f1,.int .i64 f2,.int .i64 f3,.slice f4 f5 f6]) (by
        simp[results,Tryz.f176,go_sem,r0,r1,r2,r3,r4]) rfl ?_
       have ht:=HE3.out.trees
       rw[HYL.out] at ht
       obtain⟨z,hz⟩:∃z,srt ordF (parts k L)=[z]:=by
        match hs:srt ordF (parts k L) with
        |[]=>rw[hs] at ht;simp at ht
        |[z]=>exact⟨z,rfl⟩
        |_::_::_=>rw[hs] at ht;simp at ht
       rw[hz] at ht
       have hJ:J ordF k L=z:=by
        unfold J build
        rw[if_neg HNO.out,hz]
       have hbe:RowKit.Below w.heap.size w _:=putRes_below HE3.out.bel (Nat.le_refl _) (.int .i64 f0) (.string f1) (.int .i64 f2) (.int .i64 f3) (.slice f4 f5 f6)
       refine⟨y.1,ElA.keep y.2 hbe,?_,?_,hbe,HE3.out.drawn⟩
       ·rw[hJ]
        have:treeE y=tr z:=by simpa using ht
        exact this
       ·have hu:y.1.enc=_:=HU.out
        rw[hu]
      ·have hy1':((ys.length:Int)==1)=false:=beq_eq_false_iff_ne.2 (by omega)
       have HO:=Lib.hid (And.intro hy0 (And.intro hy1 hlo))
       have hyc:=HRW.out.1
       clear hy0 hy1
       go_upto_region 23 with fail
       have HC:=Lib.hid (clip254 w3 (a:=some ⟨blk,0,none⟩) hyc)
       go_wp2_with fail
       refine HC.out.mono ?_
       rintro e w4 ⟨rfl,rfl⟩
       go_wp2_with fail
       refine bodyPost_ret (v:=.agg #[.int .i64 (kop k),.string ⟨#[]⟩,.int .i64 0,.int .i64 0,.slice (some ⟨blk,0,none⟩) ys.length ys.length]) (by
        simp[results,Tryz.f176,go_sem,r0,r1,r2,r3,r4]) rfl ?_
       have hl3:=HL3.out
       have hJ:J ordF k L=.con k (srt ordF (parts k L)):=by
        unfold J build
        rw[if_neg HNO.out]
        match hs:srt ordF (parts k L) with
        |[]=>rw[hs] at hl3;exact absurd hl3 HO.out.1
        |[_]=>rw[hs] at hl3;exact absurd hl3 HO.out.2.1
        |_::_::_=>rfl
       have hbe:RowKit.Below w.heap.size w (putRes w4 w.heap.size (.int .i64 (kop k)) (.string ⟨#[]⟩) (.int .i64 0) (.int .i64 0) (.slice (some ⟨blk,0,none⟩) ys.length ys.length)):=putRes_below HE3.out.bel (Nat.le_refl _) _ _ _ _ _
       have hlb:blk≠w.heap.size:=by have:=HSW.out;have:=HO.out.2.2;omega
       have hblk:=putRes_other (W:=w4) hlb (.int .i64 (kop k)) (.string ⟨#[]⟩) (.int .i64 0) (.int .i64 0) (.slice (some ⟨blk,0,none⟩) ys.length ys.length)
       have hR5:RowL (putRes w4 w.heap.size (.int .i64 (kop k)) (.string ⟨#[]⟩) (.int .i64 0) (.int .i64 0) (.slice (some ⟨blk,0,none⟩) ys.length ys.length)) blk cap7 ys:=by
        obtain⟨g1,cs,T,g2,g3,g4⟩:=HRW.out
        exact⟨g1,cs,T,hblk.trans g2,g3,g4⟩
       obtain⟨hf1,hf2⟩:=RowL.forest (blk:=blk) hbe ys (srt ordF (parts k L)) 0 HE3.out.trees (fun j hj c v hv=>by
        obtain⟨g1,cs,T,g2,g3,g4⟩:=hR5
        have hc5:c<5:=by have:=(List.getElem?_eq_some_iff.1 hv).1;rwa[encE_len] at this
        have:=g4 j hj c hc5
        rw[hv] at this
        rw[Nat.zero_add]
        simp[World.cell?,g2,this])
       have hlt5:=hR5.lt
       have hln5:Lone n0 (putRes w4 w.heap.size (.int .i64 (kop k)) (.string ⟨#[]⟩) (.int .i64 0) (.int .i64 0) (.slice (some ⟨blk,0,none⟩) ys.length ys.length)) blk:=by
        obtain⟨g1,cs,T,g2,g3,g4⟩:=hR5
        exact⟨by have:=HSW.out;have:=HO.out.2.2;omega,cs,T,g2⟩
       have hsl:(trs (srt ordF (parts k L))).len=ys.length:=by rw[trs_len,hl3]
       refine⟨⟨kop k,⟨#[]⟩,0,0,trs (srt ordF (parts k L)),some ⟨blk,0,none⟩,ys.length⟩,⟨fun _=>⟨blk,0,rfl,hlt5,hf1⟩,fun p o' e _=>?_,(show(⟨#[]⟩:ByteArray).size≤9223372036854775807 by decide),?_,Nat.le_of_eq hsl,?_⟩,?_,?_,hbe,HE3.out.drawn⟩
       ·injection e with e
        injection e with e1 e2
        subst e1 e2
        exact⟨hln5,hf2⟩
       ·show(trs _).len≤_
        rw[hsl];omega
       ·exact Nat.le_trans (srt_nodes k L) HN.out
       ·rw[hJ];rfl
       ·show _=Ending.returned (.agg #[.int .i64 (kop k),.string ⟨#[]⟩,.int .i64 0,.int .i64 0,.slice (some ⟨blk,0,none⟩) (trs (srt ordF (parts k L))).len ys.length])
        rw[hsl]
end
section
open Go.RowKit Go.Sort
variable {n0:Nat}
theorem keepN {w W:World} {B n:Nat} (hB:B<n) (hF:Fr (only B) w.heap.size w W):∀ {f:Fs} {b off:Nat},b<w.heap.size→b≠B→FAt w f b off→PAt n w f b off→FAt W f b off∧PAt n W f b off
 | .nil,_,_,_,_,_,_=>⟨trivial,trivial⟩
 | .cons op nm v bd args rest,b,off,hb,hne,⟨c0,c1,c2,c3,c4,c5,⟨a,c,c6,cc,c7⟩,c8⟩,⟨h1,h2⟩=>by
  have hc:∀i,W.cell? ⟨b,i,none⟩=w.cell? ⟨b,i,none⟩:=fun i=>hF.cell (a:=⟨b,i,none⟩) hb (by simp only[only];simpa using hne)
  obtain⟨i1,i2⟩:=keepN hB hF hb hne c8 h2
  have hsub:args.len≠0→∃b' o',a=some ⟨b',o',none⟩∧b'<w.heap.size∧Lone n W b'∧FAt W args b' o'∧PAt n W args b' o':=fun h0=>by
   obtain⟨b',o',rfl,hb',hat⟩:=c7 h0
   obtain⟨hl,hp⟩:=h1 b' o' _ _ c6 h0
   have hn':b'≠B:=by have:=hl.1;omega
   obtain⟨j1,j2⟩:=keepN hB hF hb' hn' hat hp
   obtain⟨g1,cs,t,g2⟩:=hl
   exact⟨b',o',rfl,hb',⟨g1,cs,t,(hF.block b' hb' (by simp only[only];simpa using hn')).trans g2⟩,j1,j2⟩
  refine⟨⟨(hc _).trans c0,(hc _).trans c1,c2,(hc _).trans c3,(hc _).trans c4,c5,⟨a,c,(hc _).trans c6,cc,fun h0=>?_⟩,i1⟩,fun p o l c' e h0=>?_,i2⟩
  ·obtain⟨b',o',e,hb',_,j1,_⟩:=hsub h0
   exact⟨b',o',e,Nat.lt_of_lt_of_le hb' hF.size,j1⟩
  ·rw[hc,c6] at e
   obtain⟨b',o',rfl,_,j0,_,j2⟩:=hsub h0
   simp only[Option.some.injEq,Value.slice.injEq,Addr.mk.injEq,and_true] at e
   obtain⟨⟨rfl,rfl⟩,_⟩:=e
   exact⟨j0,j2⟩
theorem ElA.keepN {w W:World} {x:ElA} {B n:Nat} (h:x.ok n w) (hB:B<n) (hF:Fr (only B) w.heap.size w W):x.ok n W:=by
 obtain⟨h1,h2,h3⟩:=h
 have hsub:x.args.len≠0→∃b o,x.a=some ⟨b,o,none⟩∧b<W.heap.size∧FAt W x.args b o∧Lone n W b∧PAt n W x.args b o:=fun h0=>by
  obtain⟨b,o,e,hb,hat⟩:=h1 h0
  obtain⟨hl,hp⟩:=h2 b o e h0
  have hn':b≠B:=by have:=hl.1;omega
  obtain⟨j1,j2⟩:=Go.Proofs.YtckdgniecdfedaaGreatDoor.keepN hB hF hb hn' hat hp
  obtain⟨g1,cs,t,g2⟩:=hl
  exact⟨b,o,e,Nat.lt_of_lt_of_le hb hF.size,j1,⟨g1,cs,t,(hF.block b hb (by simp only[only];simpa using hn')).trans g2⟩,j2⟩
 refine⟨fun h0=>?_,fun p o e h0=>?_,h3⟩
 ·obtain⟨b,o,e,hb,j,_⟩:=hsub h0
  exact⟨b,o,e,hb,j⟩
 ·obtain⟨b,o',e',_,_,j1,j2⟩:=hsub h0
  rw[e] at e'
  simp only[Option.some.injEq,Addr.mk.injEq,and_true] at e'
  obtain⟨rfl,rfl⟩:=e'
  exact⟨j1,j2⟩
theorem PAt.mono {w:World} {n m:Nat} (h:m≤n):∀ {f:Fs} {b off:Nat},PAt n w f b off→PAt m w f b off
 | .nil,_,_,_=>trivial
 | .cons ..,_,_,⟨h1,h2⟩=>⟨fun p o l c e h0=>⟨⟨Nat.le_trans h (h1 p o l c e h0).1.1,(h1 p o l c e h0).1.2⟩,PAt.mono h (h1 p o l c e h0).2⟩,PAt.mono h h2⟩
theorem ElA.mono {w:World} {x:ElA} {n m:Nat} (hx:x.ok n w) (h:m≤n):x.ok m w:=
 ⟨hx.1,fun p o e h0=>⟨⟨Nat.le_trans h (hx.2.1 p o e h0).1.1,(hx.2.1 p o e h0).1.2⟩,PAt.mono h (hx.2.1 p o e h0).2⟩,hx.2.2⟩
def RowA (n:Nat) (W:World) (B m:Nat) (xs:List ElA):Prop:=
 (∀x∈xs,x.ok n W)∧∃cs T,W.heap[B]? =some (.cells cs T (0,0))∧cs.size=m*5∧∀j (h:j<xs.length) c,c<5→cs[j*5+c]? =xs[j].enc[c]?
theorem RowA.forest {W:World} {B n:Nat}:∀(xs:List ElA) (zs:List Wf) (o:Nat),(∀x∈xs,x.ok n W)→xs.map ElA.tree=zs.map tr→
  (∀j (h:j<xs.length) c v,xs[j].enc[c]? =some v→W.cell? ⟨B,o+j*5+c,none⟩=some v)→FAt W (trs zs) B o∧PAt n W (trs zs) B o
 |[],[],_,_,_,_=>⟨trivial,trivial⟩
 |[],_::_,_,_,h,_=>by simp at h
 |_::_,[],_,_,h,_=>by simp at h
 |y::ys,z::zs,o,hok,h,hc=>by
  simp only[List.map_cons,List.cons.injEq] at h
  obtain⟨h1,h2⟩:=h
  obtain⟨i1,i2⟩:=RowA.forest ys zs (o+5) (fun x hx=>hok x (List.mem_cons_of_mem _ hx)) h2 (fun j hj c v hv=>by
   have:=hc (j+1) (by simpa using hj) c v (by simpa using hv)
   rwa[show o+(j+1)*5+c=o+5+j*5+c by omega] at this)
  obtain⟨op,nm,v,bd,a,e1,e2⟩:=trC_cons z (trs zs)
  have h1:Fs.cons y.op y.nm y.v y.bd y.args .nil=trC z .nil:=h1
  rw[e1] at h1
  simp only[Fs.cons.injEq,and_true] at h1
  obtain⟨rfl,rfl,rfl,rfl,rfl⟩:=h1
  obtain⟨hf,hp,hnm,hl,hcc,hn⟩:=hok y (by simp)
  have hc0:=hc 0 (by simp)
  simp only[Nat.zero_mul,Nat.add_zero,List.getElem_cons_zero] at hc0
  simp only[trs,e2]
  have h4:=hc0 4 _ rfl
  refine⟨⟨hc0 0 _ rfl,hc0 1 _ rfl,hnm,hc0 2 _ rfl,hc0 3 _ rfl,hl,⟨y.a,y.c,h4,hcc,hf⟩,i1⟩,⟨fun p o' l c' e h0=>?_,i2⟩⟩
  rw[h4] at e
  simp only[Option.some.injEq,Value.slice.injEq] at e
  exact hp p o' e.1 h0
def FormOut (n0:Nat) (w:World) (z:Wf) (e:Ending) (w':World):Prop:=
 ∃x:ElA,x.ok n0 w'∧x.tree=tr z∧e=.returned (.agg x.enc.toArray)∧RowKit.Below w.heap.size w w'∧w.drawn≤w'.drawn
def ListOut (n0:Nat) (w:World) (L:List Wf) (e:Ending) (w':World):Prop:=
 ∃B,e=.returned (.slice (some ⟨B,0,none⟩) L.length L.length)∧B<w'.heap.size∧w.heap.size≤B∧FAt w' (trs L) B 0∧PAt n0 w' (trs L) B 0∧Alone w' B∧RowKit.Below w.heap.size w w'∧w.drawn≤w'.drawn
theorem RowA.turn {W W':World} {B n m:Nat} {xs:List ElA} (h:RowA n W B m xs) (hB:RowKit.Below W.heap.size W W'):RowA n W' B m xs:=by
 obtain⟨h1,cs,T,h2,h3,h4⟩:=h
 exact⟨fun x hx=>ElA.keep (h1 x hx) hB,cs,T,(hB.block B (Array.getElem?_eq_some_iff.1 h2).1).trans h2,h3,h4⟩
theorem RowA.at {W:World} {B n m:Nat} {xs:List ElA} (h:RowA n W B m xs):∀o,o<m*5→(W.cell? ⟨B,o,none⟩).isSome=true∧W.frozen? ⟨B,o,none⟩=false:=fun o ho=>by
 obtain⟨_,cs,T,h2,h3,_⟩:=h
 simp[World.cell?,World.frozen?,h2,h3,ho]
theorem RowA.push {W:World} {B n m:Nat} {xs:List ElA} {x:ElA} (h:RowA n W B m xs) (hx:x.ok n W) (hBn:B<n) (hm:xs.length<m):RowA n (W.setCells B (xs.length*5) x.enc) B m (xs++[x]):=by
 obtain⟨h1,cs,T,h2,h3,h4⟩:=h
 have hfr:Fr (only B) W.heap.size W (W.setCells B (xs.length*5) x.enc):=by
  have:∀(vs:List Value) (o:Nat) (W':World),Fr (only B) W.heap.size W W'→Fr (only B) W.heap.size W (W'.setCells B o vs):=by
   intro vs
   induction vs with
   |nil=>exact fun o W' h=>h
   |cons v r ih=>exact fun o W' h=>ih _ _ (h.setCell (.inl (by simp[only])) v)
  exact this _ _ _ (Fr.refl _ _ _)
 have hb':(W.setCells B (xs.length*5) x.enc).heap[B]? =some (.cells (setMany cs (xs.length*5) x.enc) T (0,0)):=by
  have:∀(vs:List Value) (W:World) (cs:Array Value) (s:Nat),W.heap[B]? =some (.cells cs T (0,0))→(W.setCells B s vs).heap[B]? =some (.cells (setMany cs s vs) T (0,0)):=by
   intro vs
   induction vs with
   |nil=>intro W cs s h;exact h
   |cons v r ih=>intro W cs s h;exact ih _ _ _ (heap_setCell_same W B s cs T v h)
  exact this _ _ _ _ h2
 have hel:x.enc.length=5:=rfl
 refine⟨fun y hy=>?_,_,T,hb',by simp[h3],fun j hj c hc5=>?_⟩
 ·rcases List.mem_append.1 hy with hy|hy
  ·exact ElA.keepN (h1 y hy) hBn hfr
  ·rw[List.mem_singleton] at hy
   subst hy
   exact ElA.keepN hx hBn hfr
 ·have hj':j<xs.length+1:=by simpa using hj
  have hlt:j*5+c<cs.size:=by omega
  have g:=get_setMany x.enc (xs.length*5) cs (j*5+c) hlt
  rw[hel] at g
  rw[getElem!_pos _ _ (by simpa using hlt)] at g
  rw[Array.getElem?_eq_getElem (by simpa using hlt),g]
  by_cases e:j=xs.length
  ·subst e
   have e1:xs.length*5+c - xs.length*5=c:=by omega
   rw[if_pos (by omega),e1,getElem!_pos _ _ (by rw[hel];omega)]
   have e2:(xs++[x])[xs.length]=x:=by simp
   rw[e2,List.getElem?_eq_getElem (by rw[hel];omega)]
  ·rw[if_neg (by omega),List.getElem_append_left (by omega),←h4 j (by omega) c hc5,getElem!_pos cs _ hlt,Array.getElem?_eq_getElem hlt]
set_option maxRecDepth 100000 in
set_option maxHeartbeats 40000000 in
theorem canons174 {w:World} {a:Option Addr} {c:Nat} {L:List Wf} (hn0:n0≤w.heap.size) (hF:FArgs w a (trs L)) (hL:L.length≤100000)
  (ih:∀x∈L,∀(n:Nat) (W:World) (b o:Nat) (r:Fs),n≤W.heap.size→b<W.heap.size→FAt W (trC x r) b o→Calls Tryz.prog 128 #[.pointer (some ⟨b,o,none⟩)] W (FormOut n W (canon ordF x))):
  Calls Tryz.prog 174 #[.slice a L.length c] w (ListOut n0 w (L.map (canon ordF))):=by
 have HF:=Lib.hid hF
 have HI:=Lib.hid ih
 clear hF ih
 obtain⟨it,hit,hz,hs,hby⟩:=info_parts Tryz.info48
 have hmk:∀W:World,(Instr.makeSlice 46 (.int .i64 (L.length:Int)) (.int .i64 (L.length:Int))).run Tryz.prog W=.ok (.slice (some ⟨W.heap.size,0,none⟩) L.length L.length) (W.alloc (.cells (madeCells zero48 (L.length*5)) 48)):=fun W=>by
  have:=run_make (P:=Tryz.prog) W 46 48 it _ Tryz.underlying46 hit hz .i64 .i64 (L.length:Int) (L.length:Int) (by omega) (Int.le_refl _) (by rw[hby];omega) (by omega)
  rw[hs] at this
  exact this
 have hms:(madeCells zero48 (L.length*5)).size=L.length*5:=size_madeCells _ _
 clear hit hz hs hby
 go_enter Tryz.func174,Tryz.ntmps174
 go_upto_region 2 with fail
 have kB:Hid (RowKit.Below w.heap.size w (w.alloc (.cells (madeCells zero48 (L.length*5)) 48))∧(w.alloc (.cells (madeCells zero48 (L.length*5)) 48)).heap.size=w.heap.size+1∧(w.alloc (.cells (madeCells zero48 (L.length*5)) 48)).drawn=w.drawn):=Lib.hid ⟨(RowKit.Below.refl w.heap.size w).alloc (Nat.le_refl _) _,by simp,rfl⟩
 have kR:Hid (RowA (w.heap.size+1) (w.alloc (.cells (madeCells zero48 (L.length*5)) 48)) w.heap.size L.length []):=Lib.hid ⟨fun x hx=>(by cases hx),_,_,World.alloc_heap_new w _,hms,fun j hj=>(by simp at hj)⟩
 clear hmk hms
 generalize w.alloc (.cells (madeCells zero48 (L.length*5)) 48)=w1 at*
 go_wp2_with fail
 go_loopg [10] L.length (fun g o wr=>∃(i:Nat) (xs:List ElA),o=.int .i64 i∧i≤L.length∧Hid (L.length - i≤g)∧Hid (xs.length=i)∧Hid (RowA (w.heap.size+1) wr w.heap.size L.length xs)∧Hid (xs.map ElA.tree=((L.take i).map (canon ordF)).map tr)∧Hid (RowKit.Below w.heap.size w wr∧w.drawn≤wr.drawn∧w.heap.size<wr.heap.size))
 case atStart=>exact⟨0,[],rfl,Nat.zero_le _,Lib.hid (by omega),Lib.hid rfl,kR,Lib.hid (by simp),Lib.hid ⟨kB.out.1,Nat.le_of_eq kB.out.2.2.symm,by rw[kB.out.2.1];omega⟩⟩
 case round=>
  obtain⟨i,xs,rfl,hi,HG,HXL,HR,HT,HW⟩:=hrel
  by_cases hlt:i<L.length
  ·have hz:(i:Int)<(L.length:Int):=by omega
   obtain⟨b,o,rfl,hb,hat⟩:=HF.out (by rw[trs_len];omega)
   have hd:=FAt.drop i hat
   rw[trs_drop L i hlt] at hd
   have HC:=Lib.hid (HI.out L[i] (List.getElem_mem hlt) (w.heap.size+1) wr b (o+i*5) _ HW.out.2.2 (Nat.lt_of_lt_of_le hb HW.out.1.size) (FAt.keep HW.out.1 hb hd))
   clear hd hat
   go_wp2_with fail
   refine HC.out.mono ?_
   rintro e w2 ⟨x,hx,hxt,rfl,hB2,hd2⟩
   have HR2:=Lib.hid (HR.out.turn hB2)
   have HN:=Lib.hid (HR2.out.push hx (by omega) (by rw[HXL.out];exact hlt))
   rw[HXL.out] at HN
   have hcf:=HR2.out.at
   have HX2:=Lib.hid (And.intro hxt (And.intro hB2 hd2))
   clear hx hxt hB2 hd2 HC
   obtain⟨op,nm,v,bd,args,aa,cc⟩:=x
   simp only[ElA.enc] at*
   obtain⟨z0,hz0⟩:=Option.isSome_iff_exists.1 (hcf (i*5) (by omega)).1
   obtain⟨z1,hz1⟩:=Option.isSome_iff_exists.1 (hcf (i*5+1) (by omega)).1
   obtain⟨z2,hz2⟩:=Option.isSome_iff_exists.1 (hcf (i*5+2) (by omega)).1
   obtain⟨z3,hz3⟩:=Option.isSome_iff_exists.1 (hcf (i*5+3) (by omega)).1
   obtain⟨z4,hz4⟩:=Option.isSome_iff_exists.1 (hcf (i*5+4) (by omega)).1
   have g0:=(hcf (i*5) (by omega)).2
   have g1:=(hcf (i*5+1) (by omega)).2
   have g2:=(hcf (i*5+2) (by omega)).2
   have g3:=(hcf (i*5+3) (by omega)).2
   have g4:=(hcf (i*5+4) (by omega)).2
   clear hcf
   go_wp2_with fail
   go_roundg (gk - 1)
   case measure=>have:=HG.out;omega
   case rel=>
    refine⟨i+1,xs++[⟨op,nm,v,bd,args,aa,cc⟩],by go_num,by omega,Lib.hid (by have:=HG.out;omega),Lib.hid (by simp[HXL.out]),Lib.hid (by have h:=HN.out;exact h),Lib.hid ?_,Lib.hid ⟨?_,?_,?_⟩⟩
    ·rw[List.map_append,HT.out,List.take_succ_eq_append_getElem hlt,List.map_append,List.map_append]
     simp[HX2.out.1]
    ·exact(((((HW.out.1.trans (HX2.out.2.1.mono HW.out.1.size)).setCell (Nat.le_refl _) _).setCell (Nat.le_refl _) _).setCell (Nat.le_refl _) _).setCell (Nat.le_refl _) _).setCell (Nat.le_refl _) _
    ·exact Nat.le_trans HW.out.2.1 HX2.out.2.2
    ·have:=HX2.out.2.1.size
     have:=HW.out.2.2
     simp
     omega
  ·have hz:¬(i:Int)<(L.length:Int):=by omega
   have hiL:i=L.length:=by omega
   subst hiL
   go_wp2_with fail
   go_ret
   obtain⟨h1,cs,T,h2,h3,h4⟩:=HR.out
   have ht:=HT.out
   rw[List.take_length] at ht
   obtain⟨f1,f2⟩:=RowA.forest (B:=w.heap.size) xs (L.map (canon ordF)) 0 h1 ht (fun j hj c v hv=>by
    have hc5:c<5:=by have:=(List.getElem?_eq_some_iff.1 hv).1;exact this
    have:=h4 j hj c hc5
    rw[hv] at this
    rw[Nat.zero_add]
    simp[World.cell?,h2,this])
   refine⟨w.heap.size,by rw[List.length_map];rfl,HW.out.2.2,Nat.le_refl _,f1,PAt.mono (by omega) f2,⟨cs,T,h2⟩,HW.out.1,HW.out.2.1⟩
end
section
open Go.RowKit Go.Sort
set_option maxRecDepth 100000 in
set_option maxHeartbeats 40000000 in
theorem const175 {w:World} {P B i n:Nat} {op:Int} (hP:w.cell? ⟨P,0,none⟩=some (.slice (some ⟨B,0,none⟩) n n)) (hi:i<n) (ho:w.cell? ⟨B,i*5,none⟩=some (.int .i64 op)):
  Calls Tryz.prog 175 #[.int .i64 (i:Int),.pointer (some ⟨P,0,none⟩)] w fun e w'=>e=.returned (.bool (decide (op=1∨op=2)))∧w'=w:=by
 have hz:(i:Int)<(n:Int):=by omega
 by_cases h1:op=1
 ·subst h1
  go_enter Tryz.func175,Tryz.ntmps175
  go_wp2_with fail
  go_ret
  exact⟨by simp,rfl⟩
 ·have q1:(op==1)=false:=by simpa using h1
  go_enter Tryz.func175,Tryz.ntmps175
  go_wp2_with fail
  go_ret
  refine⟨?_,rfl⟩
  simp[h1]
  rfl
end
section
open Go.RowKit Go.Sort
variable {n0:Nat}
def kids:Wf→List Wf
 | .nis nm v=>[.is nm v]
 | .con _ l=>l
 | .next a=>[a]
 | .unt a b=>[a,b]
 | .rel a b=>[a,b]
 | .yes _ a=>[a]
 | .snc _ _ a b=>[a,b]
 |_=>[]
def nmW:Wf→ByteArray
 | .is nm _=>nm
 |_=>⟨#[]⟩
def vW:Wf→Int
 | .is _ v=>v
 | .yes v _=>bI v
 | .snc _ v _ _=>bI v
 |_=>0
theorem trC_eq (z:Wf) (r:Fs):trC z r=.cons (opW z) (nmW z) (vW z) 0 (trs (kids z)) r:=by
 cases z<;>rfl
theorem kids_size {z x:Wf} (h:x∈kids z):size x<size z:=by
 cases z with
 |con k l=>
  have:=sizes_mem (show x∈l from h)
  simp only[size]
  omega
 |nis nm v=>simp[kids] at h;subst h;simp[size]
 |next a=>simp[kids] at h;subst h;simp[size]
 |yes v a=>simp[kids] at h;subst h;simp[size]
 |unt a b=>simp[kids] at h;rcases h with rfl|rfl<;>simp[size]<;>omega
 |rel a b=>simp[kids] at h;rcases h with rfl|rfl<;>simp[size]<;>omega
 |snc k v a b=>simp[kids] at h;rcases h with rfl|rfl<;>simp[size]<;>omega
 |_=>simp[kids] at h
theorem kids_len (z:Wf):(kids z).length≤size z:=by
 cases z with
 |con k l=>
  have h1:=nodes_trs l
  rw[sizes_trs] at h1
  simp only[kids,size]
  omega
 |unt a b=>have:=size_pos a;have:=size_pos b;simp[kids,size];omega
 |rel a b=>have:=size_pos a;have:=size_pos b;simp[kids,size];omega
 |snc k v a b=>have:=size_pos a;have:=size_pos b;simp[kids,size];omega
 |_=>simp[kids,size]
theorem sizes_canon:∀L:List Wf,sizes (L.map (canon ordF))≤sizes L
 |[]=>Nat.le_refl _
 |x::L=>by
  have:=sizes_canon L
  have:=size_canon ordF x
  simp only[List.map_cons,sizes]
  omega
theorem kids_sizes (z:Wf):sizes (kids z)≤size z:=by
 cases z<;>simp[kids,size,sizes]<;>omega
structure KSt (w:World) (z:Wf) (B:Nat) (W:World):Prop where
 res:W.heap[w.heap.size]? =some (.cells zero48 48 (0,0))
 sz:w.heap.size<W.heap.size
 bel:RowKit.Below w.heap.size w W
 drawn:w.drawn≤W.drawn
 old:w.heap.size+1≤B
 new:B<W.heap.size
 fat:FAt W (trs ((kids z).map (canon ordF))) B 0
 pat:PAt (w.heap.size+1) W (trs ((kids z).map (canon ordF))) B 0
 one:Alone W B
theorem KSt.cell {w W:World} {z:Wf} {B:Nat} (h:KSt w z B W):W.cell? ⟨w.heap.size,0,none⟩=some (.int .i64 0)∧W.cell? ⟨w.heap.size,1,none⟩=some (.string ⟨#[]⟩)∧W.cell? ⟨w.heap.size,2,none⟩=some (.int .i64 0)∧
  W.cell? ⟨w.heap.size,3,none⟩=some (.int .i64 0)∧W.cell? ⟨w.heap.size,4,none⟩=some (.slice none 0 0)∧∀o,W.frozen? ⟨w.heap.size,o,none⟩=false:=by
 have:=h.res
 simp[World.cell?,World.frozen?,this,zero48]
theorem KSt.turn {w W W':World} {z:Wf} {B:Nat} (h:KSt w z B W) (hB:RowKit.Below W.heap.size W W') (hd:W.drawn≤W'.drawn):KSt w z B W' where
 res:=(hB.block _ h.sz).trans h.res
 sz:=Nat.lt_of_lt_of_le h.sz hB.size
 bel:=h.bel.trans (hB.mono h.bel.size)
 drawn:=Nat.le_trans h.drawn hd
 old:=h.old
 new:=Nat.lt_of_lt_of_le h.new hB.size
 fat:=FAt.keep hB h.new h.fat
 pat:=PAt.keep hB h.new h.fat h.pat
 one:=by
  obtain⟨cs,T,h1⟩:=h.one
  exact⟨cs,T,(hB.block _ h.new).trans h1⟩
theorem KSt.fin {w W:World} {z:Wf} {n0:Nat} {x:ElA} (hn0:n0≤w.heap.size) (hb:RowKit.Below w.heap.size w W) (hd:w.drawn≤W.drawn) (hx:x.ok (w.heap.size+1) W) (ht:x.tree=tr z):
  FormOut n0 w z (.returned (.agg x.enc.toArray)) (putRes W w.heap.size (.int .i64 x.op) (.string x.nm) (.int .i64 x.v) (.int .i64 x.bd) (.slice x.a x.args.len x.c)):=by
 have hon:only w.heap.size w.heap.size=true:=by simp[only]
 have hf:Fr (only w.heap.size) W.heap.size W (putRes W w.heap.size (.int .i64 x.op) (.string x.nm) (.int .i64 x.v) (.int .i64 x.bd) (.slice x.a x.args.len x.c)):=
  (((((Fr.refl _ _ _).setCell (.inl hon) _).setCell (.inl hon) _).setCell (.inl hon) _).setCell (.inl hon) _).setCell (.inl hon) _
 exact⟨x,ElA.mono (ElA.keepN hx (Nat.lt_succ_self _) hf) (by omega),ht,rfl,putRes_below hb (Nat.le_refl _) _ _ _ _ _,hd⟩
theorem KSt.nodeOk {w W:World} {z:Wf} {B:Nat} (h:KSt w z B W) (hz:size z≤50000) (hnm:(nmW z).size≤9223372036854775807):
  ElA.ok (w.heap.size+1) W ⟨opW z,nmW z,vW z,0,trs ((kids z).map (canon ordF)),some ⟨B,0,none⟩,(kids z).length⟩:=by
 have h1:(trs ((kids z).map (canon ordF))).len=(kids z).length:=by rw[trs_len,List.length_map]
 have h2:=kids_len z
 have h3:=sizes_canon (kids z)
 have h4:=kids_sizes z
 refine⟨fun _=>⟨B,0,rfl,h.new,h.fat⟩,fun p o e _=>?_,hnm,?_,Nat.le_of_eq h1,?_⟩
 ·injection e with e
  injection e with e1 e2
  subst e1 e2
  exact⟨⟨h.old,h.one⟩,h.pat⟩
 ·show(trs _).len≤_
  rw[h1];omega
 ·show(trs _).nodes≤_
  rw[sizes_trs];omega
theorem KSt.el {w W:World} {z:Wf} {B:Nat} (h:KSt w z B W) (hz:size z≤50000) (j:Nat) (hj:j<(kids z).length):
  ∃y:ElA,y.ok (w.heap.size+1) W∧y.tree=tr (canon ordF (kids z)[j])∧W.cell? ⟨B,j*5,none⟩=some (.int .i64 y.op)∧W.cell? ⟨B,j*5+1,none⟩=some (.string y.nm)∧W.cell? ⟨B,j*5+2,none⟩=some (.int .i64 y.v)∧
   W.cell? ⟨B,j*5+3,none⟩=some (.int .i64 y.bd)∧W.cell? ⟨B,j*5+4,none⟩=some (.slice y.a y.args.len y.c):=by
 have h3:=sizes_canon (kids z)
 have h4:=kids_sizes z
 obtain⟨y,hy,hc⟩:=elemW h.fat h.pat (by rw[sizes_trs];omega) j (by simpa using hj)
 simp only[Nat.zero_add] at hc
 refine⟨y.1,y.2,by rw[←List.getElem_map (f:=canon ordF) (h:=by simpa using hj)];exact hy,?_,hc 1 _ rfl,hc 2 _ rfl,hc 3 _ rfl,hc 4 _ rfl⟩
 have:=hc 0 _ rfl
 simpa using this
theorem tr_cst {y:ElA} {z:Wf} (h:y.tree=tr z) (ho:y.op=1∨y.op=2):z=.tt∨z=.ff:=by
 cases z with
 |con k l=>cases k<;>simp[ElA.tree,tr,trC] at h<;>omega
 |snc k v a b=>cases k<;>simp[ElA.tree,tr,trC] at h<;>omega
 |tt=>exact .inl rfl
 |ff=>exact .inr rfl
 |_=>simp[ElA.tree,tr,trC] at h;omega
theorem tr_ncst {y:ElA} {z:Wf} (h:y.tree=tr z) (ho:¬(y.op=1∨y.op=2)):z≠.tt∧z≠.ff:=by
 refine⟨fun e=>?_,fun e=>?_⟩<;>subst e<;>simp[ElA.tree,tr,trC] at h<;>omega
theorem tr_op {y:ElA} {z:Wf} (h:y.tree=tr z):(y.op=1↔z=.tt)∧(y.op=2↔z=.ff):=by
 cases z with
 |con k l=>cases k<;>simp[ElA.tree,tr,trC] at h<;>simp[h]
 |snc k v a b=>cases k<;>simp[ElA.tree,tr,trC] at h<;>simp[h]
 |_=>simp[ElA.tree,tr,trC] at h;simp[h]
end
end Go.Proofs.YtckdgniecdfedaaGreatDoor
