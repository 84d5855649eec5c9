/- The walk of proof.Residual. The references' functions on texts: some answer is handed back. -/
import Derived.Test.YtckdgniecdfedaaGreatDoorRzN
namespace Go.Proofs.YtckdgniecdfedaaGreatDoor
section
open Go.RowKit Go.Sort
theorem res22 {tmps:Array Value} {w:World} {g:Nat} {a b u:Value} (hp:tmps.getD 6 undef=.pointer (some ⟨g,0,none⟩)) (hu:tmps.getD 7 undef=u) (h0:w.cell? ⟨g,0,none⟩=some a) (h1:w.cell? ⟨g,1,none⟩=some b):
  (results Tryz.f22 tmps).run Tryz.prog w=.ok (.tuple #[.agg #[a,b],u]) w:=by
 rw[results_cell_tmp rfl,hp,hu]
 simp[asAddr,go_sem,h0,h1]
theorem end22 {tmps:Array Value} {w:World} {g:Nat} {a b u:Value} {R:Ending→World→Prop} (hp:tmps.getD 6 undef=.pointer (some ⟨g,0,none⟩)) (hu:tmps.getD 7 undef=u) (h0:w.cell? ⟨g,0,none⟩=some a) (h1:w.cell? ⟨g,1,none⟩=some b)
  (hR:R (.returned (.tuple #[.agg #[a,b],u])) w):bodyPost Tryz.prog Tryz.f22 R .ret {tmps:=tmps,defers:=[]} w:=bodyPost_ret (res22 hp hu h0 h1) rfl hR
theorem stored2 {w wz:World} {r:Nat} {a0 b0:Value} (a b:Value) (hr:wz.heap[r]? =some (.cells #[a0,b0] 30 (0,0))) {B:Nat} (hb:RowKit.Below B w wz) (hB:B≤r):
  ((wz.setCell ⟨r,0,none⟩ a).setCell ⟨r,1,none⟩ b).cell? ⟨r,0,none⟩=some a∧((wz.setCell ⟨r,0,none⟩ a).setCell ⟨r,1,none⟩ b).cell? ⟨r,1,none⟩=some b∧
  RowKit.Below B w ((wz.setCell ⟨r,0,none⟩ a).setCell ⟨r,1,none⟩ b):=by
 have k:((wz.setCell ⟨r,0,none⟩ a).setCell ⟨r,1,none⟩ b).heap[r]? =some (.cells #[a,b] 30 (0,0)):=
  heap_setCell_same _ r 1 _ 30 b (heap_setCell_same wz r 0 _ 30 a hr)
 exact⟨by simp[World.cell?,k],by simp[World.cell?,k],(hb.setCell hB a).setCell hB b⟩
def NumsC (w:World) (v:Value) (L:List Int):Prop:=Nums w v L∧(∀a n c,v=.slice a n c→n≤c)∧L.length≤20000
theorem numsC_owned {W:World} {base n:Nat} {v:Value} {L:List Int} (h:W.ownsRow base 3 1 v n (L.map (Value.int .i64))) (hl:L.length≤20000):NumsC W v L:=by
 refine⟨nums_owned h,fun a m c e=>?_,hl⟩
 rcases h.2 with⟨e2, -⟩|⟨g,cap,cur,e2, -, -,hc, -⟩
 ·rw[e] at e2
  simp only[Value.slice.injEq] at e2
  omega
 ·rw[e] at e2
  simp only[Value.slice.injEq] at e2
  omega
def ResOut (fb:Bool) (l:List Sg) (ls:List Int) (t:Fs) (w:World) (e:Ending) (w':World):Prop:=
 ∃(az:Option Addr) (ln cz:Nat) (s k:Int),e=.returned (.tuple #[.agg #[.slice az ln cz,.int .i64 s],.int .i64 k])∧RowKit.Below w.heap.size w w'∧
  ((∀z,fb=true→t=tr z→resO l ls z=none)→k=1∨k=2)∧∀z ys,fb=true→t=tr z→resO l ls z=some ys→k=2∨(k=0∧NumsC w' (.slice az ln cz) (X.codeR l t ls (trs ys)))
theorem sizes_small {n:Nat}:∀ {zs:List Wf},(∀y∈zs,size y≤n)→sizes zs≤zs.length*n
 |[],_=>Nat.zero_le _
 |z::zs,h=>by
  have h1:=h z (by simp)
  have h2:=sizes_small (n:=n) (zs:=zs) (fun(y:Wf) (hy:y∈zs)=>h y (List.mem_cons_of_mem _ hy))
  simp only[sizes,List.length_cons,Nat.succ_mul]
  omega
structure ResSt (w:World) (l:List Sg) (xc:Array Value) (z:Wf) (q k:Nat) (zs:List Wf) (u:ElA) (a:Option Addr) (cap:Nat) (ys:List ElA) (W:World):Prop where
 blk:W.heap[q]? =some (.cells u.enc.toArray 48 (0,0))
 rd:Rd W u
 tree:u.tree=tr (lastW zs z)
 fit:Fit l (lastW zs z)
 bel:RowKit.Below w.heap.size w W
 res:W.heap[w.heap.size+1]? =some (.cells #[.slice none 0 0,.int .i64 0] 30 (0,0))
 box:W.heap[w.heap.size]? =some (.cells xc 48 (0,0))
 list:AgS (q+1) (w.heap.size+1) q (q+1) a cap ys W
 trees:ys.map ElA.tree=zs.map tr
 len:ys.length=k
 apart:w.heap.size+1<q
theorem AgS.putR {n r O lo cap:Nat} {a:Option Addr} {ys:List ElA} {W:World} (h:AgS n r O lo a cap ys W) (hlo:O<lo) (v0 v1 v2 v3 v4:Value):AgS n r O lo a cap ys (putRes W O v0 v1 v2 v3 v4):=
 ((((h.put (.inr rfl) hlo 0 v0).put (.inr rfl) hlo 1 v1).put (.inr rfl) hlo 2 v2).put (.inr rfl) hlo 3 v3).put (.inr rfl) hlo 4 v4
theorem ResSt.lt {w:World} {l:List Sg} {xc:Array Value} {z:Wf} {q k:Nat} {zs:List Wf} {u:ElA} {a:Option Addr} {cap:Nat} {ys:List ElA} {W:World} (h:ResSt w l xc z q k zs u a cap ys W):q<W.heap.size:=(Array.getElem?_eq_some_iff.1 h.blk).1
theorem ResSt.put {w:World} {l:List Sg} {xc:Array Value} {z:Wf} {q k:Nat} {zs:List Wf} {u u':ElA} {a:Option Addr} {cap:Nat} {ys:List ElA} {W W2:World} (h:ResSt w l xc z q k zs u a cap ys W) (hB:RowKit.Below W.heap.size W W2) {y:Wf} (hok:u'.ok W.heap.size W2) (ht:u'.tree=tr y) (hf:Fit l y) (hk:k≤100000):
  (putRes W2 q (.int .i64 u'.op) (.string u'.nm) (.int .i64 u'.v) (.int .i64 u'.bd) (.slice u'.a u'.args.len u'.c)).heap[q]? =some (.cells #[.int .i64 u'.op,.string u'.nm,.int .i64 u'.v,.int .i64 u'.bd,.slice u'.a u'.args.len u'.c] 48 (0,0))∧
  ∃a' cap' W8,(Builtin.append_ #[46,46] 46 #[.slice a k cap,.slice (some ⟨(putRes W2 q (.int .i64 u'.op) (.string u'.nm) (.int .i64 u'.v) (.int .i64 u'.bd) (.slice u'.a u'.args.len u'.c)).heap.size,0,none⟩) 1 1]).run Tryz.prog ((putRes W2 q (.int .i64 u'.op) (.string u'.nm) (.int .i64 u'.v) (.int .i64 u'.bd) (.slice u'.a u'.args.len u'.c)).alloc (.cells #[.int .i64 u'.op,.string u'.nm,.int .i64 u'.v,.int .i64 u'.bd,.slice u'.a u'.args.len u'.c] 48))=.ok (.slice a' (k+1) cap') W8∧
   Hid (ResSt w l xc z q (k+1) (zs++[y]) u' a' cap' (ys++[u']) W8):=by
 have hlt:=h.lt
 have hap:=h.apart
 have hon:only q q=true:=by simp[only]
 have hfr:Fr (only q) W2.heap.size W2 (putRes W2 q (.int .i64 u'.op) (.string u'.nm) (.int .i64 u'.v) (.int .i64 u'.bd) (.slice u'.a u'.args.len u'.c)):=
  (((((Fr.refl _ _ _).setCell (.inl hon) _).setCell (.inl hon) _).setCell (.inl hon) _).setCell (.inl hon) _).setCell (.inl hon) _
 have hok6:=ElA.keepN hok hlt hfr
 have hb6:=putRes_blk (a0:=.int .i64 u.op) (a1:=.string u.nm) (a2:=.int .i64 u.v) (a3:=.int .i64 u.bd) (a4:=.slice u.a u.args.len u.c) ((hB.block q hlt).trans h.blk) (.int .i64 u'.op) (.string u'.nm) (.int .i64 u'.v) (.int .i64 u'.bd) (.slice u'.a u'.args.len u'.c)
 have hres6:=(putRes_other (b:=w.heap.size+1) (r:=q) (W:=W2) (by omega) (.int .i64 u'.op) (.string u'.nm) (.int .i64 u'.v) (.int .i64 u'.bd) (.slice u'.a u'.args.len u'.c)).trans ((hB.block _ (by omega)).trans h.res)
 have hbox6:=(putRes_other (b:=w.heap.size) (r:=q) (W:=W2) (by omega) (.int .i64 u'.op) (.string u'.nm) (.int .i64 u'.v) (.int .i64 u'.bd) (.slice u'.a u'.args.len u'.c)).trans ((hB.block _ (by omega)).trans h.box)
 have hbel6:=putRes_below (h.bel.trans (hB.mono h.bel.size)) (r:=q) (by omega) (.int .i64 u'.op) (.string u'.nm) (.int .i64 u'.v) (.int .i64 u'.bd) (.slice u'.a u'.args.len u'.c)
 have hag6:=(h.list.below hB).putR (Nat.lt_succ_self q) (.int .i64 u'.op) (.string u'.nm) (.int .i64 u'.v) (.int .i64 u'.bd) (.slice u'.a u'.args.len u'.c)
 have hsz6:W.heap.size≤(putRes W2 q (.int .i64 u'.op) (.string u'.nm) (.int .i64 u'.v) (.int .i64 u'.bd) (.slice u'.a u'.args.len u'.c)).heap.size:=Nat.le_trans hB.size hfr.size
 refine⟨hb6,?_⟩
 generalize putRes W2 q (.int .i64 u'.op) (.string u'.nm) (.int .i64 u'.v) (.int .i64 u'.bd) (.slice u'.a u'.args.len u'.c)=W6 at*
 have hA:RowKit.Below W6.heap.size W6 (W6.alloc (.cells #[.int .i64 u'.op,.string u'.nm,.int .i64 u'.v,.int .i64 u'.bd,.slice u'.a u'.args.len u'.c] 48)):=(RowKit.Below.refl _ _).alloc (Nat.le_refl _) _
 obtain⟨a',cap',W8,hrun,h1,h2,h3,h4,h5⟩:=(hag6.below hA).add (sb:=W6.heap.size) (m:=W.heap.size) (ElA.keep hok6 hA) hlt (by omega) hlt (fun p e=>h.list.lt e) (fun c v hv=>by
  rw[cell_new W6 _ 48 c];simpa[ElA.enc] using hv) (by have:=hA.size;omega) (by rw[h.len];omega)
 rw[h.len] at hrun
 have hAs:=hA.size
 have hk8:∀k,k<q+1→W8.heap[k]? =W6.heap[k]? :=fun k hk=>(h3 k (by omega) hk).trans (hA.block k (by omega))
 have hbel8:RowKit.Below w.heap.size w W8:=(hbel6.trans (hA.mono (by omega))).trans (h4.mono (by omega))
 refine⟨a',cap',W8,hrun,Lib.hid ⟨(hk8 q (Nat.lt_succ_self q)).trans hb6,Rd.of_ok ((dim_sub _ W8).ela (h1.els u' (by simp))),by rw[lastW_snoc];exact ht,by rw[lastW_snoc];exact hf,hbel8,(hk8 _ (by omega)).trans hres6,(hk8 _ (by omega)).trans hbox6,h1,?_,by simp[h.len],hap⟩⟩
 rw[List.map_append,List.map_append,h.trees]
 simp[ht]
theorem ResSt.fv {w:World} {l:List Sg} {xc:Array Value} {z:Wf} {q k:Nat} {zs:List Wf} {u:ElA} {a:Option Addr} {cap:Nat} {ys:List ElA} {W:World} (h:ResSt w l xc z q k zs u a cap ys W) (hk:k≤100000):
  (trs zs).len=k∧FV W (.slice a (trs zs).len cap) (trs zs):=by
 have hzl:zs.length=k:=by have h1:=congrArg List.length h.trees;simp only[List.length_map] at h1;rw[←h1,h.len]
 have hlen:(trs zs).len=k:=(trs_len zs).trans hzl
 refine⟨hlen,by rw[hlen];omega,a,cap,rfl,?_,fun h0=>?_⟩
 ·rw[hlen]
  rcases h.list.list with⟨_,k2,_⟩|⟨blk,_,_,k3,_⟩
  ·have:=h.len;rw[k2] at this;simp at this;omega
  ·have:=h.len;omega
 ·rcases h.list.list with⟨_,k2,_⟩|⟨blk,k1,k2,k3,cs,T,k4,k5,k6⟩
  ·have:=h.len;rw[k2] at this;simp at this;omega
  ·obtain⟨f1,f2⟩:=RowA.forest (B:=blk) ys zs 0 (fun y hy=>(dim_sub _ W).ela (h.list.els y hy)) h.trees (fun j hj c v hv=>by
    have hc5:c<5:=by have:=(List.getElem?_eq_some_iff.1 hv).1;exact this
    have:=k6 j hj c hc5
    rw[hv] at this
    rw[Nat.zero_add]
    simp[World.cell?,k4,this])
   exact⟨blk,0,k1,(Array.getElem?_eq_some_iff.1 k4).1,f1⟩
set_option maxRecDepth 100000 in
set_option maxHeartbeats 40000000 in
theorem residual22 {w:World} {sv:Value} {l:List Sg} {x:ElA} {la:Option Addr} {lc:Nat} {ls:List Int} (hE:Env w sv l) (hx:Rd w x) (hls:Nums w (.slice la ls.length lc) ls) (hll:ls.length≤12):
  Calls Tryz.prog 22 #[sv,.agg x.enc.toArray,.slice la ls.length lc] w (ResOut (fitB l x.op x.nm x.v x.bd x.args) l ls x.tree w):=by
 have hB0:RowKit.Below w.heap.size w (w.alloc (.cells x.enc.toArray 48)):=(RowKit.Below.refl _ _).alloc (Nat.le_refl _) _
 have hB1:RowKit.Below (w.alloc (.cells x.enc.toArray 48)).heap.size (w.alloc (.cells x.enc.toArray 48)) ((w.alloc (.cells x.enc.toArray 48)).alloc (.cells #[.slice none 0 0,.int .i64 0] 30)):=(RowKit.Below.refl _ _).alloc (Nat.le_refl _) _
 have hlt:w.heap.size<(w.alloc (.cells x.enc.toArray 48)).heap.size:=by simp
 have hBB:RowKit.Below w.heap.size w ((w.alloc (.cells x.enc.toArray 48)).alloc (.cells #[.slice none 0 0,.int .i64 0] 30)):=hB0.trans (hB1.mono hB0.size)
 have hr:=World.alloc_heap_new (w.alloc (.cells x.enc.toArray 48)) (.cells #[.slice none 0 0,.int .i64 0] 30)
 rw[World.size_alloc] at hr
 have hxb:=(hB1.block _ hlt).trans (World.alloc_heap_new w (.cells x.enc.toArray 48))
 have HF:=Lib.hid (fits65 (hE.keep hBB) (hx.keep hBB))
 have HL:Hid (∀W,RowKit.Below w.heap.size w W→Calls Tryz.prog 66 #[sv] W fun e w'=>e=.returned (.int .i64 (letN l))∧RowKit.Below W.heap.size W w'):=Lib.hid fun W h=>letters66 (hE.sg.keep h) (hE.keys.keep h)
 have HN:Hid (∀W,RowKit.Below w.heap.size w W→Nums W (.slice la ls.length lc) ls):=Lib.hid fun W h=>hls.keep h
 have HE:=Lib.hid hE
 have HX:=Lib.hid hx
 have HB:=Lib.hid (And.intro hBB (And.intro hr hxb))
 have HFT:Hid (fitB l x.op x.nm x.v x.bd x.args=true→∃z,x.tree=tr z∧Fit l z∧validB l=true):=Lib.hid fun h=>by
  obtain⟨z,e,hf⟩:=fitB_fit h
  exact⟨z,e .nil,hf,fitB_valid h⟩
 obtain⟨sa,sc,rfl, -, -⟩:=hE.sg
 clear hB0 hB1 hlt hBB hr hE hx hls hxb
 generalize fitB l x.op x.nm x.v x.bd x.args=fb at*
 obtain⟨op,nm,v,bd,args,a,c⟩:=x
 simp only[ElA.enc] at HF HB ⊢
 go_enter Tryz.func22,Tryz.ntmps22
 go_upto_region 1 with fail
 generalize (w.alloc (.cells #[.int .i64 op,.string nm,.int .i64 v,.int .i64 bd,.slice a args.len c] 48)).alloc (.cells #[.slice none 0 0,.int .i64 0] 30)=w1 at*
 have HLT:Hid (w.heap.size+2≤w1.heap.size):=Lib.hid (Array.getElem?_eq_some_iff.1 HB.out.2.1).1
 have x0:w1.cell? ⟨w.heap.size,0,none⟩=some (.int .i64 op):=by simp[World.cell?,HB.out.2.2]
 have x1:w1.cell? ⟨w.heap.size,1,none⟩=some (.string nm):=by simp[World.cell?,HB.out.2.2]
 have x2:w1.cell? ⟨w.heap.size,2,none⟩=some (.int .i64 v):=by simp[World.cell?,HB.out.2.2]
 have x3:w1.cell? ⟨w.heap.size,3,none⟩=some (.int .i64 bd):=by simp[World.cell?,HB.out.2.2]
 have x4:w1.cell? ⟨w.heap.size,4,none⟩=some (.slice a args.len c):=by simp[World.cell?,HB.out.2.2]
 go_wp2_with fail
 refine HF.out.mono ?_
 rintro e w2 ⟨rfl,hB2⟩
 have H2:=Lib.hid (And.intro (HB.out.1.trans (hB2.mono HB.out.1.size)) (And.intro ((hB2.block _ HLT.out).trans HB.out.2.1) (And.intro ((hB2.block _ (by have:=HLT.out;omega)).trans HB.out.2.2) (Nat.le_trans HLT.out hB2.size))))
 clear hB2 HF x0 x1 x2 x3 x4
 cases fb with
 |false=>
  have hr:=H2.out.2.1
  have r0:w2.cell? ⟨w.heap.size+1,0,none⟩=some (.slice none 0 0):=by simp[World.cell?,hr]
  have r1:w2.cell? ⟨w.heap.size+1,1,none⟩=some (.int .i64 0):=by simp[World.cell?,hr]
  have rf:∀o,w2.frozen? ⟨w.heap.size+1,o,none⟩=false:=fun o=>by simp[World.frozen?,hr]
  have hst:=stored2 (wz:=w2) (.slice none 0 0) (.int .i64 0) hr H2.out.1 (Nat.le_succ _)
  have HST2:=Lib.hid hst
  clear hr hst
  go_wp2_with fail
  obtain⟨g0,g1,g2⟩:=HST2.out
  refine end22 rfl rfl g0 g1 ⟨none,0,0,0,1,rfl,g2,?_,?_⟩
  ·exact fun _=>.inl rfl
  ·exact fun z ys e=>absurd e (by decide)
 |true=>
  obtain⟨z,hz,hf,hv⟩:=HFT.out rfl
  have HZ:=Lib.hid (And.intro hz (And.intro hf hv))
  clear hz hf hv HFT
  go_wp2_with fail
  go_loopg [9,21] ls.length (fun g _ oi wr=>∃(k:Nat),oi=.int .i64 k∧k≤ls.length∧Hid (ls.length - k≤g)∧Hid (∀j (h:j<ls.length),j<k→0≤ls[j]∧ls[j]<letN l)∧Hid (RowKit.Below w.heap.size w wr∧wr.heap[w.heap.size+1]? =some (.cells #[.slice none 0 0,.int .i64 0] 30 (0,0))∧wr.heap[w.heap.size]? =some (.cells #[.int .i64 op,.string nm,.int .i64 v,.int .i64 bd,.slice a args.len c] 48 (0,0))∧w.heap.size+2≤wr.heap.size))
  case atStart=>exact⟨0,rfl,Nat.zero_le _,Lib.hid (by omega),Lib.hid (fun j h h0=>by omega),H2⟩
  case round=>
   obtain⟨k,rfl,hk,HG,HIN,HST⟩:=hrel
   by_cases hlt:(k:Int)<(ls.length:Int)
   ·have hd:decide ((k:Int)<(ls.length:Int))=true:=by simpa using hlt
    have hk':k<ls.length:=by omega
    obtain⟨la',lc',hnv,hnn⟩:=HN.out wr HST.out.1
    simp only[Value.slice.injEq,true_and] at hnv
    obtain⟨rfl,rfl⟩:=hnv
    obtain⟨lb,lo,rfl,hlb,hlcl⟩:=hnn (fun e=>by rw[e] at hk';simp at hk')
    have ck:=hlcl k hk'
    have eA:ls.getD k 0=ls[k]:=by simp[hk']
    rw[eA] at ck
    have HNO:Hid (¬(0≤ls[k]∧ls[k]<letN l)→∀ys,resO l ls z≠some ys):=Lib.hid fun h ys e=>h ((resO_all ls z ys HZ.out.2.1 e).2.2 _ (List.getElem_mem hk'))
    have HNX:Hid (0≤ls[k]∧ls[k]<letN l→∀j (h:j<ls.length),j<k+1→0≤ls[j]∧ls[j]<letN l):=Lib.hid fun h j hj hjk=>by
     rcases Nat.lt_or_ge j k with h1|h1
     ·exact HIN.out j hj h1
     ·obtain rfl:j=k:=by omega
      exact h
    have HL2:=Lib.hid (HL.out wr HST.out.1)
    clear hnn hlcl eA
    generalize ls[k]=letter at*
    by_cases hy:letter<0
    ·have hd1:decide (letter<0)=true:=by simpa using hy
     have HNO:=Lib.hid (HNO.out (by omega))
     clear HNX HL2
     have hr:=HST.out.2.1
     have r0:wr.cell? ⟨w.heap.size+1,0,none⟩=some (.slice none 0 0):=by simp[World.cell?,hr]
     have r1:wr.cell? ⟨w.heap.size+1,1,none⟩=some (.int .i64 0):=by simp[World.cell?,hr]
     have rf:∀o,wr.frozen? ⟨w.heap.size+1,o,none⟩=false:=fun o=>by simp[World.frozen?,hr]
     have hst:=stored2 (wz:=wr) (.slice none 0 0) (.int .i64 0) hr HST.out.1 (Nat.le_succ _)
     have HST2:=Lib.hid hst
     clear hr hst
     go_wp2_with fail
     obtain⟨g0,g1,g2⟩:=HST2.out
     refine end22 rfl rfl g0 g1 ⟨none,0,0,0,1,rfl,g2,?_,?_⟩
     ·exact fun _=>.inl rfl
     ·intro z' ys _ e' hres
      obtain rfl:z'=z:=tr_inj (e'.symm.trans HZ.out.1)
      exact absurd hres (HNO.out ys)
    ·have hd1:decide (letter<0)=false:=by simpa using hy
     go_wp2_with fail
     refine HL2.out.mono ?_
     rintro e w3 ⟨rfl,hB3⟩
     have H3:Hid (RowKit.Below w.heap.size w w3∧w3.heap[w.heap.size+1]? =some (.cells #[.slice none 0 0,.int .i64 0] 30 (0,0))∧w3.heap[w.heap.size]? =some (.cells #[.int .i64 op,.string nm,.int .i64 v,.int .i64 bd,.slice a args.len c] 48 (0,0))∧w.heap.size+2≤w3.heap.size):=Lib.hid ⟨HST.out.1.trans (hB3.mono HST.out.1.size),(hB3.block _ (by have:=HST.out.2.2.2;omega)).trans HST.out.2.1,(hB3.block _ (by have:=HST.out.2.2.2;omega)).trans HST.out.2.2.1,Nat.le_trans HST.out.2.2.2 hB3.size⟩
     clear hB3 HL2 ck
     by_cases hy2:letN l≤letter
     ·have hd2:decide (letN l≤letter)=true:=by simpa using hy2
      have HNO:=Lib.hid (HNO.out (by omega))
      clear HNX
      have hr:=H3.out.2.1
      have r0:w3.cell? ⟨w.heap.size+1,0,none⟩=some (.slice none 0 0):=by simp[World.cell?,hr]
      have r1:w3.cell? ⟨w.heap.size+1,1,none⟩=some (.int .i64 0):=by simp[World.cell?,hr]
      have rf:∀o,w3.frozen? ⟨w.heap.size+1,o,none⟩=false:=fun o=>by simp[World.frozen?,hr]
      have hst:=stored2 (wz:=w3) (.slice none 0 0) (.int .i64 0) hr H3.out.1 (Nat.le_succ _)
      have HST2:=Lib.hid hst
      clear hr hst
      go_wp2_with fail
      obtain⟨g0,g1,g2⟩:=HST2.out
      refine end22 rfl rfl g0 g1 ⟨none,0,0,0,1,rfl,g2,?_,?_⟩
      ·exact fun _=>.inl rfl
      ·intro z' ys _ e' hres
       obtain rfl:z'=z:=tr_inj (e'.symm.trans HZ.out.1)
       exact absurd hres (HNO.out ys)
     ·have hd2:decide (letN l≤letter)=false:=by simpa using hy2
      have HNX:=Lib.hid (HNX.out ⟨by omega,by omega⟩)
      clear HNO
      go_wp2_with fail
      go_roundg (gk - 1)
      case measure=>have:=HG.out;omega
      case rel=>exact⟨k+1,by go_num,by omega,Lib.hid (by have:=HG.out;omega),HNX,H3⟩
   ·have hd:decide ((k:Int)<(ls.length:Int))=false:=by simpa using hlt
    obtain rfl:k=ls.length:=by omega
    have HINL:Hid (∀x∈ls,0≤x∧x<letN l):=Lib.hid fun x hx=>by
     obtain⟨j,hj,rfl⟩:=List.getElem_of_mem hx
     exact HIN.out j hj hj
    have x0:wr.cell? ⟨w.heap.size,0,none⟩=some (.int .i64 op):=by simp[World.cell?,HST.out.2.2.1]
    have x1:wr.cell? ⟨w.heap.size,1,none⟩=some (.string nm):=by simp[World.cell?,HST.out.2.2.1]
    have x2:wr.cell? ⟨w.heap.size,2,none⟩=some (.int .i64 v):=by simp[World.cell?,HST.out.2.2.1]
    have x3:wr.cell? ⟨w.heap.size,3,none⟩=some (.int .i64 bd):=by simp[World.cell?,HST.out.2.2.1]
    have x4:wr.cell? ⟨w.heap.size,4,none⟩=some (.slice a args.len c):=by simp[World.cell?,HST.out.2.2.1]
    go_upto_region 11 with fail
    have hA:RowKit.Below wr.heap.size wr (wr.alloc (.cells #[.int .i64 op,.string nm,.int .i64 v,.int .i64 bd,.slice a args.len c] 48)):=(RowKit.Below.refl _ _).alloc (Nat.le_refl _) _
    have HS0:Hid (ResSt w l #[.int .i64 op,.string nm,.int .i64 v,.int .i64 bd,.slice a args.len c] z wr.heap.size 0 [] ⟨op,nm,v,bd,args,a,c⟩ none 0 [] (wr.alloc (.cells #[.int .i64 op,.string nm,.int .i64 v,.int .i64 bd,.slice a args.len c] 48))):=Lib.hid ⟨World.alloc_heap_new wr _,HX.out.keep (HST.out.1.trans (hA.mono HST.out.1.size)),HZ.out.1,HZ.out.2.1,HST.out.1.trans (hA.mono HST.out.1.size),(hA.block _ (by have:=HST.out.2.2.2;omega)).trans HST.out.2.1,(hA.block _ (by have:=HST.out.2.2.2;omega)).trans HST.out.2.2.1,⟨.inl ⟨rfl,rfl,rfl⟩,fun y hy=>(by cases hy),Nat.zero_le _⟩,rfl,rfl,by have:=HST.out.2.2.2;omega⟩
    clear hA x0 x1 x2 x3 x4 HIN
    generalize wr.alloc (.cells #[.int .i64 op,.string nm,.int .i64 v,.int .i64 bd,.slice a args.len c] 48)=w4 at*
    generalize wr.heap.size=q at*
    clear HST H2
    go_wp2_with fail
    go_loopg [10,13,38] ls.length (fun g o10 _ oi wr=>∃(k:Nat) (zs:List Wf) (u:ElA) (a7:Option Addr) (cap:Nat) (ys:List ElA),oi=.int .i64 k∧o10=.slice a7 k cap∧k≤ls.length∧Hid (ls.length - k≤g)∧Hid (resO l (ls.take k) z=some zs)∧Hid (ResSt w l #[.int .i64 op,.string nm,.int .i64 v,.int .i64 bd,.slice a args.len c] z q k zs u a7 cap ys wr))
    case atStart=>exact⟨0,[],_,none,0,[],rfl,rfl,Nat.zero_le _,Lib.hid (by omega),Lib.hid rfl,HS0⟩
    case round=>
     obtain⟨k,zs,u,a7,cap,ys,rfl,rfl,hk,HG,HRO,HST⟩:=hrel
     by_cases hlt:(k:Int)<(ls.length:Int)
     ·have hd:decide ((k:Int)<(ls.length:Int))=true:=by simpa using hlt
      have hk':k<ls.length:=by omega
      obtain⟨la',lc',hnv,hnn⟩:=HN.out wr HST.out.bel
      simp only[Value.slice.injEq,true_and] at hnv
      obtain⟨rfl,rfl⟩:=hnv
      obtain⟨lb,lo,rfl,hlb,hlcl⟩:=hnn (fun e=>by rw[e] at hk';simp at hk')
      have ck:=hlcl k hk'
      have eA:ls.getD k 0=ls[k]:=by simp[hk']
      rw[eA] at ck
      have HSO:=Lib.hid (And.intro (fun hs=>resO_stop hk' HRO.out hs) (fun y hs=>resO_next (y:=y) hk' HRO.out hs))
      have HC:=Lib.hid (step64 (n0:=wr.heap.size) (y:=ls[k]) (Nat.le_refl _) (HE.out.keep HST.out.bel) HZ.out.2.2 HST.out.rd)
      have HSF:Hid (∀y',stepO l ls[k] (lastW zs z)=some y'→Fit l y'):=Lib.hid fun y' e=>stepO_fit HST.out.fit e
      clear hnn hlcl eA
      generalize ls[k]=letter at*
      obtain⟨v0,v1,v2,v3,v4,v5,v6⟩:=u
      have hqb:=HST.out.blk
      have q0:wr.cell? ⟨q,0,none⟩=some (.int .i64 v0):=by simp[World.cell?,hqb,ElA.enc]
      have q1:wr.cell? ⟨q,1,none⟩=some (.string v1):=by simp[World.cell?,hqb,ElA.enc]
      have q2:wr.cell? ⟨q,2,none⟩=some (.int .i64 v2):=by simp[World.cell?,hqb,ElA.enc]
      have q3:wr.cell? ⟨q,3,none⟩=some (.int .i64 v3):=by simp[World.cell?,hqb,ElA.enc]
      have q4:wr.cell? ⟨q,4,none⟩=some (.slice v5 v4.len v6):=by simp[World.cell?,hqb,ElA.enc]
      simp only[ElA.enc] at HC
      clear hqb
      go_wp2_with fail
      refine HC.out.mono ?_
      intro e w5 hC
      obtain⟨⟨s0,s1,s2,s3,s4,s5,s6⟩,hu,hut,rfl,hB5⟩:=hC.2 (lastW zs z) HST.out.tree HST.out.fit
      have hq5:=(hB5.block q HST.out.lt).trans HST.out.blk
      have p0:w5.cell? ⟨q,0,none⟩=some (.int .i64 v0):=by simp[World.cell?,hq5,ElA.enc]
      have p1:w5.cell? ⟨q,1,none⟩=some (.string v1):=by simp[World.cell?,hq5,ElA.enc]
      have p2:w5.cell? ⟨q,2,none⟩=some (.int .i64 v2):=by simp[World.cell?,hq5,ElA.enc]
      have p3:w5.cell? ⟨q,3,none⟩=some (.int .i64 v3):=by simp[World.cell?,hq5,ElA.enc]
      have p4:w5.cell? ⟨q,4,none⟩=some (.slice v5 v4.len v6):=by simp[World.cell?,hq5,ElA.enc]
      have pf:∀o,w5.frozen? ⟨q,o,none⟩=false:=fun o=>by simp[World.frozen?,hq5]
      have hap:=HST.out.apart
      have HQ6:Hid ((((((w5.setCell ⟨q,0,none⟩ (.int .i64 s0)).setCell ⟨q,1,none⟩ (.string s1)).setCell ⟨q,2,none⟩ (.int .i64 s2)).setCell ⟨q,3,none⟩ (.int .i64 s3)).setCell ⟨q,4,none⟩ (.slice s5 s4.len s6)).heap[q]? =some (.cells #[.int .i64 s0,.string s1,.int .i64 s2,.int .i64 s3,.slice s5 s4.len s6] 48 (0,0))):=Lib.hid (putRes_blk (a0:=.int .i64 v0) (a1:=.string v1) (a2:=.int .i64 v2) (a3:=.int .i64 v3) (a4:=.slice v5 v4.len v6) hq5 _ _ _ _ _)
      have HB6:Hid (RowKit.Below w.heap.size w (((((w5.setCell ⟨q,0,none⟩ (.int .i64 s0)).setCell ⟨q,1,none⟩ (.string s1)).setCell ⟨q,2,none⟩ (.int .i64 s2)).setCell ⟨q,3,none⟩ (.int .i64 s3)).setCell ⟨q,4,none⟩ (.slice s5 s4.len s6))):=Lib.hid (putRes_below (HST.out.bel.trans (hB5.mono HST.out.bel.size)) (by omega) _ _ _ _ _)
      have HZ6:Hid ((((((w5.setCell ⟨q,0,none⟩ (.int .i64 s0)).setCell ⟨q,1,none⟩ (.string s1)).setCell ⟨q,2,none⟩ (.int .i64 s2)).setCell ⟨q,3,none⟩ (.int .i64 s3)).setCell ⟨q,4,none⟩ (.slice s5 s4.len s6)).heap[w.heap.size+1]? =some (.cells #[.slice none 0 0,.int .i64 0] 30 (0,0))):=Lib.hid ((putRes_other (show w.heap.size+1≠q by omega) _ _ _ _ _).trans ((hB5.block _ (by have:=HST.out.lt;omega)).trans HST.out.res))
      have HP6:Hid (∀y',stepO l letter (lastW zs z)=some y'→∃a' cap' W8,(Builtin.append_ #[46,46] 46 #[.slice a7 k cap,.slice (some ⟨(((((w5.setCell ⟨q,0,none⟩ (.int .i64 s0)).setCell ⟨q,1,none⟩ (.string s1)).setCell ⟨q,2,none⟩ (.int .i64 s2)).setCell ⟨q,3,none⟩ (.int .i64 s3)).setCell ⟨q,4,none⟩ (.slice s5 s4.len s6)).heap.size,0,none⟩) 1 1]).run Tryz.prog ((((((w5.setCell ⟨q,0,none⟩ (.int .i64 s0)).setCell ⟨q,1,none⟩ (.string s1)).setCell ⟨q,2,none⟩ (.int .i64 s2)).setCell ⟨q,3,none⟩ (.int .i64 s3)).setCell ⟨q,4,none⟩ (.slice s5 s4.len s6)).alloc (.cells #[.int .i64 s0,.string s1,.int .i64 s2,.int .i64 s3,.slice s5 s4.len s6] 48))=.ok (.slice a' (k+1) cap') W8∧
       Hid (ResSt w l #[.int .i64 op,.string nm,.int .i64 v,.int .i64 bd,.slice a args.len c] z q (k+1) (zs++[y']) ⟨s0,s1,s2,s3,s4,s5,s6⟩ a' cap' (ys++[⟨s0,s1,s2,s3,s4,s5,s6⟩]) W8)):=Lib.hid fun y' e=>(HST.out.put hB5 (u':=⟨s0,s1,s2,s3,s4,s5,s6⟩) hu (by rw[hut,e];rfl) (HSF.out y' e) (by omega)).2
      have HUT:=Lib.hid hut
      clear hC hu hut hB5 hq5 q0 q1 q2 q3 q4 ck HSF HC
      simp only[ElA.enc]
      go_upto_region 15 with fail
      generalize ((((w5.setCell ⟨q,0,none⟩ (.int .i64 s0)).setCell ⟨q,1,none⟩ (.string s1)).setCell ⟨q,2,none⟩ (.int .i64 s2)).setCell ⟨q,3,none⟩ (.int .i64 s3)).setCell ⟨q,4,none⟩ (.slice s5 s4.len s6)=w6 at*
      clear p0 p1 p2 p3 p4 pf
      have q0:w6.cell? ⟨q,0,none⟩=some (.int .i64 s0):=by simp[World.cell?,HQ6.out]
      cases hst:stepO l letter (lastW zs z) with
      |none=>
       have hut:=HUT.out
       rw[hst] at hut
       have hop:s0=0:=tz_op hut
       have HNO:=Lib.hid (HSO.out.1 hst)
       have hd2:(s0==0)=true:=by simpa using hop
       clear hut hop hst HUT HP6 HSO
       have hr:=HZ6.out
       have r0:w6.cell? ⟨w.heap.size+1,0,none⟩=some (.slice none 0 0):=by simp[World.cell?,hr]
       have r1:w6.cell? ⟨w.heap.size+1,1,none⟩=some (.int .i64 0):=by simp[World.cell?,hr]
       have rf:∀o,w6.frozen? ⟨w.heap.size+1,o,none⟩=false:=fun o=>by simp[World.frozen?,hr]
       have hst:=stored2 (wz:=w6) (.slice none 0 0) (.int .i64 0) hr HB6.out (Nat.le_succ _)
       have HST2:=Lib.hid hst
       clear hr hst
       go_wp2_with fail
       obtain⟨g0,g1,g2⟩:=HST2.out
       refine end22 rfl rfl g0 g1 ⟨none,0,0,0,2,rfl,g2,?_,?_⟩
       ·exact fun _=>.inr rfl
       ·exact fun _ _ _ _ _=>.inl rfl
      |some y'=>
       have hut:=HUT.out
       rw[hst] at hut
       have hd2:(s0==0)=false:=by
        have h1:=tree_op (x:=⟨s0,s1,s2,s3,s4,s5,s6⟩) hut
        have h2:=opW_pos y'
        have h1:s0=opW y':=h1
        simp;omega
       obtain⟨a',cap',w8,hrun,HS8⟩:=HP6.out y' hst
       have HR6:=Lib.hid (HSO.out.2 y' hst)
       have HRUN:=Lib.hid hrun
       have q1:w6.cell? ⟨q,1,none⟩=some (.string s1):=by simp[World.cell?,HQ6.out]
       have q2:w6.cell? ⟨q,2,none⟩=some (.int .i64 s2):=by simp[World.cell?,HQ6.out]
       have q3:w6.cell? ⟨q,3,none⟩=some (.int .i64 s3):=by simp[World.cell?,HQ6.out]
       have q4:w6.cell? ⟨q,4,none⟩=some (.slice s5 s4.len s6):=by simp[World.cell?,HQ6.out]
       have hk20:(k:Int)≤20000:=by omega
       clear hut hst HUT HP6 HSO hrun
       go_wp2_with (at_builtin;refine Lib.wpList_append_run _ rfl _ _ _ _ rfl _ _ rfl rfl _ _ HRUN.out ?_)
       go_roundg (gk - 1)
       case measure=>have:=HG.out;omega
       case rel=>exact⟨k+1,_,_,a',cap',_,by go_num,rfl,by omega,Lib.hid (by have:=HG.out;omega),HR6,HS8⟩
     ·have hd:decide ((k:Int)<(ls.length:Int))=false:=by simpa using hlt
      obtain rfl:k=ls.length:=by omega
      have HRF:Hid (resO l ls z=some zs):=Lib.hid (by have:=HRO.out;rwa[List.take_length] at this)
      have hap:=HST.out.apart
      have hbx:=HST.out.box
      have x0:wr.cell? ⟨w.heap.size,0,none⟩=some (.int .i64 op):=by simp[World.cell?,hbx]
      have x1:wr.cell? ⟨w.heap.size,1,none⟩=some (.string nm):=by simp[World.cell?,hbx]
      have x2:wr.cell? ⟨w.heap.size,2,none⟩=some (.int .i64 v):=by simp[World.cell?,hbx]
      have x3:wr.cell? ⟨w.heap.size,3,none⟩=some (.int .i64 bd):=by simp[World.cell?,hbx]
      have x4:wr.cell? ⟨w.heap.size,4,none⟩=some (.slice a args.len c):=by simp[World.cell?,hbx]
      obtain⟨hlz,hfv⟩:=HST.out.fv (by omega)
      obtain⟨v1,v2,v3⟩:=valid_write HZ.out.2.2
      have hall:=resO_all ls z zs HZ.out.2.1 HRF.out
      have hz400:=HZ.out.2.1.1.size
      have htz:Fs.cons op nm v bd args .nil=trs [z]:=HZ.out.1
      have hsz:args.nodes+1=size z:=by
       have h1:=congrArg Fs.nodes htz
       rw[sizes_trs] at h1
       simp only[Fs.nodes,sizes] at h1
       omega
      have hszs:sizes zs≤zs.length*400:=sizes_small fun y hy=>(hall.2.1 y hy).1.size
      have hzl:zs.length≤12:=by rw[hall.1];exact hll
      have HEN:=Lib.hid (X.encode_R wr (a1:=sa) (c1:=sc) (op:=op) (v:=v) (bd:=bd) (nm:=nm) (a6:=a) (c6:=c) (args:=args) (a22:=la) (c22:=lc) (a23:=a7) (c23:=cap) (rs:=trs zs) (sg:=l) (ls:=ls) (HE.out.keep HST.out.bel).sg
       ⟨HX.out.len,a,c,rfl,HX.out.cap,(HX.out.keep HST.out.bel).args⟩ (HN.out wr HST.out.bel) hfv ⟨by omega,fun s hs=>⟨by have:=(v2 s hs).1;omega,(v2 s hs).2⟩⟩
       (by rw[htz];exact forest_write [z] fun y hy=>by rw[List.mem_singleton.1 hy];exact HZ.out.2.1.1) ⟨by omega,fun y hy=>by have:=HINL.out y hy;exact⟨by omega,by omega⟩⟩ hlz (forest_write zs fun y hy=>(hall.2.1 y hy).1)
       (by rw[sizes_trs];have:zs.length*400≤12*400:=Nat.mul_le_mul_right 400 hzl;omega))
      rw[hlz] at HEN
      unfold X.clR at HEN
      have hd65:decide ((65519:Int)<(ls.length:Int))=false:=decide_eq_false (by omega)
      have hd20:decide ((20000:Int)<(ls.length:Int))=false:=decide_eq_false (by omega)
      have HRR:=Lib.hid HST.out.res
      have HLB:=Lib.hid (And.intro HST.out.bel HST.out.lt)
      clear hbx hlz hfv v1 v2 v3 hall hz400 htz hsz hszs hzl HST HRO hlt HINL
      go_wp2_with fail
      refine HEN.out.mono ?_
      rintro e w9 ⟨hB9,az,ln,cz,sl,kk,rfl,hcd⟩
      have hr:=(hB9.block _ (by have:=HLB.out.2;omega)).trans HRR.out
      have r0:w9.cell? ⟨w.heap.size+1,0,none⟩=some (.slice none 0 0):=by simp[World.cell?,hr]
      have r1:w9.cell? ⟨w.heap.size+1,1,none⟩=some (.int .i64 0):=by simp[World.cell?,hr]
      have rf:∀o,w9.frozen? ⟨w.heap.size+1,o,none⟩=false:=fun o=>by simp[World.frozen?,hr]
      have HST2:=Lib.hid (stored2 (wz:=w9) (.slice az ln cz) (.int .i64 sl) hr (HLB.out.1.trans (hB9.mono HLB.out.1.size)) (Nat.le_succ _))
      have HCD:=Lib.hid hcd
      clear hr hB9 hcd x0 x1 x2 x3 x4
      go_wp2_with fail
      obtain⟨g0,g1,g2⟩:=HST2.out
      refine end22 rfl rfl g0 g1 ⟨az,ln,cz,sl,kk,rfl,g2,?_,?_⟩
      ·intro h
       have:=h z rfl HZ.out.1
       rw[HRF.out] at this
       cases this
      ·intro z' ys _ e' hres
       obtain rfl:z'=z:=tr_inj (e'.symm.trans HZ.out.1)
       rw[HRF.out] at hres
       cases hres
       rcases HCD.out with⟨_,h2⟩|⟨h1,h2,h3⟩
       ·exact .inl h2
       ·refine .inr ⟨h2,numsC_owned (ownsRow_setCell_below (ownsRow_setCell_below h3 (a:=⟨w.heap.size+1,0,none⟩) ?_ _) (a:=⟨w.heap.size+1,1,none⟩) ?_ _) h1⟩
        ·have:=HLB.out.2;show w.heap.size+1<_;omega
        ·have:=HLB.out.2;show w.heap.size+1<_;omega
end
section
open Go.RowKit
def SomeB (w:World) (e:Ending) (w':World):Prop:=∃c:Bool,e=.returned (.bool c)∧Below w.heap.size w w'
def Texts10 (w:World) (e:Ending) (w':World):Prop:=∃b:Nat,e=.returned (.slice (some ⟨b,0,none⟩) 10 10)∧Below w.heap.size w w'∧b<w'.heap.size∧∀j,j<10→∃s,w'.cell? ⟨b,j,none⟩=some (.string s)
theorem texts10 (w:World) {A:Array Value} (hA:∀j,j<10→∃s,A[j]? =some (.string s)) {t:Nat}:Texts10 w (.returned (.slice (some ⟨w.heap.size,0,none⟩) 10 10)) (w.alloc (.cells A t)):=
 ⟨_,rfl,(Below.refl _ _).alloc (Nat.le_refl _) _,by simp,fun j hj=>by
  obtain⟨s,h⟩:=hA j hj
  refine⟨s,?_⟩
  rw[cell_new w A t j,h]⟩
set_option maxRecDepth 100000 in
set_option maxHeartbeats 4000000 in
theorem keys169 (w:World):Calls Tryz.prog 169 #[] w (Texts10 w):=by
 go_enter Tryz.func169,Tryz.ntmps169
 go_wp2_with fail
 go_ret
 refine texts10 w fun j hj=>?_
 match j,hj with
 |0,_=>exact⟨_,rfl⟩|1,_=>exact⟨_,rfl⟩|2,_=>exact⟨_,rfl⟩|3,_=>exact⟨_,rfl⟩|4,_=>exact⟨_,rfl⟩|5,_=>exact⟨_,rfl⟩|6,_=>exact⟨_,rfl⟩|7,_=>exact⟨_,rfl⟩|8,_=>exact⟨_,rfl⟩|9,_=>exact⟨_,rfl⟩
set_option maxRecDepth 100000 in
set_option maxHeartbeats 4000000 in
theorem keys303 (w:World):Calls Tryz.prog 303 #[] w (Texts10 w):=by
 go_enter Tryz.func303,Tryz.ntmps303
 go_wp2_with fail
 go_ret
 refine texts10 w fun j hj=>?_
 match j,hj with
 |0,_=>exact⟨_,rfl⟩|1,_=>exact⟨_,rfl⟩|2,_=>exact⟨_,rfl⟩|3,_=>exact⟨_,rfl⟩|4,_=>exact⟨_,rfl⟩|5,_=>exact⟨_,rfl⟩|6,_=>exact⟨_,rfl⟩|7,_=>exact⟨_,rfl⟩|8,_=>exact⟨_,rfl⟩|9,_=>exact⟨_,rfl⟩
set_option maxRecDepth 100000 in
set_option maxHeartbeats 4000000 in
theorem in168 {w:World} {b:Nat} {s:ByteArray} (hk:∀j,j<10→∃s,w.cell? ⟨b,j,none⟩=some (.string s)):
  Calls Tryz.prog 168 #[.slice (some ⟨b,0,none⟩) 10 10,.string s] w (SomeB w):=by
 have HK:=Lib.hid hk
 clear hk
 go_enter Tryz.func168,Tryz.ntmps168
 go_wp2_with fail
 go_loopw [5] (fun i wr=>∃k:Nat,k≤10∧i=.int .i64 k∧wr=w) (fun i _=>10 - (intOf i).toNat)
 case atStart=>exact⟨0,by omega,rfl,rfl⟩
 case round=>
  obtain⟨k,hk,rfl,rfl⟩:=hrel
  by_cases hlt:(k:Int)<10
  ·have hd:decide ((k:Int)<10)=true:=by simpa using hlt
   obtain⟨t,ht⟩:=HK.out k (by omega)
   by_cases he:t=s
   ·have hb:(t.toList==s.toList)=true:=by rw[he];simp
    go_wp2_with fail
    go_ret
    exact⟨_,rfl,Below.refl _ _⟩
   ·have hb:(t.toList==s.toList)=false:=bytes_ne he
    go_wp2_with fail
    go_roundw
    case rel=>exact⟨k+1,by omega,by go_num,trivial⟩
    case measure=>simp[intOf];omega
  ·have hd:decide ((k:Int)<10)=false:=by simpa using hlt
   go_wp2_with fail
   go_ret
   exact⟨_,rfl,Below.refl _ _⟩
set_option maxRecDepth 100000 in
set_option maxHeartbeats 4000000 in
theorem find119 {w:World} {v:Value} {l:List Sg} {nm:ByteArray} (hv:SgV w v l):
  Calls Tryz.prog 119 #[v,.string nm] w fun e w'=>e=.returned (.int .i64 (findI l nm))∧Below w.heap.size w w':=by
 obtain⟨a,c,rfl,hl,hv⟩:=hv
 have HV:=Lib.hid hv
 clear hv
 go_enter Tryz.func119,Tryz.ntmps119
 go_wp2_with fail
 go_loopw [5] (fun i wr=>∃k:Nat,k≤l.length∧i=.int .i64 k∧Hid (Below w.heap.size w wr)∧Hid (∀j (h:j<k) (h':j<l.length),l[j].name≠nm)) (fun i _=>l.length - (intOf i).toNat)
 case atStart=>exact⟨0,Nat.zero_le _,rfl,Lib.hid (Below.refl _ _),Lib.hid (fun j h=>by omega)⟩
 case round=>
  obtain⟨k,hk,rfl,HB,HN⟩:=hrel
  by_cases hlt:(k:Int)<(l.length:Int)
  ·have hd:decide ((k:Int)<(l.length:Int))=true:=by simpa using hlt
   have hk':k<l.length:=by omega
   obtain⟨b1,o1,rfl,hb1,hc⟩:=HV.out (fun e=>by rw[e] at hk';simp at hk')
   obtain⟨c0, -, -, -⟩:=hc k hk'
   have c0:=(HB.out.cell (p:=⟨b1,o1+k*3,none⟩) hb1).trans c0
   have HT:Hid (∀j (h:j<k+1) (h':j<l.length),l[k].name≠nm→l[j].name≠nm):=Lib.hid (fun j h h' hn=>by
    rcases Nat.lt_or_ge j k with hj|hj
    ·exact HN.out j hj h'
    ·obtain rfl:j=k:=by omega
     exact hn)
   have HF:Hid (l[k].name=nm→findI l nm=k):=Lib.hid (fun h=>findI_hit hk' h (fun j hj=>HN.out j hj (by omega)))
   clear hc HN
   generalize l[k].name=s at*
   by_cases he:s=nm
   ·have hb:(s.toList==nm.toList)=true:=by rw[he];simp
    have HF':=Lib.hid (HF.out he)
    clear HF HT
    go_wp2_with fail
    go_ret
    exact⟨congrArg (fun x=>Ending.returned (.int .i64 x)) HF'.out.symm,HB.out⟩
   ·have hb:(s.toList==nm.toList)=false:=bytes_ne he
    go_wp2_with fail
    go_roundw
    case rel=>exact⟨k+1,by omega,by go_num,HB,Lib.hid (fun j h h'=>HT.out j h h' he)⟩
    case measure=>simp[intOf];omega
  ·have hd:decide ((k:Int)<(l.length:Int))=false:=by simpa using hlt
   have HF:Hid (findI l nm= -1):=Lib.hid (findI_none fun j h=>HN.out j (by omega) h)
   go_wp2_with fail
   go_ret
   exact⟨congrArg (fun x=>Ending.returned (.int .i64 x)) HF.out.symm,HB.out⟩
set_option maxRecDepth 100000 in
set_option maxHeartbeats 4000000 in
theorem name118 {w:World} {s:ByteArray} (hs:s.size≤9223372036854775807):Calls Tryz.prog 118 #[.string s] w (SomeB w):=by
 by_cases h1:(s.size:Int)<1
 ·have hd1:decide ((s.size:Int)<1)=true:=by simpa using h1
  go_enter Tryz.func118,Tryz.ntmps118
  go_wp2_with fail
  go_ret
  exact⟨_,rfl,Below.refl _ _⟩
 ·have hd1:decide ((s.size:Int)<1)=false:=by simpa using h1
  by_cases h2:(12:Int)<s.size
  ·have hd2:decide ((12:Int)<s.size)=true:=by simpa using h2
   go_enter Tryz.func118,Tryz.ntmps118
   go_wp2_with fail
   go_ret
   exact⟨_,rfl,Below.refl _ _⟩
  ·have hd2:decide ((12:Int)<s.size)=false:=by simpa using h2
   go_enter Tryz.func118,Tryz.ntmps118
   go_wp2_with fail
   refine(keys169 w).mono ?_
   rintro e w1 ⟨b,rfl,hB1,hb,hk⟩
   have HI:=Lib.hid (in168 (s:=s) hk)
   have HB1:=Lib.hid hB1
   clear hB1 hk hb
   go_wp2_with fail
   refine HI.out.mono ?_
   rintro e w2 ⟨c,rfl,hB2⟩
   have HB2:=Lib.hid (HB1.out.trans (hB2.mono HB1.out.size))
   clear hB2 HI
   cases c with
   |true=>
    go_wp2_with fail
    go_ret
    exact⟨_,rfl,HB2.out⟩
   |false=>
    go_upto_region 4 with fail
    go_loopw [3] (fun i wr=>∃k:Nat,k≤s.size∧i=.int .i64 k∧wr=w2) (fun i _=>s.size - (intOf i).toNat)
    case atStart=>exact⟨0,Nat.zero_le _,rfl,rfl⟩
    case round=>
     obtain⟨k,hk,rfl,rfl⟩:=hrel
     by_cases hlt:(k:Int)<(s.size:Int)
     ·have hd:decide ((k:Int)<(s.size:Int))=true:=by simpa using hlt
      have hk':k<s.size:=by omega
      go_wp2_with fail
      all_goals first
       |(go_ret
         exact⟨_,rfl,HB2.out⟩)
       |(go_roundw
         case rel=>exact⟨k+1,by omega,by go_num,trivial⟩
         case measure=>simp[intOf];omega)
     ·have hd:decide ((k:Int)<(s.size:Int))=false:=by simpa using hlt
      go_wp2_with fail
      go_ret
      exact⟨_,rfl,HB2.out⟩
end
end Go.Proofs.YtckdgniecdfedaaGreatDoor
