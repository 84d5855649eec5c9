/- The walk of Run. The writer of certificates while all is well: numbers that can be written, no formula too large. The writer's list, text, need and signals while all is well. -/
import Derived.Test.YtckdgniecdfedaaGreatDoorRzL
namespace Go.Proofs.YtckdgniecdfedaaGreatDoor
section
open Go.RowKit Go.Sort
variable {n0:Nat}
theorem runO_append {l:List Sg}:∀(xs ys:List Int) (z:Wf),runO l (xs++ys) z=(runO l xs z).bind (runO l ys)
 |[],ys,z=>rfl
 |x::xs,ys,z=>by
  rw[List.cons_append,runO,runO]
  cases stepO l x z with
  |none=>rfl
  |some y=>exact runO_append xs ys y
theorem runO_one {l:List Sg} (x:Int) (z:Wf):runO l [x] z=stepO l x z:=by
 rw[runO];cases stepO l x z<;>rfl
theorem runO_next {l:List Sg} {ls:List Int} {k:Nat} (hk:k<ls.length) {z y:Wf} (h:runO l (ls.take k) z=some y):runO l (ls.take (k+1)) z=stepO l ls[k] y:=by
 rw[List.take_succ_eq_append_getElem hk,runO_append,h]
 exact runO_one _ _
theorem runO_stop {l:List Sg} {ls:List Int} {k:Nat} (hk:k<ls.length) {z y:Wf} (h:runO l (ls.take k) z=some y) (hs:stepO l ls[k] y=none):runO l ls z=none:=by
 have e:ls=ls.take (k+1)++ls.drop (k+1):=(List.take_append_drop _ _).symm
 rw[e,runO_append,runO_next hk h,hs];rfl
def RunOut (fb:Bool) (n0:Nat) (w:World) (t:Fs) (F:Wf→Option Wf) (e:Ending) (w':World):Prop:=
 (fb=false→TOut n0 w tz e w')∧(fb=true→∀z,t=tr z→TOut n0 w (trO (F z)) e w')
structure RunSt (w:World) (l:List Sg) (n q:Nat) (y:Wf) (u:ElA) (W:World):Prop where
 blk:W.heap[q]? =some (.cells u.enc.toArray 48 (0,0))
 ok:u.ok n W
 tree:u.tree=tr y
 fit:Fit l y
 bel:RowKit.Below w.heap.size w W
 nq:n≤q
theorem RunSt.lt {w:World} {l:List Sg} {n q:Nat} {y:Wf} {u:ElA} {W:World} (h:RunSt w l n q y u W):q<W.heap.size:=(Array.getElem?_eq_some_iff.1 h.blk).1
theorem RunSt.cell {w:World} {l:List Sg} {n q:Nat} {y:Wf} {u0:Int} {u1:ByteArray} {u2 u3:Int} {u4:Fs} {u5:Option Addr} {u6:Nat} {W:World} (h:RunSt w l n q y ⟨u0,u1,u2,u3,u4,u5,u6⟩ W):
  W.cell? ⟨q,0,none⟩=some (.int .i64 u0)∧W.cell? ⟨q,1,none⟩=some (.string u1)∧W.cell? ⟨q,2,none⟩=some (.int .i64 u2)∧W.cell? ⟨q,3,none⟩=some (.int .i64 u3)∧W.cell? ⟨q,4,none⟩=some (.slice u5 u4.len u6)∧∀o,W.frozen? ⟨q,o,none⟩=false:=by
 have:=h.blk
 simp[World.cell?,World.frozen?,this,ElA.enc]
theorem RunSt.put {w:World} {l:List Sg} {n q:Nat} {y y':Wf} {u u':ElA} {W W2:World} (h:RunSt w l n q y u W) (hB:RowKit.Below W.heap.size W W2) (hok:u'.ok W.heap.size W2) (ht:u'.tree=tr y') (hf:Fit l y') (hn:n≤w.heap.size+2) (hq:w.heap.size≤q):
  RunSt w l n q y' u' (putRes W2 q (.int .i64 u'.op) (.string u'.nm) (.int .i64 u'.v) (.int .i64 u'.bd) (.slice u'.a u'.args.len u'.c)):=by
 have hlt:=h.lt
 have hnq:=h.nq
 have hb:=(hB.block q hlt).trans h.blk
 have hon:only q q=true:=by simp[only]
 have hfr:Fr (only q) W2.heap.size W2 (putRes W2 q (.int .i64 u'.op) (.string u'.nm) (.int .i64 u'.v) (.int .i64 u'.bd) (.slice u'.a u'.args.len u'.c)):=
  (((((Fr.refl _ _ _).setCell (.inl hon) _).setCell (.inl hon) _).setCell (.inl hon) _).setCell (.inl hon) _).setCell (.inl hon) _
 refine⟨?_,ElA.mono (ElA.keepN hok hlt hfr) (by omega),ht,hf,putRes_below (h.bel.trans (hB.mono h.bel.size)) hq _ _ _ _ _,h.nq⟩
 have e:u.enc.toArray= #[.int .i64 u.op,.string u.nm,.int .i64 u.v,.int .i64 u.bd,.slice u.a u.args.len u.c]:=rfl
 rw[e] at hb
 have h0:=heap_setCell_same W2 q 0 _ 48 (.int .i64 u'.op) hb
 have h1:=heap_setCell_same _ q 1 _ 48 (.string u'.nm) h0
 have h2:=heap_setCell_same _ q 2 _ 48 (.int .i64 u'.v) h1
 have h3:=heap_setCell_same _ q 3 _ 48 (.int .i64 u'.bd) h2
 exact heap_setCell_same _ q 4 _ 48 (.slice u'.a u'.args.len u'.c) h3
theorem tz_op {x:ElA} (h:x.tree=tz):x.op=0:=by
 have h:Fs.cons x.op x.nm x.v x.bd x.args .nil=tz:=h
 simp only[tz,Fs.cons.injEq] at h
 exact h.1
theorem putRes_blk {W:World} {q:Nat} {a0 a1 a2 a3 a4:Value} (h:W.heap[q]? =some (.cells #[a0,a1,a2,a3,a4] 48 (0,0))) (v0 v1 v2 v3 v4:Value):(putRes W q v0 v1 v2 v3 v4).heap[q]? =some (.cells #[v0,v1,v2,v3,v4] 48 (0,0)):=by
 have h0:=heap_setCell_same W q 0 _ 48 v0 h
 have h1:=heap_setCell_same _ q 1 _ 48 v1 h0
 have h2:=heap_setCell_same _ q 2 _ 48 v2 h1
 have h3:=heap_setCell_same _ q 3 _ 48 v3 h2
 exact heap_setCell_same _ q 4 _ 48 v4 h3
set_option maxRecDepth 100000 in
set_option maxHeartbeats 40000000 in
theorem run21 {w:World} {sv:Value} {l:List Sg} {x:ElA} {la:Option Addr} {lc:Nat} {ls:List Int} (hn0:n0≤w.heap.size) (hE:Env w sv l) (hx:Rd w x) (hls:Nums w (.slice la ls.length lc) ls) (hll:ls.length≤100000):
  Calls Tryz.prog 21 #[sv,.agg x.enc.toArray,.slice la ls.length lc] w (RunOut (fitB l x.op x.nm x.v x.bd x.args) n0 w x.tree (fun z=>runO l ls (canon ordF z))):=by
 have hB0:RowKit.Below w.heap.size w (w.alloc (.cells x.enc.toArray 48)):=(RowKit.Below.refl _ _).alloc (Nat.le_refl _) _
 have hB1:RowKit.Below (w.alloc (.cells x.enc.toArray 48)).heap.size (w.alloc (.cells x.enc.toArray 48)) ((w.alloc (.cells x.enc.toArray 48)).alloc (.cells zero48 48)):=(RowKit.Below.refl _ _).alloc (Nat.le_refl _) _
 have hlt:w.heap.size<(w.alloc (.cells x.enc.toArray 48)).heap.size:=by simp
 have hFA:=FAt.keep hB1 hlt (at_alloc hx)
 have hlt1:=Nat.lt_of_lt_of_le hlt hB1.size
 have hBB:RowKit.Below w.heap.size w ((w.alloc (.cells x.enc.toArray 48)).alloc (.cells zero48 48)):=hB0.trans (hB1.mono hB0.size)
 have hr:=World.alloc_heap_new (w.alloc (.cells x.enc.toArray 48)) (.cells zero48 48)
 rw[World.size_alloc] at hr
 have hxb:=(hB1.block _ hlt).trans (World.alloc_heap_new w (.cells x.enc.toArray 48))
 have HF:=Lib.hid (fits62 (hE.keep hBB) hFA hlt1)
 have HXC:Hid (∀W,RowKit.Below ((w.alloc (.cells x.enc.toArray 48)).alloc (.cells zero48 48)).heap.size ((w.alloc (.cells x.enc.toArray 48)).alloc (.cells zero48 48)) W→W.heap[w.heap.size]? =some (.cells x.enc.toArray 48 (0,0))):=Lib.hid fun W h=>(h.block _ hlt1).trans hxb
 have HCA:Hid (∀W,RowKit.Below w.heap.size w W→Calls Tryz.prog 63 #[.agg x.enc.toArray] W (CanonOut W.heap.size W x)):=Lib.hid fun W h=>canon63 (Nat.le_refl _) (hx.keep h) (hE.forms.keep h) (hE.keys.keep h)
 have HN:Hid (∀W,RowKit.Below w.heap.size w W→Nums W (.slice la ls.length lc) ls):=Lib.hid fun W h=>hls.keep h
 have HE:=Lib.hid hE
 have HN0:=Lib.hid hn0
 have HB:=Lib.hid (And.intro hBB hr)
 have HFT:Hid (fitB l x.op x.nm x.v x.bd x.args=true→∃z,x.tree=tr z∧Fit l z∧validB l=true):=Lib.hid fun h=>by
  obtain⟨z,e,hf⟩:=fitB_fit h
  exact⟨z,e .nil,hf,fitB_valid h⟩
 obtain⟨sa,sc,rfl, -, -⟩:=hE.sg
 clear hB0 hB1 hlt hFA hlt1 hBB hr hn0 hE hx hls hxb
 generalize fitB l x.op x.nm x.v x.bd x.args=fb at*
 obtain⟨op,nm,v,bd,args,a,c⟩:=x
 simp only[ElA.enc,zero48] at HF HXC HCA HB ⊢
 go_enter Tryz.func21,Tryz.ntmps21
 go_upto_region 1 with fail
 generalize (w.alloc (.cells #[.int .i64 op,.string nm,.int .i64 v,.int .i64 bd,.slice a args.len c] 48)).alloc (.cells #[.int .i64 0,.string ⟨#[]⟩,.int .i64 0,.int .i64 0,.slice none 0 0] 48)=w1 at*
 have HLT:Hid (w.heap.size+2≤w1.heap.size):=Lib.hid (Array.getElem?_eq_some_iff.1 HB.out.2).1
 go_wp2_with fail
 refine HF.out.mono ?_
 rintro e w2 ⟨rfl,hB2⟩
 have H2:=Lib.hid (And.intro (HB.out.1.trans (hB2.mono HB.out.1.size)) (And.intro hB2 ((hB2.block _ HLT.out).trans HB.out.2)))
 have hr:=H2.out.2.2
 clear hB2 HF
 cases fb with
 |false=>
  have r0:w2.cell? ⟨w.heap.size+1,0,none⟩=some (.int .i64 0):=by simp[World.cell?,hr]
  have r1:w2.cell? ⟨w.heap.size+1,1,none⟩=some (.string ⟨#[]⟩):=by simp[World.cell?,hr]
  have r2:w2.cell? ⟨w.heap.size+1,2,none⟩=some (.int .i64 0):=by simp[World.cell?,hr]
  have r3:w2.cell? ⟨w.heap.size+1,3,none⟩=some (.int .i64 0):=by simp[World.cell?,hr]
  have r4:w2.cell? ⟨w.heap.size+1,4,none⟩=some (.slice none 0 0):=by simp[World.cell?,hr]
  have r5:∀o,w2.frozen? ⟨w.heap.size+1,o,none⟩=false:=fun o=>by simp[World.frozen?,hr]
  clear hr
  go_wp2_with fail
  refine bodyPost_ret (v:=.agg #[.int .i64 0,.string ⟨#[]⟩,.int .i64 0,.int .i64 0,.slice none 0 0]) (by
   simp[results,Tryz.f21,go_sem,r0,r1,r2,r3,r4]) rfl ?_
  have h:=t_finr (x:=⟨0,⟨#[]⟩,0,0,.nil,none,0⟩) (t:=tz) HN0.out (Nat.le_succ w.heap.size) (zero_ok _ _) rfl H2.out.1
  simp only[ElA.enc] at h
  exact⟨fun _=>h,fun e=>absurd e (by decide)⟩
 |true=>
  obtain⟨z,hz,hf,hv⟩:=HFT.out rfl
  have HZ:=Lib.hid (And.intro hz (And.intro hf hv))
  clear hz hf hv HFT hr
  have hxb:=HXC.out w2 H2.out.2.1
  have x0:w2.cell? ⟨w.heap.size,0,none⟩=some (.int .i64 op):=by simp[World.cell?,hxb]
  have x1:w2.cell? ⟨w.heap.size,1,none⟩=some (.string nm):=by simp[World.cell?,hxb]
  have x2:w2.cell? ⟨w.heap.size,2,none⟩=some (.int .i64 v):=by simp[World.cell?,hxb]
  have x3:w2.cell? ⟨w.heap.size,3,none⟩=some (.int .i64 bd):=by simp[World.cell?,hxb]
  have x4:w2.cell? ⟨w.heap.size,4,none⟩=some (.slice a args.len c):=by simp[World.cell?,hxb]
  have HC:=Lib.hid (HCA.out w2 H2.out.1)
  clear hxb HXC HCA
  go_wp2_with fail
  refine HC.out.mono ?_
  intro e w3 hC
  obtain⟨⟨u0,u1,u2,u3,u4,u5,u6⟩,hu,hut,rfl,hB3⟩:=hC.2 z HZ.out.1 HZ.out.2.1.1
  have H3:=Lib.hid (And.intro (H2.out.1.trans (hB3.mono H2.out.1.size)) ((hB3.block _ (Nat.lt_of_lt_of_le HLT.out H2.out.2.1.size)).trans H2.out.2.2))
  have HU:=Lib.hid (And.intro (ElA.mono hu (Nat.le_trans HLT.out H2.out.2.1.size)) hut)
  have HLT3:Hid (w.heap.size+2≤w3.heap.size):=Lib.hid (Nat.le_trans HLT.out (Nat.le_trans H2.out.2.1.size hB3.size))
  clear hC hu hut hB3 x0 x1 x2 x3 x4 HC
  simp only[ElA.enc]
  go_upto_region 4 with fail
  have HS:Hid (RunSt w l (w.heap.size+2) w3.heap.size (canon ordF z) ⟨u0,u1,u2,u3,u4,u5,u6⟩ (w3.alloc (.cells #[.int .i64 u0,.string u1,.int .i64 u2,.int .i64 u3,.slice u5 u4.len u6] 48))):=Lib.hid ⟨World.alloc_heap_new w3 _,ElA.keep HU.out.1 ((RowKit.Below.refl _ _).alloc (Nat.le_refl _) _),HU.out.2,HZ.out.2.1.canon,H3.out.1.alloc H3.out.1.size _,HLT3.out⟩
  have HRB:Hid ((w3.alloc (.cells #[.int .i64 u0,.string u1,.int .i64 u2,.int .i64 u3,.slice u5 u4.len u6] 48)).heap[w.heap.size+1]? =some (.cells zero48 48 (0,0))):=Lib.hid ((heap_alloc_old w3 _ (by have:=HLT3.out;omega)).trans H3.out.2)
  generalize w3.alloc (.cells #[.int .i64 u0,.string u1,.int .i64 u2,.int .i64 u3,.slice u5 u4.len u6] 48)=w4 at*
  generalize w3.heap.size=q at*
  clear H2 H3 HU
  go_wp2_with fail
  go_loopg [9,18] ls.length (fun g _ oi wr=>∃(k:Nat) (y:Wf) (u:ElA),oi=.int .i64 k∧k≤ls.length∧Hid (ls.length - k≤g)∧Hid (runO l (ls.take k) (canon ordF z)=some y)∧Hid (RunSt w l (w.heap.size+2) q y u wr)∧Hid (wr.heap[w.heap.size+1]? =some (.cells zero48 48 (0,0))))
  case atStart=>exact⟨0,canon ordF z,_,rfl,Nat.zero_le _,Lib.hid (by omega),Lib.hid (by simp[runO]),HS,HRB⟩
  case round=>
   obtain⟨k,y,u,rfl,hk,HG,HRO,HST,HRZ⟩:=hrel
   by_cases hlt:(k:Int)<(ls.length:Int)
   ·have hd:decide ((k:Int)<(ls.length:Int))=true:=by simpa using hlt
    have hk':k<ls.length:=by omega
    obtain⟨la',lc',hnv,hnn⟩:=HN.out wr HST.out.bel
    simp only[Value.slice.injEq,true_and] at hnv
    obtain⟨rfl,rfl⟩:=hnv
    obtain⟨lb,lo,rfl,hlb,hlcl⟩:=hnn (fun e=>by rw[e] at hk';simp at hk')
    have ck:=hlcl k hk'
    have eA:ls.getD k 0=ls[k]:=by simp[hk']
    rw[eA] at ck
    have HSO:=Lib.hid (And.intro (fun hs=>runO_stop hk' HRO.out hs) (runO_next hk' HRO.out))
    have HC:=Lib.hid (step64 (n0:=wr.heap.size) (y:=ls[k]) (Nat.le_refl _) (HE.out.keep HST.out.bel) HZ.out.2.2 (Rd.of_ok HST.out.ok))
    have HSF:Hid (∀y',stepO l ls[k] y=some y'→Fit l y'):=Lib.hid fun y' e=>stepO_fit HST.out.fit e
    clear hnn hlcl eA
    generalize ls[k]=letter at*
    obtain⟨v0,v1,v2,v3,v4,v5,v6⟩:=u
    obtain⟨q0,q1,q2,q3,q4,qf⟩:=HST.out.cell
    simp only[ElA.enc] at HC
    go_wp2_with fail
    refine HC.out.mono ?_
    intro e w5 hC
    obtain⟨⟨s0,s1,s2,s3,s4,s5,s6⟩,hu,hut,rfl,hB5⟩:=hC.2 y HST.out.tree HST.out.fit
    have hq5:=(hB5.block q HST.out.lt).trans HST.out.blk
    have p0:w5.cell? ⟨q,0,none⟩=some (.int .i64 v0):=by simp[World.cell?,hq5,ElA.enc]
    have p1:w5.cell? ⟨q,1,none⟩=some (.string v1):=by simp[World.cell?,hq5,ElA.enc]
    have p2:w5.cell? ⟨q,2,none⟩=some (.int .i64 v2):=by simp[World.cell?,hq5,ElA.enc]
    have p3:w5.cell? ⟨q,3,none⟩=some (.int .i64 v3):=by simp[World.cell?,hq5,ElA.enc]
    have p4:w5.cell? ⟨q,4,none⟩=some (.slice v5 v4.len v6):=by simp[World.cell?,hq5,ElA.enc]
    have pf:∀o,w5.frozen? ⟨q,o,none⟩=false:=fun o=>by simp[World.frozen?,hq5]
    have hne:w.heap.size+1≠q:=by have:=HLT3.out;omega
    have HRZ5:Hid ((putRes w5 q (.int .i64 s0) (.string s1) (.int .i64 s2) (.int .i64 s3) (.slice s5 s4.len s6)).heap[w.heap.size+1]? =some (.cells zero48 48 (0,0))):=Lib.hid ((putRes_other hne _ _ _ _ _).trans ((hB5.block _ (by have:=HLT3.out;have:=HST.out.lt;omega)).trans HRZ.out))
    have HQ6:Hid ((((((w5.setCell ⟨q,0,none⟩ (.int .i64 s0)).setCell ⟨q,1,none⟩ (.string s1)).setCell ⟨q,2,none⟩ (.int .i64 s2)).setCell ⟨q,3,none⟩ (.int .i64 s3)).setCell ⟨q,4,none⟩ (.slice s5 s4.len s6)).heap[q]? =some (.cells #[.int .i64 s0,.string s1,.int .i64 s2,.int .i64 s3,.slice s5 s4.len s6] 48 (0,0))):=Lib.hid (putRes_blk (a0:=.int .i64 v0) (a1:=.string v1) (a2:=.int .i64 v2) (a3:=.int .i64 v3) (a4:=.slice v5 v4.len v6) hq5 _ _ _ _ _)
    have HB6:Hid (RowKit.Below w.heap.size w (((((w5.setCell ⟨q,0,none⟩ (.int .i64 s0)).setCell ⟨q,1,none⟩ (.string s1)).setCell ⟨q,2,none⟩ (.int .i64 s2)).setCell ⟨q,3,none⟩ (.int .i64 s3)).setCell ⟨q,4,none⟩ (.slice s5 s4.len s6))):=Lib.hid (putRes_below (HST.out.bel.trans (hB5.mono HST.out.bel.size)) (by have:=HLT3.out;omega) _ _ _ _ _)
    have HZ6:Hid ((((((w5.setCell ⟨q,0,none⟩ (.int .i64 s0)).setCell ⟨q,1,none⟩ (.string s1)).setCell ⟨q,2,none⟩ (.int .i64 s2)).setCell ⟨q,3,none⟩ (.int .i64 s3)).setCell ⟨q,4,none⟩ (.slice s5 s4.len s6)).heap[w.heap.size+1]? =some (.cells zero48 48 (0,0))):=Lib.hid HRZ5.out
    have HP6:Hid (∀y',stepO l letter y=some y'→RunSt w l (w.heap.size+2) q y' ⟨s0,s1,s2,s3,s4,s5,s6⟩ (((((w5.setCell ⟨q,0,none⟩ (.int .i64 s0)).setCell ⟨q,1,none⟩ (.string s1)).setCell ⟨q,2,none⟩ (.int .i64 s2)).setCell ⟨q,3,none⟩ (.int .i64 s3)).setCell ⟨q,4,none⟩ (.slice s5 s4.len s6))):=Lib.hid fun y' e=>HST.out.put hB5 hu (by rw[hut,e];rfl) (HSF.out y' e) (Nat.le_refl _) (by have:=HLT3.out;omega)
    have HUT:=Lib.hid hut
    clear hC hu hut hB5 hq5 q0 q1 q2 q3 q4 qf ck HSF HC HRZ5
    simp only[ElA.enc]
    go_upto_region 8 with fail
    generalize ((((w5.setCell ⟨q,0,none⟩ (.int .i64 s0)).setCell ⟨q,1,none⟩ (.string s1)).setCell ⟨q,2,none⟩ (.int .i64 s2)).setCell ⟨q,3,none⟩ (.int .i64 s3)).setCell ⟨q,4,none⟩ (.slice s5 s4.len s6)=w6 at*
    clear p0 p1 p2 p3 p4 pf
    have q0:w6.cell? ⟨q,0,none⟩=some (.int .i64 s0):=by simp[World.cell?,HQ6.out]
    cases hst:stepO l letter y with
    |none=>
     have hut:=HUT.out
     rw[hst] at hut
     have hop:s0=0:=tz_op hut
     have HNO:=Lib.hid (HSO.out.1 hst)
     have hd2:(s0==0)=true:=by simpa using hop
     clear hut hop hst HUT HP6 HSO
     have hr:=HZ6.out
     have r0:w6.cell? ⟨w.heap.size+1,0,none⟩=some (.int .i64 0):=by simp[World.cell?,hr,zero48]
     have r1:w6.cell? ⟨w.heap.size+1,1,none⟩=some (.string ⟨#[]⟩):=by simp[World.cell?,hr,zero48]
     have r2:w6.cell? ⟨w.heap.size+1,2,none⟩=some (.int .i64 0):=by simp[World.cell?,hr,zero48]
     have r3:w6.cell? ⟨w.heap.size+1,3,none⟩=some (.int .i64 0):=by simp[World.cell?,hr,zero48]
     have r4:w6.cell? ⟨w.heap.size+1,4,none⟩=some (.slice none 0 0):=by simp[World.cell?,hr,zero48]
     have r5:∀o,w6.frozen? ⟨w.heap.size+1,o,none⟩=false:=fun o=>by simp[World.frozen?,hr]
     clear hr
     go_wp2_with fail
     refine bodyPost_ret (v:=.agg #[.int .i64 0,.string ⟨#[]⟩,.int .i64 0,.int .i64 0,.slice none 0 0]) (by
      simp[results,Tryz.f21,go_sem,r0,r1,r2,r3,r4]) rfl ?_
     have h:=t_finr (x:=⟨0,⟨#[]⟩,0,0,.nil,none,0⟩) (t:=tz) HN0.out (Nat.le_succ w.heap.size) (zero_ok _ _) rfl HB6.out
     simp only[ElA.enc] at h
     refine⟨fun e=>absurd e (by decide),fun _ z' e=>?_⟩
     obtain rfl:z'=z:=tr_inj (e.symm.trans HZ.out.1)
     dsimp only
     rw[HNO.out]
     exact h
    |some y'=>
     have hut:=HUT.out
     rw[hst] at hut
     have hd2:(s0==0)=false:=by
      have h1:=tree_op (x:=⟨s0,s1,s2,s3,s4,s5,s6⟩) hut
      have h2:=opW_pos y'
      have h1:s0=opW y':=h1
      simp;omega
     have HS6:=Lib.hid (HP6.out y' hst)
     have HR6:=Lib.hid (HSO.out.2.trans hst)
     clear hut hst HUT HP6 HSO
     go_wp2_with fail
     go_roundg (gk - 1)
     case measure=>have:=HG.out;omega
     case rel=>exact⟨k+1,y',_,by go_num,by omega,Lib.hid (by have:=HG.out;omega),HR6,HS6,HZ6⟩
   ·have hd:decide ((k:Int)<(ls.length:Int))=false:=by simpa using hlt
    obtain rfl:k=ls.length:=by omega
    have HRF:Hid (runO l ls (canon ordF z)=some y):=Lib.hid (by have:=HRO.out;rwa[List.take_length] at this)
    obtain⟨v0,v1,v2,v3,v4,v5,v6⟩:=u
    obtain⟨q0,q1,q2,q3,q4,qf⟩:=HST.out.cell
    have hr:=HRZ.out
    have r0:wr.cell? ⟨w.heap.size+1,0,none⟩=some (.int .i64 0):=by simp[World.cell?,hr,zero48]
    have r1:wr.cell? ⟨w.heap.size+1,1,none⟩=some (.string ⟨#[]⟩):=by simp[World.cell?,hr,zero48]
    have r2:wr.cell? ⟨w.heap.size+1,2,none⟩=some (.int .i64 0):=by simp[World.cell?,hr,zero48]
    have r3:wr.cell? ⟨w.heap.size+1,3,none⟩=some (.int .i64 0):=by simp[World.cell?,hr,zero48]
    have r4:wr.cell? ⟨w.heap.size+1,4,none⟩=some (.slice none 0 0):=by simp[World.cell?,hr,zero48]
    have r5:∀o,wr.frozen? ⟨w.heap.size+1,o,none⟩=false:=fun o=>by simp[World.frozen?,hr]
    clear hr
    go_wp2_with fail
    refine bodyPost_ret (v:=.agg #[.int .i64 v0,.string v1,.int .i64 v2,.int .i64 v3,.slice v5 v4.len v6]) (by
     simp[results,Tryz.f21,go_sem,r0,r1,r2,r3,r4]) rfl ?_
    have h:=t_finr HN0.out (Nat.le_succ w.heap.size) HST.out.ok HST.out.tree HST.out.bel
    simp only[ElA.enc] at h
    refine⟨fun e=>absurd e (by decide),fun _ z' e=>?_⟩
    obtain rfl:z'=z:=tr_inj (e.symm.trans HZ.out.1)
    dsimp only
    rw[HRF.out]
    exact h
set_option maxRecDepth 100000 in
set_option maxHeartbeats 40000000 in
theorem fits65 {w:World} {sv:Value} {l:List Sg} {x:ElA} (hE:Env w sv l) (hx:Rd w x):
  Calls Tryz.prog 65 #[sv,.agg x.enc.toArray] w fun e w'=>e=.returned (.bool (fitB l x.op x.nm x.v x.bd x.args))∧RowKit.Below w.heap.size w w':=by
 have hB0:RowKit.Below w.heap.size w (w.alloc (.cells x.enc.toArray 48)):=(RowKit.Below.refl _ _).alloc (Nat.le_refl _) _
 have hxb:=World.alloc_heap_new w (.cells x.enc.toArray 48)
 have HR:=Lib.hid (run21 (n0:=0) (ls:=[]) (la:=none) (lc:=0) (Nat.zero_le _) (hE.keep hB0) (hx.keep hB0) ⟨none,0,rfl,fun h=>absurd rfl h⟩ (by decide))
 have HFT:Hid (fitB l x.op x.nm x.v x.bd x.args=true→∃z,x.tree=tr z):=Lib.hid fun h=>by
  obtain⟨z,e,hf⟩:=fitB_fit h
  exact⟨z,e .nil⟩
 have HB:=Lib.hid hB0
 obtain⟨sa,sc,rfl, -, -⟩:=hE.sg
 clear hE hx hB0
 generalize fitB l x.op x.nm x.v x.bd x.args=fb at*
 obtain⟨op,nm,v,bd,args,a,c⟩:=x
 simp only[ElA.enc,List.length_nil] at HR HB hxb ⊢
 go_enter Tryz.func65,Tryz.ntmps65
 go_upto_region 1 with fail
 generalize w.alloc (.cells #[.int .i64 op,.string nm,.int .i64 v,.int .i64 bd,.slice a args.len c] 48)=w1 at*
 have x0:w1.cell? ⟨w.heap.size,0,none⟩=some (.int .i64 op):=by simp[World.cell?,hxb]
 have x1:w1.cell? ⟨w.heap.size,1,none⟩=some (.string nm):=by simp[World.cell?,hxb]
 have x2:w1.cell? ⟨w.heap.size,2,none⟩=some (.int .i64 v):=by simp[World.cell?,hxb]
 have x3:w1.cell? ⟨w.heap.size,3,none⟩=some (.int .i64 bd):=by simp[World.cell?,hxb]
 have x4:w1.cell? ⟨w.heap.size,4,none⟩=some (.slice a args.len c):=by simp[World.cell?,hxb]
 clear hxb
 go_wp2_with fail
 refine HR.out.mono ?_
 intro e w2 hC
 cases fb with
 |false=>
  obtain⟨⟨s0,s1,s2,s3,s4,s5,s6⟩, -,hut,rfl,hB⟩:=hC.1 rfl
  have hop:s0=0:=tz_op hut
  subst hop
  have HB2:=Lib.hid (HB.out.trans (hB.mono HB.out.size))
  clear hC hut hB x0 x1 x2 x3 x4
  simp only[ElA.enc]
  have hfd:=fun W=>run_field48 0 s1 s2 s3 s5 s4.len s6 W
  go_wp2_with fail
  go_ret
  exact⟨rfl,HB2.out⟩
 |true=>
  obtain⟨z,hz⟩:=HFT.out rfl
  obtain⟨⟨s0,s1,s2,s3,s4,s5,s6⟩, -,hut,rfl,hB⟩:=hC.2 rfl z hz
  have hop:(s0 !=0)=true:=by
   have h1:=tree_op (x:=⟨s0,s1,s2,s3,s4,s5,s6⟩) (z:=canon ordF z) hut
   have h2:=opW_pos (canon ordF z)
   have h1:s0=opW (canon ordF z):=h1
   simp;omega
  have HB2:=Lib.hid (HB.out.trans (hB.mono HB.out.size))
  clear hC hut hB hz x0 x1 x2 x3 x4
  simp only[ElA.enc]
  have hfd:=fun W=>run_field48 s0 s1 s2 s3 s5 s4.len s6 W
  go_wp2_with fail
  go_ret
  exact⟨rfl,HB2.out⟩
end
section
open Go.RowKit
namespace X
def InR (x:Int):Prop:=0≤x∧x<65520
structure Wr (w0:World) (wb:Nat) (w:World) (L:List Int) (n:Nat) (P:Prop) (K:List (Nat×Obj)):Prop where
 blk:∃(v:Value) (b g:Bool),w.heap[wb]? =some (.cells #[v,.int .i64 n,.bool b,.bool g] 128 (0,0))∧w.ownsRow (wb+1) 3 1 v (cut20 L).length ((cut20 L).map (Value.int .i64))∧(b=false∧g=false)∧∀p∈K,v.ownBlock≠some p.1
 ge:w0.heap.size≤wb
 below:Below w0.heap.size w0 w
 kept:∀p∈K,p.1≠wb∧w.heap[p.1]? =some p.2
theorem Wr.lt {w0:World} {wb:Nat} {w:World} {L:List Int} {n:Nat} {P:Prop} {K:List (Nat×Obj)} (h:Wr w0 wb w L n P K):wb<w.heap.size:=by
 obtain⟨v,b,g,hh,_⟩:=h.blk
 exact(Array.getElem?_eq_some_iff.1 hh).1
theorem Wr.lt0 {w0:World} {wb:Nat} {w:World} {L:List Int} {n:Nat} {P:Prop} {K:List (Nat×Obj)} (h:Wr w0 wb w L n P K):w0.heap.size≤w.heap.size:=Nat.le_of_lt (Nat.lt_of_le_of_lt h.ge h.lt)
theorem Wr.alloc {w0:World} {wb:Nat} {w:World} {L:List Int} {n:Nat} {P:Prop} {K:List (Nat×Obj)} (h:Wr w0 wb w L n P K) (o:Obj):Wr w0 wb (w.alloc o) L n P ((w.heap.size,o)::K):=by
 have hlt:=h.lt
 have hlt0:=h.lt0
 obtain⟨⟨v,b,g,hh,hown,hP,hK⟩,hge,hB,hk⟩:=h
 have old:∀k,k<w.heap.size→(w.alloc o).heap[k]? =w.heap[k]? :=fun k hk=>heap_alloc_old w o hk
 refine⟨⟨v,b,g,(old wb hlt).trans hh,hown.alloc o,hP,fun p hp=>?_⟩,hge,hB.alloc hlt0 o,fun p hp=>?_⟩
 ·rcases List.mem_cons.1 hp with rfl|hp
  ·exact own_alloc hown
  ·exact hK p hp
 ·rcases List.mem_cons.1 hp with rfl|hp
  ·exact⟨fun e=>by have e:w.heap.size=wb:=e;omega,heap_alloc_new w o⟩
  ·exact⟨(hk p hp).1,(old _ (Array.getElem?_eq_some_iff.1 (hk p hp).2).1).trans (hk p hp).2⟩
theorem Wr.less {w0:World} {wb:Nat} {w:World} {L:List Int} {n:Nat} {P:Prop} {K K':List (Nat×Obj)} (h:Wr w0 wb w L n P K) (hs:∀p∈K',p∈K):Wr w0 wb w L n P K':=by
 obtain⟨⟨v,b,g,hh,hown,hP,hK⟩,hge,hB,hk⟩:=h
 exact⟨⟨v,b,g,hh,hown,hP,fun p hp=>hK p (hs p hp)⟩,hge,hB,fun p hp=>hk p (hs p hp)⟩
theorem Wr.tail {w0:World} {wb:Nat} {w:World} {L:List Int} {n:Nat} {P:Prop} {K:List (Nat×Obj)} {p:Nat×Obj} (h:Wr w0 wb w L n P (p::K)):Wr w0 wb w L n P K:=h.less fun _ hp=>List.mem_cons_of_mem _ hp
theorem Wr.store {w0:World} {wb:Nat} {w:World} {L:List Int} {n n':Nat} {P P':Prop} {K:List (Nat×Obj)} {v x:Value} {b g b' g':Bool} {j:Nat} (h:Wr w0 wb w L n P K)
  (hh:w.heap[wb]? =some (.cells #[v,.int .i64 n,.bool b,.bool g] 128 (0,0))) (hj:(#[v,.int .i64 n,.bool b,.bool g]:Array Value).setIfInBounds j x= #[v,.int .i64 n',.bool b',.bool g'])
  (hP:b'=false∧g'=false):Wr w0 wb (w.setCell ⟨wb,j,none⟩ x) L n' P' K:=by
 obtain⟨⟨v1,b1,g1,hh1,hown,_,hK⟩,hge,hB,hk⟩:=h
 rw[hh] at hh1
 simp only[Option.some.injEq,Obj.cells.injEq,Array.mk.injEq,List.cons.injEq,and_true] at hh1
 obtain⟨rfl,_⟩:=hh1
 refine⟨⟨v,b',g',?_,ownsRow_setCell_below hown (show wb<wb+1 by omega) x,hP,hK⟩,hge,hB.setCell hge x,fun p hp=>⟨(hk p hp).1,(heap_setCell_other w ⟨wb,j,none⟩ _ _ (hk p hp).1).trans (hk p hp).2⟩⟩
 rw[←hj]
 exact heap_setCell_same w wb j _ 128 x hh
theorem Wr.cells {w0:World} {wb:Nat} {w:World} {L:List Int} {n:Nat} {P:Prop} {K:List (Nat×Obj)} (h:Wr w0 wb w L n P K):
  ∃(a:Option Addr) (c:Nat) (b g:Bool),w.heap[wb]? =some (.cells #[.slice a (cut20 L).length c,.int .i64 n,.bool b,.bool g] 128 (0,0))∧w.ownsRow (wb+1) 3 1 (.slice a (cut20 L).length c) (cut20 L).length ((cut20 L).map (Value.int .i64))∧(b=false∧g=false)∧
   w.cell? ⟨wb,0,none⟩=some (.slice a (cut20 L).length c)∧w.cell? ⟨wb,1,none⟩=some (.int .i64 n)∧w.cell? ⟨wb,2,none⟩=some (.bool b)∧w.cell? ⟨wb,3,none⟩=some (.bool g)∧
   (∀j,w.frozen? ⟨wb,j,none⟩=false):=by
 obtain⟨v,b,g,hh,hown,hP,hK⟩:=h.blk
 obtain⟨a,c,rfl⟩:∃a c,v=.slice a (cut20 L).length c:=by
  rcases hown.2 with⟨e,e0⟩|⟨g,cap,cur,e,_⟩
  ·exact⟨none,0,by rw[e,e0]⟩
  ·exact⟨_,_,e⟩
 exact⟨a,c,b,g,hh,hown,hP,by simp[World.cell?,hh],by simp[World.cell?,hh],by simp[World.cell?,hh],by simp[World.cell?,hh],fun j=>by simp[World.frozen?,hh]⟩
theorem Wr.skip {w0:World} {wb:Nat} {w:World} {L:List Int} {n:Nat} {P:Prop} {K:List (Nat×Obj)} (h:Wr w0 wb w L n P K) (x:Int) (hl:¬(cut20 L).length≤20000):Wr w0 wb w (L++[x]) n P K:=by
 obtain⟨⟨v,b,g,hh,hown,hP,hK⟩,hge,hB,hk⟩:=h
 exact⟨⟨v,b,g,hh,by rw[cut20_full x (cut20_gt hl)];exact hown,hP,hK⟩,hge,hB,hk⟩
theorem Wr.app {w0:World} {wb:Nat} {w w1:World} {L:List Int} {n:Nat} {P:Prop} {K:List (Nat×Obj)} {a:Option Addr} {c:Nat} {b g:Bool} {o:Obj} {x:Int} {v':Value} (h:Wr w0 wb w L n P K)
  (hh:w.heap[wb]? =some (.cells #[.slice a (cut20 L).length c,.int .i64 n,.bool b,.bool g] 128 (0,0))) (hl:(cut20 L).length≤20000)
  (hown':w1.ownsRow (wb+1) 3 1 v' ((cut20 L).length+1) ((cut20 L).map (Value.int .i64)++[.int .i64 x])) (hg:(w.alloc o).grownBy w1 (Value.slice a (cut20 L).length c).ownBlock)
  (hat:v'.ownBlock=(Value.slice a (cut20 L).length c).ownBlock∨v'.ownBlock=some (w.heap.size+1)):
  Wr w0 wb (w1.setCell ⟨wb,0,none⟩ v') (L++[x]) n P K∧w1.heap[wb]? =some (.cells #[.slice a (cut20 L).length c,.int .i64 n,.bool b,.bool g] 128 (0,0)):=by
 have hlt:=h.lt
 have hlt0:=h.lt0
 obtain⟨⟨v1,b1,g1,hh1,hown,hP,hK⟩,hge,hB,hk⟩:=h
 rw[hh] at hh1
 simp only[Option.some.injEq,Obj.cells.injEq,Array.mk.injEq,List.cons.injEq,and_true,Value.bool.injEq,true_and] at hh1
 obtain⟨rfl,rfl,rfl⟩:=hh1
 have k1:∀k,k<w.heap.size→(Value.slice a (cut20 L).length c).ownBlock≠some k→w1.heap[k]? =w.heap[k]? :=fun k hk hne=>(hg.block k (by simp;omega) fun e=>hne e.symm).trans (heap_alloc_old w o hk)
 have ne:∀k,(Value.slice a (cut20 L).length c).ownBlock=some k→wb+1≤k∧k<w.heap.size:=fun k e=>hown.lt k e
 have kwb:w1.heap[wb]? =w.heap[wb]? :=k1 wb hlt fun e=>by have:=ne wb e;omega
 have hB1:Below w0.heap.size w0 w1:=(hB.alloc hlt0 o).grown hg (by simp;omega) fun j e=>by have:=ne j e;omega
 refine⟨⟨⟨v',b,g,heap_setCell_same w1 wb 0 _ 128 v' (kwb.trans hh),?_,hP,fun p hp=>?_⟩,hge,hB1.setCell hge v',fun p hp=>⟨(hk p hp).1,?_⟩⟩,kwb.trans hh⟩
 ·rw[cut20_app (cut20_le hl)]
  have:=ownsRow_setCell_below hown' (a:=⟨wb,0,none⟩) (show wb<wb+1 by omega) v'
  simpa using this
 ·intro e
  have hp1:=(Array.getElem?_eq_some_iff.1 (hk p hp).2).1
  rcases hat with e'|e'
  ·exact hK p hp (e'.symm.trans e)
  ·rw[e] at e'
   simp only[Option.some.injEq] at e'
   omega
 ·refine(heap_setCell_other w1 ⟨wb,0,none⟩ _ _ (hk p hp).1).trans ?_
  exact(k1 _ (Array.getElem?_eq_some_iff.1 (hk p hp).2).1 (hK p hp)).trans (hk p hp).2
theorem Arg.nums {w0:World} {wb:Nat} {w:World} {L:List Int} {n:Nat} {P:Prop} {K:List (Nat×Obj)} (h:Wr w0 wb w L n P K) {v:Value} {ns:List Int} (ha:Arg w0 K v ns):Nums w v ns:=by
 rcases ha with ha|⟨b,c,rfl,hb⟩
 ·exact ha.keep h.below
 ·obtain⟨_,hb⟩:=h.kept _ hb
  refine⟨_,c,rfl,fun _=>⟨b,0,rfl,(Array.getElem?_eq_some_iff.1 hb).1,fun j hj=>?_⟩⟩
  simp[World.cell?,hb,hj]
def Wrote (w0:World) (wb:Nat) (L:List Int) (n:Nat) (P:Prop) (K:List (Nat×Obj)) (e:Ending) (w':World):Prop:=e=.returned (.tuple #[])∧Wr w0 wb w' L n P K
set_option maxRecDepth 100000 in
set_option maxHeartbeats 4000000 in
theorem put_any {w0:World} {wb:Nat} {w:World} {L:List Int} {n:Nat} {P:Prop} {K:List (Nat×Obj)} (h:Wr w0 wb w L n P K) {v:Value} {ns:List Int} (ha:Arg w0 K v ns) (hn:ns.length≤9223372036854775807) (hr:∀x∈ns,InR x):
  Calls Tryz.prog 67 #[.pointer (some ⟨wb,0,none⟩),v] w (Wrote w0 wb (L++ns) n P K):=by
 obtain⟨i0,hi,hz0,hz1,hz2⟩:=info_parts Tryz.info3
 obtain⟨a0,c0,rfl⟩:=ha.len
 have HW0:=Lib.hid h
 have HA:=Lib.hid ha
 clear h ha
 have HRR:=Lib.hid hr
 clear hr
 go_enter Tryz.func67,Tryz.ntmps67
 go_wp2_with fail
 go_loopw [5,8] (fun x i wr=>∃k:Nat,k≤ns.length∧i=.int .i64 k∧Wr w0 wb wr (L++ns.take k) n P K) (fun _ i _=>ns.length - (intOf i).toNat)
 case atStart=>exact⟨0,Nat.zero_le _,rfl,by simpa using HW0.out⟩
 case round=>
  obtain⟨k,hk,rfl,hw⟩:=hrel
  by_cases hlt:k<ns.length
  ·obtain⟨a1,c1,e1,hnum⟩:=Arg.nums hw HA.out
   simp only[Value.slice.injEq,true_and] at e1
   obtain⟨rfl,rfl⟩:=e1
   obtain⟨b1,o1,rfl,hb1,hc1⟩:=hnum (fun e=>by rw[e] at hlt;simp at hlt)
   have ck:=hc1 k hlt
   have eA:ns.getD k 0=ns[k]:=by simp[hlt]
   rw[eA] at ck
   have HS:Hid (ns.take (k+1)=ns.take k++[ns[k]]):=Lib.hid (List.take_succ_eq_append_getElem hlt)
   have hd:decide (k<ns.length)=true:=by simpa using hlt
   clear eA hc1 hnum
   have HRX:Hid (InR ns[k]):=Lib.hid (HRR.out _ (List.getElem_mem hlt))
   generalize ns[k]=x at*
   have hd0:decide (x<0)=false:=by have:=HRX.out.1;simp;omega
   have hd1:decide (65520≤x)=false:=by have:=HRX.out.2;simp;omega
   have HW:=Lib.hid hw
   clear hw
   by_cases hl:(cut20 (L++ns.take k)).length≤20000
   ·have hdl:decide ((cut20 (L++ns.take k)).length≤20000)=true:=by simpa using hl
    obtain⟨a,c,b,g,hh,hown,hP,c0,c1,c2,c3,hf⟩:=HW.out.cells
    have f0:=hf 0
    have HH:=Lib.hid hh
    have HO:=Lib.hid hown
    clear hh hown hP hf
    generalize hcl:cut20 (L++ns.take k)=cl at*
    go_wp2_with (first
     |(at_builtin;refine wpList_append_own_at _ rfl _ _ 25 rfl (wb+1) 3 i0 (.int .i64 0) 1 8 Tryz.underlying25 hi hz0 hz1 hz2 rfl (by decide) _ _ _ rfl (HO.out.alloc _) ⟨wr.heap.size,0,none⟩ 1 1 [.int .i64 x] rfl rfl (cell_one_new _ _ _) (by intro u hu;simp at hu;subst hu;rfl) (by unfold maxLen;omega) (by omega) (by rw[World.size_alloc];exact Nat.succ_le_succ (Nat.le_of_lt HW.out.lt)) ?_))
    intro v' w1 hown' hgrow _ hat
    subst hcl
    obtain⟨g2,cap2,rfl⟩:=ownsRow_succ hown'
    have A:=HW.out.app HH.out hl hown' hgrow hat
    have e3:=A.2
    have HA:=Lib.hid A.1
    have d0:w1.cell? ⟨wb,0,none⟩=some (.slice a (cut20 (L++ns.take k)).length c):=by simp[World.cell?,e3]
    have q0:w1.frozen? ⟨wb,0,none⟩=false:=by simp[World.frozen?,e3]
    clear A e3 hown' hgrow hat
    go_wp2_with fail
    go_roundw
    case rel=>exact⟨k+1,by omega,by go_num,by rw[HS.out,←List.append_assoc];exact HA.out⟩
    case measure=>simp[intOf];omega
   ·have hdl:decide ((cut20 (L++ns.take k)).length≤20000)=false:=by simpa using hl
    have HA:=Lib.hid (HW.out.skip x hl)
    obtain⟨a,c,b,g,hh,hown,hP,c0,c1,c2,c3,hf⟩:=HW.out.cells
    clear hh hown hP hf
    generalize cut20 (L++ns.take k)=cl at*
    go_wp2_with fail
    go_roundw
    case rel=>exact⟨k+1,by omega,by go_num,by rw[HS.out,←List.append_assoc];exact HA.out⟩
    case measure=>simp[intOf];omega
  ·obtain rfl:k=ns.length:=by omega
   rw[List.take_length] at hw
   have HW:=Lib.hid hw
   clear hw
   go_wp2_with fail
   (try simp only[Exit.inBlock,Exit.then])
   refine bodyPost_end (results_none rfl _ _ _) rfl ?_
   exact⟨rfl,HW.out⟩
end X
end
section
open Go.RowKit
namespace X
section
variable {w0:World} {wb:Nat} {w:World} {L:List Int} {n:Nat} {P:Prop} {K:List (Nat×Obj)}
theorem put1 (h:Wr w0 wb w L n P K) (x:Int) (hx:InR x):Calls Tryz.prog 67 #[.pointer (some ⟨wb,0,none⟩),.slice (some ⟨w.heap.size,0,none⟩) 1 1] (w.alloc (.cells #[.int .i64 x] 3)) (Wrote w0 wb (L++[x]) n P K):=
 (put_any (h.alloc (.cells #[.int .i64 x] 3)) (v:=.slice (some ⟨w.heap.size,0,none⟩) 1 1) (ns:=[x]) (Arg.made w.heap.size [x] 1) (by simp) (by intro u hu;simp at hu;subst hu;exact hx)).mono fun _ _ ⟨e,h⟩=>⟨e,h.tail⟩
theorem put2 (h:Wr w0 wb w L n P K) (x y:Int) (hx:InR x) (hy:InR y):Calls Tryz.prog 67 #[.pointer (some ⟨wb,0,none⟩),.slice (some ⟨w.heap.size,0,none⟩) 2 2] (w.alloc (.cells #[.int .i64 x,.int .i64 y] 3)) (Wrote w0 wb (L++[x,y]) n P K):=
 (put_any (h.alloc (.cells #[.int .i64 x,.int .i64 y] 3)) (v:=.slice (some ⟨w.heap.size,0,none⟩) 2 2) (ns:=[x,y]) (Arg.made w.heap.size [x,y] 2) (by simp) (by intro u hu;simp at hu;rcases hu with rfl|rfl<;>assumption)).mono fun _ _ ⟨e,h⟩=>⟨e,h.tail⟩
theorem put3 (h:Wr w0 wb w L n P K) (x y z:Int) (hx:InR x) (hy:InR y) (hz:InR z):Calls Tryz.prog 67 #[.pointer (some ⟨wb,0,none⟩),.slice (some ⟨w.heap.size,0,none⟩) 3 3] (w.alloc (.cells #[.int .i64 x,.int .i64 y,.int .i64 z] 3)) (Wrote w0 wb (L++[x,y,z]) n P K):=
 (put_any (h.alloc (.cells #[.int .i64 x,.int .i64 y,.int .i64 z] 3)) (v:=.slice (some ⟨w.heap.size,0,none⟩) 3 3) (ns:=[x,y,z]) (Arg.made w.heap.size [x,y,z] 3) (by simp) (by intro u hu;simp at hu;rcases hu with rfl|rfl|rfl<;>assumption)).mono fun _ _ ⟨e,h⟩=>⟨e,h.tail⟩
set_option maxHeartbeats 1000000 in
theorem list_any (h:Wr w0 wb w L n P K) {v:Value} {ns:List Int} (ha:Arg w0 K v ns) (hn:ns.length<65520) (hr:∀x∈ns,InR x):
  Calls Tryz.prog 78 #[.pointer (some ⟨wb,0,none⟩),v] w (Wrote w0 wb (L++lst ns) n P K):=by
 obtain⟨a0,c0,rfl⟩:=ha.len
 have HW:=Lib.hid h
 have HA:=Lib.hid ha
 have HRR:=Lib.hid hr
 clear h ha hr
 go_enter Tryz.func78,Tryz.ntmps78
 go_wp2_with fail
 refine(put1 HW.out _ ⟨by omega,by omega⟩).mono ?_
 rintro e w1 ⟨rfl,h1⟩
 have HW1:=Lib.hid h1
 clear h1
 go_wp2_with fail
 refine(put_any HW1.out HA.out (by omega) HRR.out).mono ?_
 rintro e w2 ⟨rfl,h2⟩
 have HW2:=Lib.hid h2
 clear h2
 go_wp2_with fail
 (try simp only[Exit.inBlock,Exit.then])
 refine bodyPost_end (results_none rfl _ _ _) rfl ⟨rfl,?_⟩
 have:=HW2.out
 rw[List.append_assoc] at this
 exact this
theorem byte_in (c:UInt8):InR (wrap64 (c.toNat:Int)):=by
 have:=c.toNat_lt
 rw[wrap64_byte]
 exact⟨by omega,by omega⟩
set_option maxHeartbeats 1000000 in
theorem text_wr (h:Wr w0 wb w L n P K) (s:ByteArray) (hs:s.size<65520):
  Calls Tryz.prog 133 #[.pointer (some ⟨wb,0,none⟩),.string s] w (Wrote w0 wb (L++txt s.data.toList) n P K):=by
 have HW:=Lib.hid h
 have hl:s.data.toList.length=s.size:=Array.length_toList
 have HL:=Lib.hid hl
 clear h hl
 go_enter Tryz.func133,Tryz.ntmps133
 go_wp2_with fail
 refine(put1 HW.out _ ⟨by omega,by omega⟩).mono ?_
 rintro e w1 ⟨rfl,h1⟩
 have HW1:=Lib.hid h1
 clear h1
 go_wp2_with fail
 go_loopw [4,12] (fun x i wr=>∃k:Nat,k≤s.size∧i=.int .i64 k∧Wr w0 wb wr (L++[(s.size:Int)]++(s.data.toList.take k).map fun c=>(c.toNat:Int)) n P K) (fun _ i _=>s.size - (intOf i).toNat)
 case atStart=>exact⟨0,Nat.zero_le _,rfl,by simpa using HW1.out⟩
 case round=>
  obtain⟨k,hk,rfl,hw⟩:=hrel
  by_cases hlt:k<s.size
  ·have HS:=Lib.hid (txt_take (s:=s.data.toList) (k:=k) (by rw[HL.out];exact hlt))
   have HB:=Lib.hid (bytes_get s k hlt)
   have HV:=Lib.hid hw
   clear hw
   go_wp2_with fail
   refine(put1 HV.out _ (byte_in _)).mono ?_
   rintro e w2 ⟨rfl,h2⟩
   have HW2:=Lib.hid h2
   clear h2
   go_wp2_with fail
   go_roundw
   case rel=>exact⟨k+1,by omega,by go_num,by rw[HS.out,←List.append_assoc,HB.out];have e:=HW2.out;rw[wrap64_byte] at e;exact e⟩
   case measure=>simp[intOf];omega
  ·obtain rfl:k=s.size:=by omega
   have HV:=Lib.hid hw
   clear hw
   go_wp2_with fail
   (try simp only[Exit.inBlock,Exit.then])
   refine bodyPost_end (results_none rfl _ _ _) rfl ⟨rfl,?_⟩
   have:=HV.out
   rw[List.take_of_length_le (by rw[HL.out];exact Nat.le_refl _),List.append_assoc] at this
   unfold txt
   rw[HL.out]
   exact this
set_option maxRecDepth 100000 in
set_option maxHeartbeats 1000000 in
theorem need_any (h:Wr w0 wb w L n P K) (m:Int) {v:Value} {ns:List Int} (ha:Arg w0 K v ns) (hn:ns.length≤9223372036854775807) (hr:∀x∈ns,x=m):
  Calls Tryz.prog 79 #[.pointer (some ⟨wb,0,none⟩),.int .i64 m,v] w (Wrote w0 wb L n P K):=by
 obtain⟨a0,c0,rfl⟩:=ha.len
 have HW0:=Lib.hid h
 have HA:=Lib.hid ha
 have HRR:=Lib.hid hr
 clear h ha hr
 go_enter Tryz.func79,Tryz.ntmps79
 go_wp2_with fail
 go_loopw [7,10] (fun x i wr=>∃k:Nat,k≤ns.length∧i=.int .i64 k∧Wr w0 wb wr L n P K) (fun _ i _=>ns.length - (intOf i).toNat)
 case atStart=>exact⟨0,Nat.zero_le _,rfl,by simpa using HW0.out⟩
 case round=>
  obtain⟨k,hk,rfl,hw⟩:=hrel
  by_cases hlt:k<ns.length
  ·obtain⟨a1,c1,e1,hnum⟩:=Arg.nums hw HA.out
   simp only[Value.slice.injEq,true_and] at e1
   obtain⟨rfl,rfl⟩:=e1
   obtain⟨b1,o1,rfl,hb1,hc1⟩:=hnum (fun e=>by rw[e] at hlt;simp at hlt)
   have ck:=hc1 k hlt
   have eA:ns.getD k 0=ns[k]:=by simp[hlt]
   rw[eA] at ck
   have HS:Hid (ns.take (k+1)=ns.take k++[ns[k]]):=Lib.hid (List.take_succ_eq_append_getElem hlt)
   have hd:decide (k<ns.length)=true:=by simpa using hlt
   clear eA hc1 hnum
   have HX:Hid (ns[k]=m):=Lib.hid (HRR.out _ (List.getElem_mem hlt))
   generalize ns[k]=x at*
   have hd0:(x !=m)=false:=by simpa using HX.out
   have HV:=Lib.hid hw
   clear hw
   go_wp2_with fail
   go_roundw
   case rel=>exact⟨k+1,by omega,by go_num,HV.out⟩
   case measure=>simp[intOf];omega
  ·obtain rfl:k=ns.length:=by omega
   have HV:=Lib.hid hw
   clear hw
   go_wp2_with fail
   (try simp only[Exit.inBlock,Exit.then])
   refine bodyPost_end (results_none rfl _ _ _) rfl ?_
   exact⟨rfl,HV.out⟩
theorem need1 (h:Wr w0 wb w L n P K) {s:Nat} (hs:w.heap.size=s) (m:Int):Calls Tryz.prog 79 #[.pointer (some ⟨wb,0,none⟩),.int .i64 m,.slice (some ⟨s,0,none⟩) 1 1] (w.alloc (.cells #[.int .i64 m] 3)) (Wrote w0 wb L n P K):=by
 subst hs
 exact(need_any (h.alloc (.cells #[.int .i64 m] 3)) m (v:=.slice (some ⟨w.heap.size,0,none⟩) 1 1) (ns:=[m]) (Arg.made w.heap.size [m] 1) (by simp) (by simp)).mono fun _ _ ⟨e,h⟩=>⟨e,h.tail⟩
theorem Wr.cell {B:Nat} {cs:Array Value} {t:TypeId} (h:Wr w0 wb w L n P ((B,.cells cs t (0,0))::K)) (j:Nat):w.cell? ⟨B,j,none⟩=cs[j]? :=by
 have:=(h.kept _ List.mem_cons_self).2
 simp[World.cell?,this]
set_option maxRecDepth 100000 in
set_option maxHeartbeats 4000000 in
theorem signals_any (h:Wr w0 wb w L n P K) {v:Value} {l:List Sg} (hv:SgV w0 v l) (hr:l.length<65520∧∀s∈l,s.name.size<65520∧InR s.size):
  Calls Tryz.prog 69 #[.pointer (some ⟨wb,0,none⟩),v] w (Wrote w0 wb (L++(l.length:Int)::sgs l) n P K):=by
 obtain⟨a,c,rfl,hl,hv⟩:=hv
 have HW:=Lib.hid h
 have HV:=Lib.hid hv
 have HRR:=Lib.hid hr
 clear h hv hr
 go_enter Tryz.func69,Tryz.ntmps69
 go_wp2_with fail
 refine(put1 HW.out _ ⟨by omega,by have:=HRR.out.1;omega⟩).mono ?_
 rintro e w1 ⟨rfl,h1⟩
 have HW1:=Lib.hid h1
 clear h1
 go_wp2_with fail
 go_loopw [5,6,14] (fun x y i wr=>∃k:Nat,k≤l.length∧i=.int .i64 k∧Wr w0 wb wr (L++[(l.length:Int)]++sgs (l.take k)) n P K) (fun _ _ i _=>l.length - (intOf i).toNat)
 case atStart=>exact⟨0,Nat.zero_le _,rfl,by simpa[sgs] using HW1.out⟩
 case round=>
  obtain⟨k,hk,rfl,hw⟩:=hrel
  by_cases hlt:k<l.length
  ·obtain⟨b1,o1,rfl,hb1,hc⟩:=HV.out (fun e=>by rw[e] at hlt;simp at hlt)
   have HS:=Lib.hid (show sgs (l.take (k+1))=sgs (l.take k)++l[k].code by rw[List.take_succ_eq_append_getElem hlt,sgs_append];simp[sgs])
   obtain⟨c0,c1,c2,c3⟩:=hc k hlt
   have hB:=hw.below
   have c0:=(hB.cell (p:=⟨b1,o1+k*3,none⟩) hb1).trans c0
   have c1:=(hB.cell (p:=⟨b1,o1+k*3+1,none⟩) hb1).trans c1
   have c2:=(hB.cell (p:=⟨b1,o1+k*3+2,none⟩) hb1).trans c2
   have HV':=Lib.hid hw
   clear hw hB hc
   have HX:=Lib.hid (HRR.out.2 l[k] (List.getElem_mem hlt))
   generalize l[k]=s at*
   go_wp2_with fail
   refine(text_wr (HV'.out.alloc (.cells #[.string s.name,.bool s.input,.int .i64 s.size] 73)) s.name HX.out.1).mono ?_
   rintro e w2 ⟨rfl,h2⟩
   have d1:=h2.cell 1
   have d2:=h2.cell 2
   simp only[List.getElem?_toArray,List.getElem?_cons_succ,List.getElem?_cons_zero] at d1 d2
   have H2:=Lib.hid h2.tail
   clear h2 c0 c1 c2 hb1
   generalize wr.heap.size=B at*
   cases hin:s.input with
   |true=>
    rw[hin] at d1
    have HC:Hid (s.code=txt s.name.data.toList++[1,s.size]):=Lib.hid (by unfold Sg.code;rw[hin];rfl)
    clear hin
    go_wp2_with fail
    refine(put2 H2.out _ _ ⟨by omega,by omega⟩ HX.out.2).mono ?_
    rintro e w3 ⟨rfl,h3⟩
    have H3:=Lib.hid h3
    clear h3
    go_wp2_with fail
    go_roundw
    case rel=>exact⟨k+1,by omega,by go_num,by rw[HS.out,HC.out];have e:=H3.out;simp only[List.append_assoc] at e ⊢;exact e⟩
    case measure=>simp[intOf];omega
   |false=>
    rw[hin] at d1
    have HC:Hid (s.code=txt s.name.data.toList++[0,s.size]):=Lib.hid (by unfold Sg.code;rw[hin];rfl)
    clear hin
    go_wp2_with fail
    refine(put2 H2.out _ _ ⟨by omega,by omega⟩ HX.out.2).mono ?_
    rintro e w3 ⟨rfl,h3⟩
    have H3:=Lib.hid h3
    clear h3
    go_wp2_with fail
    go_roundw
    case rel=>exact⟨k+1,by omega,by go_num,by rw[HS.out,HC.out];have e:=H3.out;simp only[List.append_assoc] at e ⊢;exact e⟩
    case measure=>simp[intOf];omega
  ·obtain rfl:k=l.length:=by omega
   rw[List.take_length] at hw
   have HV':=Lib.hid hw
   clear hw
   go_wp2_with fail
   (try simp only[Exit.inBlock,Exit.then])
   refine bodyPost_end (results_none rfl _ _ _) rfl ⟨rfl,?_⟩
   have:=HV'.out
   rw[List.append_assoc] at this
   exact this
end
end X
end
section
open Go.RowKit
namespace X
section
variable {w0:World} {wb:Nat} {w:World} {L:List Int} {n:Nat} {P:Prop} {K:List (Nat×Obj)}
theorem Wr.setK {B:Nat} {cs:Array Value} {t:TypeId} (h:Wr w0 wb w L n P ((B,.cells cs t (0,0))::K)) (hB0:w0.heap.size≤B) (hK:∀p∈K,p.1≠B) (j:Nat) (x:Value):
  Wr w0 wb (w.setCell ⟨B,j,none⟩ x) L n P ((B,.cells (cs.setIfInBounds j x) t (0,0))::K):=by
 obtain⟨⟨v,b,g,hh,hown,hP,hKv⟩,hge,hB,hk⟩:=h
 obtain⟨hne,hcs⟩:=hk _ List.mem_cons_self
 have hvB:v.ownBlock≠some B:=hKv _ List.mem_cons_self
 have other:∀k,k≠B→(w.setCell ⟨B,j,none⟩ x).heap[k]? =w.heap[k]? :=fun k hk'=>heap_setCell_other w ⟨B,j,none⟩ k x hk'
 have hne':wb≠B:=fun e=>hne e.symm
 refine⟨⟨v,b,g,(other wb hne').trans hh,⟨hown.1,?_⟩,hP,fun p hp=>?_⟩,hge,hB.setCell hB0 x,fun p hp=>?_⟩
 ·rcases hown.2 with h2|⟨q,cap,cur,rfl,hq,hqh,r⟩
  ·exact .inl h2
  ·exact .inr ⟨q,cap,cur,rfl,hq,(other q fun e=>hvB (by rw[e];rfl)).trans hqh,r⟩
 ·rcases List.mem_cons.1 hp with rfl|hp
  ·exact hvB
  ·exact hKv p (List.mem_cons_of_mem _ hp)
 ·rcases List.mem_cons.1 hp with rfl|hp
  ·exact⟨hne,heap_setCell_same w B j cs t x hcs⟩
  ·exact⟨(hk p (List.mem_cons_of_mem _ hp)).1,(other _ (hK p hp)).trans (hk p (List.mem_cons_of_mem _ hp)).2⟩
theorem Wr.appK {B B':Nat} {cs cs':Array Value} {t:TypeId} {o:Obj} {w1:World} (h:Wr w0 wb w L n P ((B,.cells cs t (0,0))::K)) (hB0:w0.heap.size≤B) (hK:∀p∈K,p.1≠B)
  (hg:(w.alloc o).grownBy w1 (some B)) (hb:w1.heap[B']? =some (.cells cs' t (0,0))) (hat:B'=B∨B'=w.heap.size+1):Wr w0 wb w1 L n P ((B',.cells cs' t (0,0))::K):=by
 have hlt:=h.lt
 have hlt0:=h.lt0
 obtain⟨⟨v,b,g,hh,hown,hP,hKv⟩,hge,hB,hk⟩:=h
 obtain⟨hne,hcs⟩:=hk _ List.mem_cons_self
 have hvB:v.ownBlock≠some B:=hKv _ List.mem_cons_self
 have other:∀k,k<w.heap.size→k≠B→w1.heap[k]? =w.heap[k]? :=fun k hk1 hk2=>(hg.block k (by simp;omega) fun e=>hk2 (Option.some.inj e)).trans (heap_alloc_old w o hk1)
 refine⟨⟨v,b,g,(other wb hlt fun e=>hne e.symm).trans hh,⟨hown.1,?_⟩,hP,fun p hp=>?_⟩,hge,(hB.alloc hlt0 o).grown hg (by simp;omega) fun k e=>by cases e;exact hB0,fun p hp=>?_⟩
 ·rcases hown.2 with h2|⟨q,cap,cur,rfl,hq,hqh,r⟩
  ·exact .inl h2
  ·exact .inr ⟨q,cap,cur,rfl,hq,(other q (Array.getElem?_eq_some_iff.1 hqh).1 fun e=>hvB (by rw[e];rfl)).trans hqh,r⟩
 ·rcases List.mem_cons.1 hp with rfl|hp
  ·rcases hat with rfl|rfl
   ·exact hvB
   ·intro e
    have:=(hown.lt _ e).2
    omega
  ·exact hKv p (List.mem_cons_of_mem _ hp)
 ·rcases List.mem_cons.1 hp with rfl|hp
  ·refine⟨?_,hb⟩
   rcases hat with rfl|rfl
   ·exact hne
   ·intro e
    have e:w.heap.size+1=wb:=e
    omega
  ·have h1:=hk p (List.mem_cons_of_mem _ hp)
   exact⟨h1.1,(other _ (Array.getElem?_eq_some_iff.1 h1.2).1 (hK p hp)).trans h1.2⟩
theorem Wr.headK {B:Nat} {o:Obj} (h:Wr w0 wb w L n P ((B,o)::K)):w.heap[B]? =some o∧B≠wb:=⟨(h.kept _ List.mem_cons_self).2,(h.kept _ List.mem_cons_self).1⟩
theorem Wr.swap {p q:Nat×Obj} (h:Wr w0 wb w L n P (p::q::K)):Wr w0 wb w L n P (q::p::K):=h.less fun x hx=>by
 rcases List.mem_cons.1 hx with rfl|hx
 ·simp
 ·rcases List.mem_cons.1 hx with rfl|hx
  ·simp
  ·simp[hx]
theorem Wr.node (h:Wr w0 wb w L n P K):Wr w0 wb (w.setCell ⟨wb,1,none⟩ (.int .i64 ((n:Int)+1))) L (n+1) P K:=by
 obtain⟨a,c,b,g,hh,hown,hP,_⟩:=h.cells
 exact h.store (b':=b) (g':=g) hh (by simp) hP
theorem FArg.read {w0:World} {wb:Nat} {w:World} {L:List Int} {n:Nat} {P:Prop} {K:List (Nat×Obj)} (h:Wr w0 wb w L n P K) {v:Value} {f:Fs} (ha:FArg w0 K v f) (j:Nat) {op x bd:Int} {nm:ByteArray} {args rest:Fs}
  (hj:f.drop j=.cons op nm x bd args rest):
  ∃b o c,v=.slice (some ⟨b,o,none⟩) f.len c∧f.len≤c∧w.cell? ⟨b,o+j*5,none⟩=some (.int .i64 op)∧w.cell? ⟨b,o+j*5+1,none⟩=some (.string nm)∧nm.size≤9223372036854775807∧w.cell? ⟨b,o+j*5+2,none⟩=some (.int .i64 x)∧w.cell? ⟨b,o+j*5+3,none⟩=some (.int .i64 bd)∧
   args.len≤9223372036854775807∧(∃a c',w.cell? ⟨b,o+j*5+4,none⟩=some (.slice a args.len c')∧FArg w0 K (.slice a args.len c') args)∧(∀c',rest.len≤c'→FArg w0 K (.slice (some ⟨b,o+(j+1)*5,none⟩) rest.len c') rest)∧(∀c',1≤c'→FArg w0 K (.slice (some ⟨b,o+j*5,none⟩) 1 c') (.cons op nm x bd args .nil)):=by
 rcases ha with⟨hl,a,c,e,hc,hv⟩|⟨B,c,op',nm',x',bd',a,c',args',e,hc,hm,rfl,hnm,hA⟩
 ·have hdl:=Fs.drop_len f j
  rw[hj] at hdl
  simp only[Fs.len] at hdl
  have hrl:rest.len≤9223372036854775807:=by omega
  obtain⟨b,o,rfl,hb,hat⟩:=hv (by omega)
  have h1:=FAt.drop j hat
  have h2:=FAt.drop (j+1) hat
  rw[hj] at h1
  rw[Fs.drop_succ hj] at h2
  obtain⟨c0,c1,c2,c3,c4,c5,⟨a,c',c6,cc,c7⟩,c8⟩:=h1
  have k:∀i,w.cell? ⟨b,i,Option.none⟩=w0.cell? ⟨b,i,Option.none⟩:=fun i=>h.below.cell (p:=⟨b,i,Option.none⟩) hb
  refine⟨b,o,c,e,hc,(k _).trans c0,(k _).trans c1,c2,(k _).trans c3,(k _).trans c4,c5,⟨a,c',(k _).trans c6,.inl ⟨c5,a,c',rfl,cc,c7⟩⟩,fun c'' h''=>.inl ⟨hrl,_,c'',rfl,h'',fun _=>⟨b,_,rfl,hb,h2⟩⟩,fun c'' h''=>.inl ⟨by simp[Fs.len],_,c'',by simp[Fs.len],h'',fun _=>⟨b,_,rfl,hb,c0,c1,c2,c3,c4,c5,⟨a,c',c6,cc,c7⟩,trivial⟩⟩⟩
 ·cases j with
  |succ j=>cases j<;>simp[Fs.drop] at hj
  |zero=>
   simp only[Fs.drop,Fs.cons.injEq] at hj
   obtain⟨rfl,rfl,rfl,rfl,rfl,rfl⟩:=hj
   have hk:=(h.kept _ hm).2
   have hk:w.heap[B]? =some (Obj.cells #[.int .i64 op',.string nm',.int .i64 x',.int .i64 bd',.slice a args'.len c'] 48 (0,0)):=hk
   refine⟨B,0,c,by rw[e];simp[Fs.len],by simpa[Fs.len] using hc,by simp[World.cell?,hk],by simp[World.cell?,hk],hnm,by simp[World.cell?,hk],by simp[World.cell?,hk],hA.1,⟨a,c',by simp[World.cell?,hk],.inl hA⟩,fun c'' _=>FArg.zero _ _,fun c'' h''=>.inr ⟨B,c'',_,_,_,_,a,c',args',by simp,h'',hm,rfl,hnm,hA⟩⟩
theorem stack_row {B:Nat} {cs:Array Value} (h:Wr w0 wb w L n P ((B,.cells cs 46 (0,0))::K)) (hB0:w0.heap.size≤B) {q:Nat} (hq:q≤cs.size) (hm:cs.size≤9223372036854775807):
  w.ownsRow w0.heap.size 46 1 (.slice (some ⟨B,0,none⟩) q cs.size) q (cs.toList.take q):=
 ⟨by simp;omega,.inr ⟨B,cs.size,cs,rfl,hB0,h.headK.1,hq,hm,by simp,by simp⟩⟩
theorem stack_push {B:Nat} {cs:Array Value} {S:List Fs} {q:Nat} (h:Wr w0 wb w L n P ((B,.cells cs 46 (0,0))::K)) (hB0:w0.heap.size≤B) (hK:∀p∈K,p.1≠B) (hS:Stk w0 K cs S) (hSq:S.length=q) (hq:q≤cs.size) {va:Value} {g:Fs} (hva:FArg w0 K va g)
  {o:Obj} {v':Value} {w1:World} (hown':w1.ownsRow w0.heap.size 46 1 v' (q+1) (cs.toList.take q++[va])) (hg:(w.alloc o).grownBy w1 (some B)) (hat:v'.ownBlock=some B∨v'.ownBlock=some (w.heap.size+1)):
  ∃(B' cap':Nat) (cs':Array Value),v'=.slice (some ⟨B',0,none⟩) (q+1) cap'∧q+1≤cap'∧cap'≤9223372036854775807∧cs'.size=cap'∧Wr w0 wb w1 L n P ((B',.cells cs' 46 (0,0))::K)∧w0.heap.size≤B'∧(∀p∈K,p.1≠B')∧Stk w0 K cs' (S++[g]):=by
 subst hSq
 rcases hown'.2 with⟨_,e⟩|⟨B',cap',cs',rfl,hB',hh,h1,h2,h3,h4⟩
 ·omega
 simp only[Value.ownBlock,Option.some.injEq] at hat
 simp only[Nat.mul_one] at h3 h4
 have hlt:cs.toList.length=cs.size:=by simp
 have hx:∀j,j<S.length+1→cs'[j]? =(cs.toList.take S.length++[va])[j]? :=fun j hj=>by
  rw[←h4,List.getElem?_take,if_pos hj]
  simp
 refine⟨B',cap',cs',rfl,h1,h2,h3,h.appK hB0 hK hg hh hat,hB',fun p hp=>?_,hS.push hva (fun j hj=>?_) ?_⟩
 ·rcases hat with rfl|rfl
  ·exact hK p hp
  ·have:=(Array.getElem?_eq_some_iff.1 (h.tail.kept p hp).2).1
   omega
 ·rw[hx j (by omega),List.getElem?_append_left (by simp;omega),List.getElem?_take,if_pos hj]
  simp
 ·rw[hx _ (by omega),List.getElem?_append_right (by simp;omega)]
  have e:(cs.toList.take S.length).length=S.length:=by simp;omega
  rw[e]
  simp
end
end X
end
end Go.Proofs.YtckdgniecdfedaaGreatDoor
