/- The walk of canon. Trees that bare and within accept are kernels' trees, and the other way about. Letters, arities and the order of past and future are kept by the canonical form, by ageing and by the -/
import Derived.Test.YtckdgniecdfedaaGreatDoorRzH
namespace Go.Proofs.YtckdgniecdfedaaGreatDoor
section
open Go.RowKit Go.Sort
variable {n0:Nat}
set_option maxRecDepth 100000 in
set_option maxHeartbeats 40000000 in
theorem canon_any:∀(N:Nat) (z:Wf),size z<N→size z≤50000→∀(n0:Nat) (w:World) (b o:Nat) (r:Fs),n0≤w.heap.size→b<w.heap.size→FAt w (trC z r) b o→
  Calls Tryz.prog 128 #[.pointer (some ⟨b,o,none⟩)] w (FormOut n0 w (canon ordF z))
 |0,_,h,_=>absurd h (Nat.not_lt_zero _)
 |N+1,z,hzN,hzs=>by
  intro n0 w b o r hn0 hb hat
  have IH:=Lib.hid (fun(x:Wf) (hx:x∈kids z)=>canon_any N x (by have:=kids_size hx;omega) (by have:=kids_size hx;omega))
  rw[trC_eq] at hat
  obtain⟨c0,c1,c2,c3,c4,c5,⟨a,c,c6,cc,c7⟩,c8⟩:=hat
  rw[trs_len] at c6 cc
  have HK:=Lib.hid c7
  have HZ:=Lib.hid (And.intro hzs (And.intro c2 (And.intro hn0 c5)))
  clear c7 c8 c2 c5 hzN hzs hn0
  go_enter Tryz.func128,Tryz.ntmps128
  go_upto_region 1 with fail
  have kB:Hid (RowKit.Below w.heap.size w (w.alloc (.cells zero48 48))∧(w.alloc (.cells zero48 48)).heap.size=w.heap.size+1∧(w.alloc (.cells zero48 48)).drawn=w.drawn∧(w.alloc (.cells zero48 48)).heap[w.heap.size]? =some (.cells zero48 48 (0,0))):=Lib.hid ⟨(RowKit.Below.refl w.heap.size w).alloc (Nat.le_refl _) _,by simp,rfl,World.alloc_heap_new w _⟩
  simp only[zero48] at kB
  generalize w.alloc (.cells #[.int .i64 0,.string ⟨#[]⟩,.int .i64 0,.int .i64 0,.slice none 0 0] 48)=w1 at*
  have e0:=(kB.out.1.cell (p:=⟨b,o,none⟩) hb).trans c0
  have e1:=(kB.out.1.cell (p:=⟨b,o+1,none⟩) hb).trans c1
  have e3:=(kB.out.1.cell (p:=⟨b,o+2,none⟩) hb).trans c3
  have e6:=(kB.out.1.cell (p:=⟨b,o+4,none⟩) hb).trans c6
  have HFA:Hid (FArgs w1 a (trs (kids z))):=Lib.hid (FArgs.keep (w:=w) (fun h0=>HK.out h0) kB.out.1)
  have HC:=Lib.hid (canons174 (n0:=w.heap.size+1) (w:=w1) (a:=a) (c:=c) (L:=kids z) (by rw[kB.out.2.1];omega) HFA.out (by have:=kids_len z;have:=HZ.out.1;omega) (fun x hx n W b' o' r' h1 h2 h3=>IH.out x hx n W b' o' r' h1 h2 h3))
  have HE:=Lib.hid (And.intro c0 (And.intro c1 c3))
  clear c0 c1 c3 c4 c6
  go_wp2_with fail
  refine HC.out.mono ?_
  rintro e w2 ⟨B,rfl,hB1,hB2,hB3,hB4,hB5,hB6,hB7⟩
  rw[List.length_map]
  have HK2:Hid (KSt w z B w2):=Lib.hid ⟨(hB6.block _ (by rw[kB.out.2.1];omega)).trans kB.out.2.2.2,Nat.lt_of_lt_of_le (by rw[kB.out.2.1];omega) hB6.size,kB.out.1.trans (hB6.mono kB.out.1.size),Nat.le_trans (Nat.le_of_eq kB.out.2.2.1.symm) hB7,by rw[←kB.out.2.1];exact hB2,hB1,hB3,hB4,hB5⟩
  clear hB1 hB2 hB3 hB4 hB5 hB6 hB7 HC HFA e0 e1 e3 e6
  go_upto_region 2 with fail
  have HK3:Hid (KSt w z B (w2.alloc (.cells #[.slice (some ⟨B,0,none⟩) (kids z).length (kids z).length] 46))):=Lib.hid (HK2.out.turn ((RowKit.Below.refl _ _).alloc (Nat.le_refl _) _) (Nat.le_refl _))
  have k3:=cell_new w2 #[.slice (some ⟨B,0,none⟩) (kids z).length (kids z).length] 46 0
  have HS3:Hid (w2.heap.size<(w2.alloc (.cells #[.slice (some ⟨B,0,none⟩) (kids z).length (kids z).length] 46)).heap.size):=Lib.hid (by simp)
  generalize w2.alloc (.cells #[.slice (some ⟨B,0,none⟩) (kids z).length (kids z).length] 46)=w3 at*
  have e0:=(HK3.out.bel.cell (p:=⟨b,o,none⟩) hb).trans HE.out.1
  have e1:=(HK3.out.bel.cell (p:=⟨b,o+1,none⟩) hb).trans HE.out.2.1
  have e3:=(HK3.out.bel.cell (p:=⟨b,o+2,none⟩) hb).trans HE.out.2.2
  obtain⟨r0,r1,r2,r3,r4,r5⟩:=HK3.out.cell
  by_cases hs:opW z≠5∧opW z≠6∧opW z≠8∧opW z≠9∧opW z≠10
  ·obtain⟨s5,s6,s8,s9,s10⟩:=hs
   have q5:(opW z==5)=false:=by simpa using s5
   have q6:(opW z==6)=false:=by simpa using s6
   have q8:(opW z==8)=false:=by simpa using s8
   have q9:(opW z==9)=false:=by simpa using s9
   have q10:(opW z==10)=false:=by simpa using s10
   have hcz:tr (canon ordF z)=.cons (opW z) (nmW z) (vW z) 0 (trs ((kids z).map (canon ordF))) .nil:=by
    cases z with
    |con k l=>cases k<;>simp_all [opW,kop]
    |next a=>simp_all [opW]
    |unt a b=>simp_all [opW]
    |rel a b=>simp_all [opW]
    |nis nm v=>simp only[canon,tr,trC_eq,kids,List.map_cons,List.map_nil]
    |yes v a=>simp only[canon,tr,trC_eq,kids,List.map_cons,List.map_nil];rfl
    |snc k v a b=>simp only[canon,tr,trC_eq,kids,List.map_cons,List.map_nil];rfl
    |_=>simp only[canon,tr,trC_eq,kids,List.map_cons,List.map_nil]
   have HNK:=Lib.hid (HK3.out.nodeOk HZ.out.1 HZ.out.2.1)
   go_upto_region 16 with fail
   go_region
   go_wp2_with fail
   refine bodyPost_ret (v:=.agg #[.int .i64 (opW z),.string (nmW z),.int .i64 (vW z),.int .i64 0,.slice (some ⟨B,0,none⟩) (kids z).length (kids z).length]) (by
    simp[results,Tryz.f128,go_sem,r0,r1,r2,r3,r4]) rfl ?_
   have hlen:(trs ((kids z).map (canon ordF))).len=(kids z).length:=by rw[trs_len,List.length_map]
   have h:=KSt.fin (z:=canon ordF z) (n0:=n0) HZ.out.2.2.1 (below_drawn HK3.out.bel 1) (Nat.le_succ_of_le HK3.out.drawn) (ElA.keep (HNK.out) (below_drawn (RowKit.Below.refl _ _) 1)) hcz.symm
   simp only[ElA.enc,hlen] at h
   exact h
  ·cases z with
   |con k l=>
    clear hs
    simp only[opW,nmW,vW,kids] at*
    have HJ:=Lib.hid (fun(W:World) (hW:KSt w (.con k l) B W)=>join176 (n0:=w.heap.size+1) (w:=W) (k:=k) (b:=B) (o:=0) (c:=l.length) (L:=l.map (canon ordF)) hW.sz hW.new hW.fat hW.pat (by
     have h1:=sizes_canon l
     have h2:=kids_sizes (.con k l)
     have h3:=HZ.out.1
     simp only[kids] at h2
     rw[sizes_trs];omega) (fun l' hl'=>by
     obtain⟨y,_,hy⟩:=List.mem_map.1 hl'
     have hnf:=canon_nf ordF y
     rw[hy] at hnf
     cases hnf with
     |con k l h1 h2 h3 h4 h5=>exact⟨fun e=>(by subst e;simp at h4),fun e=>h5 (.inl e)⟩))
    rw[List.length_map] at HJ
    have q56:((kop k==5)=true)∨((kop k==5)=false∧(kop k==6)=true):=by cases k<;>simp[kop]
    rcases q56 with q5|⟨q5,q6⟩
    ·go_upto_region 6 with fail
     have hk3:∀W',KSt w (.con k l) B W'→KSt w (.con k l) B W'.drew:=fun W' h=>h.turn (below_drawn (RowKit.Below.refl _ _) 1) (Nat.le_succ _)
     have HKD:=Lib.hid (hk3 _ HK3.out)
     clear hk3
     have hne1:¬b=w.heap.size:=by omega
     have hne2:¬w.heap.size=b:=by omega
     have hne3:¬w2.heap.size=w.heap.size:=by have:=HK2.out.sz;omega
     have hne4:¬w.heap.size=w2.heap.size:=by have:=HK2.out.sz;omega
     have k30:w3.cell? ⟨w2.heap.size,0,none⟩=some (.slice (some ⟨B,0,none⟩) l.length l.length):=k3
     have HAF:Hid (∀ww,RowKit.Below w3.drew.heap.size w3.drew ww→w3.drew.drawn≤ww.drawn→KSt w (.con k l) B ww∧ww.cell? ⟨b,o,none⟩=some (.int .i64 (kop k))∧ww.cell? ⟨w2.heap.size,0,none⟩=some (.slice (some ⟨B,0,none⟩) l.length l.length)):=Lib.hid (fun ww h1 h2=>⟨HKD.out.turn h1 h2,(h1.cell (p:=⟨b,o,none⟩) (Nat.lt_of_lt_of_le hb HK3.out.bel.size)).trans e0,(h1.cell (p:=⟨w2.heap.size,0,none⟩) HS3.out).trans k30⟩)
     go_region_held3 (fun w'=>w'.cell? ⟨b,o,none⟩=some (.int .i64 (kop k))∧w'.cell? ⟨w2.heap.size,0,none⟩=some (.slice (some ⟨B,0,none⟩) l.length l.length)) (go_keep) (first|(go_at_call 176;refine(HJ.out _ HKD.out).mono ?_;rintro e ww ⟨⟨op,nm,v,bd,args,aa,cc⟩,hx,hxt,rfl,hxb,hxd⟩;obtain⟨hks,t0,t1⟩:=HAF.out ww hxb hxd;have HKS:=Lib.hid hks;obtain⟨r0,r1,r2,r3,r4,r5⟩:=HKS.out.cell;have HXX:=Lib.hid (And.intro hx (And.intro hxt (And.intro hxb hxd)));clear hks hx hxt hxb hxd;simp only[ElA.enc]))
     all_goals go_wp2_with fail
     all_goals refine bodyPost_ret (v:=.agg #[.int .i64 op,.string nm,.int .i64 v,.int .i64 bd,.slice aa args.len cc]) (by
      simp[results,Tryz.f128,go_sem,r0,r1,r2,r3,r4]) rfl ?_
     all_goals
      have hcj:canon ordF (.con k l)=J ordF k (l.map (canon ordF)):=by rw[canon,canons_map]
      have h:=KSt.fin (z:=canon ordF (.con k l)) (n0:=n0) HZ.out.2.2.1 HKS.out.bel HKS.out.drawn HXX.out.1 (by rw[hcj];exact HXX.out.2.1)
      exact h
    ·go_upto_region 6 with fail
     have hk3:∀W',KSt w (.con k l) B W'→KSt w (.con k l) B W'.drew:=fun W' h=>h.turn (below_drawn (RowKit.Below.refl _ _) 1) (Nat.le_succ _)
     have HKD:=Lib.hid (hk3 _ HK3.out)
     clear hk3
     have hne1:¬b=w.heap.size:=by omega
     have hne2:¬w.heap.size=b:=by omega
     have hne3:¬w2.heap.size=w.heap.size:=by have:=HK2.out.sz;omega
     have hne4:¬w.heap.size=w2.heap.size:=by have:=HK2.out.sz;omega
     have k30:w3.cell? ⟨w2.heap.size,0,none⟩=some (.slice (some ⟨B,0,none⟩) l.length l.length):=k3
     have HAF:Hid (∀ww,RowKit.Below w3.drew.heap.size w3.drew ww→w3.drew.drawn≤ww.drawn→KSt w (.con k l) B ww∧ww.cell? ⟨b,o,none⟩=some (.int .i64 (kop k))∧ww.cell? ⟨w2.heap.size,0,none⟩=some (.slice (some ⟨B,0,none⟩) l.length l.length)):=Lib.hid (fun ww h1 h2=>⟨HKD.out.turn h1 h2,(h1.cell (p:=⟨b,o,none⟩) (Nat.lt_of_lt_of_le hb HK3.out.bel.size)).trans e0,(h1.cell (p:=⟨w2.heap.size,0,none⟩) HS3.out).trans k30⟩)
     go_region_held3 (fun w'=>w'.cell? ⟨b,o,none⟩=some (.int .i64 (kop k))∧w'.cell? ⟨w2.heap.size,0,none⟩=some (.slice (some ⟨B,0,none⟩) l.length l.length)) (go_keep) (first|(go_at_call 176;refine(HJ.out _ HKD.out).mono ?_;rintro e ww ⟨⟨op,nm,v,bd,args,aa,cc⟩,hx,hxt,rfl,hxb,hxd⟩;obtain⟨hks,t0,t1⟩:=HAF.out ww hxb hxd;have HKS:=Lib.hid hks;obtain⟨r0,r1,r2,r3,r4,r5⟩:=HKS.out.cell;have HXX:=Lib.hid (And.intro hx (And.intro hxt (And.intro hxb hxd)));clear hks hx hxt hxb hxd;simp only[ElA.enc]))
     all_goals go_wp2_with fail
     all_goals refine bodyPost_ret (v:=.agg #[.int .i64 op,.string nm,.int .i64 v,.int .i64 bd,.slice aa args.len cc]) (by
      simp[results,Tryz.f128,go_sem,r0,r1,r2,r3,r4]) rfl ?_
     all_goals
      have hcj:canon ordF (.con k l)=J ordF k (l.map (canon ordF)):=by rw[canon,canons_map]
      have h:=KSt.fin (z:=canon ordF (.con k l)) (n0:=n0) HZ.out.2.2.1 HKS.out.bel HKS.out.drawn HXX.out.1 (by rw[hcj];exact HXX.out.2.1)
      exact h
   |next x=>
    clear hs
    obtain⟨y0,hy0,ht0,d0,d1,d2,d3,d4⟩:=HK3.out.el HZ.out.1 0 (Nat.zero_lt_one)
    have HY0:Hid (y0.ok (w.heap.size+1) w3∧y0.tree=tr (canon ordF x)):=Lib.hid (And.intro hy0 ht0)
    have HCE:Hid (canon ordF (.next x)=mkNext (canon ordF x)):=Lib.hid (by rw[canon])
    have HC:=Lib.hid (const175 (w:=w3) (P:=w2.heap.size) (B:=B) (i:=0) (n:=1) k3 (by omega) d0)
    simp only[opW,nmW,vW,kids] at e0 e1 e3 k3
    simp only[Nat.zero_mul,Nat.zero_add] at d0 d1 d2 d3 d4
    clear hy0 ht0
    by_cases hc:y0.op=1∨y0.op=2
    ·have hd:decide (y0.op=1∨y0.op=2)=true:=decide_eq_true hc
     go_upto_region 8 with fail
     go_wp2_with fail
     refine HC.out.mono ?_
     rintro e ww ⟨rfl,rfl⟩
     rw[hd]
     go_wp2_with fail
     refine bodyPost_ret (v:=.agg #[.int .i64 y0.op,.string y0.nm,.int .i64 y0.v,.int .i64 y0.bd,.slice y0.a y0.args.len y0.c]) (by
      simp[results,Tryz.f128,go_sem,r0,r1,r2,r3,r4]) rfl ?_
     have h:=KSt.fin (z:=canon ordF (.next x)) (n0:=n0) HZ.out.2.2.1 HK3.out.bel HK3.out.drawn HY0.out.1 (by rw[HY0.out.2];exact congrArg tr (by rw[HCE.out];rcases tr_cst HY0.out.2 hc with h|h<;>rw[h]<;>rfl))
     simp only[ElA.enc] at h
     exact h
    ·have hd:decide (y0.op=1∨y0.op=2)=false:=decide_eq_false hc
     go_upto_region 8 with fail
     go_wp2_with fail
     refine HC.out.mono ?_
     rintro e ww ⟨rfl,rfl⟩
     rw[hd]
     have HNK:=Lib.hid (HK3.out.nodeOk HZ.out.1 HZ.out.2.1)
     have hcz:tr (canon ordF (.next x))=.cons (opW (.next x)) (nmW (.next x)) (vW (.next x)) 0 (trs ((kids (.next x)).map (canon ordF))) .nil:=by rw[HCE.out];have h:=tr_ncst HY0.out.2 hc;rcases mkNext_cases (canon ordF x) with⟨h2|h2,_⟩|h2;exact absurd h2 h.1;exact absurd h2 h.2;rw[h2];rfl
     go_upto_region 16 with fail
     go_region
     go_wp2_with fail
     refine bodyPost_ret (v:=.agg #[.int .i64 (opW (.next x)),.string ⟨#[]⟩,.int .i64 0,.int .i64 0,.slice (some ⟨B,0,none⟩) (kids (.next x)).length (kids (.next x)).length]) (by
      simp[results,Tryz.f128,go_sem,r0,r1,r2,r3,r4,opW,kids]) rfl ?_
     have hlen:(trs ((kids (.next x)).map (canon ordF))).len=(kids (.next x)).length:=by rw[trs_len,List.length_map]
     have h:=KSt.fin (z:=canon ordF (.next x)) (n0:=n0) HZ.out.2.2.1 (below_drawn HK3.out.bel 1) (Nat.le_succ_of_le HK3.out.drawn) (ElA.keep (HNK.out) (below_drawn (RowKit.Below.refl _ _) 1)) hcz.symm
     simp only[ElA.enc,hlen] at h
     exact h
   |unt x y=>
    clear hs
    obtain⟨y0,hy0,ht0,d0, -, -, -, -⟩:=HK3.out.el HZ.out.1 0 (show 0<2 by omega)
    obtain⟨y1,hy1,ht1,b0,b1,b2,b3,b4⟩:=HK3.out.el HZ.out.1 1 (show 1<2 by omega)
    have HY0:Hid (y0.ok (w.heap.size+1) w3∧y0.tree=tr (canon ordF x)):=Lib.hid (And.intro hy0 ht0)
    have HY1:Hid (y1.ok (w.heap.size+1) w3∧y1.tree=tr (canon ordF y)):=Lib.hid (And.intro hy1 ht1)
    have HCE:Hid (canon ordF (.unt x y)=mkUnt (canon ordF x) (canon ordF y)):=Lib.hid (by rw[canon])
    have HO0:Hid (y0.op=2↔canon ordF x=.ff):=Lib.hid (tr_op ht0).2
    have HC:=Lib.hid (const175 (w:=w3) (P:=w2.heap.size) (B:=B) (i:=1) (n:=2) k3 (by omega) b0)
    simp only[opW,nmW,vW,kids] at e0 e1 e3 k3
    simp only[Nat.zero_mul,Nat.one_mul,Nat.reduceAdd] at d0 b0 b1 b2 b3 b4
    clear hy0 ht0 hy1 ht1
    by_cases hc:y1.op=1∨y1.op=2
    ·have hd:decide (y1.op=1∨y1.op=2)=true:=decide_eq_true hc
     go_wp2_with fail
     refine HC.out.mono ?_
     rintro e ww ⟨rfl,rfl⟩
     rw[hd]
     go_wp2_with fail
     refine bodyPost_ret (v:=.agg #[.int .i64 y1.op,.string y1.nm,.int .i64 y1.v,.int .i64 y1.bd,.slice y1.a y1.args.len y1.c]) (by
      simp[results,Tryz.f128,go_sem,r0,r1,r2,r3,r4]) rfl ?_
     have h:=KSt.fin (z:=canon ordF (.unt x y)) (n0:=n0) HZ.out.2.2.1 HK3.out.bel HK3.out.drawn HY1.out.1 (by rw[HY1.out.2];exact congrArg tr (by rw[HCE.out];rcases tr_cst HY1.out.2 hc with h|h<;>rw[h]<;>simp[mkUnt_tt,mkUnt_ff]))
     simp only[ElA.enc] at h
     exact h
    ·have hd:decide (y1.op=1∨y1.op=2)=false:=decide_eq_false hc
     go_wp2_with fail
     refine HC.out.mono ?_
     rintro e ww ⟨rfl,rfl⟩
     rw[hd]
     by_cases hz:y0.op=2
     ·have hq:(y0.op==2)=true:=by simpa using hz
      go_wp2_with fail
      refine bodyPost_ret (v:=.agg #[.int .i64 y1.op,.string y1.nm,.int .i64 y1.v,.int .i64 y1.bd,.slice y1.a y1.args.len y1.c]) (by
       simp[results,Tryz.f128,go_sem,r0,r1,r2,r3,r4]) rfl ?_
      have h:=KSt.fin (z:=canon ordF (.unt x y)) (n0:=n0) HZ.out.2.2.1 HK3.out.bel HK3.out.drawn HY1.out.1 (by rw[HY1.out.2];exact congrArg tr (by rw[HCE.out,HO0.out.1 hz,mkUnt_l]))
      simp only[ElA.enc] at h
      exact h
     ·have hq:(y0.op==2)=false:=by simpa using hz
      have HNK:=Lib.hid (HK3.out.nodeOk HZ.out.1 HZ.out.2.1)
      have hcz:tr (canon ordF (.unt x y))=.cons (opW (.unt x y)) (nmW (.unt x y)) (vW (.unt x y)) 0 (trs ((kids (.unt x y)).map (canon ordF))) .nil:=by rw[HCE.out];have h:=tr_ncst HY1.out.2 hc;rcases mkUnt_cases (canon ordF x) (canon ordF y) with⟨h2|h2|h2,_⟩|h2;exact absurd h2 h.1;exact absurd h2 h.2;exact absurd (HO0.out.2 h2) hz;rw[h2];rfl
      go_upto_region 16 with fail
      go_region
      go_wp2_with fail
      refine bodyPost_ret (v:=.agg #[.int .i64 (opW (.unt x y)),.string ⟨#[]⟩,.int .i64 0,.int .i64 0,.slice (some ⟨B,0,none⟩) (kids (.unt x y)).length (kids (.unt x y)).length]) (by
       simp[results,Tryz.f128,go_sem,r0,r1,r2,r3,r4,opW,kids]) rfl ?_
      have hlen:(trs ((kids (.unt x y)).map (canon ordF))).len=(kids (.unt x y)).length:=by rw[trs_len,List.length_map]
      have h:=KSt.fin (z:=canon ordF (.unt x y)) (n0:=n0) HZ.out.2.2.1 (below_drawn HK3.out.bel 1) (Nat.le_succ_of_le HK3.out.drawn) (ElA.keep (HNK.out) (below_drawn (RowKit.Below.refl _ _) 1)) hcz.symm
      simp only[ElA.enc,hlen] at h
      exact h
   |rel x y=>
    clear hs
    obtain⟨y0,hy0,ht0,d0, -, -, -, -⟩:=HK3.out.el HZ.out.1 0 (show 0<2 by omega)
    obtain⟨y1,hy1,ht1,b0,b1,b2,b3,b4⟩:=HK3.out.el HZ.out.1 1 (show 1<2 by omega)
    have HY0:Hid (y0.ok (w.heap.size+1) w3∧y0.tree=tr (canon ordF x)):=Lib.hid (And.intro hy0 ht0)
    have HY1:Hid (y1.ok (w.heap.size+1) w3∧y1.tree=tr (canon ordF y)):=Lib.hid (And.intro hy1 ht1)
    have HCE:Hid (canon ordF (.rel x y)=mkRel (canon ordF x) (canon ordF y)):=Lib.hid (by rw[canon])
    have HO0:Hid (y0.op=1↔canon ordF x=.tt):=Lib.hid (tr_op ht0).1
    have HC:=Lib.hid (const175 (w:=w3) (P:=w2.heap.size) (B:=B) (i:=1) (n:=2) k3 (by omega) b0)
    simp only[opW,nmW,vW,kids] at e0 e1 e3 k3
    simp only[Nat.zero_mul,Nat.one_mul,Nat.reduceAdd] at d0 b0 b1 b2 b3 b4
    clear hy0 ht0 hy1 ht1
    by_cases hc:y1.op=1∨y1.op=2
    ·have hd:decide (y1.op=1∨y1.op=2)=true:=decide_eq_true hc
     go_wp2_with fail
     refine HC.out.mono ?_
     rintro e ww ⟨rfl,rfl⟩
     rw[hd]
     go_wp2_with fail
     refine bodyPost_ret (v:=.agg #[.int .i64 y1.op,.string y1.nm,.int .i64 y1.v,.int .i64 y1.bd,.slice y1.a y1.args.len y1.c]) (by
      simp[results,Tryz.f128,go_sem,r0,r1,r2,r3,r4]) rfl ?_
     have h:=KSt.fin (z:=canon ordF (.rel x y)) (n0:=n0) HZ.out.2.2.1 HK3.out.bel HK3.out.drawn HY1.out.1 (by rw[HY1.out.2];exact congrArg tr (by rw[HCE.out];rcases tr_cst HY1.out.2 hc with h|h<;>rw[h]<;>simp[mkRel_tt,mkRel_ff]))
     simp only[ElA.enc] at h
     exact h
    ·have hd:decide (y1.op=1∨y1.op=2)=false:=decide_eq_false hc
     go_wp2_with fail
     refine HC.out.mono ?_
     rintro e ww ⟨rfl,rfl⟩
     rw[hd]
     by_cases hz:y0.op=1
     ·have hq:(y0.op==1)=true:=by simpa using hz
      go_wp2_with fail
      refine bodyPost_ret (v:=.agg #[.int .i64 y1.op,.string y1.nm,.int .i64 y1.v,.int .i64 y1.bd,.slice y1.a y1.args.len y1.c]) (by
       simp[results,Tryz.f128,go_sem,r0,r1,r2,r3,r4]) rfl ?_
      have h:=KSt.fin (z:=canon ordF (.rel x y)) (n0:=n0) HZ.out.2.2.1 HK3.out.bel HK3.out.drawn HY1.out.1 (by rw[HY1.out.2];exact congrArg tr (by rw[HCE.out,HO0.out.1 hz,mkRel_l]))
      simp only[ElA.enc] at h
      exact h
     ·have hq:(y0.op==1)=false:=by simpa using hz
      have HNK:=Lib.hid (HK3.out.nodeOk HZ.out.1 HZ.out.2.1)
      have hcz:tr (canon ordF (.rel x y))=.cons (opW (.rel x y)) (nmW (.rel x y)) (vW (.rel x y)) 0 (trs ((kids (.rel x y)).map (canon ordF))) .nil:=by rw[HCE.out];have h:=tr_ncst HY1.out.2 hc;rcases mkRel_cases (canon ordF x) (canon ordF y) with⟨h2|h2|h2,_⟩|h2;exact absurd h2 h.1;exact absurd h2 h.2;exact absurd (HO0.out.2 h2) hz;rw[h2];rfl
      go_upto_region 16 with fail
      go_region
      go_wp2_with fail
      refine bodyPost_ret (v:=.agg #[.int .i64 (opW (.rel x y)),.string ⟨#[]⟩,.int .i64 0,.int .i64 0,.slice (some ⟨B,0,none⟩) (kids (.rel x y)).length (kids (.rel x y)).length]) (by
       simp[results,Tryz.f128,go_sem,r0,r1,r2,r3,r4,opW,kids]) rfl ?_
      have hlen:(trs ((kids (.rel x y)).map (canon ordF))).len=(kids (.rel x y)).length:=by rw[trs_len,List.length_map]
      have h:=KSt.fin (z:=canon ordF (.rel x y)) (n0:=n0) HZ.out.2.2.1 (below_drawn HK3.out.bel 1) (Nat.le_succ_of_le HK3.out.drawn) (ElA.keep (HNK.out) (below_drawn (RowKit.Below.refl _ _) 1)) hcz.symm
      simp only[ElA.enc,hlen] at h
      exact h
   |snc k v a b=>exact absurd (by cases k<;>simp[opW]) hs
   |_=>exact absurd (by simp[opW]) hs
end
section
open Go.RowKit Go.Sort
section
variable (p:ByteArray→Int→Bool)
mutual
def gdp:Wf→Bool
 | .tt=>true
 | .ff=>true
 | .is nm v=>p nm v
 | .nis nm v=>p nm v
 | .con _ l=>decide (2≤l.length)&&gdps l
 | .next a=>gdp a
 | .unt a b=>gdp a&&gdp b
 | .rel a b=>gdp a&&gdp b
 | .yes _ a=>gdp a
 | .snc _ _ a b=>gdp a&&gdp b
def gdps:List Wf→Bool
 |[]=>true
 |x::l=>gdp x&&gdps l
end
theorem gdps_all:∀l,gdps p l=true↔∀x∈l,gdp p x=true
 |[]=>by simp[gdps]
 |x::l=>by simp[gdps,gdps_all l]
end
def pN (nm:ByteArray) (v:Int):Bool:=nameB nm&&decide (0≤v∧v≤3)
theorem empty_name {nm:ByteArray} (h:nm.toList.isEmpty=true):nm=⟨#[]⟩:=nm_nil (List.isEmpty_iff.1 h)
theorem bareN_is {x:Nod} (h:bareN x=true):x.bd=0∧(
  ((x.op=1∨x.op=2)∧x.nm=⟨#[]⟩∧x.v=0∧x.args.len=0)∨
  (x.op=3∧nameB x.nm=true∧0≤x.v∧x.v≤3∧x.args.len=0)∨
  (x.op=4∧x.nm=⟨#[]⟩∧x.v=0∧x.args.len=1∧firstOp x.args=3)∨
  ((x.op=5∨x.op=6)∧x.nm=⟨#[]⟩∧x.v=0∧2≤x.args.len)∨
  (x.op=8∧x.ins=false∧x.nm=⟨#[]⟩∧x.v=0∧x.args.len=1)∨
  ((x.op=9∨x.op=10)∧x.ins=false∧x.nm=⟨#[]⟩∧x.v=0∧x.args.len=2)∨
  (x.op=15∧x.nm=⟨#[]⟩∧(x.v=0∨x.v=1)∧x.args.len=1)∨
  ((x.op=16∨x.op=17)∧x.nm=⟨#[]⟩∧(x.v=0∨x.v=1)∧x.args.len=2)):=by
 obtain⟨op,v,bd,nm,args,ins⟩:=x
 simp only[bareN,Bool.and_eq_true,Bool.not_eq_true'] at h
 obtain⟨⟨⟨h1,h2⟩,h3⟩,h4⟩:=h
 unfold shB at h2
 rw[Bool.and_eq_true] at h2
 have hin:=h2.1
 have hs:=h2.2
 unfold inB at hin
 rw[decide_eq_true_eq] at hin
 unfold shp at hs
 simp only at*
 have hc:op=1∨op=2∨op=3∨op=4∨op=5∨op=6∨op=7∨op=8∨op=9∨op=10∨op=11∨op=12∨op=13∨op=14∨op=15∨op=16∨op=17∨op=18∨op=19:=by omega
 rcases hc with rfl|rfl|rfl|rfl|rfl|rfl|rfl|rfl|rfl|rfl|rfl|rfl|rfl|rfl|rfl|rfl|rfl|rfl|rfl
 all_goals (simp only[show formL 1=formT 1 from rfl,show formL 2=formT 2 from rfl,show formL 3=formT 3 from rfl,show formL 4=formT 4 from rfl,show formL 5=formT 5 from rfl,show formL 6=formT 6 from rfl,show formL 7=formT 7 from rfl,show formL 8=formT 8 from rfl,show formL 9=formT 9 from rfl,show formL 10=formT 10 from rfl,show formL 11=formT 11 from rfl,show formL 12=formT 12 from rfl,show formL 13=formT 13 from rfl,show formL 14=formT 14 from rfl,show formL 15=formT 15 from rfl,show formL 16=formT 16 from rfl,show formL 17=formT 17 from rfl,show formL 18=formT 18 from rfl,show formL 19=formT 19 from rfl,formT] at h1 h3 hs)
 all_goals (try (cases h1))
 all_goals (
  split at hs
  ·exact absurd hs (by simp)
  rename_i g1
  split at hs
  ·exact absurd hs (by simp)
  rename_i g2)
 all_goals (try simp only[if_true,Bool.false_eq_true,if_false] at hs)
 all_goals refine⟨by omega,?_⟩
 ·exact .inl ⟨.inl rfl,empty_name hs,by omega,by omega⟩
 ·exact .inl ⟨.inr rfl,empty_name hs,by omega,by omega⟩
 ·exact .inr (.inl ⟨rfl,hs,by omega,by omega,by omega⟩)
 ·have h5:firstOp args=3:=by simpa using h4
  exact .inr (.inr (.inl ⟨rfl,empty_name hs,by omega,by omega,h5⟩))
 ·exact .inr (.inr (.inr (.inl ⟨.inl rfl,empty_name hs,by omega,by omega⟩)))
 ·exact .inr (.inr (.inr (.inl ⟨.inr rfl,empty_name hs,by omega,by omega⟩)))
 ·exact .inr (.inr (.inr (.inr (.inl ⟨rfl,by simpa using h3,empty_name hs,by omega,by omega⟩))))
 ·exact .inr (.inr (.inr (.inr (.inr (.inl ⟨.inl rfl,by simpa using h3,empty_name hs,by omega,by omega⟩)))))
 ·exact .inr (.inr (.inr (.inr (.inr (.inl ⟨.inr rfl,by simpa using h3,empty_name hs,by omega,by omega⟩)))))
 ·exact .inr (.inr (.inr (.inr (.inr (.inr (.inl ⟨rfl,empty_name hs,by omega,by omega⟩))))))
 ·exact .inr (.inr (.inr (.inr (.inr (.inr (.inr ⟨.inl rfl,empty_name hs,by omega,by omega⟩))))))
 ·exact .inr (.inr (.inr (.inr (.inr (.inr (.inr ⟨.inr rfl,empty_name hs,by omega,by omega⟩))))))
theorem len_one {L:List Wf} (h:(trs L).len=1):∃a,L=[a]:=by
 rw[trs_len] at h;exact List.length_eq_one_iff.1 h
theorem len_two {L:List Wf} (h:(trs L).len=2):∃a b,L=[a,b]:=by
 rw[trs_len] at h
 match L,h with
 |[a,b],_=>exact⟨a,b,rfl⟩
theorem len_none {L:List Wf} (h:(trs L).len=0):L=[]:=by
 rw[trs_len] at h;exact List.length_eq_zero_iff.1 h
theorem forest_wf:∀(F:Fs) (i:Bool),(preF F i).all bareN=true→∃L:List Wf,F=trs L∧gdps pN L=true∧oks L=true∧(i=true→pasts L=true)
 | .nil,_,_=>⟨[],rfl,rfl,rfl,fun _=>rfl⟩
 | .cons op nm v bd args rest,i,h=>by
  simp only[preF,List.all_cons,List.all_append,Bool.and_eq_true] at h
  obtain⟨h0,h1,h2⟩:=h
  obtain⟨La,ea,ga,oa,pa⟩:=forest_wf args _ h1
  obtain⟨Lr,er,gr,or',pr⟩:=forest_wf rest _ h2
  suffices hz:∃z:Wf,Fs.cons op nm v bd args rest=trC z rest∧gdp pN z=true∧ok z=true∧(i=true→past z=true) by
   obtain⟨z,e1,e2,e3,e4⟩:=hz
   refine⟨z::Lr,by rw[e1,er];rfl,by simp[gdps,e2,gr],by simp[oks,e3,or'],fun hi=>by simp[pasts,e4 hi,pr hi]⟩
  obtain⟨hbd,hx⟩:=bareN_is h0
  simp only at hbd hx
  subst hbd ea
  rcases hx with⟨ho,hn,hv,hl⟩|⟨ho,hn,hv,hv',hl⟩|⟨ho,hn,hv,hl,hf⟩|⟨ho,hn,hv,hl⟩|⟨ho,hi,hn,hv,hl⟩|⟨ho,hi,hn,hv,hl⟩|⟨ho,hn,hv,hl⟩|⟨ho,hn,hv,hl⟩
  ·have e0:=len_none hl
   subst e0 hn hv
   rcases ho with rfl|rfl
   ·exact⟨.tt,rfl,rfl,rfl,fun _=>rfl⟩
   ·exact⟨.ff,rfl,rfl,rfl,fun _=>rfl⟩
  ·have e0:=len_none hl
   subst e0 ho
   exact⟨.is nm v,rfl,by simp[gdp,pN,hn,hv,hv'],rfl,fun _=>rfl⟩
  ·obtain⟨a,rfl⟩:=len_one hl
   subst ho hn hv
   have:∃nm v,a=.is nm v:=by
    cases a with
    |con k l=>cases k<;>simp[trs,trC,firstOp] at hf
    |snc k v a b=>cases k<;>simp[trs,trC,firstOp] at hf
    |is nm v=>exact⟨nm,v,rfl⟩
    |_=>simp[trs,trC,firstOp] at hf
   obtain⟨nm,v,rfl⟩:=this
   simp only[gdps,Bool.and_true] at ga
   exact⟨.nis nm v,rfl,ga,rfl,fun _=>rfl⟩
  ·rw[trs_len] at hl
   subst hn hv
   have hp:i=true→pasts La=true:=fun hi=>pa (by rw[hi];rfl)
   rcases ho with rfl|rfl
   ·exact⟨.con true La,rfl,by simp[gdp,pN,hl,ga],oa,hp⟩
   ·exact⟨.con false La,rfl,by simp[gdp,pN,hl,ga],oa,hp⟩
  ·obtain⟨a,rfl⟩:=len_one hl
   subst ho hn hv hi
   simp only[gdps,oks,Bool.and_true] at ga oa
   exact⟨.next a,rfl,ga,oa,fun e=>by cases e⟩
  ·obtain⟨a,b,rfl⟩:=len_two hl
   subst hn hv hi
   simp only[gdps,oks,Bool.and_true] at ga oa
   rcases ho with rfl|rfl
   ·exact⟨.unt a b,rfl,ga,oa,fun e=>by cases e⟩
   ·exact⟨.rel a b,rfl,ga,oa,fun e=>by cases e⟩
  ·obtain⟨a,rfl⟩:=len_one hl
   subst ho hn
   have hp:=pa (by simp[show(formL 15).past=true from rfl])
   simp only[gdps,oks,pasts,Bool.and_true] at ga oa hp
   rcases hv with rfl|rfl
   ·exact⟨.yes false a,rfl,ga,by simp[ok,hp,oa],fun _=>hp⟩
   ·exact⟨.yes true a,rfl,ga,by simp[ok,hp,oa],fun _=>hp⟩
  ·obtain⟨a,b,rfl⟩:=len_two hl
   subst hn
   have hp:=pa (by rcases ho with rfl|rfl<;>simp[show(formL 16).past=true from rfl,show(formL 17).past=true from rfl])
   simp only[gdps,oks,pasts,Bool.and_true,Bool.and_eq_true] at ga oa hp
   rcases ho with rfl|rfl<;>rcases hv with rfl|rfl
   ·exact⟨.snc true false a b,rfl,by simp[gdp,pN,ga],by simp[ok,hp,oa],fun _=>by simp[past,hp]⟩
   ·exact⟨.snc true true a b,rfl,by simp[gdp,pN,ga],by simp[ok,hp,oa],fun _=>by simp[past,hp]⟩
   ·exact⟨.snc false false a b,rfl,by simp[gdp,pN,ga],by simp[ok,hp,oa],fun _=>by simp[past,hp]⟩
   ·exact⟨.snc false true a b,rfl,by simp[gdp,pN,ga],by simp[ok,hp,oa],fun _=>by simp[past,hp]⟩
theorem bare_wf {op:Int} {nm:ByteArray} {v bd:Int} {args:Fs} (h:bareB op nm v bd args=true):∃z:Wf,(∀r,Fs.cons op nm v bd args r=trC z r)∧gdp pN z=true∧ok z=true:=by
 have h1:(preF (.cons op nm v bd args .nil) false).all bareN=true:=by
  simpa[preF,bareB] using h
 obtain⟨L,e,g,o, -⟩:=forest_wf _ _ h1
 have h2:(trs L).len=1:=by rw[←e];rfl
 obtain⟨z,rfl⟩:=len_one h2
 simp only[gdps,oks,Bool.and_true] at g o
 obtain⟨op',nm',v',bd',a',e1, -⟩:=trC_cons z .nil
 refine⟨z,fun r=>?_,g,o⟩
 obtain⟨op',nm',v',bd',a',e1,e2⟩:=trC_cons z r
 simp only[trs] at e
 rw[e1] at e
 rw[e2]
 simp only[Fs.cons.injEq,and_true] at e
 obtain⟨rfl,rfl,rfl,rfl,rfl⟩:=e
 rfl
theorem empty_list:(⟨#[]⟩:ByteArray).toList.isEmpty=true:=by
 have h:=loop_len ⟨#[]⟩ 0 0 [] rfl
 exact List.isEmpty_iff.2 (List.length_eq_zero_iff.1 h)
theorem bareN_of {op v:Int} {args:Fs} {i:Bool} (h1:(formL op).loose=true) (hin:inB op=true) (hn:(formL op).named=false) (hl:(formL op).least≤(args.len:Int)∧(args.len:Int)≤(formL op).most) (hv:0≤v∧v≤(formL op).val) (hb:0≤(formL op).bound)
  (hfu:((formL op).future&&i)=false) (h4:op=4→firstOp args=3):bareN ⟨op,v,0,⟨#[]⟩,args,i⟩=true:=by
 have q1:¬((args.len:Int)<(formL op).least∨(formL op).most<(args.len:Int)):=by omega
 have q2:¬((v<0∨(formL op).val<v)∨((0:Int)<0∨(formL op).bound<0)):=by omega
 have q4:(decide (op=4)&&decide (firstOp args≠3))=false:=by
  by_cases h:op=4
  ·simp[h4 h]
  ·simp[h]
 unfold bareN shB shp
 simp only[h1,hin,hn,hfu,q1,q2,q4,if_false,Bool.false_eq_true,empty_list,Bool.not_false,Bool.and_self]
theorem wf_bareN {z:Wf} (hg:gdp pN z=true) (hs:size z≤1000000) {i:Bool} (hi:i=true→past z=true) {op:Int} {nm:ByteArray} {v bd:Int} {args r:Fs} (e:trC z r=.cons op nm v bd args r):bareN ⟨op,v,bd,nm,args,i⟩=true:=by
 have hfut:past z=false→i=false:=fun h=>by cases i;rfl;rw[hi rfl] at h;cases h
 have l1:∀a,(trC a .nil).len=1:=fun a=>trs_len [a]
 have l2:∀a b,(trC a (trC b .nil)).len=2:=fun a b=>trs_len [a,b]
 have b1:∀u:Bool,0≤bI u∧bI u≤1:=fun u=>by cases u<;>decide
 cases z with
 |tt=>simp only[trC,Fs.cons.injEq,and_true] at e;obtain⟨rfl,rfl,rfl,rfl,rfl⟩:=e;exact bareN_of rfl rfl rfl (by decide) (by decide) (by decide) rfl (fun e=>absurd e (by decide))
 |ff=>simp only[trC,Fs.cons.injEq,and_true] at e;obtain⟨rfl,rfl,rfl,rfl,rfl⟩:=e;exact bareN_of rfl rfl rfl (by decide) (by decide) (by decide) rfl (fun e=>absurd e (by decide))
 |is nm' v'=>
  simp only[trC,Fs.cons.injEq,and_true] at e;obtain⟨rfl,rfl,rfl,rfl,rfl⟩:=e
  simp only[gdp,pN,Bool.and_eq_true,decide_eq_true_eq] at hg
  obtain⟨h1,h2,h3⟩:=hg
  have q1:¬v'<0:=by omega
  have q2:¬3<v':=by omega
  simp[bareN,shB,shp,show formL 3=formT 3 from rfl,formT,show inB 3=true from rfl,Fs.len,h1,q1,q2]
 |nis nm' v'=>simp only[trC,Fs.cons.injEq,and_true] at e;obtain⟨rfl,rfl,rfl,rfl,rfl⟩:=e;exact bareN_of rfl rfl rfl ⟨(show(1:Int)≤((1:Nat):Int) by decide),(show((1:Nat):Int)≤1 by decide)⟩ (by decide) (by decide) rfl (fun _=>rfl)
 |con k l=>
  simp only[trC,Fs.cons.injEq,and_true] at e;obtain⟨rfl,rfl,rfl,rfl,rfl⟩:=e
  simp only[gdp,Bool.and_eq_true,decide_eq_true_eq] at hg
  have hl:=nodes_trs l
  rw[sizes_trs] at hl
  have hsz:sizes l<size (.con k l):=by simp only[size];omega
  have q1:(2:Int)≤((trs l).len:Int):=by rw[trs_len];omega
  have q2:((trs l).len:Int)≤1099511627776:=by rw[trs_len];omega
  cases k<;>exact bareN_of rfl rfl rfl ⟨q1,q2⟩ (by decide) (by decide) rfl (fun e=>absurd e (by decide))
 |next a=>
  simp only[trC,Fs.cons.injEq,and_true] at e;obtain⟨rfl,rfl,rfl,rfl,rfl⟩:=e
  have hif:=hfut rfl
  subst hif
  exact bareN_of rfl rfl rfl (by rw[l1];decide) (by decide) (by decide) rfl (fun e=>absurd e (by decide))
 |unt a b=>
  simp only[trC,Fs.cons.injEq,and_true] at e;obtain⟨rfl,rfl,rfl,rfl,rfl⟩:=e
  have hif:=hfut rfl
  subst hif
  exact bareN_of rfl rfl rfl (by rw[l2];decide) (by decide) (by decide) rfl (fun e=>absurd e (by decide))
 |rel a b=>
  simp only[trC,Fs.cons.injEq,and_true] at e;obtain⟨rfl,rfl,rfl,rfl,rfl⟩:=e
  have hif:=hfut rfl
  subst hif
  exact bareN_of rfl rfl rfl (by rw[l2];decide) (by decide) (by decide) rfl (fun e=>absurd e (by decide))
 |yes u a=>
  simp only[trC,Fs.cons.injEq,and_true] at e;obtain⟨rfl,rfl,rfl,rfl,rfl⟩:=e
  exact bareN_of rfl rfl rfl (by rw[l1];decide) (b1 u) (by decide) rfl (fun e=>absurd e (by decide))
 |snc k u a b=>
  simp only[trC,Fs.cons.injEq,and_true] at e;obtain⟨rfl,rfl,rfl,rfl,rfl⟩:=e
  cases k<;>exact bareN_of rfl rfl rfl (by rw[l2];decide) (b1 u) (by decide) rfl (fun e=>absurd e (by decide))
theorem trC_pre {z:Wf}:∀(i:Bool) (r:Fs),gdp pN z=true→ok z=true→size z≤1000000→(i=true→past z=true)→(preF r i).all bareN=true→(preF (trC z r) i).all bareN=true:=by
 have step:∀(z:Wf) (op:Int) (nm:ByteArray) (v:Int) (args:Fs) (i:Bool) (r:Fs),trC z r=.cons op nm v 0 args r→gdp pN z=true→size z≤1000000→(i=true→past z=true)→(preF r i).all bareN=true→(preF args (i||(formL op).past)).all bareN=true→(preF (trC z r) i).all bareN=true:=by
  intro z op nm v args i r e hg hs hi hr ha
  have h1:=wf_bareN hg hs hi e
  rw[e]
  simp only[preF,List.all_cons,List.all_append,Bool.and_eq_true]
  exact⟨h1,ha,hr⟩
 induction z using Wf.ind with
 |h1=>exact fun i r hg _ hs hi hr=>step _ _ _ _ _ i r rfl hg hs hi hr rfl
 |h2=>exact fun i r hg _ hs hi hr=>step _ _ _ _ _ i r rfl hg hs hi hr rfl
 |h3 nm v=>exact fun i r hg _ hs hi hr=>step _ _ _ _ _ i r rfl hg hs hi hr rfl
 |h4 nm v=>
  intro i r hg _ hs hi hr
  refine step _ _ _ _ _ i r rfl hg hs hi hr ?_
  have:=wf_bareN (z:=.is nm v) (i:=i||(formL 4).past) (r:=.nil) hg (by simp[size]) (fun _=>rfl) rfl
  simp only[preF,List.all_cons,List.all_append,List.append_nil,List.all_nil,Bool.and_true]
  exact this
 |h5 k l ih=>
  intro i r hg ho hs hi hr
  refine step _ _ _ _ _ i r rfl hg hs hi hr ?_
  have hp:(formL (if k=true then 5 else 6)).past=false:=by cases k<;>rfl
  rw[hp,Bool.or_false]
  have hl:∀m:List Wf,(∀x∈m,x∈l)→(preF (trs m) i).all bareN=true:=by
   intro m
   induction m with
   |nil=>exact fun _=>rfl
   |cons x m jh=>
    intro hm
    have hx:=hm x (by simp)
    simp only[gdp,pN,Bool.and_eq_true] at hg
    rw[ok] at ho
    have h2:=sizes_mem hx
    simp only[size] at hs
    exact ih x hx i _ ((gdps_all pN l).1 hg.2 x hx) ((oks_all l).1 ho x hx) (by omega) (fun e=>(pasts_all l).1 (hi e) x hx) (jh fun y hy=>hm y (by simp[hy]))
  exact hl l fun _ h=>h
 |h6 a ia=>
  intro i r hg ho hs hi hr
  refine step _ _ _ _ _ i r rfl hg hs hi hr ?_
  have:i=false:=by cases i;rfl;exact absurd (hi rfl) (by simp[past])
  subst this
  simp only[gdp,pN,ok,size] at hg ho hs
  exact ia _ .nil hg ho (by omega) (fun e=>absurd e (by decide)) rfl
 |h7 a b ia ib=>
  intro i r hg ho hs hi hr
  refine step _ _ _ _ _ i r rfl hg hs hi hr ?_
  have:i=false:=by cases i;rfl;exact absurd (hi rfl) (by simp[past])
  subst this
  simp only[gdp,pN,ok,size,Bool.and_eq_true] at hg ho hs
  exact ia _ _ hg.1 ho.1 (by omega) (fun e=>absurd e (by decide)) (ib _ .nil hg.2 ho.2 (by omega) (fun e=>absurd e (by decide)) rfl)
 |h8 a b ia ib=>
  intro i r hg ho hs hi hr
  refine step _ _ _ _ _ i r rfl hg hs hi hr ?_
  have:i=false:=by cases i;rfl;exact absurd (hi rfl) (by simp[past])
  subst this
  simp only[gdp,pN,ok,size,Bool.and_eq_true] at hg ho hs
  exact ia _ _ hg.1 ho.1 (by omega) (fun e=>absurd e (by decide)) (ib _ .nil hg.2 ho.2 (by omega) (fun e=>absurd e (by decide)) rfl)
 |h9 v a ia=>
  intro i r hg ho hs hi hr
  refine step _ _ _ _ _ i r rfl hg hs hi hr ?_
  simp only[gdp,pN,ok,size,Bool.and_eq_true] at hg ho hs
  exact ia _ .nil hg ho.2 (by omega) (fun _=>ho.1) rfl
 |h10 k v a b ia ib=>
  intro i r hg ho hs hi hr
  refine step _ _ _ _ _ i r rfl hg hs hi hr ?_
  simp only[gdp,pN,ok,size,Bool.and_eq_true] at hg ho hs
  obtain⟨⟨⟨p1,p2⟩,o1⟩,o2⟩:=ho
  exact ia _ _ hg.1 o1 (by omega) (fun _=>p1) (ib _ .nil hg.2 o2 (by omega) (fun _=>p2) rfl)
theorem wf_bare {z:Wf} (hg:gdp pN z=true) (ho:ok z=true) (hs:size z≤1000000) {op:Int} {nm:ByteArray} {v bd:Int} {args r:Fs} (e:trC z r=.cons op nm v bd args r):bareB op nm v bd args=true:=by
 have h:=trC_pre false .nil hg ho hs (fun e=>by cases e) rfl
 obtain⟨op',nm',v',bd',a',e1,e2⟩:=trC_cons z .nil
 have e3:Fs.cons op nm v bd args .nil=trC z .nil:=by
  obtain⟨op'',nm'',v'',bd'',a'',k1,k2⟩:=trC_cons z r
  rw[k2] at e
  simp only[Fs.cons.injEq,and_true] at e
  obtain⟨rfl,rfl,rfl,rfl,rfl⟩:=e
  exact k1.symm
 rw[←e3] at h
 simpa[preF,bareB] using h
theorem len_nodes:∀F:Fs,F.len≤F.nodes
 | .nil=>Nat.le_refl _
 | .cons _ _ _ _ a r=>by have:=len_nodes r;simp only[Fs.len,Fs.nodes];omega
theorem fitL_true:∀(F:Fs) (s d:Int),0≤s→0≤d→((fitL F s d).1=true↔(F.nodes:Int)≤s∧(depF F:Int)≤d)∧((fitL F s d).1=true→(fitL F s d).2=s - F.nodes)
 | .nil,s,d,hs,hd=>by simp[fitL,Fs.nodes,depF,hs,hd]
 | .cons op nm v bd args rest,s,d,hs,hd=>by
  rw[fitL]
  have hl:=len_nodes args
  by_cases h:s - 1<(args.len:Int)∨d<1
  ·rw[if_pos h]
   simp only[Fs.nodes,depF]
   refine⟨⟨fun e=>(by cases e),fun e=>?_⟩,fun e=>(by cases e)⟩
   omega
  ·rw[if_neg h]
   obtain⟨i1,i2⟩:=fitL_true args (s - 1) (d - 1) (by omega) (by omega)
   by_cases ha:(fitL args (s - 1) (d - 1)).1=true
   ·rw[if_pos ha,i2 ha]
    have ha':=i1.1 ha
    obtain⟨j1,j2⟩:=fitL_true rest (s - 1 - args.nodes) d (by omega) hd
    refine⟨?_,fun e=>?_⟩
    ·rw[j1]
     simp only[Fs.nodes,depF]
     omega
    ·rw[j2 e]
     simp only[Fs.nodes]
     omega
   ·rw[if_neg ha]
    refine⟨⟨fun e=>(by cases e),fun e=>?_⟩,fun e=>(by cases e)⟩
    simp only[Fs.nodes,depF] at e
    exact absurd (i1.2 (by omega)) ha
theorem fitN_true {args:Fs} {s d:Int}:(fitN args s d).1=true↔(args.nodes:Int)+1≤s∧(depF args:Int)+1≤d:=by
 unfold fitN
 have hl:=len_nodes args
 split
 ·rename_i h
  refine⟨fun e=>by simp at e,fun e=>?_⟩
  omega
 ·rw[(fitL_true args (s - 1) (d - 1) (by omega) (by omega)).1]
  omega
theorem depF_trs (L:List Wf):depF (trs L)=deps L:=by
 have hC:∀(z:Wf) (r:Fs),depF (trC z r)=max (dep z) (depF r):=by
  intro z
  induction z using Wf.ind with
  |h5 k l ih=>
   intro r
   have hl:∀m:List Wf,(∀x∈m,x∈l)→depF (trs m)=deps m:=by
    intro m
    induction m with
    |nil=>exact fun _=>rfl
    |cons x m jh=>intro hm;simp only[trs,deps,ih x (hm x (by simp)),jh fun y hy=>hm y (by simp[hy])]
   simp only[trC,depF,dep,hl l fun _ h=>h]
  |h6 a ia=>intro r;simp only[trC,depF,dep,ia];omega
  |h7 a b ia ib=>intro r;simp only[trC,depF,dep,ia,ib];omega
  |h8 a b ia ib=>intro r;simp only[trC,depF,dep,ia,ib];omega
  |h9 v a ia=>intro r;simp only[trC,depF,dep,ia];omega
  |h10 k v a b ia ib=>intro r;simp only[trC,depF,dep,ia,ib];omega
  |_=>intro r;simp only[trC,depF,dep];try omega
 induction L with
 |nil=>rfl
 |cons x L ih=>simp only[trs,deps,hC,ih]
end
section
section
variable (p:ByteArray→Int→Bool) (O:Lt) (ρ:ByteArray→Int→Bool)
theorem gdp_flat {k:Bool} {x y:Wf} (h:gdp p x=true) (hy:y∈flat k x):gdp p y=true:=by
 cases x with
 |con k' l=>
  simp only[flat] at hy
  split at hy
  ·simp only[gdp,Bool.and_eq_true] at h
   exact(gdps_all p l).1 h.2 y hy
  ·simp at hy;rw[hy];exact h
 |tt=>cases k<;>simp[flat] at hy;rw[hy];rfl
 |ff=>cases k<;>simp[flat] at hy;rw[hy];rfl
 |_=>simp[flat] at hy;rw[hy];exact h
theorem gdp_parts {k:Bool} {L:List Wf} (h:∀x∈L,gdp p x=true):∀y∈parts k L,gdp p y=true:=fun y hy=>by
 obtain⟨x,hx,hxy⟩:=List.mem_flatMap.1 hy
 exact gdp_flat p (h x hx) hxy
theorem gdp_unit (k:Bool):gdp p (unit k)=true:=by cases k<;>rfl
theorem gdp_zero (k:Bool):gdp p (zero k)=true:=by cases k<;>rfl
theorem gdp_J {k:Bool} {L:List Wf} (h:∀x∈L,gdp p x=true):gdp p (J O k L)=true:=by
 have hp:=gdp_parts p (k:=k) h
 show gdp p (build O k (parts k L))=true
 rcases build_cases O k (parts k L) with⟨_,e⟩|⟨_,⟨_,e⟩|⟨x,hx,_,e⟩|⟨h2,e⟩⟩
 ·rw[e];exact gdp_zero p k
 ·rw[e];exact gdp_unit p k
 ·rw[e];exact hp x hx
 ·rw[e]
  simp only[gdp,Bool.and_eq_true,decide_eq_true_eq]
  exact⟨h2,(gdps_all p _).2 fun y hy=>hp y ((mem_srt O).1 hy)⟩
theorem gdp_canon (f:Wf):gdp p f=true→gdp p (canon O f)=true:=by
 induction f using Wf.ind with
 |h1=>intro h;rw[canon];exact h
 |h2=>intro h;rw[canon];exact h
 |h3 nm v=>intro h;rw[canon];exact h
 |h4 nm v=>intro h;rw[canon];exact h
 |h5 k l ih=>
  intro h
  rw[canon,canons_map]
  simp only[gdp,Bool.and_eq_true] at h
  refine gdp_J p O fun y hy=>?_
  obtain⟨x,hx,rfl⟩:=List.mem_map.1 hy
  exact ih x hx ((gdps_all p l).1 h.2 x hx)
 |h6 a ia=>
  intro h
  rw[canon]
  simp only[gdp] at h
  rcases mkNext_cases (canon O a) with⟨_,e⟩|e
  ·rw[e];exact ia h
  ·rw[e];simpa only[gdp] using ia h
 |h7 a b ia ib=>
  intro h
  rw[canon]
  simp only[gdp,Bool.and_eq_true] at h
  rcases mkUnt_cases (canon O a) (canon O b) with⟨_,e⟩|e
  ·rw[e];exact ib h.2
  ·rw[e];simp only[gdp,ia h.1,ib h.2];rfl
 |h8 a b ia ib=>
  intro h
  rw[canon]
  simp only[gdp,Bool.and_eq_true] at h
  rcases mkRel_cases (canon O a) (canon O b) with⟨_,e⟩|e
  ·rw[e];exact ib h.2
  ·rw[e];simp only[gdp,ia h.1,ib h.2];rfl
 |h9 v a ia=>
  intro h
  rw[canon]
  simp only[gdp] at h ⊢
  exact ia h
 |h10 k v a b ia ib=>
  intro h
  rw[canon]
  simp only[gdp,Bool.and_eq_true] at h ⊢
  exact⟨ia h.1,ib h.2⟩
theorem gdp_aged (f:Wf):gdp p f=true→gdp p (aged ρ f)=true:=by
 induction f using Wf.ind with
 |h1=>intro h;rw[aged];exact h
 |h2=>intro h;rw[aged];exact h
 |h3 nm v=>intro h;rw[aged];exact h
 |h4 nm v=>intro h;rw[aged];exact h
 |h5 k l ih=>
  intro h
  rw[aged,ageds_map]
  simp only[gdp,Bool.and_eq_true,List.length_map] at h ⊢
  refine⟨h.1,(gdps_all p _).2 fun y hy=>?_⟩
  obtain⟨x,hx,rfl⟩:=List.mem_map.1 hy
  exact ih x hx ((gdps_all p l).1 h.2 x hx)
 |h6 a ia=>intro h;rw[aged];simp only[gdp] at h ⊢;exact ia h
 |h7 a b ia ib=>intro h;rw[aged];simp only[gdp,Bool.and_eq_true] at h ⊢;exact⟨ia h.1,ib h.2⟩
 |h8 a b ia ib=>intro h;rw[aged];simp only[gdp,Bool.and_eq_true] at h ⊢;exact⟨ia h.1,ib h.2⟩
 |h9 v a ia=>intro h;rw[aged];simp only[gdp] at h ⊢;exact ia h
 |h10 k v a b ia ib=>intro h;rw[aged];simp only[gdp,Bool.and_eq_true] at h ⊢;exact⟨ia h.1,ib h.2⟩
theorem gdp_cst (b:Bool):gdp p (cst b)=true:=by cases b<;>rfl
theorem gdp_raw (f:Wf):gdp p f=true→gdp p (raw ρ f)=true:=by
 induction f using Wf.ind with
 |h1=>intro h;rw[raw];exact h
 |h2=>intro h;rw[raw];exact h
 |h3 nm v=>intro h;rw[raw];exact gdp_cst p _
 |h4 nm v=>intro h;rw[raw];exact gdp_cst p _
 |h5 k l ih=>
  intro h
  rw[raw]
  split
  ·exact gdp_cst p _
  ·rw[raws_map]
   simp only[gdp,Bool.and_eq_true,List.length_map] at h ⊢
   refine⟨h.1,(gdps_all p _).2 fun y hy=>?_⟩
   obtain⟨x,hx,rfl⟩:=List.mem_map.1 hy
   exact ih x hx ((gdps_all p l).1 h.2 x hx)
 |h6 a ia=>intro h;rw[raw];simp only[gdp] at h;exact gdp_aged p ρ a h
 |h7 a b ia ib=>
  intro h
  have h3:=gdp_aged p ρ _ h
  rw[raw]
  simp only[gdp,Bool.and_eq_true] at h
  simp[gdp,gdps,ia h.1,ib h.2,h3]
 |h8 a b ia ib=>
  intro h
  have h3:=gdp_aged p ρ _ h
  rw[raw]
  simp only[gdp,Bool.and_eq_true] at h
  simp[gdp,gdps,ia h.1,ib h.2,h3]
 |h9 v a ia=>intro h;rw[raw];exact gdp_cst p _
 |h10 k v a b ia ib=>intro h;rw[raw];exact gdp_cst p _
theorem past_aged (f:Wf):past (aged ρ f)=past f:=by
 induction f using Wf.ind with
 |h5 k l ih=>
  rw[aged,ageds_map]
  simp only[past]
  have:∀m:List Wf,(∀x∈m,x∈l)→pasts (m.map (aged ρ))=pasts m:=by
   intro m
   induction m with
   |nil=>exact fun _=>rfl
   |cons x m jh=>intro hm;simp only[List.map_cons,pasts,ih x (hm x (by simp)),jh fun y hy=>hm y (by simp[hy])]
  exact this l fun _ h=>h
 |h9 v a ia=>rw[aged];simp only[past,ia]
 |h10 k v a b ia ib=>rw[aged];simp only[past,ia,ib]
 |h1=>rfl
 |h2=>rfl
 |h3 nm v=>rfl
 |h4 nm v=>rfl
 |h6 a ia=>rw[aged];simp only[past]
 |h7 a b ia ib=>rw[aged];simp only[past]
 |h8 a b ia ib=>rw[aged];simp only[past]
theorem ok_aged (f:Wf):ok f=true→ok (aged ρ f)=true:=by
 induction f using Wf.ind with
 |h5 k l ih=>
  intro h
  rw[aged,ageds_map]
  simp only[ok] at h ⊢
  refine(oks_all _).2 fun y hy=>?_
  obtain⟨x,hx,rfl⟩:=List.mem_map.1 hy
  exact ih x hx ((oks_all l).1 h x hx)
 |h9 v a ia=>intro h;rw[aged];simp only[ok,Bool.and_eq_true,past_aged] at h ⊢;exact⟨h.1,ia h.2⟩
 |h10 k v a b ia ib=>intro h;rw[aged];simp only[ok,Bool.and_eq_true,past_aged] at h ⊢;exact⟨⟨h.1.1,ia h.1.2⟩,ib h.2⟩
 |h1=>exact fun h=>h
 |h2=>exact fun h=>h
 |h3 nm v=>exact fun h=>h
 |h4 nm v=>exact fun h=>h
 |h6 a ia=>intro h;rw[aged];simp only[ok] at h ⊢;exact ia h
 |h7 a b ia ib=>intro h;rw[aged];simp only[ok,Bool.and_eq_true] at h ⊢;exact⟨ia h.1,ib h.2⟩
 |h8 a b ia ib=>intro h;rw[aged];simp only[ok,Bool.and_eq_true] at h ⊢;exact⟨ia h.1,ib h.2⟩
theorem ok_cst (b:Bool):ok (cst b)=true:=by cases b<;>rfl
theorem ok_raw (f:Wf):ok f=true→ok (raw ρ f)=true:=by
 induction f using Wf.ind with
 |h5 k l ih=>
  intro h
  rw[raw]
  split
  ·exact ok_cst _
  ·rw[raws_map]
   simp only[ok] at h ⊢
   refine(oks_all _).2 fun y hy=>?_
   obtain⟨x,hx,rfl⟩:=List.mem_map.1 hy
   exact ih x hx ((oks_all l).1 h x hx)
 |h9 v a ia=>intro h;rw[raw];exact ok_cst _
 |h10 k v a b ia ib=>intro h;rw[raw];exact ok_cst _
 |h1=>exact fun h=>h
 |h2=>exact fun h=>h
 |h3 nm v=>intro h;rw[raw];exact ok_cst _
 |h4 nm v=>intro h;rw[raw];exact ok_cst _
 |h6 a ia=>intro h;rw[raw];simp only[ok] at h;exact ok_aged ρ a h
 |h7 a b ia ib=>
  intro h
  have h3:=ok_aged ρ _ h
  rw[raw]
  simp only[ok,Bool.and_eq_true] at h
  simp[ok,oks,ia h.1,ib h.2,h3]
 |h8 a b ia ib=>
  intro h
  have h3:=ok_aged ρ _ h
  rw[raw]
  simp only[ok,Bool.and_eq_true] at h
  simp[ok,oks,ia h.1,ib h.2,h3]
end
end
section
open Go.RowKit
def sizeAt (l:List Sg) (i:Nat):Int:=match l[i]? with
 |some s=>s.size
 |none=>0
def Kn (l:List Sg) (nm:ByteArray) (v:Int):Bool:=decide (0≤findI l nm)&&decide (v<sizeAt l (findI l nm).toNat)
def rho (l:List Sg) (x:Int) (nm:ByteArray) (v:Int):Bool:=decide (valN l x (findI l nm).toNat=v)
theorem look_at {w:World} {t elem:TypeId} {T:Nat} {es:Array MapEntry} {clk:Nat} {k:Int} {i:Nat} {v:Value} (hu:Tryz.prog.underlying t=some (.map 3 elem)) (hT:w.heap[T]? =some (.map es clk)) (h0:0≤k) (h1:k≤9223372036854775807)
  (hf:Instr.findNow (.int .i64) (.int .i64 k) es.toList 0=some (some (i,v))):(Instr.lookup t (.map (some T)) (.int .i64 k) false).run Tryz.prog w=.ok v w:=by
 simp[Instr.lookup,Instr.findKey,run_underlying hu,run_underlying Tryz.underlying3,MapKept.run_getObj_map hT,Tryz.keyed3.check w _ (key3 h0 h1),hf,Result.andThen]
theorem insert_at {w:World} {t elem:TypeId} {T:Nat} {es:Array MapEntry} {clk:Nat} {k:Int} {v:Value} (hu:Tryz.prog.underlying t=some (.map 3 elem)) (hT:w.heap[T]? =some (.map es clk)) (h0:0≤k) (h1:k≤9223372036854775807)
  (hf:Instr.findNow (.int .i64) (.int .i64 k) es.toList 0=some none):(Instr.mapUpdate t (.map (some T)) (.int .i64 k) v).run Tryz.prog w=.ok () (ChangeMaps.setBlock w T (.map (es.push {key:=.int .i64 k,val:=v,born:=clk}) (clk+1))):=by
 simp[Instr.mapUpdate,Instr.findKey,run_underlying hu,run_underlying Tryz.underlying3,MapKept.run_getObj_map hT,Tryz.keyed3.check w _ (key3 h0 h1),hf,Result.andThen,MapKept.run_setObj_map _ hT,ChangeMaps.setBlock]
set_option maxRecDepth 100000 in
set_option maxHeartbeats 4000000 in
theorem find173q {w:World} {v:Value} {l:List Sg} {nm:ByteArray} (hv:SgV w v l):
  Calls Tryz.prog 173 #[v,.string nm] w fun e w'=>e=.returned (.int .i64 (findI l nm))∧w'=w:=by
 obtain⟨a,c,rfl,hl,hv⟩:=hv
 have HV:=Lib.hid hv
 clear hv
 go_enter Tryz.func173,Tryz.ntmps173
 go_wp2_with fail
 go_loopw [8] (fun i wr=>∃k:Nat,k≤l.length∧i=.int .i64 k∧Hid (wr=w)∧Hid (∀j (h:j<k) (h':j<l.length),l[j].name≠nm)) (fun i _=>l.length - (intOf i).toNat)
 case atStart=>exact⟨0,Nat.zero_le _,rfl,Lib.hid rfl,Lib.hid (fun j h=>by omega)⟩
 case round=>
  obtain⟨k,hk,rfl,HB,HN⟩:=hrel
  by_cases hlt:(k:Int)<(l.length:Int)
  ·have hd:decide ((k:Int)<(l.length:Int))=true:=by simpa using hlt
   have hk':k<l.length:=by omega
   obtain⟨b1,o1,rfl,hb1,hc⟩:=HV.out (fun e=>by rw[e] at hk';simp at hk')
   obtain⟨c0, -, -, -⟩:=hc k hk'
   have c0:wr.cell? ⟨b1,o1+k*3,none⟩=some (.string l[k].name):=by rw[HB.out];exact c0
   have HT:Hid (∀j (h:j<k+1) (h':j<l.length),l[k].name≠nm→l[j].name≠nm):=Lib.hid (fun j h h' hn=>by
    rcases Nat.lt_or_ge j k with hj|hj
    ·exact HN.out j hj h'
    ·obtain rfl:j=k:=by omega
     exact hn)
   have HF:Hid (l[k].name=nm→findI l nm=k):=Lib.hid (fun h=>findI_hit hk' h (fun j hj=>HN.out j hj (by omega)))
   clear hc HN
   generalize l[k].name=s at*
   by_cases he:s=nm
   ·have hb:(s.toList==nm.toList)=true:=by rw[he];simp
    have HF':=Lib.hid (HF.out he)
    clear HF HT
    go_wp2_with fail
    go_ret
    exact⟨congrArg (fun x=>Ending.returned (.int .i64 x)) HF'.out.symm,HB.out⟩
   ·have hb:(s.toList==nm.toList)=false:=bytes_ne he
    go_wp2_with fail
    go_roundw
    case rel=>exact⟨k+1,by omega,by go_num,HB,Lib.hid (fun j h h'=>HT.out j h h' he)⟩
    case measure=>simp[intOf];omega
  ·have hd:decide ((k:Int)<(l.length:Int))=false:=by simpa using hlt
   have HF:Hid (findI l nm= -1):=Lib.hid (findI_none fun j h=>HN.out j (by omega) h)
   go_wp2_with fail
   go_ret
   exact⟨congrArg (fun x=>Ending.returned (.int .i64 x)) HF.out.symm,HB.out⟩
def fnV (k R:Nat):Value:=.func (.func k) #[.pointer (some ⟨R,0,none⟩)] #[]
def truthE (R:Nat):Array MapEntry:= #[⟨.int .i64 1,fnV 178 R,0⟩,⟨.int .i64 2,fnV 179 R,1⟩,⟨.int .i64 3,fnV 180 R,2⟩,⟨.int .i64 4,fnV 181 R,3⟩,⟨.int .i64 5,fnV 182 R,4⟩,⟨.int .i64 6,fnV 183 R,5⟩,⟨.int .i64 15,fnV 184 R,6⟩,⟨.int .i64 16,fnV 185 R,7⟩,⟨.int .i64 17,fnV 186 R,8⟩]
def rawE (R:Nat):Array MapEntry:= #[⟨.int .i64 5,fnV 187 R,0⟩,⟨.int .i64 6,fnV 187 R,1⟩,⟨.int .i64 8,fnV 188 R,2⟩,⟨.int .i64 9,fnV 189 R,3⟩,⟨.int .i64 10,fnV 190 R,4⟩]
structure Rdr (w:World) (R:Nat) (l:List Sg) (x:Int):Prop where
 lt:R<w.heap.size
 sg:∃sv,w.cell? ⟨R,0,none⟩=some sv∧SgV w sv l
 vals:∃V c,w.cell? ⟨R,1,none⟩=some (.slice (some ⟨V,0,none⟩) l.length c)∧l.length≤c∧V<w.heap.size∧∀i,i<l.length→w.cell? ⟨V,i,none⟩=some (.int .i64 (valN l x i))
 tr:∃T,w.cell? ⟨R,2,none⟩=some (.map (some T))∧w.heap[T]? =some (.map (truthE R) 9)
 rw:∃M,w.cell? ⟨R,3,none⟩=some (.map (some M))∧w.heap[M]? =some (.map (rawE R) 5)
theorem Rdr.keep {w w':World} {R:Nat} {l:List Sg} {x:Int} (h:Rdr w R l x) (hB:Below w.heap.size w w'):Rdr w' R l x:=by
 obtain⟨h0,⟨sv,s1,s2⟩,⟨V,c,v1,v2,v3,v4⟩,⟨T,t1,t2⟩,⟨M,m1,m2⟩⟩:=h
 exact⟨Nat.lt_of_lt_of_le h0 hB.size,⟨sv,(hB.cell (p:=⟨R,0,none⟩) h0).trans s1,s2.keep hB⟩,⟨V,c,(hB.cell (p:=⟨R,1,none⟩) h0).trans v1,v2,Nat.lt_of_lt_of_le v3 hB.size,fun i hi=>(hB.cell (p:=⟨V,i,none⟩) v3).trans (v4 i hi)⟩,
  ⟨T,(hB.cell (p:=⟨R,2,none⟩) h0).trans t1,(hB.block T (Array.getElem?_eq_some_iff.1 t2).1).trans t2⟩,⟨M,(hB.cell (p:=⟨R,3,none⟩) h0).trans m1,(hB.block M (Array.getElem?_eq_some_iff.1 m2).1).trans m2⟩⟩
theorem Rdr.drawn {w:World} {R:Nat} {l:List Sg} {x:Int} (h:Rdr w R l x) (n:Nat):Rdr (w.drewN n) R l x:=h.keep (below_drawn (Below.refl _ _) n)
end
section
open Go.RowKit Go.Sort
def knF (l:List Sg):Fs→Bool
 | .nil=>true
 | .cons op nm v _ args rest=>(!(decide (op=3))||Kn l nm v)&&knF l args&&knF l rest
theorem kn_trC (l:List Sg) (z:Wf):∀r,gdp pN z=true→knF l (trC z r)=(gdp (Kn l) z&&knF l r):=by
 induction z using Wf.ind with
 |h1=>intro r _;simp[trC,knF,gdp]
 |h2=>intro r _;simp[trC,knF,gdp]
 |h3 nm v=>intro r _;simp[trC,knF,gdp]
 |h4 nm v=>intro r _;simp[trC,knF,gdp]
 |h5 k L ih=>
  intro r h
  simp only[gdp,Bool.and_eq_true,decide_eq_true_eq] at h
  have hk:∀m:List Wf,(∀x∈m,x∈L)→knF l (trs m)=gdps (Kn l) m:=by
   intro m
   induction m with
   |nil=>exact fun _=>rfl
   |cons x m jh=>
    intro hm
    have hx:=hm x (by simp)
    simp only[trs,gdps,ih x hx _ ((gdps_all pN L).1 h.2 x hx),jh fun y hy=>hm y (by simp[hy])]
  simp only[trC,knF,gdp,hk L fun _ h=>h]
  rw[decide_eq_true h.1]
  cases k<;>simp
 |h6 a ia=>intro r h;simp only[gdp] at h;simp[trC,knF,gdp,ia _ h]
 |h7 a b ia ib=>intro r h;simp only[gdp,Bool.and_eq_true] at h;simp[trC,knF,gdp,ia _ h.1,ib _ h.2]
 |h8 a b ia ib=>intro r h;simp only[gdp,Bool.and_eq_true] at h;simp[trC,knF,gdp,ia _ h.1,ib _ h.2]
 |h9 v a ia=>intro r h;simp only[gdp] at h;simp[trC,knF,gdp,ia _ h]
 |h10 k v a b ia ib=>intro r h;simp only[gdp,Bool.and_eq_true] at h;cases k<;>simp[trC,knF,gdp,ia _ h.1,ib _ h.2]
def looseB (op:Int) (nm:ByteArray) (v bd:Int) (args:Fs):Bool:=(fitN args 400 60).1&&bareB op nm v bd args
def kernB (op:Int) (nm:ByteArray) (v bd:Int) (args:Fs):Bool:=(fitN args 60 20).1&&bareB op nm v bd args
structure Lo (z:Wf):Prop where
 gd:gdp pN z=true
 ok:ok z=true
 size:size z≤400
 dep:dep z≤60
theorem trC_nodes (z:Wf) {r args:Fs} {op:Int} {nm:ByteArray} {v bd:Int} (e:trC z r=.cons op nm v bd args r):args.nodes+1=size z∧depF args+1=dep z:=by
 have h1:=sizes_trs [z]
 have h2:=depF_trs [z]
 obtain⟨op',nm',v',bd',a',e1, -⟩:=trC_cons z .nil
 obtain⟨op'',nm'',v'',bd'',a'',k1,k2⟩:=trC_cons z r
 rw[k2] at e
 simp only[Fs.cons.injEq,and_true] at e
 obtain⟨rfl,rfl,rfl,rfl,rfl⟩:=e
 simp only[trs,k1,Fs.nodes,depF,sizes,deps] at h1 h2
 omega
theorem loose_lo {op:Int} {nm:ByteArray} {v bd:Int} {args:Fs} (h:looseB op nm v bd args=true):∃z:Wf,(∀r,Fs.cons op nm v bd args r=trC z r)∧Lo z:=by
 unfold looseB at h
 rw[Bool.and_eq_true] at h
 obtain⟨z,e,hg,ho⟩:=bare_wf h.2
 have h1:=fitN_true.1 h.1
 have h2:=trC_nodes z (e .nil).symm
 exact⟨z,e,hg,ho,by omega,by omega⟩
theorem lo_loose {z:Wf} (h:Lo z) {op:Int} {nm:ByteArray} {v bd:Int} {args r:Fs} (e:trC z r=.cons op nm v bd args r):looseB op nm v bd args=true:=by
 have h2:=trC_nodes z e
 have h3:=h.size
 have h4:=h.dep
 unfold looseB
 rw[Bool.and_eq_true]
 exact⟨fitN_true.2 ⟨by omega,by omega⟩,wf_bare h.gd h.ok (by omega) e⟩
theorem kern_loose {op:Int} {nm:ByteArray} {v bd:Int} {args:Fs} (h:kernB op nm v bd args=true):looseB op nm v bd args=true:=by
 unfold kernB at h
 unfold looseB
 rw[Bool.and_eq_true] at h ⊢
 have h1:=fitN_true.1 h.1
 exact⟨fitN_true.2 ⟨by omega,by omega⟩,h.2⟩
theorem Lo.canon {z:Wf} (h:Lo z):Lo (canon ordF z):=
 ⟨gdp_canon pN ordF z h.gd,ok_canon ordF z h.ok,Nat.le_trans (size_canon ordF z) h.size,Nat.le_trans (dep_canon ordF z) h.dep⟩
def Fit (l:List Sg) (z:Wf):Prop:=Lo z∧gdp (Kn l) z=true
theorem Fit.canon {l:List Sg} {z:Wf} (h:Fit l z):Fit l (canon ordF z):=⟨h.1.canon,gdp_canon _ ordF z h.2⟩
open Classical in
noncomputable def stepO (l:List Sg) (x:Int) (z:Wf):Option Wf:=
 if(0≤x∧x<letN l)∧size (raw (rho l x) z)≤400∧dep (raw (rho l x) z)≤60 then some (canon ordF (raw (rho l x) z)) else none
theorem raw_lo {l:List Sg} {x:Int} {z:Wf} (h:Lo z) (h1:size (raw (rho l x) z)≤400) (h2:dep (raw (rho l x) z)≤60):Lo (raw (rho l x) z):=
 ⟨gdp_raw pN _ z h.gd,ok_raw _ z h.ok,h1,h2⟩
theorem stepO_fit {l:List Sg} {x:Int} {z y:Wf} (h:Fit l z) (e:stepO l x z=some y):Fit l y:=by
 unfold stepO at e
 split at e
 ·rename_i hc
  cases e
  exact⟨(raw_lo h.1 hc.2.1 hc.2.2).canon,gdp_canon _ ordF _ (gdp_raw _ _ z h.2)⟩
 ·cases e
theorem stepO_canon {l:List Sg} {x:Int} {z:Wf} (h:Fit l z) (hs:size z≤30):stepO l x (canon ordF z)=stepO l x z:=by
 have h1:=raw_within (rho l x) hs
 have h2:=raw_within (rho l x) (f:=canon ordF z) (Nat.le_trans (size_canon ordF z) hs)
 have h3:=H_canon ordF (rho l x) z h.1.ok
 unfold stepO
 by_cases hx:0≤x∧x<letN l
 ·rw[if_pos ⟨hx,h2⟩,if_pos ⟨hx,h1⟩]
  exact congrArg some h3
 ·rw[if_neg fun h=>hx h.1,if_neg fun h=>hx h.1]
noncomputable def resO (l:List Sg):List Int→Wf→Option (List Wf)
 |[],_=>some []
 |x::xs,z=>match stepO l x z with
  |none=>none
  |some y=>(resO l xs y).map (y:: ·)
noncomputable def runO (l:List Sg):List Int→Wf→Option Wf
 |[],z=>some z
 |x::xs,z=>match stepO l x z with
  |none=>none
  |some y=>runO l xs y
theorem runO_resO {l:List Sg}:∀(xs:List Int) (z:Wf),runO l xs z=(resO l xs z).map fun ys=>(ys.getLast?).getD z
 |[],z=>rfl
 |x::xs,z=>by
  rw[runO,resO]
  cases stepO l x z with
  |none=>rfl
  |some y=>
   simp only
   rw[runO_resO xs y]
   cases resO l xs y with
   |none=>rfl
   |some ys=>cases ys<;>simp[List.getLast?_cons]
theorem runO_canon {l:List Sg} {xs:List Int} {z:Wf} (h:Fit l z) (hs:size z≤30) (hx:xs≠[]):runO l xs (canon ordF z)=runO l xs z:=by
 cases xs with
 |nil=>exact absurd rfl hx
 |cons x xs=>rw[runO,runO,stepO_canon h hs]
theorem resO_all {l:List Sg}:∀(xs:List Int) (z:Wf) (ys:List Wf),Fit l z→resO l xs z=some ys→ys.length=xs.length∧(∀y∈ys,Fit l y)∧∀x∈xs,0≤x∧x<letN l
 |[],z,ys,_,e=>by cases e;exact⟨rfl,fun _ h=>by simp at h,fun _ h=>by simp at h⟩
 |x::xs,z,ys,h,e=>by
  rw[resO] at e
  cases hs:stepO l x z with
  |none=>rw[hs] at e;cases e
  |some y=>
   rw[hs] at e
   simp only at e
   have hy:=stepO_fit h hs
   cases hr:resO l xs y with
   |none=>rw[hr] at e;cases e
   |some us=>
    rw[hr] at e
    cases e
    obtain⟨i1,i2,i3⟩:=resO_all xs y us hy hr
    have hx:0≤x∧x<letN l:=by
     unfold stepO at hs
     split at hs
     ·rename_i hc;exact hc.1
     ·cases hs
    refine⟨by simp[i1],fun u hu=>?_,fun u hu=>?_⟩
    ·rcases List.mem_cons.1 hu with rfl|hu
     ·exact hy
     ·exact i2 u hu
    ·rcases List.mem_cons.1 hu with rfl|hu
     ·exact hx
     ·exact i3 u hu
end
end Go.Proofs.YtckdgniecdfedaaGreatDoor
