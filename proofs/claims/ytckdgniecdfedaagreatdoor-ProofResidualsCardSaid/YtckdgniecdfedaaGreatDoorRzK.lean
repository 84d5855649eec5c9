/- The walks of raw and its methods. The walk of raw. The walks of loose, IsKernel, Canon, progress.loose, known and fits. -/
import Derived.Test.YtckdgniecdfedaaGreatDoorRzJ
namespace Go.Proofs.YtckdgniecdfedaaGreatDoor
section
open Go.RowKit Go.Sort
variable {n0:Nat}
theorem pair_ok {n:Nat} {W:World} {B:Nat} {x y:ElA} {z1 z2:Wf} {op:Int} {T:TypeId} (hB:W.heap[B]? =some (.cells (x.enc++y.enc).toArray T (0,0))) (hn:n≤B) (hx:x.ok n W) (hy:y.ok n W) (h1:x.tree=tr z1) (h2:y.tree=tr z2) (hs:size z1+size z2≤100000):
  ElA.ok n W ⟨op,⟨#[]⟩,0,0,trs [z1,z2],some ⟨B,0,none⟩,2⟩:=by
 obtain⟨f1,f2⟩:=RowA.forest (W:=W) (n:=n) (B:=B) [x,y] [z1,z2] 0 (fun u hu=>by simp at hu;rcases hu with rfl|rfl;exact hx;exact hy) (by simp[h1,h2]) (fun j hj c v hv=>by
  have hc5:c<5:=by have:=(List.getElem?_eq_some_iff.1 hv).1;exact this
  rw[Nat.zero_add]
  have hl:x.enc.length=5:=rfl
  match j,hj with
  |0,_=>
   simp only[List.getElem_cons_zero] at hv
   simp only[World.cell?,hB,Nat.zero_mul,Nat.zero_add,List.getElem?_toArray]
   rw[List.getElem?_append_left (by omega)]
   simpa using hv
  |1,_=>
   simp only[List.getElem_cons_succ,List.getElem_cons_zero] at hv
   simp only[World.cell?,hB,Nat.one_mul,List.getElem?_toArray]
   rw[List.getElem?_append_right (by omega),hl,show 5+c - 5=c by omega]
   simpa using hv)
 have hlen:(trs [z1,z2]).len=2:=trs_len _
 refine⟨fun _=>⟨B,0,rfl,(Array.getElem?_eq_some_iff.1 hB).1,f1⟩,fun p o e _=>?_,(show(⟨#[]⟩:ByteArray).size≤9223372036854775807 by decide),?_,?_,?_⟩
 ·have e:some (⟨B,0,none⟩:Addr)=some ⟨p,o,none⟩:=e
  simp only[Option.some.injEq,Addr.mk.injEq,and_true] at e
  obtain⟨rfl,rfl⟩:=e
  exact⟨⟨hn,_,_,hB⟩,f2⟩
 ·show(trs _).len≤_
  rw[hlen];decide
 ·show(trs _).len≤_
  rw[hlen];exact Nat.le_refl _
 ·show(trs _).nodes≤_
  rw[sizes_trs];simp only[sizes];omega
structure Res0 (w W:World):Prop where
 res:W.heap[w.heap.size]? =some (.cells zero48 48 (0,0))
 bel:RowKit.Below w.heap.size w W
 drawn:w.drawn≤W.drawn
theorem Res0.start (w:World):Res0 w (w.alloc (.cells zero48 48)):=⟨World.alloc_heap_new w _,(RowKit.Below.refl w.heap.size w).alloc (Nat.le_refl _) _,Nat.le_refl _⟩
theorem Res0.lt {w W:World} (h:Res0 w W):w.heap.size<W.heap.size:=(Array.getElem?_eq_some_iff.1 h.res).1
theorem Res0.below {w W W':World} (h:Res0 w W) (hB:RowKit.Below W.heap.size W W') (hd:W.drawn≤W'.drawn):Res0 w W':=⟨(hB.block _ h.lt).trans h.res,h.bel.trans (hB.mono h.bel.size),Nat.le_trans h.drawn hd⟩
theorem Res0.cell {w W:World} (h:Res0 w W):W.cell? ⟨w.heap.size,0,none⟩=some (.int .i64 0)∧W.cell? ⟨w.heap.size,1,none⟩=some (.string ⟨#[]⟩)∧W.cell? ⟨w.heap.size,2,none⟩=some (.int .i64 0)∧
  W.cell? ⟨w.heap.size,3,none⟩=some (.int .i64 0)∧W.cell? ⟨w.heap.size,4,none⟩=some (.slice none 0 0)∧∀o,W.frozen? ⟨w.heap.size,o,none⟩=false:=by
 have:=h.res
 simp[World.cell?,World.frozen?,this,zero48]
theorem Res0.fin {w W:World} (h:Res0 w W) {z:Wf} {x:ElA} (hn0:n0≤w.heap.size) (hx:x.ok (w.heap.size+1) W) (ht:x.tree=tr z):
  FormOut n0 w z (.returned (.agg x.enc.toArray)) (putRes W w.heap.size (.int .i64 x.op) (.string x.nm) (.int .i64 x.v) (.int .i64 x.bd) (.slice x.a x.args.len x.c)):=KSt.fin hn0 h.bel h.drawn hx ht
section
variable {w:World} {R b o:Nat}
set_option maxRecDepth 100000 in
set_option maxHeartbeats 4000000 in
theorem next188 {B O c:Nat} {z:Wf} (hn0:n0≤w.heap.size) (hb:b<w.heap.size) (h4:w.cell? ⟨b,o+4,none⟩=some (.slice (some ⟨B,O,none⟩) 1 c)) (hC:∀W,RowKit.Below w.heap.size w W→Calls Tryz.prog 257 #[.pointer (some ⟨R,0,none⟩),.pointer (some ⟨B,O,none⟩)] W (FormOut W.heap.size W z)):
  Calls Tryz.prog 188 #[.pointer (some ⟨R,0,none⟩),.pointer (some ⟨b,o,none⟩)] w (FormOut n0 w z):=by
 have HC:=Lib.hid hC
 clear hC
 go_enter Tryz.func188,Tryz.ntmps188
 go_upto_region 1 with fail
 have HR:=Lib.hid (Res0.start w)
 simp only[zero48] at HR
 generalize w.alloc (.cells #[.int .i64 0,.string ⟨#[]⟩,.int .i64 0,.int .i64 0,.slice none 0 0] 48)=w1 at*
 have e4:=(HR.out.bel.cell (p:=⟨b,o+4,none⟩) hb).trans h4
 go_wp2_with fail
 refine(HC.out _ HR.out.bel).mono ?_
 rintro e w2 ⟨⟨y0,y1,y2,y3,y4,y5,y6⟩,hy,hyt,rfl,hB2,hd2⟩
 have HR2:=Lib.hid (HR.out.below hB2 hd2)
 have HY:=Lib.hid (And.intro (ElA.mono hy HR.out.lt) hyt)
 obtain⟨r0,r1,r2,r3,r4,r5⟩:=HR2.out.cell
 clear hy hyt hB2 hd2 e4
 simp only[ElA.enc]
 go_wp2_with fail
 refine bodyPost_ret (v:=.agg #[.int .i64 y0,.string y1,.int .i64 y2,.int .i64 y3,.slice y5 y4.len y6]) (by
  simp[results,Tryz.f188,go_sem,r0,r1,r2,r3,r4]) rfl ?_
 have h:=HR2.out.fin hn0 HY.out.1 HY.out.2
 simp only[ElA.enc] at h
 exact h
set_option maxRecDepth 100000 in
set_option maxHeartbeats 40000000 in
theorem until189 {B O c:Nat} {za zb zc:Wf} (hn0:n0≤w.heap.size) (hb:b<w.heap.size) (h4:w.cell? ⟨b,o+4,none⟩=some (.slice (some ⟨B,O,none⟩) 2 c)) (hs:size za+size zb+size zc≤99000)
  (hB':∀W,RowKit.Below w.heap.size w W→Calls Tryz.prog 191 #[.pointer (some ⟨R,0,none⟩),.pointer (some ⟨B,O+5,none⟩)] W (FormOut W.heap.size W zb))
  (hA:∀W,RowKit.Below w.heap.size w W→Calls Tryz.prog 191 #[.pointer (some ⟨R,0,none⟩),.pointer (some ⟨B,O,none⟩)] W (FormOut W.heap.size W za))
  (hC:∀W,RowKit.Below w.heap.size w W→Calls Tryz.prog 257 #[.pointer (some ⟨R,0,none⟩),.pointer (some ⟨b,o,none⟩)] W (FormOut W.heap.size W zc)):
  Calls Tryz.prog 189 #[.pointer (some ⟨R,0,none⟩),.pointer (some ⟨b,o,none⟩)] w (FormOut n0 w (.con false [zb,.con true [za,zc]])):=by
 have HA:=Lib.hid hA
 have HB:=Lib.hid hB'
 have HC:=Lib.hid hC
 have HSZ:=Lib.hid hs
 have HN0:=Lib.hid hn0
 clear hA hB' hC hs hn0
 go_enter Tryz.func189,Tryz.ntmps189
 go_upto_region 1 with fail
 have HR:=Lib.hid (Res0.start w)
 simp only[zero48] at HR
 generalize w.alloc (.cells #[.int .i64 0,.string ⟨#[]⟩,.int .i64 0,.int .i64 0,.slice none 0 0] 48)=w1 at*
 have HRD:Hid (Res0 w w1.drew):=Lib.hid (HR.out.below (below_drawn (RowKit.Below.refl _ _) 1) (Nat.le_succ _))
 have HK:Hid (∀W,RowKit.Below w.heap.size w W→W.cell? ⟨b,o+4,none⟩=some (.slice (some ⟨B,O,none⟩) 2 c)):=Lib.hid fun W h=>(h.cell (p:=⟨b,o+4,none⟩) hb).trans h4
 have e4:=HK.out _ HR.out.bel
 clear h4
 have hne1:¬b=w.heap.size:=by omega
 have hne2:¬w.heap.size=b:=by omega
 go_region_held3 (fun w'=>w'.cell? ⟨b,o+4,none⟩=some (.slice (some ⟨B,O,none⟩) 2 c)) (go_keep) (first
  |(go_at_call 256;have hx8:=HR8;clear hx8;refine(node256 (op:=6)).mono ?_;rintro e w9 ⟨rfl,hB5,hd5⟩;have HW9:=Lib.hid (And.intro hB5 hd5);have HR9:=Lib.hid ((HR8.out.below ((RowKit.Below.refl _ _).alloc (Nat.le_refl _) _) (Nat.le_refl _)).below hB5 hd5);have e9:=HK.out _ HR9.out.bel;obtain⟨r0,r1,r2,r3,r4,r5⟩:=HR9.out.cell;clear hB5 hd5)
  |(go_at_call 256;refine(node256 (op:=5)).mono ?_;rintro e w8 ⟨rfl,hB5,hd5⟩;have HW8:=Lib.hid (And.intro hB5 hd5);have HR8:=Lib.hid ((HR7.out.below ((RowKit.Below.refl _ _).alloc (Nat.le_refl _) _) (Nat.le_refl _)).below hB5 hd5);have e8:=HK.out _ HR8.out.bel;clear hB5 hd5)
  |(go_at_call 257;refine(HC.out _ HR6.out.bel).mono ?_;rintro e w7 ⟨⟨z0,z1,z2,z3,z4,z5,z6⟩,hx,hxt,rfl,hB5,hd5⟩;have HR7:=Lib.hid (HR6.out.below hB5 hd5);have HX7:=Lib.hid (And.intro (ElA.mono hx HR6.out.lt) (And.intro hxt (And.intro (ElA.keep HX6.out.1 hB5) (ElA.keep HX6.out.2.2 hB5))));have e7:=HK.out _ HR7.out.bel;clear hx hxt hB5 hd5;simp only[ElA.enc])
  |(go_at_call 191;refine(HA.out _ HR5.out.bel).mono ?_;rintro e w6 ⟨⟨y0,y1,y2,y3,y4,y5,y6⟩,hx,hxt,rfl,hB5,hd5⟩;have HR6:=Lib.hid (HR5.out.below hB5 hd5);have HX6:=Lib.hid (And.intro (ElA.mono hx HR5.out.lt) (And.intro hxt (ElA.keep HX5.out.1 hB5)));have e6:=HK.out _ HR6.out.bel;clear hx hxt hB5 hd5;simp only[ElA.enc])
  |(go_at_call 191;refine(HB.out _ HRD.out.bel).mono ?_;rintro e w5 ⟨⟨x0,x1,x2,x3,x4,x5,x6⟩,hx,hxt,rfl,hB5,hd5⟩;have HR5:=Lib.hid (HRD.out.below hB5 hd5);have HX5:=Lib.hid (And.intro (ElA.mono hx HRD.out.lt) hxt);have e5:=HK.out _ HR5.out.bel;clear hx hxt hB5 hd5;simp only[ElA.enc]))
 all_goals go_wp2_with fail
 all_goals
  have hb7:=World.alloc_heap_new w7 (.cells #[.int .i64 y0,.string y1,.int .i64 y2,.int .i64 y3,.slice y5 y4.len y6,.int .i64 z0,.string z1,.int .i64 z2,.int .i64 z3,.slice z5 z4.len z6] 48)
  have hB78:=((RowKit.Below.refl _ w7).alloc (Nat.le_refl _) (.cells #[.int .i64 y0,.string y1,.int .i64 y2,.int .i64 y3,.slice y5 y4.len y6,.int .i64 z0,.string z1,.int .i64 z2,.int .i64 z3,.slice z5 z4.len z6] 48))
  have hp1:=pair_ok (op:=5) (x:=⟨y0,y1,y2,y3,y4,y5,y6⟩) (y:=⟨z0,z1,z2,z3,z4,z5,z6⟩) (n:=w.heap.size+1) hb7 HR7.out.lt (ElA.keep HX7.out.2.2.1 hB78) (ElA.keep HX7.out.1 hB78) HX6.out.2.1 HX7.out.2.1 (by have:=HSZ.out;omega)
  have hp2:=ElA.keep hp1 HW8.out.1
  have hx8:=ElA.keep (ElA.keep HX7.out.2.2.2 hB78) HW8.out.1
  have hb8:=World.alloc_heap_new w8 (.cells #[.int .i64 x0,.string x1,.int .i64 x2,.int .i64 x3,.slice x5 x4.len x6,.int .i64 5,.string ⟨#[]⟩,.int .i64 0,.int .i64 0,.slice (some ⟨w7.heap.size,0,none⟩) 2 2] 48)
  have hB89:=((RowKit.Below.refl _ w8).alloc (Nat.le_refl _) (.cells #[.int .i64 x0,.string x1,.int .i64 x2,.int .i64 x3,.slice x5 x4.len x6,.int .i64 5,.string ⟨#[]⟩,.int .i64 0,.int .i64 0,.slice (some ⟨w7.heap.size,0,none⟩) 2 2] 48))
  have hl2:(trs [za,zc]).len=2:=trs_len _
  have hq:=pair_ok (op:=6) (x:=⟨x0,x1,x2,x3,x4,x5,x6⟩) (y:=⟨5,⟨#[]⟩,0,0,trs [za,zc],some ⟨w7.heap.size,0,none⟩,2⟩) (z2:=.con true [za,zc]) (n:=w.heap.size+1) (T:=48) (by simp only[ElA.enc,hl2];exact hb8) HR8.out.lt (ElA.keep hx8 hB89) (ElA.keep hp2 hB89) HX5.out.2 rfl (by have:=HSZ.out;simp only[size,sizes];omega)
  have hq9:=ElA.keep hq HW9.out.1
  refine bodyPost_ret (v:=.agg #[.int .i64 6,.string ⟨#[]⟩,.int .i64 0,.int .i64 0,.slice (some ⟨w8.heap.size,0,none⟩) 2 2]) (by
   simp[results,Tryz.f189,go_sem,r0,r1,r2,r3,r4]) rfl ?_
  have h:=HR9.out.fin (z:=.con false [zb,.con true [za,zc]]) HN0.out hq9 rfl
  have hl3:(trs [zb,.con true [za,zc]]).len=2:=trs_len _
  simp only[ElA.enc,hl3] at h
  exact h
set_option maxRecDepth 100000 in
set_option maxHeartbeats 40000000 in
theorem release190 {B O c:Nat} {za zb zc:Wf} (hn0:n0≤w.heap.size) (hb:b<w.heap.size) (h4:w.cell? ⟨b,o+4,none⟩=some (.slice (some ⟨B,O,none⟩) 2 c)) (hs:size za+size zb+size zc≤99000)
  (hB':∀W,RowKit.Below w.heap.size w W→Calls Tryz.prog 191 #[.pointer (some ⟨R,0,none⟩),.pointer (some ⟨B,O+5,none⟩)] W (FormOut W.heap.size W zb))
  (hA:∀W,RowKit.Below w.heap.size w W→Calls Tryz.prog 191 #[.pointer (some ⟨R,0,none⟩),.pointer (some ⟨B,O,none⟩)] W (FormOut W.heap.size W za))
  (hC:∀W,RowKit.Below w.heap.size w W→Calls Tryz.prog 257 #[.pointer (some ⟨R,0,none⟩),.pointer (some ⟨b,o,none⟩)] W (FormOut W.heap.size W zc)):
  Calls Tryz.prog 190 #[.pointer (some ⟨R,0,none⟩),.pointer (some ⟨b,o,none⟩)] w (FormOut n0 w (.con true [zb,.con false [za,zc]])):=by
 have HA:=Lib.hid hA
 have HB:=Lib.hid hB'
 have HC:=Lib.hid hC
 have HSZ:=Lib.hid hs
 have HN0:=Lib.hid hn0
 clear hA hB' hC hs hn0
 go_enter Tryz.func190,Tryz.ntmps190
 go_upto_region 1 with fail
 have HR:=Lib.hid (Res0.start w)
 simp only[zero48] at HR
 generalize w.alloc (.cells #[.int .i64 0,.string ⟨#[]⟩,.int .i64 0,.int .i64 0,.slice none 0 0] 48)=w1 at*
 have HRD:Hid (Res0 w w1.drew):=Lib.hid (HR.out.below (below_drawn (RowKit.Below.refl _ _) 1) (Nat.le_succ _))
 have HK:Hid (∀W,RowKit.Below w.heap.size w W→W.cell? ⟨b,o+4,none⟩=some (.slice (some ⟨B,O,none⟩) 2 c)):=Lib.hid fun W h=>(h.cell (p:=⟨b,o+4,none⟩) hb).trans h4
 have e4:=HK.out _ HR.out.bel
 clear h4
 have hne1:¬b=w.heap.size:=by omega
 have hne2:¬w.heap.size=b:=by omega
 go_region_held3 (fun w'=>w'.cell? ⟨b,o+4,none⟩=some (.slice (some ⟨B,O,none⟩) 2 c)) (go_keep) (first
  |(go_at_call 256;have hx8:=HR8;clear hx8;refine(node256 (op:=5)).mono ?_;rintro e w9 ⟨rfl,hB5,hd5⟩;have HW9:=Lib.hid (And.intro hB5 hd5);have HR9:=Lib.hid ((HR8.out.below ((RowKit.Below.refl _ _).alloc (Nat.le_refl _) _) (Nat.le_refl _)).below hB5 hd5);have e9:=HK.out _ HR9.out.bel;obtain⟨r0,r1,r2,r3,r4,r5⟩:=HR9.out.cell;clear hB5 hd5)
  |(go_at_call 256;refine(node256 (op:=6)).mono ?_;rintro e w8 ⟨rfl,hB5,hd5⟩;have HW8:=Lib.hid (And.intro hB5 hd5);have HR8:=Lib.hid ((HR7.out.below ((RowKit.Below.refl _ _).alloc (Nat.le_refl _) _) (Nat.le_refl _)).below hB5 hd5);have e8:=HK.out _ HR8.out.bel;clear hB5 hd5)
  |(go_at_call 257;refine(HC.out _ HR6.out.bel).mono ?_;rintro e w7 ⟨⟨z0,z1,z2,z3,z4,z5,z6⟩,hx,hxt,rfl,hB5,hd5⟩;have HR7:=Lib.hid (HR6.out.below hB5 hd5);have HX7:=Lib.hid (And.intro (ElA.mono hx HR6.out.lt) (And.intro hxt (And.intro (ElA.keep HX6.out.1 hB5) (ElA.keep HX6.out.2.2 hB5))));have e7:=HK.out _ HR7.out.bel;clear hx hxt hB5 hd5;simp only[ElA.enc])
  |(go_at_call 191;refine(HA.out _ HR5.out.bel).mono ?_;rintro e w6 ⟨⟨y0,y1,y2,y3,y4,y5,y6⟩,hx,hxt,rfl,hB5,hd5⟩;have HR6:=Lib.hid (HR5.out.below hB5 hd5);have HX6:=Lib.hid (And.intro (ElA.mono hx HR5.out.lt) (And.intro hxt (ElA.keep HX5.out.1 hB5)));have e6:=HK.out _ HR6.out.bel;clear hx hxt hB5 hd5;simp only[ElA.enc])
  |(go_at_call 191;refine(HB.out _ HRD.out.bel).mono ?_;rintro e w5 ⟨⟨x0,x1,x2,x3,x4,x5,x6⟩,hx,hxt,rfl,hB5,hd5⟩;have HR5:=Lib.hid (HRD.out.below hB5 hd5);have HX5:=Lib.hid (And.intro (ElA.mono hx HRD.out.lt) hxt);have e5:=HK.out _ HR5.out.bel;clear hx hxt hB5 hd5;simp only[ElA.enc]))
 all_goals go_wp2_with fail
 all_goals
  have hb7:=World.alloc_heap_new w7 (.cells #[.int .i64 y0,.string y1,.int .i64 y2,.int .i64 y3,.slice y5 y4.len y6,.int .i64 z0,.string z1,.int .i64 z2,.int .i64 z3,.slice z5 z4.len z6] 48)
  have hB78:=((RowKit.Below.refl _ w7).alloc (Nat.le_refl _) (.cells #[.int .i64 y0,.string y1,.int .i64 y2,.int .i64 y3,.slice y5 y4.len y6,.int .i64 z0,.string z1,.int .i64 z2,.int .i64 z3,.slice z5 z4.len z6] 48))
  have hp1:=pair_ok (op:=6) (x:=⟨y0,y1,y2,y3,y4,y5,y6⟩) (y:=⟨z0,z1,z2,z3,z4,z5,z6⟩) (n:=w.heap.size+1) hb7 HR7.out.lt (ElA.keep HX7.out.2.2.1 hB78) (ElA.keep HX7.out.1 hB78) HX6.out.2.1 HX7.out.2.1 (by have:=HSZ.out;omega)
  have hp2:=ElA.keep hp1 HW8.out.1
  have hx8:=ElA.keep (ElA.keep HX7.out.2.2.2 hB78) HW8.out.1
  have hb8:=World.alloc_heap_new w8 (.cells #[.int .i64 x0,.string x1,.int .i64 x2,.int .i64 x3,.slice x5 x4.len x6,.int .i64 6,.string ⟨#[]⟩,.int .i64 0,.int .i64 0,.slice (some ⟨w7.heap.size,0,none⟩) 2 2] 48)
  have hB89:=((RowKit.Below.refl _ w8).alloc (Nat.le_refl _) (.cells #[.int .i64 x0,.string x1,.int .i64 x2,.int .i64 x3,.slice x5 x4.len x6,.int .i64 6,.string ⟨#[]⟩,.int .i64 0,.int .i64 0,.slice (some ⟨w7.heap.size,0,none⟩) 2 2] 48))
  have hl2:(trs [za,zc]).len=2:=trs_len _
  have hq:=pair_ok (op:=5) (x:=⟨x0,x1,x2,x3,x4,x5,x6⟩) (y:=⟨6,⟨#[]⟩,0,0,trs [za,zc],some ⟨w7.heap.size,0,none⟩,2⟩) (z2:=.con false [za,zc]) (n:=w.heap.size+1) (T:=48) (by simp only[ElA.enc,hl2];exact hb8) HR8.out.lt (ElA.keep hx8 hB89) (ElA.keep hp2 hB89) HX5.out.2 rfl (by have:=HSZ.out;simp only[size,sizes];omega)
  have hq9:=ElA.keep hq HW9.out.1
  refine bodyPost_ret (v:=.agg #[.int .i64 5,.string ⟨#[]⟩,.int .i64 0,.int .i64 0,.slice (some ⟨w8.heap.size,0,none⟩) 2 2]) (by
   simp[results,Tryz.f190,go_sem,r0,r1,r2,r3,r4]) rfl ?_
  have h:=HR9.out.fin (z:=.con true [zb,.con false [za,zc]]) HN0.out hq9 rfl
  have hl3:(trs [zb,.con false [za,zc]]).len=2:=trs_len _
  simp only[ElA.enc,hl3] at h
  exact h
set_option maxRecDepth 100000 in
set_option maxHeartbeats 40000000 in
theorem connected187 {B O c:Nat} {k:Bool} {zs:List Wf} (hn0:n0≤w.heap.size) (hb:b<w.heap.size) (h0:w.cell? ⟨b,o,none⟩=some (.int .i64 (kop k))) (h4:w.cell? ⟨b,o+4,none⟩=some (.slice (some ⟨B,O,none⟩) zs.length c)) (hs:sizes zs≤99000)
  (hC:∀j (hj:j<zs.length) W,RowKit.Below w.heap.size w W→Calls Tryz.prog 191 #[.pointer (some ⟨R,0,none⟩),.pointer (some ⟨B,O+j*5,none⟩)] W (FormOut W.heap.size W zs[j])):
  Calls Tryz.prog 187 #[.pointer (some ⟨R,0,none⟩),.pointer (some ⟨b,o,none⟩)] w (FormOut n0 w (.con k zs)):=by
 have HC:=Lib.hid hC
 have HN0:=Lib.hid hn0
 have HSZ:=Lib.hid hs
 have HZL:Hid (zs.length≤99000):=Lib.hid (by have h1:=nodes_trs zs;rw[sizes_trs] at h1;omega)
 have hzl:=HZL.out
 clear hC hn0 hs
 obtain⟨it,hit,hz,hsz,hby⟩:=info_parts Tryz.info48
 have hmk:∀W:World,(Instr.makeSlice 46 (.int .i64 (zs.length:Int)) (.int .i64 (zs.length:Int))).run Tryz.prog W=.ok (.slice (some ⟨W.heap.size,0,none⟩) zs.length zs.length) (W.alloc (.cells (madeCells zero48 (zs.length*5)) 48)):=fun W=>by
  have:=run_make (P:=Tryz.prog) W 46 48 it _ Tryz.underlying46 hit hz .i64 .i64 (zs.length:Int) (zs.length:Int) (by omega) (Int.le_refl _) (by rw[hby];omega) (by omega)
  rw[hsz] at this
  exact this
 have hms:(madeCells zero48 (zs.length*5)).size=zs.length*5:=size_madeCells _ _
 clear hit hz hsz hby
 go_enter Tryz.func187,Tryz.ntmps187
 go_upto_region 1 with fail
 have HR:=Lib.hid (Res0.start w)
 have HS1:Hid ((w.alloc (.cells zero48 48)).heap.size=w.heap.size+1):=Lib.hid (by simp)
 simp only[zero48] at HR HS1
 generalize w.alloc (.cells #[.int .i64 0,.string ⟨#[]⟩,.int .i64 0,.int .i64 0,.slice none 0 0] 48)=w1 at*
 have HE:=Lib.hid (And.intro h0 h4)
 have e4:=(HR.out.bel.cell (p:=⟨b,o+4,none⟩) hb).trans h4
 clear h0 h4
 go_upto_region 2 with fail
 have kR:Hid (RowA (w.heap.size+2) (w1.alloc (.cells (madeCells zero48 (zs.length*5)) 48)) (w.heap.size+1) zs.length []):=Lib.hid ⟨fun x hx=>(by cases hx),_,_,by have h:=World.alloc_heap_new w1 (.cells (madeCells zero48 (zs.length*5)) 48);rw[HS1.out] at h;exact h,hms,fun j hj=>(by simp at hj)⟩
 have HR2:Hid (Res0 w (w1.alloc (.cells (madeCells zero48 (zs.length*5)) 48))):=Lib.hid (HR.out.below ((RowKit.Below.refl _ _).alloc (Nat.le_refl _) _) (Nat.le_refl _))
 have HS2:Hid (w.heap.size+2≤(w1.alloc (.cells (madeCells zero48 (zs.length*5)) 48)).heap.size):=Lib.hid (by rw[World.size_alloc,HS1.out];exact Nat.le_refl _)
 rw[HS1.out]
 clear hmk hms e4
 generalize w1.alloc (.cells (madeCells zero48 (zs.length*5)) 48)=w2 at*
 have e4:=(HR2.out.bel.cell (p:=⟨b,o+4,none⟩) hb).trans HE.out.2
 go_wp2_with fail
 go_loopg [6,18] zs.length (fun g _ oi wr=>∃(i:Nat) (xs:List ElA),oi=.int .i64 i∧i≤zs.length∧Hid (zs.length - i≤g)∧Hid (xs.length=i)∧Hid (RowA (w.heap.size+2) wr (w.heap.size+1) zs.length xs)∧Hid (xs.map ElA.tree=(zs.take i).map tr)∧Hid (Res0 w wr∧w.heap.size+2≤wr.heap.size))
 case atStart=>exact⟨0,[],rfl,Nat.zero_le _,Lib.hid (by omega),Lib.hid rfl,kR,Lib.hid (by simp),Lib.hid ⟨HR2.out,HS2.out⟩⟩
 case round=>
  obtain⟨i,xs,rfl,hi,HG,HXL,HRW,HT,HW⟩:=hrel
  have d4:=(HW.out.1.bel.cell (p:=⟨b,o+4,none⟩) hb).trans HE.out.2
  by_cases hlt:i<zs.length
  ·have hz:(i:Int)<(zs.length:Int):=by omega
   have HCC:=Lib.hid (HC.out i hlt wr HW.out.1.bel)
   go_wp2_with fail
   refine HCC.out.mono ?_
   rintro e w3 ⟨x,hx,hxt,rfl,hB2,hd2⟩
   have HRW2:=Lib.hid (HRW.out.turn hB2)
   have HN:=Lib.hid (HRW2.out.push (ElA.mono hx HW.out.2) (by omega) (by rw[HXL.out];exact hlt))
   rw[HXL.out] at HN
   have hcf:=HRW2.out.at
   have HX2:=Lib.hid (And.intro hxt (And.intro hB2 hd2))
   clear hx hxt hB2 hd2 HCC
   obtain⟨op,nm,v,bd,args,aa,cc⟩:=x
   simp only[ElA.enc] at*
   obtain⟨z0,hz0⟩:=Option.isSome_iff_exists.1 (hcf (i*5) (by omega)).1
   obtain⟨z1,hz1⟩:=Option.isSome_iff_exists.1 (hcf (i*5+1) (by omega)).1
   obtain⟨z2,hz2⟩:=Option.isSome_iff_exists.1 (hcf (i*5+2) (by omega)).1
   obtain⟨z3,hz3⟩:=Option.isSome_iff_exists.1 (hcf (i*5+3) (by omega)).1
   obtain⟨z4,hz4⟩:=Option.isSome_iff_exists.1 (hcf (i*5+4) (by omega)).1
   have g0:=(hcf (i*5) (by omega)).2
   have g1:=(hcf (i*5+1) (by omega)).2
   have g2:=(hcf (i*5+2) (by omega)).2
   have g3:=(hcf (i*5+3) (by omega)).2
   have g4:=(hcf (i*5+4) (by omega)).2
   clear hcf d4
   go_wp2_with fail
   go_roundg (gk - 1)
   case measure=>have:=HG.out;omega
   case rel=>
    have hR3:=HW.out.1.below HX2.out.2.1 HX2.out.2.2
    refine⟨i+1,xs++[⟨op,nm,v,bd,args,aa,cc⟩],by go_num,by omega,Lib.hid (by have:=HG.out;omega),Lib.hid (by simp[HXL.out]),Lib.hid (by have h:=HN.out;exact h),Lib.hid ?_,Lib.hid ⟨⟨?_,?_,?_⟩,?_⟩⟩
    ·rw[List.map_append,HT.out,List.take_succ_eq_append_getElem hlt,List.map_append]
     simp[HX2.out.1]
    ·have hne:w.heap.size≠w.heap.size+1:=by omega
     simp only[heap_setCell_other _ ⟨w.heap.size+1,_,none⟩ _ _ hne]
     exact hR3.res
    ·exact(((((hR3.bel).setCell (Nat.le_succ _) _).setCell (Nat.le_succ _) _).setCell (Nat.le_succ _) _).setCell (Nat.le_succ _) _).setCell (Nat.le_succ _) _
    ·exact hR3.drawn
    ·have:=HX2.out.2.1.size
     have:=HW.out.2
     simp
     omega
  ·have hz:¬(i:Int)<(zs.length:Int):=by omega
   have hiL:i=zs.length:=by omega
   subst hiL
   have d0:=(HW.out.1.bel.cell (p:=⟨b,o,none⟩) hb).trans HE.out.1
   obtain⟨q1,cs,T,q2,q3,q4⟩:=HRW.out
   have ht:=HT.out
   rw[List.take_length] at ht
   obtain⟨f1,f2⟩:=RowA.forest (B:=w.heap.size+1) xs zs 0 q1 ht (fun j hj c v hv=>by
    have hc5:c<5:=by have:=(List.getElem?_eq_some_iff.1 hv).1;exact this
    have:=q4 j hj c hc5
    rw[hv] at this
    rw[Nat.zero_add]
    simp[World.cell?,q2,this])
   have hlen:(trs zs).len=zs.length:=trs_len _
   have HOK:Hid (ElA.ok (w.heap.size+1) wr ⟨kop k,⟨#[]⟩,0,0,trs zs,some ⟨w.heap.size+1,0,none⟩,zs.length⟩):=Lib.hid (by
    refine⟨fun _=>⟨w.heap.size+1,0,rfl,HW.out.2,f1⟩,fun p o e _=>?_,(show(⟨#[]⟩:ByteArray).size≤9223372036854775807 by decide),?_,?_,?_⟩
    ·have e:some (⟨w.heap.size+1,0,none⟩:Addr)=some ⟨p,o,none⟩:=e
     simp only[Option.some.injEq,Addr.mk.injEq,and_true] at e
     obtain⟨rfl,rfl⟩:=e
     exact⟨⟨Nat.le_refl _,cs,T,q2⟩,PAt.mono (Nat.le_succ _) f2⟩
    ·show(trs zs).len≤_
     rw[hlen];omega
    ·show(trs zs).len≤_
     rw[hlen];exact Nat.le_refl _
    ·show(trs zs).nodes≤_
     rw[sizes_trs];have:=HSZ.out;omega)
   clear q1 q2 q3 q4 f1 f2 ht
   go_wp2_with fail
   refine node256.mono ?_
   rintro e w4 ⟨rfl,hB4,hd4⟩
   have HR4:=Lib.hid (HW.out.1.below hB4 hd4)
   have HO4:=Lib.hid (ElA.keep HOK.out hB4)
   obtain⟨r0,r1,r2,r3,r4,r5⟩:=HR4.out.cell
   clear hB4 hd4 d0 d4
   go_wp2_with fail
   refine bodyPost_ret (v:=.agg #[.int .i64 (kop k),.string ⟨#[]⟩,.int .i64 0,.int .i64 0,.slice (some ⟨w.heap.size+1,0,none⟩) zs.length zs.length]) (by
    simp[results,Tryz.f187,go_sem,r0,r1,r2,r3,r4]) rfl ?_
   have h:=HR4.out.fin (z:=.con k zs) HN0.out HO4.out (by cases k<;>rfl)
   simp only[ElA.enc,hlen] at h
   exact h
end
end
section
open Go.RowKit Go.Sort
theorem raw_small (ρ:ByteArray→Int→Bool) {z:Wf} (h:size z≤400):size (raw ρ z)≤45000:=by
 have h1:=size_raw ρ z
 have h2:=sq_mono h
 omega
theorem raw_way {l:List Sg} {x:Int} {z:Wf} (hs:size z≤400) (ho:ok z=true) (hg:gdp (Kn l) z=true) (hp:past z=false) {w:World} {R b o:Nat} {r:Fs} (hR:Rdr w R l x) (hb:b<w.heap.size) (hF:FAt w (trC z r) b o)
  (ih:∀y∈kids z,∀(W:World) (b o:Nat) (r:Fs),Rdr W R l x→b<W.heap.size→FAt W (trC y r) b o→Calls Tryz.prog 191 #[.pointer (some ⟨R,0,none⟩),.pointer (some ⟨b,o,none⟩)] W (FormOut W.heap.size W (raw (rho l x) y))):
  ∃k i,(k=187∨k=188∨k=189∨k=190)∧0≤opW z∧opW z≤17∧Instr.findNow (.int .i64) (.int .i64 (opW z)) (rawE R).toList 0=some (some (i,fnV k R))∧
   ∀W,RowKit.Below w.heap.size w W→Calls Tryz.prog k #[.pointer (some ⟨R,0,none⟩),.pointer (some ⟨b,o,none⟩)] W (FormOut W.heap.size W (raw (rho l x) z)):=by
 have hF':=hF
 rw[trC_eq] at hF'
 obtain⟨c0, -, -, -, -, -, -, -⟩:=hF'
 have hcell:∀W,RowKit.Below w.heap.size w W→∀j v,w.cell? ⟨b,j,none⟩=some v→W.cell? ⟨b,j,none⟩=some v:=fun W h j v e=>(h.cell (p:=⟨b,j,none⟩) hb).trans e
 have hag:∀(y:Wf) (B O:Nat) (s:Fs),B<w.heap.size→FAt w (trC y s) B O→size y≤400→ok y=true→gdp (Kn l) y=true→∀W,RowKit.Below w.heap.size w W→Calls Tryz.prog 257 #[.pointer (some ⟨R,0,none⟩),.pointer (some ⟨B,O,none⟩)] W (FormOut W.heap.size W (aged (rho l x) y)):=
  fun y B O s h1 h2 h3 h4 h5 W h=>aged257 l x _ y (Nat.lt_succ_self _) (by omega) h4 h5 W.heap.size W R B O s (Nat.le_refl _) (hR.keep h) (Nat.lt_of_lt_of_le h1 h.size) (FAt.keep h h1 h2)
 have hrw:∀(y:Wf) (B O:Nat) (s:Fs),y∈kids z→B<w.heap.size→FAt w (trC y s) B O→∀W,RowKit.Below w.heap.size w W→Calls Tryz.prog 191 #[.pointer (some ⟨R,0,none⟩),.pointer (some ⟨B,O,none⟩)] W (FormOut W.heap.size W (raw (rho l x) y)):=
  fun y B O s h0 h1 h2 W h=>ih y h0 W B O s (hR.keep h) (Nat.lt_of_lt_of_le h1 h.size) (FAt.keep h h1 h2)
 cases z with
 |con k L=>
  simp only[past] at hp
  have hg2:=hg
  simp only[gdp,Bool.and_eq_true,decide_eq_true_eq] at hg2
  obtain⟨B,O,c,k4, -, -,kB,kF⟩:=FAt_kids hF (by intro e;have e:L=[]:=e;rw[e] at hg2;simp at hg2)
  have hraw:raw (rho l x) (.con k L)=.con k (L.map (raw (rho l x))):=by rw[raw,if_neg (by simp[hp]),raws_map]
  have hsz:=raw_small (rho l x) hs
  rw[hraw] at hsz ⊢
  simp only[size] at hsz
  have hC:∀W,RowKit.Below w.heap.size w W→Calls Tryz.prog 187 #[.pointer (some ⟨R,0,none⟩),.pointer (some ⟨b,o,none⟩)] W (FormOut W.heap.size W (.con k (L.map (raw (rho l x))))):=fun W h=>
   connected187 (Nat.le_refl _) (Nat.lt_of_lt_of_le hb h.size) (hcell W h _ _ c0) (by rw[List.length_map];exact hcell W h _ _ k4) (by omega) fun j hj W' h'=>by
    have hj':j<L.length:=by simpa using hj
    obtain⟨s,kF⟩:=kF j hj'
    rw[List.getElem_map]
    exact hrw L[j] B (O+j*5) s (List.getElem_mem hj') kB kF W' (h.trans (h'.mono h.size))
  cases k with
  |true=>exact⟨187,0,.inl rfl,(show(0:Int)≤5 by decide),(show(5:Int)≤17 by decide),rfl,hC⟩
  |false=>exact⟨187,1,.inl rfl,(show(0:Int)≤6 by decide),(show(6:Int)≤17 by decide),rfl,hC⟩
 |next a=>
  obtain⟨B,O,c,k4, -, -,kB,kF⟩:=FAt_kids hF (by simp[kids])
  obtain⟨s,kF⟩:=kF 0 (show 0<1 by omega)
  refine⟨188,2,.inr (.inl rfl),(show(0:Int)≤8 by decide),(show(8:Int)≤17 by decide),rfl,fun W h=>?_⟩
  rw[raw]
  exact next188 (Nat.le_refl _) (Nat.lt_of_lt_of_le hb h.size) (hcell W h _ _ k4) fun W' h'=>hag a B O s kB (by simpa[kids] using kF) (by simp only[size] at hs;omega) ho hg W' (h.trans (h'.mono h.size))
 |unt p q=>
  have ho2:=ho
  have hg2:=hg
  simp only[ok,gdp,Bool.and_eq_true] at ho2 hg2
  obtain⟨B,O,c,k4, -, -,kB,kF⟩:=FAt_kids hF (by simp[kids])
  obtain⟨s,kF0⟩:=kF 0 (show 0<2 by omega)
  obtain⟨s',kF1⟩:=kF 1 (show 1<2 by omega)
  have hsz:=raw_small (rho l x) hs
  rw[raw] at hsz
  simp only[size,sizes] at hsz
  refine⟨189,3,.inr (.inr (.inl rfl)),(show(0:Int)≤9 by decide),(show(9:Int)≤17 by decide),rfl,fun W h=>?_⟩
  rw[raw]
  exact until189 (Nat.le_refl _) (Nat.lt_of_lt_of_le hb h.size) (hcell W h _ _ k4) (by omega)
   (fun W' h'=>hrw q B (O+5) s' (by simp[kids]) kB (by simpa[kids] using kF1) W' (h.trans (h'.mono h.size)))
   (fun W' h'=>hrw p B O s (by simp[kids]) kB (by simpa[kids] using kF0) W' (h.trans (h'.mono h.size)))
   (fun W' h'=>hag (.unt p q) b o r hb hF hs ho hg W' (h.trans (h'.mono h.size)))
 |rel p q=>
  have ho2:=ho
  have hg2:=hg
  simp only[ok,gdp,Bool.and_eq_true] at ho2 hg2
  obtain⟨B,O,c,k4, -, -,kB,kF⟩:=FAt_kids hF (by simp[kids])
  obtain⟨s,kF0⟩:=kF 0 (show 0<2 by omega)
  obtain⟨s',kF1⟩:=kF 1 (show 1<2 by omega)
  have hsz:=raw_small (rho l x) hs
  rw[raw] at hsz
  simp only[size,sizes] at hsz
  refine⟨190,4,.inr (.inr (.inr rfl)),(show(0:Int)≤10 by decide),(show(10:Int)≤17 by decide),rfl,fun W h=>?_⟩
  rw[raw]
  exact release190 (Nat.le_refl _) (Nat.lt_of_lt_of_le hb h.size) (hcell W h _ _ k4) (by omega)
   (fun W' h'=>hrw q B (O+5) s' (by simp[kids]) kB (by simpa[kids] using kF1) W' (h.trans (h'.mono h.size)))
   (fun W' h'=>hrw p B O s (by simp[kids]) kB (by simpa[kids] using kF0) W' (h.trans (h'.mono h.size)))
   (fun W' h'=>hag (.rel p q) b o r hb hF hs ho hg W' (h.trans (h'.mono h.size)))
 |yes v a=>simp only[ok,Bool.and_eq_true] at ho;simp only[past] at hp;rw[ho.1] at hp;cases hp
 |snc k v p q=>simp only[ok,Bool.and_eq_true] at ho;simp only[past,ho.1.1.1,ho.1.1.2] at hp;cases hp
 |_=>simp[past] at hp
set_option maxRecDepth 100000 in
set_option maxHeartbeats 40000000 in
theorem raw191 (l:List Sg) (x:Int):∀(N:Nat) (z:Wf),size z<N→size z≤400→ok z=true→gdp (Kn l) z=true→∀(n0:Nat) (w:World) (R b o:Nat) (r:Fs),n0≤w.heap.size→Rdr w R l x→b<w.heap.size→FAt w (trC z r) b o→
  Calls Tryz.prog 191 #[.pointer (some ⟨R,0,none⟩),.pointer (some ⟨b,o,none⟩)] w (FormOut n0 w (raw (rho l x) z)):=by
 intro N
 induction N with
 |zero=>exact fun _ h=>absurd h (Nat.not_lt_zero _)
 |succ N ih=>
  intro z hN hs ho hg n0 w R b o r hn0 hR hb hF
  have HW:Hid (past z=false→∃k i,(k=187∨k=188∨k=189∨k=190)∧0≤opW z∧opW z≤17∧Instr.findNow (.int .i64) (.int .i64 (opW z)) (rawE R).toList 0=some (some (i,fnV k R))∧
   ∀W,RowKit.Below w.heap.size w W→Calls Tryz.prog k #[.pointer (some ⟨R,0,none⟩),.pointer (some ⟨b,o,none⟩)] W (FormOut W.heap.size W (raw (rho l x) z))):=Lib.hid fun hp=>
   raw_way hs ho hg hp hR hb hF fun y hy W b o r h1 h2 h3=>by
    have:=kids_size hy
    exact ih y (by omega) (by omega) (ok_kid ho hy) (gdp_kid hg hy) W.heap.size W R b o r (Nat.le_refl _) h1 h2 h3
  have HP:Hid (∀W,RowKit.Below w.heap.size w W→Calls Tryz.prog 258 #[.pointer (some ⟨b,o,none⟩)] W (Tells (past z) W)):=Lib.hid fun W h=>past258 _ z (Nat.lt_succ_self _) W b o r (Nat.lt_of_lt_of_le hb h.size) (FAt.keep h hb hF)
  have HT:Hid (past z=true→∀W,RowKit.Below w.heap.size w W→Calls Tryz.prog 255 #[.pointer (some ⟨R,0,none⟩),.pointer (some ⟨b,o,none⟩)] W (Tells (now (rho l x) z) W)):=Lib.hid fun hp W h=>(asks_any l x _ z (Nat.lt_succ_self _) hp hg W R b o r (hR.keep h) (Nat.lt_of_lt_of_le hb h.size) (FAt.keep h hb hF)).now
  have HRP:Hid (past z=true→raw (rho l x) z=cst (now (rho l x) z)):=Lib.hid (raw_past (rho l x) z)
  have HN0:=Lib.hid hn0
  have hF':=hF
  rw[trC_eq] at hF'
  obtain⟨c0, -, -, -, -, -, -, -⟩:=hF'
  obtain⟨R0, -, -, -,⟨M,m1,m2⟩⟩:=hR
  have HE:=Lib.hid (And.intro c0 (And.intro m1 (And.intro m2 (And.intro hb R0))))
  clear ih hN hs ho hg hn0 hF c0 m1 m2
  go_enter Tryz.func191,Tryz.ntmps191
  go_upto_region 1 with fail
  have HR:=Lib.hid (Res0.start w)
  simp only[zero48] at HR
  generalize w.alloc (.cells #[.int .i64 0,.string ⟨#[]⟩,.int .i64 0,.int .i64 0,.slice none 0 0] 48)=w1 at*
  go_wp2_with fail
  refine(HP.out _ HR.out.bel).mono ?_
  rintro e w2 ⟨rfl,m,rfl⟩
  have HR2:Hid (Res0 w (w1.drewN m)):=Lib.hid (HR.out.below (below_drawn (RowKit.Below.refl _ _) m) (Nat.le_add_right _ _))
  generalize w1.drewN m=w2 at*
  cases hp:past z with
  |true=>
   have HT2:=Lib.hid (HT.out hp _ HR2.out.bel)
   have HRZ:=Lib.hid (HRP.out hp)
   clear hp HT HW HP HRP
   go_wp2_with fail
   refine HT2.out.mono ?_
   rintro e w3 ⟨rfl,m',rfl⟩
   have HR3:Hid (Res0 w (w2.drewN m')):=Lib.hid (HR2.out.below (below_drawn (RowKit.Below.refl _ _) m') (Nat.le_add_right _ _))
   generalize w2.drewN m'=w3 at*
   have hemp:(⟨#[]⟩:ByteArray).size≤9223372036854775807:=by decide
   cases hn:now (rho l x) z with
   |true=>
    rw[hn] at HRZ
    go_wp2_with fail
    refine node256.mono ?_
    rintro e w4 ⟨rfl,hB4,hd4⟩
    have HR4:=Lib.hid (HR3.out.below hB4 hd4)
    obtain⟨r0,r1,r2,r3,r4,r5⟩:=HR4.out.cell
    clear hB4 hd4
    go_wp2_with fail
    refine bodyPost_ret (v:=.agg #[.int .i64 1,.string ⟨#[]⟩,.int .i64 0,.int .i64 0,.slice none 0 0]) (by
     simp[results,Tryz.f191,go_sem,r0,r1,r2,r3,r4]) rfl ?_
    exact HR4.out.fin (z:=raw (rho l x) z) (x:=⟨1,⟨#[]⟩,0,0,.nil,none,0⟩) HN0.out ⟨fun h=>absurd rfl h,fun _ _ e=>(by cases e),hemp,Nat.zero_le _,Nat.le_refl _,Nat.zero_le _⟩ (by rw[HRZ.out];rfl)
   |false=>
    rw[hn] at HRZ
    go_wp2_with fail
    refine node256.mono ?_
    rintro e w4 ⟨rfl,hB4,hd4⟩
    have HR4:=Lib.hid (HR3.out.below hB4 hd4)
    obtain⟨r0,r1,r2,r3,r4,r5⟩:=HR4.out.cell
    clear hB4 hd4
    go_wp2_with fail
    refine bodyPost_ret (v:=.agg #[.int .i64 2,.string ⟨#[]⟩,.int .i64 0,.int .i64 0,.slice none 0 0]) (by
     simp[results,Tryz.f191,go_sem,r0,r1,r2,r3,r4]) rfl ?_
    exact HR4.out.fin (z:=raw (rho l x) z) (x:=⟨2,⟨#[]⟩,0,0,.nil,none,0⟩) HN0.out ⟨fun h=>absurd rfl h,fun _ _ e=>(by cases e),hemp,Nat.zero_le _,Nat.le_refl _,Nat.zero_le _⟩ (by rw[HRZ.out];rfl)
  |false=>
   obtain⟨k,i,hk,p0,p1,hf,hm⟩:=HW.out hp
   have HM:=Lib.hid hm
   have e0:=(HR2.out.bel.cell (p:=⟨b,o,none⟩) hb).trans HE.out.1
   have e3:=(HR2.out.bel.cell (p:=⟨R,3,none⟩) R0).trans HE.out.2.1
   have hM:=(HR2.out.bel.block M (Array.getElem?_eq_some_iff.1 HE.out.2.2.1).1).trans HE.out.2.2.1
   have hl:∀n,(Instr.lookup 245 (.map (some M)) (.int .i64 (opW z)) false).run Tryz.prog (w2.drewN n)=.ok (fnV k R) (w2.drewN n):=fun n=>look_at (elem:=183) (by kernel_rfl) (show(w2.drewN n).heap[M]? =_ from hM) p0 (by omega) hf
   have HRD:Hid (Res0 w w2.drew):=Lib.hid (HR2.out.below (below_drawn (RowKit.Below.refl _ _) 1) (Nat.le_succ _))
   have hne1:¬b=w.heap.size:=by omega
   have hne2:¬w.heap.size=b:=by omega
   have hne3:¬R=w.heap.size:=by omega
   have hne4:¬w.heap.size=R:=by omega
   have HKB:Hid (∀W,RowKit.Below w.heap.size w W→W.cell? ⟨R,3,none⟩=some (.map (some M))∧W.cell? ⟨b,o,none⟩=some (.int .i64 (opW z))):=Lib.hid fun W h=>⟨(h.cell (p:=⟨R,3,none⟩) R0).trans HE.out.2.1,(h.cell (p:=⟨b,o,none⟩) hb).trans HE.out.1⟩
   clear hf hp HW HT HP HRP hm hM
   unfold fnV at hl
   have hl1:(Instr.lookup 245 (.map (some M)) (.int .i64 (opW z)) false).run Tryz.prog w2.drew=.ok (.func (.func k) #[.pointer (some ⟨R,0,none⟩)] #[]) w2.drew:=hl 1
   clear hl
   rcases hk with rfl|rfl|rfl|rfl
   ·go_upto_region 2 with fail
    go_region_held3 (fun w'=>w'.cell? ⟨R,3,none⟩=some (.map (some M))∧w'.cell? ⟨b,o,none⟩=some (.int .i64 (opW z))) (go_keep) (first
     |(go_at_call 187;refine(HM.out _ HRD.out.bel).mono ?_;rintro e w3 ⟨⟨y0,y1,y2,y3,y4,y5,y6⟩,hy,hyt,rfl,hB3,hd3⟩;have HR3:=Lib.hid (HRD.out.below hB3 hd3);have HY:=Lib.hid (And.intro (ElA.mono hy HRD.out.lt) hyt);obtain⟨r0,r1,r2,r3,r4,r5⟩:=HR3.out.cell;obtain⟨u3,u0⟩:=HKB.out _ HR3.out.bel;clear hy hyt hB3 hd3;simp only[ElA.enc]))
    all_goals go_wp2_with fail
    all_goals
     refine bodyPost_ret (v:=.agg #[.int .i64 y0,.string y1,.int .i64 y2,.int .i64 y3,.slice y5 y4.len y6]) (by
      simp[results,Tryz.f191,go_sem,r0,r1,r2,r3,r4]) rfl ?_
     have h:=HR3.out.fin HN0.out HY.out.1 HY.out.2
     simp only[ElA.enc] at h
     exact h
   ·go_upto_region 2 with fail
    go_region_held3 (fun w'=>w'.cell? ⟨R,3,none⟩=some (.map (some M))∧w'.cell? ⟨b,o,none⟩=some (.int .i64 (opW z))) (go_keep) (first
     |(go_at_call 188;refine(HM.out _ HRD.out.bel).mono ?_;rintro e w3 ⟨⟨y0,y1,y2,y3,y4,y5,y6⟩,hy,hyt,rfl,hB3,hd3⟩;have HR3:=Lib.hid (HRD.out.below hB3 hd3);have HY:=Lib.hid (And.intro (ElA.mono hy HRD.out.lt) hyt);obtain⟨r0,r1,r2,r3,r4,r5⟩:=HR3.out.cell;obtain⟨u3,u0⟩:=HKB.out _ HR3.out.bel;clear hy hyt hB3 hd3;simp only[ElA.enc]))
    all_goals go_wp2_with fail
    all_goals
     refine bodyPost_ret (v:=.agg #[.int .i64 y0,.string y1,.int .i64 y2,.int .i64 y3,.slice y5 y4.len y6]) (by
      simp[results,Tryz.f191,go_sem,r0,r1,r2,r3,r4]) rfl ?_
     have h:=HR3.out.fin HN0.out HY.out.1 HY.out.2
     simp only[ElA.enc] at h
     exact h
   ·go_upto_region 2 with fail
    go_region_held3 (fun w'=>w'.cell? ⟨R,3,none⟩=some (.map (some M))∧w'.cell? ⟨b,o,none⟩=some (.int .i64 (opW z))) (go_keep) (first
     |(go_at_call 189;refine(HM.out _ HRD.out.bel).mono ?_;rintro e w3 ⟨⟨y0,y1,y2,y3,y4,y5,y6⟩,hy,hyt,rfl,hB3,hd3⟩;have HR3:=Lib.hid (HRD.out.below hB3 hd3);have HY:=Lib.hid (And.intro (ElA.mono hy HRD.out.lt) hyt);obtain⟨r0,r1,r2,r3,r4,r5⟩:=HR3.out.cell;obtain⟨u3,u0⟩:=HKB.out _ HR3.out.bel;clear hy hyt hB3 hd3;simp only[ElA.enc]))
    all_goals go_wp2_with fail
    all_goals
     refine bodyPost_ret (v:=.agg #[.int .i64 y0,.string y1,.int .i64 y2,.int .i64 y3,.slice y5 y4.len y6]) (by
      simp[results,Tryz.f191,go_sem,r0,r1,r2,r3,r4]) rfl ?_
     have h:=HR3.out.fin HN0.out HY.out.1 HY.out.2
     simp only[ElA.enc] at h
     exact h
   ·go_upto_region 2 with fail
    go_region_held3 (fun w'=>w'.cell? ⟨R,3,none⟩=some (.map (some M))∧w'.cell? ⟨b,o,none⟩=some (.int .i64 (opW z))) (go_keep) (first
     |(go_at_call 190;refine(HM.out _ HRD.out.bel).mono ?_;rintro e w3 ⟨⟨y0,y1,y2,y3,y4,y5,y6⟩,hy,hyt,rfl,hB3,hd3⟩;have HR3:=Lib.hid (HRD.out.below hB3 hd3);have HY:=Lib.hid (And.intro (ElA.mono hy HRD.out.lt) hyt);obtain⟨r0,r1,r2,r3,r4,r5⟩:=HR3.out.cell;obtain⟨u3,u0⟩:=HKB.out _ HR3.out.bel;clear hy hyt hB3 hd3;simp only[ElA.enc]))
    all_goals go_wp2_with fail
    all_goals
     refine bodyPost_ret (v:=.agg #[.int .i64 y0,.string y1,.int .i64 y2,.int .i64 y3,.slice y5 y4.len y6]) (by
      simp[results,Tryz.f191,go_sem,r0,r1,r2,r3,r4]) rfl ?_
     have h:=HR3.out.fin HN0.out HY.out.1 HY.out.2
     simp only[ElA.enc] at h
     exact h
end
section
open Go.RowKit Go.Sort
variable {n0:Nat}
structure Rd (w:World) (x:ElA):Prop where
 args:FArgs w x.a x.args
 nm:x.nm.size≤9223372036854775807
 len:x.args.len≤9223372036854775807
 cap:x.args.len≤x.c
theorem Rd.keep {w w':World} {x:ElA} (h:Rd w x) (hB:RowKit.Below w.heap.size w w'):Rd w' x:=⟨h.args.keep hB,h.nm,h.len,h.cap⟩
theorem Rd.of_ok {n:Nat} {w:World} {x:ElA} (h:x.ok n w):Rd w x:=⟨h.1,h.2.2.1,h.2.2.2.1,h.2.2.2.2.1⟩
theorem FAt.rd {w:World} {f:Fs} {b o:Nat} {op v bd:Int} {nm:ByteArray} {args rest:Fs} (h:FAt w f b o) (e:f=.cons op nm v bd args rest):
  ∃a c,Rd w ⟨op,nm,v,bd,args,a,c⟩∧w.cell? ⟨b,o,none⟩=some (.int .i64 op)∧w.cell? ⟨b,o+1,none⟩=some (.string nm)∧w.cell? ⟨b,o+2,none⟩=some (.int .i64 v)∧w.cell? ⟨b,o+3,none⟩=some (.int .i64 bd)∧w.cell? ⟨b,o+4,none⟩=some (.slice a args.len c):=by
 subst e
 obtain⟨c0,c1,c2,c3,c4,c5,⟨a,c,c6,cc,c7⟩, -⟩:=h
 exact⟨a,c,⟨c7,c2,c5,cc⟩,c0,c1,c3,c4,c6⟩
theorem Rd.at {w W:World} {x:ElA} (h:Rd W x) {B:Nat} {T:TypeId} (hB:W.heap[B]? =some (.cells x.enc.toArray T (0,0))):FAt W (.cons x.op x.nm x.v x.bd x.args .nil) B 0:=by
 have hc:∀j,W.cell? ⟨B,j,none⟩=x.enc.toArray[j]? :=fun j=>by simp[World.cell?,hB]
 exact⟨hc 0,hc 1,h.nm,hc 2,hc 3,h.len,⟨x.a,x.c,hc 4,h.cap,h.args⟩,trivial⟩
def TOut (n0:Nat) (w:World) (t:Fs) (e:Ending) (w':World):Prop:=
 ∃x:ElA,x.ok n0 w'∧x.tree=t∧e=.returned (.agg x.enc.toArray)∧RowKit.Below w.heap.size w w'
def tz:Fs:=.cons 0 ⟨#[]⟩ 0 0 .nil .nil
theorem zero_ok (n:Nat) (w:World):ElA.ok n w ⟨0,⟨#[]⟩,0,0,.nil,none,0⟩:=⟨fun h=>absurd rfl h,fun _ _ e=>(by cases e),(show(⟨#[]⟩:ByteArray).size≤9223372036854775807 by decide),Nat.zero_le _,Nat.le_refl _,Nat.zero_le _⟩
section
variable {w:World} {b o:Nat} {op v bd:Int} {nm:ByteArray} {args rest:Fs}
theorem fit_dep {s d:Int} (h:(fitN args s d).1=true) (hd:d≤100):depF args<5000:=by
 have:=(fitN_true.1 h).2
 omega
set_option maxRecDepth 100000 in
set_option maxHeartbeats 4000000 in
theorem loose127 (hF:FAt w (.cons op nm v bd args rest) b o) (hb:b<w.heap.size) (hFo:Forms w) (hK:Keys w):Calls Tryz.prog 127 #[.pointer (some ⟨b,o,none⟩)] w fun e w'=>e=.returned (.bool (looseB op nm v bd args))∧RowKit.Below w.heap.size w w':=by
 have HW:=Lib.hid (within101 (s:=400) (d:=60) hF hb (by decide) (by decide) (by decide) (by decide))
 have HB:Hid ((fitN args 400 60).1=true→∀W,RowKit.Below w.heap.size w W→Calls Tryz.prog 102 #[.pointer (some ⟨b,o,none⟩)] W fun e w'=>e=.returned (.bool (bareB op nm v bd args))∧RowKit.Below W.heap.size W w'):=Lib.hid fun h W hB=>callsIn_wide.1 (bare102 (FAt.keep hB hb hF) (Nat.lt_of_lt_of_le hb hB.size) (hFo.keep hB) (hK.keep hB) (fit_dep h (by decide)))
 have HL:Hid (looseB op nm v bd args=((fitN args 400 60).1&&bareB op nm v bd args)):=Lib.hid rfl
 clear hF hFo hK
 generalize looseB op nm v bd args=ans at*
 generalize bareB op nm v bd args=ba at*
 go_enter Tryz.func127,Tryz.ntmps127
 go_wp2_with fail
 refine HW.out.mono ?_
 rintro e w1 ⟨rfl,hB1⟩
 have HB1:=Lib.hid hB1
 clear hB1
 cases hf:(fitN args 400 60).1 with
 |true=>
  have HC:=Lib.hid (HB.out hf w1 HB1.out)
  have HA:Hid (ans=ba):=Lib.hid (by rw[HL.out,hf];rfl)
  clear HB HW HL hf
  go_wp2_with fail
  refine HC.out.mono ?_
  rintro e w2 ⟨rfl,hB2⟩
  have HB2:=Lib.hid (HB1.out.trans (hB2.mono HB1.out.size))
  clear hB2
  go_wp2_with fail
  go_ret
  exact⟨by rw[HA.out];rfl,HB2.out⟩
 |false=>
  have HA:Hid (ans=false):=Lib.hid (by rw[HL.out,hf];rfl)
  clear HB HW HL hf
  go_wp2_with fail
  go_ret
  exact⟨by rw[HA.out];rfl,HB1.out⟩
end
set_option maxRecDepth 100000 in
set_option maxHeartbeats 4000000 in
theorem kernel40 {w:World} {x:ElA} (hx:Rd w x) (hFo:Forms w) (hK:Keys w):Calls Tryz.prog 40 #[.agg x.enc.toArray] w fun e w'=>e=.returned (.bool (kernB x.op x.nm x.v x.bd x.args))∧RowKit.Below w.heap.size w w':=by
 have hA0:RowKit.Below w.heap.size w (w.alloc (.cells x.enc.toArray 48)):=(RowKit.Below.refl _ _).alloc (Nat.le_refl _) _
 have hF:=(hx.keep hA0).at (w:=w) (World.alloc_heap_new w _)
 have hb:w.heap.size<(w.alloc (.cells x.enc.toArray 48)).heap.size:=by simp
 have HW:=Lib.hid (within101 (s:=60) (d:=20) hF hb (by decide) (by decide) (by decide) (by decide))
 have HA0:=Lib.hid hA0
 have HB:Hid ((fitN x.args 60 20).1=true→∀W,RowKit.Below (w.alloc (.cells x.enc.toArray 48)).heap.size (w.alloc (.cells x.enc.toArray 48)) W→Calls Tryz.prog 102 #[.pointer (some ⟨w.heap.size,0,none⟩)] W fun e w'=>e=.returned (.bool (bareB x.op x.nm x.v x.bd x.args))∧RowKit.Below W.heap.size W w'):=Lib.hid fun h W hB=>callsIn_wide.1 (bare102 (FAt.keep hB hb hF) (Nat.lt_of_lt_of_le hb hB.size) ((hFo.keep hA0).keep hB) ((hK.keep hA0).keep hB) (fit_dep h (by decide)))
 have HL:Hid (kernB x.op x.nm x.v x.bd x.args=((fitN x.args 60 20).1&&bareB x.op x.nm x.v x.bd x.args)):=Lib.hid rfl
 clear hF hFo hK hx hA0
 generalize kernB x.op x.nm x.v x.bd x.args=ans at*
 generalize bareB x.op x.nm x.v x.bd x.args=ba at*
 generalize (fitN x.args 60 20).1=fi at*
 obtain⟨op,nm,v,bd,args,a,c⟩:=x
 simp only[ElA.enc] at*
 go_enter Tryz.func40,Tryz.ntmps40
 go_upto_region 1 with fail
 generalize w.alloc (.cells #[.int .i64 op,.string nm,.int .i64 v,.int .i64 bd,.slice a args.len c] 48)=w0 at*
 go_wp2_with fail
 refine HW.out.mono ?_
 rintro e w1 ⟨rfl,hB1⟩
 have HB1:=Lib.hid hB1
 clear hB1
 cases fi with
 |true=>
  have HC:=Lib.hid (HB.out rfl w1 HB1.out)
  have HA:Hid (ans=ba):=Lib.hid (by rw[HL.out];rfl)
  clear HB HW HL
  go_wp2_with fail
  refine HC.out.mono ?_
  rintro e w2 ⟨rfl,hB2⟩
  have HB2:=Lib.hid (HA0.out.trans ((HB1.out.trans (hB2.mono HB1.out.size)).mono HA0.out.size))
  clear hB2
  go_wp2_with fail
  go_ret
  exact⟨by rw[HA.out];rfl,HB2.out⟩
 |false=>
  have HA:Hid (ans=false):=Lib.hid (by rw[HL.out];rfl)
  clear HB HW HL
  go_wp2_with fail
  go_ret
  exact⟨by rw[HA.out];rfl,HA0.out.trans (HB1.out.mono HA0.out.size)⟩
def CanonB (li:Bool) (n0:Nat) (w:World) (t:Fs) (e:Ending) (w':World):Prop:=
 (li=false→TOut n0 w tz e w')∧∀z,t=tr z→Lo z→TOut n0 w (tr (canon ordF z)) e w'
abbrev CanonOut (n0:Nat) (w:World) (x:ElA):Ending→World→Prop:=CanonB (looseB x.op x.nm x.v x.bd x.args) n0 w x.tree
set_option maxRecDepth 100000 in
set_option maxHeartbeats 4000000 in
theorem canon63 {w:World} {x:ElA} (hn0:n0≤w.heap.size) (hx:Rd w x) (hFo:Forms w) (hK:Keys w):Calls Tryz.prog 63 #[.agg x.enc.toArray] w (CanonOut n0 w x):=by
 have hA0:RowKit.Below w.heap.size w (w.alloc (.cells x.enc.toArray 48)):=(RowKit.Below.refl _ _).alloc (Nat.le_refl _) _
 have hF:=(hx.keep hA0).at (w:=w) (World.alloc_heap_new w _)
 have hb:w.heap.size<(w.alloc (.cells x.enc.toArray 48)).heap.size:=by simp
 have hA1:RowKit.Below (w.alloc (.cells x.enc.toArray 48)).heap.size (w.alloc (.cells x.enc.toArray 48)) ((w.alloc (.cells x.enc.toArray 48)).alloc (.cells zero48 48)):=(RowKit.Below.refl _ _).alloc (Nat.le_refl _) _
 have hz:=World.alloc_heap_new (w.alloc (.cells x.enc.toArray 48)) (.cells zero48 48)
 rw[World.size_alloc] at hz
 have hb1:=Nat.lt_of_lt_of_le hb hA1.size
 have hF1:=FAt.keep hA1 hb hF
 have HW:=Lib.hid (loose127 hF1 hb1 ((hFo.keep hA0).keep hA1) ((hK.keep hA0).keep hA1))
 have HA0:=Lib.hid (And.intro (hA0.trans (hA1.mono hA0.size)) hz)
 have HN0:=Lib.hid hn0
 have HC:Hid (∀z,x.tree=tr z→Lo z→∀W,RowKit.Below ((w.alloc (.cells x.enc.toArray 48)).alloc (.cells zero48 48)).heap.size ((w.alloc (.cells x.enc.toArray 48)).alloc (.cells zero48 48)) W→Calls Tryz.prog 128 #[.pointer (some ⟨w.heap.size,0,none⟩)] W (FormOut W.heap.size W (canon ordF z))):=Lib.hid fun z hz hl W hB=>by
  have h:=FAt.keep hB hb1 hF1
  have hz:Fs.cons x.op x.nm x.v x.bd x.args .nil=trC z .nil:=hz
  rw[hz] at h
  exact canon_any _ z (Nat.lt_succ_self _) (by have:=hl.size;omega) W.heap.size W w.heap.size 0 .nil (Nat.le_refl _) (Nat.lt_of_lt_of_le hb1 hB.size) h
 have HLZ:Hid (looseB x.op x.nm x.v x.bd x.args=true→∃z,x.tree=tr z∧Lo z):=Lib.hid fun h=>by
  obtain⟨z,e,hl⟩:=loose_lo h
  exact⟨z,e .nil,hl⟩
 have HZL:Hid (∀z,x.tree=tr z→Lo z→looseB x.op x.nm x.v x.bd x.args=true):=Lib.hid fun z e hl=>lo_loose (r:=.nil) hl (show trC z .nil=_ from e.symm)
 clear hF hFo hK hx hA0 hA1 hz hF1 hn0 hb
 show Calls Tryz.prog 63 _ w (CanonB (looseB x.op x.nm x.v x.bd x.args) n0 w x.tree)
 generalize looseB x.op x.nm x.v x.bd x.args=li at*
 generalize x.tree=tx at*
 obtain⟨op,nm,v,bd,args,a,c⟩:=x
 simp only[ElA.enc,zero48] at*
 go_enter Tryz.func63,Tryz.ntmps63
 go_upto_region 1 with fail
 generalize (w.alloc (.cells #[.int .i64 op,.string nm,.int .i64 v,.int .i64 bd,.slice a args.len c] 48)).alloc (.cells #[.int .i64 0,.string ⟨#[]⟩,.int .i64 0,.int .i64 0,.slice none 0 0] 48)=w0 at*
 have hsz:w.heap.size+1<w0.heap.size:=(Array.getElem?_eq_some_iff.1 HA0.out.2).1
 have HSZ:=Lib.hid hsz
 go_wp2_with fail
 refine HW.out.mono ?_
 rintro e w1 ⟨rfl,hB1⟩
 have HB1:=Lib.hid hB1
 have hr:=(hB1.block _ hsz).trans HA0.out.2
 clear hB1 hsz
 have r0:w1.cell? ⟨w.heap.size+1,0,none⟩=some (.int .i64 0):=by simp[World.cell?,hr]
 have r1:w1.cell? ⟨w.heap.size+1,1,none⟩=some (.string ⟨#[]⟩):=by simp[World.cell?,hr]
 have r2:w1.cell? ⟨w.heap.size+1,2,none⟩=some (.int .i64 0):=by simp[World.cell?,hr]
 have r3:w1.cell? ⟨w.heap.size+1,3,none⟩=some (.int .i64 0):=by simp[World.cell?,hr]
 have r4:w1.cell? ⟨w.heap.size+1,4,none⟩=some (.slice none 0 0):=by simp[World.cell?,hr]
 have r5:∀o,w1.frozen? ⟨w.heap.size+1,o,none⟩=false:=fun o=>by simp[World.frozen?,hr]
 have HR:=Lib.hid hr
 have hBw:RowKit.Below w.heap.size w w1:=HA0.out.1.trans (HB1.out.mono HA0.out.1.size)
 have HBW:=Lib.hid hBw
 clear hr hBw
 cases li with
 |false=>
  go_wp2_with fail
  refine bodyPost_ret (v:=.agg #[.int .i64 0,.string ⟨#[]⟩,.int .i64 0,.int .i64 0,.slice none 0 0]) (by
   simp[results,Tryz.f63,go_sem,r0,r1,r2,r3,r4]) rfl ?_
  refine⟨fun _=>⟨_,zero_ok n0 _,rfl,rfl,putRes_below HBW.out (Nat.le_succ _) (.int .i64 0) (.string ⟨#[]⟩) (.int .i64 0) (.int .i64 0) (.slice none 0 0)⟩,fun z e hl=>?_⟩
  have:=HZL.out z e hl
  cases this
 |true=>
  obtain⟨z,hz,hl⟩:=HLZ.out rfl
  have HCC:=Lib.hid (HC.out z hz hl w1 HB1.out)
  have HZZ:=Lib.hid hz
  clear HC HLZ HZL hz hl HW r0 r1 r2 r3 r4 r5
  go_wp2_with fail
  refine HCC.out.mono ?_
  rintro e w2 ⟨⟨y0,y1,y2,y3,y4,y5,y6⟩,hy,hyt,rfl,hB2,hd2⟩
  have hlt1:w.heap.size+1<w1.heap.size:=Nat.lt_of_lt_of_le HSZ.out HB1.out.size
  have hr:=(hB2.block _ hlt1).trans HR.out
  have r0:w2.cell? ⟨w.heap.size+1,0,none⟩=some (.int .i64 0):=by simp[World.cell?,hr]
  have r1:w2.cell? ⟨w.heap.size+1,1,none⟩=some (.string ⟨#[]⟩):=by simp[World.cell?,hr]
  have r2:w2.cell? ⟨w.heap.size+1,2,none⟩=some (.int .i64 0):=by simp[World.cell?,hr]
  have r3:w2.cell? ⟨w.heap.size+1,3,none⟩=some (.int .i64 0):=by simp[World.cell?,hr]
  have r4:w2.cell? ⟨w.heap.size+1,4,none⟩=some (.slice none 0 0):=by simp[World.cell?,hr]
  have r5:∀o,w2.frozen? ⟨w.heap.size+1,o,none⟩=false:=fun o=>by simp[World.frozen?,hr]
  have HY:=Lib.hid (And.intro (ElA.mono hy (show w.heap.size+2≤w1.heap.size from hlt1)) (And.intro hyt (HBW.out.trans (hB2.mono HBW.out.size))))
  clear hy hyt hB2 hd2 hr hlt1
  simp only[ElA.enc]
  go_wp2_with fail
  refine bodyPost_ret (v:=.agg #[.int .i64 y0,.string y1,.int .i64 y2,.int .i64 y3,.slice y5 y4.len y6]) (by
   simp[results,Tryz.f63,go_sem,r0,r1,r2,r3,r4]) rfl ?_
  have hon:only (w.heap.size+1) (w.heap.size+1)=true:=by simp[only]
  have hf:Fr (only (w.heap.size+1)) w2.heap.size w2 (putRes w2 (w.heap.size+1) (.int .i64 y0) (.string y1) (.int .i64 y2) (.int .i64 y3) (.slice y5 y4.len y6)):=
   (((((Fr.refl _ _ _).setCell (.inl hon) _).setCell (.inl hon) _).setCell (.inl hon) _).setCell (.inl hon) _).setCell (.inl hon) _
  have hok:=ElA.mono (ElA.keepN HY.out.1 (Nat.lt_succ_self _) hf) (show n0≤w.heap.size+2 by have:=HN0.out;omega)
  refine⟨fun h=>(by cases h),fun z' e hl=>⟨_,hok,?_,rfl,putRes_below HY.out.2.2 (Nat.le_succ _) _ _ _ _ _⟩⟩
  obtain rfl:z'=z:=tr_inj (e.symm.trans HZZ.out)
  exact HY.out.2.1
end
end Go.Proofs.YtckdgniecdfedaaGreatDoor
