/- The judge's recursive reader of a formula. -/
import Derived.Test.YtmabhhngoklncaaGreatDoorH
set_option maxRecDepth 100000
set_option maxHeartbeats 40000000
set_option linter.all false
open Go.Lib renaming hid->rA
open Go.Instr renaming typeAssert->rB
open Go.Proofs.Tryz renaming prog->rC
open Go renaming heap_alloc_old->rD,heap_setCell_other->rF,heap_alloc_new->rI,bodyPost_ret->rK,run_underlying->rN,heap_setCell_same->rP
open Go.World renaming cell?->rE,frozen?->rG,cell?_of_block->rJ
open Nat renaming le_refl->rH,lt_of_lt_of_le->rO,le_trans->rQ
open Go.Builtin renaming append_->rL
open Int renaming eq_ofNat_of_zero_le->rM
open Go.Value renaming int->jI,slice->jS,pointer->jP,bool->jB,string->jT,agg->jG,tuple->jU
open Go.IntKind renaming i64->kQ
open Go.Ending renaming returned->jR
open Go Go.RowKit
namespace Go.Proofs.YtmabhhngoklncaaGreatDoor
variable {w W:World}{nv v a b c d e z:Value}{L:List Int}{q i C g d1 d2 c1 d3 R F:Nat}{fl:Bool}{t xT s:TypeId}{y:Fe}{b1 b2 a1 b3:Option Addr}{tmps:Array Value}{k x1 x2 x3:Int}{fs:Array Field}{A1:List Sg}{B2:List (List Int)}{B3:List Sp}
def zPC (nv:Value) (L:List Int) (q N R F:Nat) (dp:Nat):Prop:=∀(w:World) (i:Nat) (fl:Bool) (x:Int),Cx nv L q N R F (.func (.func 89) #[] #[jP (some ⟨N,0,none⟩),jP (some ⟨R,0,none⟩),jP (some ⟨F,0,none⟩)]) w i fl x->
 Calls rC 89 #[jI kQ dp,jP (some ⟨N,0,none⟩),jP (some ⟨R,0,none⟩),jP (some ⟨F,0,none⟩)] w (zP7 nv L q N R F (.func (.func 89) #[] #[jP (some ⟨N,0,none⟩),jP (some ⟨R,0,none⟩),jP (some ⟨F,0,none⟩)]) w x)
theorem zLy (hp:tmps.getD 5 undef=jP (some ⟨g,0,none⟩)) (h:W.heap[g]? =some (.cells #[a,b,c,d,e] 33 (0,0))):
  (results Tryz.f89 tmps).run rC W=.ok (jG #[a,b,c,d,e]) W:=
 zGp rfl hp h fun W' h0 h1 h2 h3 h4=>by simp[go_sem,h0,h1,h2,h3,h4]
theorem zHO {N dp:Nat} (hL:Good L) (hdp:dp<=100) (ih:dp<=60->zPC nv L q N R F (dp+1)):zPC nv L q N R F dp:=by
 intro w i fl x h;have HIH:=rA ih;have HL:=rA hL;have HLT:Hid (q<w.heap.size/\N<w.heap.size/\R<w.heap.size/\F<w.heap.size):=rA h.lt;have HX0:=rA h;clear ih hL h;generalize hfv:Value.func (.func 89) #[] #[jP (some ⟨N,0,none⟩),jP (some ⟨R,0,none⟩),jP (some ⟨F,0,none⟩)]=fv at*;have HFV:=rA hfv;clear hfv;go_enter Tryz.func89,Tryz.ntmps89;go_upto_region 1 with fail;have HP1:Hid (Pre nv L q N R F fv w (w.alloc (.cells #[jI kQ 0,jT ⟨#[]⟩,jI kQ 0,jI kQ 0,jS none 0 0] 33)) i fl x):=rA ⟨HX0.out.below ((Below.refl _ _).alloc (rH _) _),⟨i,fl,x,HX0.out⟩,(Fr.refl _ _ _).alloc (rH _) _,rI _ _⟩;generalize w.alloc (.cells #[jI kQ 0,jT ⟨#[]⟩,jI kQ 0,jI kQ 0,jS none 0 0] 33)=w1 at*;obtain⟨-,c1, -, -, -,c1f⟩:=HP1.out.cx.cells;go_upto_region 2 with fail;have HP2:Hid (∀y:Int,Pre nv L q N R F fv w (w1.setCell ⟨N,0,none⟩ (jI kQ y)) i fl y):=rA fun y=>⟨HP1.out.cx.count y,HP1.out.cx0,HP1.out.fr.setCell (.inl (by simp[two])) _,by rw[rF _ _ _ _ (by have:=HLT.out;simp;omega)];exact HP1.out.rz⟩
 have HP3:=rA (HP2.out (wrap64 (x+1)));clear HP2 HP1 c1 c1f;generalize w1.setCell ⟨N,0,none⟩ (jI kQ (wrap64 (x+1)))=w2 at*;have HY:Hid (0<=x->x<=400->wrap64 (x+1)=x+1):=rA fun h0 h1=>by
  simp only[wrap64];omega
 generalize wrap64 (x+1)=y at*;obtain⟨c2,c1,cR, -,c2f, -⟩:=HP3.out.cx.cells;by_cases hb:400<y∨60<dp
 ·have HP4:Hid (Pre nv L q N R F fv w (w2.setCell ⟨q,2,none⟩ (jB true)) i true y):=rA ⟨HP3.out.cx.fail,HP3.out.cx0,HP3.out.fr.setCell (.inl (by simp[two])) _,by rw[rF _ _ _ _ (by have:=HLT.out;simp;omega)];exact HP3.out.rz⟩
  have hE:=rA (yA (a:=jI kQ 0) (b:=jT ⟨#[]⟩) (c:=jI kQ 0) (d:=jI kQ 0) (e:=jS none 0 0) HP4.out.rz);have hS:=rA (zQI HP4.out (x0:=x) (fun h0 h1=>by have:=HY.out h0 h1;exact⟨by omega,by omega,fun h=>by cases h⟩));obtain⟨r0,r1,r2,r3,r4,f0,f1,f2,f3,f4⟩:=HP4.out.rcells;by_cases h4:400<y
  ·have hd1:decide ((400:Int)<y)=true:=by simpa using h4
   go_wp2_with fail;exact rK (zLy rfl hE.out) rfl hS.out
  ·have hd1:decide ((400:Int)<y)=false:=by simpa using h4
   have hd2:decide ((60:Int)<(dp:Int))=true:=by simp;omega
   go_wp2_with fail;exact rK (zLy rfl hE.out) rfl hS.out
 ·have hd1:decide ((400:Int)<y)=false:=by simp;omega
  have hd2:decide ((60:Int)<(dp:Int))=false:=by simp;omega
  have HIC:=rA (HIH.out (by omega));have HLP:Hid (∀fl:Bool,LpC x y y fl []):=rA fun fl h0 h1=>⟨HY.out h0 h1,by simp[Fe.forest,Fs.nodes],by omega,fun _=>by omega⟩
  go_upto_region 5 with fail;have HPR:=rA (HP3.out.drawn 1);clear c2 c1 c2f HIH;have hsz:(w2.drewN 1).heap.size=w2.heap.size:=rfl;go_cut [6] from 20 to 29 (fun t wx=>∃(g:Nat) (op v bd:Int) (nm:ByteArray) (i:Nat) (fl:Bool),t=jP (some ⟨g,0,none⟩)/\Hid (FmS nv L q N R F fv w g wx op nm v bd (jS none 0 0) [] i fl y))
  case first=>
   go_region_held3 (fun w'=>w'.cell? ⟨R,0,none⟩=some (jP (some ⟨q,0,none⟩))) (go_keep)
    (first
     |(go_at_call 19;refine(zKr HL.out HFM.out).mono ?_;rintro e' w5 ⟨z,i5,fl5,rfl,hz0,hz1,hp5⟩;have HFM:=rA hp5;have r5:=hp5.cx.cells.2.2.1;obtain⟨g50,g51,g52,g53,g54⟩:=hp5.cells;obtain⟨f50,f51,f52,f53,f54⟩:=hp5.frozen;obtain⟨n51,n52⟩:=hp5.neR;(try simp only[hsz] at g50 g51 g52 g53 g54 f50 f51 f52 f53 f54 n51 n52);clear hp5 hz0 hz1)
     |(go_at_call 88;refine(zO2 HL.out HFM.out).mono ?_;rintro e' w5 ⟨nm,i5,fl5,rfl,hnm,hp5⟩;have HNM:=rA hnm;have HFM:=rA hp5;have r5:=hp5.cx.cells.2.2.1;obtain⟨g50,g51,g52,g53,g54⟩:=hp5.cells;obtain⟨f50,f51,f52,f53,f54⟩:=hp5.frozen;obtain⟨n51,n52⟩:=hp5.neR;(try simp only[hsz] at g50 g51 g52 g53 g54 f50 f51 f52 f53 f54 n51 n52);clear hp5 hnm)
     |(go_at_call 19;refine(zQB HL.out HPR.out).mono ?_;rintro e' w5 ⟨z,i5,fl5,rfl,hz0,hz1,hp5⟩;have HPR:=rA hp5;have r5:=hp5.cx.cells.2.2.1;clear hp5 hz0 hz1)
     |(go_at_call 88;refine(zQJ HL.out HPR.out).mono ?_;rintro e' w5 ⟨nm,i5,fl5,rfl,hnm,hp5⟩;have HNM:=rA hnm;have HPR:=rA hp5;have r5:=hp5.cx.cells.2.2.1;clear hp5 hnm)
     |(go_at_call 19;refine(zKr HL.out (HPR.out.start 0 0 0 ⟨#[]⟩ (by decide))).mono ?_;rintro e' w5 ⟨z,i5,fl5,rfl,hz0,hz1,hp5⟩;have HFM:=rA hp5;have r5:=hp5.cx.cells.2.2.1;obtain⟨g50,g51,g52,g53,g54⟩:=hp5.cells;obtain⟨f50,f51,f52,f53,f54⟩:=hp5.frozen;obtain⟨n51,n52⟩:=hp5.neR;(try simp only[hsz] at g50 g51 g52 g53 g54 f50 f51 f52 f53 f54 n51 n52);clear hp5 hz0 hz1)
     |(go_at_call 88;refine(zO2 HL.out (HPR.out.start 0 0 0 ⟨#[]⟩ (by decide))).mono ?_;rintro e' w5 ⟨nm,i5,fl5,rfl,hnm,hp5⟩;have HNM:=rA hnm;have HFM:=rA hp5;have r5:=hp5.cx.cells.2.2.1;obtain⟨g50,g51,g52,g53,g54⟩:=hp5.cells;obtain⟨f50,f51,f52,f53,f54⟩:=hp5.frozen;obtain⟨n51,n52⟩:=hp5.neR;(try simp only[hsz] at g50 g51 g52 g53 g54 f50 f51 f52 f53 f54 n51 n52);clear hp5 hnm))
   all_goals
    go_wp2_with fail;go_meet
    first
     |exact⟨_,_,_,_,nm,_,_,rfl,rA (HFM.out.fill _ _ _ nm HNM.out)⟩
     |exact⟨_,_,_,_,nm,_,_,rfl,rA (HPR.out.start _ _ _ nm HNM.out)⟩
  case rest=>
   obtain⟨g,op,v,bd,nm,i5,fl5,rfl,HFM⟩:=hcut;clear HP3 HPR hsz cR;have HN:=rA (zKr HL.out HFM.out);have cR:=HFM.out.cx.cells.2.2.1;have hfv:=HFV.out;subst hfv;clear HFV;go_wp2_with fail;refine HN.out.mono ?_;rintro e w6 ⟨z,i6,fl6,rfl,hz0,hz1,hfm⟩;obtain⟨n,rfl⟩:=rM hz0;have hn:n<=65519:=by omega
   have HG6:=rA hfm;clear hfm hz0 hz1 HN HFM cR;go_wp2_with fail;go_loopw [7] (fun n wr=>∃(m:Nat) (lv:Value) (A:List Fe) (i:Nat) (fl:Bool) (x':Int),n=jI kQ m/\m+A.length<=65519/\Hid (FmS nv L q N R F (.func (.func 89) #[] #[jP (some ⟨N,0,none⟩),jP (some ⟨R,0,none⟩),jP (some ⟨F,0,none⟩)]) w g wr op nm v bd lv A i fl x')/\Hid (LpC x y x' fl A)) (fun n _=>(intOf n).toNat)
   case atStart=>exact⟨n,_,[],i6,fl6,y,rfl,by simpa using hn,HG6,rA (HLP.out _)⟩
   case round=>
    obtain⟨m,lv,A,i7,fl7,x7,rfl,hm,HG,HLC⟩:=hrel;obtain⟨k2, -,cR,cF, -, -⟩:=HG.out.cx.cells;obtain⟨y0,y1,y2,y3,y4⟩:=HG.out.cells;obtain⟨r0,r1,r2,r3,r4,f0,f1,f2,f3,f4⟩:=HG.out.pre.rcells;by_cases hm0:m=0
    ·subst hm0
     obtain⟨la,lc,rfl⟩:=HG.out.form;have hS:=rA (zJx HG.out (by omega) HLC.out.cnt);have hE:=rA (yA (a:=jI kQ op) (b:=jT nm) (c:=jI kQ v) (d:=jI kQ bd) (e:=jS la A.length lc) HG.out.rz);have hd:decide ((0:Int)<((0:Nat):Int))=false:=by simp
     go_wp2_with fail;exact rK (zLy rfl hE.out) rfl hS.out
    ·have hd:decide ((0:Int)<(m:Int))=true:=by simp;omega
     cases fl7 with
     |true=>
      obtain⟨la,lc,rfl⟩:=HG.out.form;have hS:=rA (zJx HG.out (by omega) HLC.out.cnt);have hE:=rA (yA (a:=jI kQ op) (b:=jT nm) (c:=jI kQ v) (d:=jI kQ bd) (e:=jS la A.length lc) HG.out.rz);go_wp2_with fail;exact rK (zLy rfl hE.out) rfl hS.out
     |false=>
      have HM:Hid (m+A.length<=65519):=rA hm;have hmb:m<=65519:=by omega
      clear hm r0 r1 r2 r3 r4 f0 f1 f2 f3 f4 y0 y1 y2 y3;have HC:Hid (Calls rC 89 #[jI kQ ((dp:Int)+1),jP (some ⟨N,0,none⟩),jP (some ⟨R,0,none⟩),jP (some ⟨F,0,none⟩)] (wr.drewN 1) (zP7 nv L q N R F (.func (.func 89) #[] #[jP (some ⟨N,0,none⟩),jP (some ⟨R,0,none⟩),jP (some ⟨F,0,none⟩)]) (wr.drewN 1) x7)):=rA (HIC.out _ _ _ _ (HG.out.drawn 1).cx);have HST:Hid (∀(w5:World) (i5:Nat) (fl5:Bool) (x5:Int) (z:Fe),z.ok (dim (neu (wr.drewN 1).heap.size) w5)->Cx nv L q N R F (.func (.func 89) #[] #[jP (some ⟨N,0,none⟩),jP (some ⟨R,0,none⟩),jP (some ⟨F,0,none⟩)]) w5 i5 fl5 x5->Fr (two q N) (wr.drewN 1).heap.size (wr.drewN 1) w5->
        ∃a c w',(rL #[31,31] 31 #[lv,jS (some ⟨w5.heap.size,0,none⟩) 1 1]).run rC (w5.alloc (.cells z 33))=.ok (jS a (A.length+1) c) w'/\w'.frozen? ⟨g,4,none⟩=false/\w'.cell? ⟨g,4,none⟩=some lv/\
         FmS nv L q N R F (.func (.func 89) #[] #[jP (some ⟨N,0,none⟩),jP (some ⟨R,0,none⟩),jP (some ⟨F,0,none⟩)]) w g (w'.setCell ⟨g,4,none⟩ (jS a (A.length+1) c)) op nm v bd (jS a (A.length+1) c) (A++[z]) i5 fl5 x5):=rA fun w5 i5 fl5 x5 z hz hC hF=>
       ((HG.out.drawn 1).call hF hC).app (Fe.ok_sub _ _ _ ((HG.out.drawn 1).list.sees HG.out.n0) hz) (by have:=HM.out;omega)
      have HP:Hid (∀(w5:World),Fr (two q N) (wr.drewN 1).heap.size (wr.drewN 1) w5->w5.cell? ⟨g,4,none⟩=some lv):=rA fun w5 hF=>(hF.cell (a:=⟨g,4,none⟩) (by have:=HG.out.n0;show g<wr.heap.size;omega) (yP.2 (by have:=HLT.out;have:=HG.out.gn;show g≠q/\g≠N;omega))).trans HG.out.cells.2.2.2.2
      have HPA:Hid (∀(w5:World) (o:Obj),Fr (two q N) (wr.drewN 1).heap.size (wr.drewN 1) w5->(w5.alloc o).cell? ⟨g,4,none⟩=some lv):=rA fun w5 o hF=>(rJ (rD w5 o (by have:=HG.out.n0;have:=hF.size;show g<_;have e:(wr.drewN 1).heap.size=wr.heap.size:=rfl;omega))).trans (HP.out w5 hF)
      go_upto_region 9 with fail;clear k2 cR;have ew:IntKind.i64.wrap ((dp:Int)+1)=(dp:Int)+1:=by rw[IntKind.wrap_i64];omega
      go_region_law (first
       |(refine zM rfl (.tmp 43) (.tmp 48) 31 31 (some 49) rfl rfl _ _ rfl rfl _ _ HRUN.out ?_)
       |(go_simp;refine HC.out.mono ?_;rintro e w5 ⟨z5,i5,fl5,x5,rfl,hz5,hC5,hF5,hc5⟩;have HC5:=rA hc5;clear hc5;obtain⟨a5,c5,w7,hrun,sf6,s6,HNX⟩:=HST.out w5 i5 fl5 x5 z5 hz5 hC5 hF5;have u4:=HP.out w5 hF5;have v4:=HPA.out w5 (.cells z5 33) hF5;have HRUN:=rA hrun;clear hrun hF5 hC5 hz5))
      all_goals
       have HGC:=rA HNX;go_wp2_with fail;go_roundw
       case rel=>exact⟨m - 1,_,A++[z5],_,_,_,by go_num,by simp;have:=HM.out;omega,HGC,rA (LpC.step HLC.out HC5.out)⟩
       case measure=>simp[intOf];omega
theorem zOg {nv:Value} {L:List Int} {q N R F:Nat} (hL:Good L):∀(D dp:Nat),61<=dp+D->dp<=61->zPC nv L q N R F dp
 |0,dp,h,h2=>zHO hL (by omega) fun h3=>by omega
 |D+1,dp,h,h2=>zHO hL (by omega) fun h3=>zOg hL D (dp+1) (by omega) (by omega)
def Fe.ok4 (w:World) (x:Fe):Prop:=x.ok w/\x.args.nodes<=400
theorem Fe.ok4_sub (U U':World) (x:Fe) (h:Sub U U') (hx:Fe.ok4 U x):Fe.ok4 U' x:=⟨Fe.ok_sub U U' x h hx.1,hx.2⟩
def NxF (nv:Value) (L:List Int) (q:Nat) (w:World) (e:Ending) (w':World):Prop:=∃(y:Fe) (i':Nat) (fl':Bool),e=jR (jG y)/\y.ok4 (dim (neu w.heap.size) w')/\Rd nv L q w' i' fl'/\Fr (only q) w.heap.size w w'
theorem zSe (hp:tmps.getD 2 undef=jP (some ⟨g,0,none⟩)) (h:W.heap[g]? =some (.cells #[a,b,c,d,e] 33 (0,0))):
  (results Tryz.f40 tmps).run rC W=.ok (jG #[a,b,c,d,e]) W:=
 zGp rfl hp h fun W' h0 h1 h2 h3 h4=>by simp[go_sem,h0,h1,h2,h3,h4]
theorem zJ5 {b:Nat}{cs:Array Value}{T:TypeId}{f:Nat×Nat} (h:W.heap[b]? =some (.cells cs T f)) (j:Nat):W.cell? ⟨b,j,none⟩=cs[j]? :=by simp[rE,h]
theorem zR2 (w:World) (o1 o2 o3 o4:Obj):((((w.alloc o1).alloc o2).alloc o3).alloc o4).heap[w.heap.size]? =some o1/\((((w.alloc o1).alloc o2).alloc o3).alloc o4).heap[w.heap.size+1]? =some o2/\((((w.alloc o1).alloc o2).alloc o3).alloc o4).heap[w.heap.size+1+1]? =some o3/\
  ((((w.alloc o1).alloc o2).alloc o3).alloc o4).heap[w.heap.size+1+1+1]? =some o4/\Below w.heap.size w ((((w.alloc o1).alloc o2).alloc o3).alloc o4)/\((((w.alloc o1).alloc o2).alloc o3).alloc o4).heap.size=w.heap.size+4:=by
 have s1:(w.alloc o1).heap.size=w.heap.size+1:=by simp
 have s2:((w.alloc o1).alloc o2).heap.size=w.heap.size+1+1:=by simp
 have s3:(((w.alloc o1).alloc o2).alloc o3).heap.size=w.heap.size+1+1+1:=by simp
 refine⟨?_,?_,?_,?_,((((Below.refl _ _).alloc (rH _) _).alloc (by omega) _).alloc (by omega) _).alloc (by omega) _,by simp⟩
 ·rw[rD _ _ (by omega),rD _ _ (by omega),rD _ _ (by omega),rI]
 ·rw[rD _ _ (by omega),rD _ _ (by omega),<-s1,rI]
 ·rw[rD _ _ (by omega),<-s2,rI]
 ·rw[<-s3,rI]
theorem zJQ {W0:World} (h:Rd nv L q w i fl){fv:Value}{i':Nat}{fl':Bool}{x':Int} (hB:Below w.heap.size w W0) (hs:W0.heap.size=w.heap.size+4) (hC:Cx nv L q (w.heap.size+1+1) R F fv W i' fl' x') (hF:Fr (two q (w.heap.size+1+1)) W0.heap.size W0 W) (hy:y.ok4 (dim (neu W0.heap.size) W)):
  NxF nv L q w (jR (jG y)) (put5 W (w.heap.size+1) (jI kQ y.op) (jT y.nm) (jI kQ y.v) (jI kQ y.bd) (jS y.a y.args.len y.c)):=by
 have hq:=h.lt;have hFF:Fr (only q) w.heap.size w W:=⟨hF.os.trans hB.os,hF.tape.trans hB.tape,hF.output.trans hB.output,rQ hB.size hF.size,fun k hk hp=>(hF.block k (by omega) (yP.2 ⟨by simpa[only] using hp,by omega⟩)).trans (hB.block k hk)⟩;have hF5:=hFF.put5 (g:=w.heap.size+1) (a:=jI kQ y.op) (b:=jT y.nm) (c:=jI kQ y.v) (d:=jI kQ y.bd) (e:=jS y.a y.args.len y.c) (by omega);refine⟨y,i',fl',rfl,Fe.ok4_sub _ _ _ (zE (by rw[yJ];exact rH _) fun k hk hp=>?_) hy,h.of hF5 ((zJ (by omega)).trans hC.blk) hC.le,hF5⟩;have hk2:W0.heap.size<=k:=by simpa[neu] using hp
 exact⟨zC7 (by omega),zJ (by omega)⟩
theorem zBd (hL:Good L) (h:Rd nv L q w i fl):Calls rC 40 #[jP (some ⟨q,0,none⟩)] w (NxF nv L q w):=by
 have HR:=rA h;have HL:=rA hL;have hq:=h.lt;clear h hL;go_enter Tryz.func40,Tryz.ntmps40;go_upto_region 4 with fail;obtain⟨b1,b2,b3,b4,hB,hs⟩:=zR2 w (.cells #[jP (some ⟨q,0,none⟩)] 62 (0,0)) (.cells #[jI kQ 0,jT ⟨#[]⟩,jI kQ 0,jI kQ 0,jS none 0 0] 33 (0,0)) (.cells #[jI kQ 0] 3 (0,0)) (.cells #[.func (.func 89) #[] #[jP (some ⟨w.heap.size+1+1,0,none⟩),jP (some ⟨w.heap.size,0,none⟩),jP (some ⟨w.heap.size+1+1+1,0,none⟩)]] 163 (0,0));have cF:((((w.alloc (.cells #[jP (some ⟨q,0,none⟩)] 62 (0,0))).alloc (.cells #[jI kQ 0,jT ⟨#[]⟩,jI kQ 0,jI kQ 0,jS none 0 0] 33 (0,0))).alloc (.cells #[jI kQ 0] 3 (0,0))).alloc (.cells #[.func (.func 89) #[] #[jP (some ⟨w.heap.size+1+1,0,none⟩),jP (some ⟨w.heap.size,0,none⟩),jP (some ⟨w.heap.size+1+1+1,0,none⟩)]] 163 (0,0))).cell? ⟨w.heap.size+1+1+1,0,none⟩=some (.func (.func 89) #[] #[jP (some ⟨w.heap.size+1+1,0,none⟩),jP (some ⟨w.heap.size,0,none⟩),jP (some ⟨w.heap.size+1+1+1,0,none⟩)]):=zJ5 b4 0;generalize (((w.alloc (.cells #[jP (some ⟨q,0,none⟩)] 62 (0,0))).alloc (.cells #[jI kQ 0,jT ⟨#[]⟩,jI kQ 0,jI kQ 0,jS none 0 0] 33 (0,0))).alloc (.cells #[jI kQ 0] 3 (0,0))).alloc (.cells #[.func (.func 89) #[] #[jP (some ⟨w.heap.size+1+1,0,none⟩),jP (some ⟨w.heap.size,0,none⟩),jP (some ⟨w.heap.size+1+1+1,0,none⟩)]] 163 (0,0))=W0 at*;have HCX:Hid (Cx nv L q (w.heap.size+1+1) w.heap.size (w.heap.size+1+1+1) (.func (.func 89) #[] #[jP (some ⟨w.heap.size+1+1,0,none⟩),jP (some ⟨w.heap.size,0,none⟩),jP (some ⟨w.heap.size+1+1+1,0,none⟩)]) W0 i fl 0):=rA
  ⟨(hB.block q hq).trans HR.out.blk,HR.out.nums.on (zE hB.size fun k hk hp=>⟨yP.2 ⟨by simpa[only] using hp,by omega⟩,hB.block k hk⟩),HR.out.le,HR.out.cap,b3,b1,b4,⟨by omega,by omega,by omega,by omega,by omega⟩⟩
 have HC:=rA (zOg HL.out 61 1 (by omega) (by omega) W0 i fl 0 HCX.out);have HB:=rA hB;have HSZ:=rA hs;have HB2:=rA b2;clear b1 b2 b3 b4 hB hs;go_wp2_with fail;refine HC.out.mono ?_;rintro e w5 ⟨y,i5,fl5,x5,rfl,hy,hC5,hF5,hc5⟩;have hy:=And.intro hy (show y.args.nodes<=400 by obtain⟨h1,h2, -⟩:=hc5 (by omega) (by omega);omega);clear hc5;have hr2:=(hF5.block (w.heap.size+1) (by have:=HSZ.out;omega) (yP.2 ⟨by omega,by omega⟩)).trans HB2.out;have hS:=rA (zJQ HR.out HB.out HSZ.out hC5 hF5 hy);have hE:=rA (yA (a:=jI kQ y.op) (b:=jT y.nm) (c:=jI kQ y.v) (d:=jI kQ y.bd) (e:=jS y.a y.args.len y.c) hr2);have r0:w5.cell? ⟨w.heap.size+1,0,none⟩=some (jI kQ 0):=by simp[rE,hr2]
 have r1:w5.cell? ⟨w.heap.size+1,1,none⟩=some (jT ⟨#[]⟩):=by simp[rE,hr2]
 have r2:w5.cell? ⟨w.heap.size+1,2,none⟩=some (jI kQ 0):=by simp[rE,hr2]
 have r3:w5.cell? ⟨w.heap.size+1,3,none⟩=some (jI kQ 0):=by simp[rE,hr2]
 have r4:w5.cell? ⟨w.heap.size+1,4,none⟩=some (jS none 0 0):=by simp[rE,hr2]
 have f0:w5.frozen? ⟨w.heap.size+1,0,none⟩=false:=by simp[rG,hr2]
 have f1:w5.frozen? ⟨w.heap.size+1,1,none⟩=false:=by simp[rG,hr2]
 have f2:w5.frozen? ⟨w.heap.size+1,2,none⟩=false:=by simp[rG,hr2]
 have f3:w5.frozen? ⟨w.heap.size+1,3,none⟩=false:=by simp[rG,hr2]
 have f4:w5.frozen? ⟨w.heap.size+1,4,none⟩=false:=by simp[rG,hr2]
 clear hr2 hy hC5 hF5 cF;go_wp2_with fail;exact rK (zSe rfl hE.out) rfl hS.out
def NxR (nv:Value) (L:List Int) (q:Nat) (w:World) (e:Ending) (w':World):Prop:=∃v f i' fl',e=jR v/\FV (dim (neu w.heap.size) w') v f/\Rd nv L q w' i' fl'/\Fr (only q) w.heap.size w w'
theorem AgL.fv {B:Nat}{A:List Fe} (h:AgL Fe.enc Fe.ok 33 5 B w v A) (hl:A.length<=1000000):FV (dim (neu B) w) v (Fe.forest A):=by
 obtain⟨a,c,rfl,hc,hf⟩:=h.forest;exact⟨by rw[Fe.forest_len];omega,a,c,rfl,hc,hf⟩
theorem zKS (hL:Good L) (h:Rd nv L q w i fl) (want:Nat) (hw:want<=20000):Calls rC 46 #[jP (some ⟨q,0,none⟩),jI kQ want] w (NxR nv L q w):=by
 obtain⟨i0,hi,hz0,hz1,hz2⟩:=info_parts Tryz.info33;have HN:Hid (Calls rC 19 #[jP (some ⟨q,0,none⟩)] w (Nx nv L q w)):=rA (xG hL h);have HL:=rA hL;have HQ:Hid (q<w.heap.size):=rA h.lt;have HR0:=rA h;clear h hL;go_enter Tryz.func46,Tryz.ntmps46;go_wp2_with fail;refine HN.out.mono ?_;rintro e w2 ⟨x,i2,fl2,rfl,h0,h1,hR,hF⟩;have HR:=rA hR;have HF:=rA hF;clear hR hF h0 h1 HN;by_cases hx:x=(want:Int)
 ·have hdx:(x !=(want:Int))=false:=by simp[hx]
  obtain⟨i3,fl3,HR3,HF3⟩:∃i3 fl3,Hid (Rd nv L q w2 i3 fl3)/\Hid (Fr (only q) w.heap.size w w2):=⟨_,_,HR,HF⟩;clear HR HF hx;go_wp2_with fail;go_loopw [5] (fun v wr=>∃(A:List Fe) (i:Nat) (fl:Bool),A.length<=want/\Hid (AgL Fe.enc Fe.ok 33 5 w.heap.size wr v A)/\Hid (Rd nv L q wr i fl)/\Hid (Fr (only q) w.heap.size w wr)) (fun v _=>match v with| jS _ n _=>want - n|_=>0)
  case atStart=>exact⟨[],i3,fl3,by simp,rA AgL.nil,HR3,HF3⟩
  case round=>
   obtain⟨A,i4,fl4,hA,HA,HR4,HF4⟩:=hrel;obtain⟨-, -,k2,kf⟩:=HR4.out.cells;clear kf;have hS:=rA (show NxR nv L q w (jR u5) wr from⟨u5,_,_,_,rfl,HA.out.fv (by omega),HR4.out,HF4.out⟩);obtain⟨la,lc,rfl⟩:∃a c,u5=Value.slice a A.length c:=by
    rcases HA.out.own.2 with⟨e,hn⟩|⟨g',cap,cur,e,_⟩
    ·exact⟨none,0,by rw[e,hn]⟩
    ·exact⟨_,_,e⟩
   by_cases hlt:A.length<want
   ·have hd:=dT hlt
    cases fl4 with
    |true=>
     go_wp2_with fail;go_ret;exact hS.out
    |false=>
     have HT:=rA (zBd HL.out HR4.out);clear hS;go_wp2_with fail;refine HT.out.mono ?_;rintro e w8 ⟨y,i8,fl8,rfl,hy,hR8,hF8⟩;have HFW:Hid (Fr (only q) w.heap.size w w8):=rA (HF4.out.trans (hF8.mono HF4.out.size));have HOK:Hid (y.ok (dim (zCx w.heap.size (jS la A.length lc)) w8)):=rA (Fe.ok_sub _ _ _ (HA.out.sees HF4.out.size) hy.1);have HAG:=rA (HA.out.call Fe.ok_sub HQ.out hF8);have HR8:=rA hR8;have HAL:Hid (∀o:Obj,AgL Fe.enc Fe.ok 33 5 w.heap.size (w8.alloc o) (jS la A.length lc) A/\Fr (only q) w.heap.size w (w8.alloc o)/\w.heap.size<=(w8.alloc o).heap.size/\y.ok (dim (zCx w.heap.size (jS la A.length lc)) (w8.alloc o))):=rA fun o=>
      ⟨HAG.out.alloc Fe.ok_sub _,HFW.out.alloc HFW.out.size _,by have:=HFW.out.size;simp;omega,Fe.ok_sub _ _ _ (zE (by simp) fun k hk hp=>⟨hp,rD w8 o hk⟩) HOK.out⟩
     have HBQ:Hid (∀o:Obj,(w8.alloc o).heap[q]? =some (.cells #[nv,jI kQ i8,jB fl8] 64 (0,0))):=rA fun o=>(rD w8 o HR8.out.lt).trans HR8.out.blk
     clear hF8 hR8 hy k2;go_wp2_with (first
      |(at_builtin;refine vZ (enc:=Fe.enc) (ok:=Fe.ok) (y:=y) Fe.ok_sub (fun _=>rfl) rfl (.tmp 24) (.tmp 27) 31 rfl i0 _ Tryz.underlying31 hi hz0 hz1 hz2 rfl (by decide) (by decide) (HAL.out _).1 (HAL.out _).2.2.2 (HAL.out _).2.2.1 rfl w8.heap.size 1 rfl (zAa w8 y.enc 33) (by intro u hu;simp[Fe.enc] at hu;rcases hu with rfl|rfl|rfl|rfl|rfl<;>rfl) (by omega) HQ.out (HAL.out _).2.1 ?_;intro v' w9 HG9 HF9 HB9))
     have HR9:=rA (HR0.out.of HF9 (HB9.trans (HBQ.out _)) HR8.out.le);have HG9':=rA HG9;have HF9':=rA HF9;obtain⟨lb,ld,rfl⟩:∃a c,v'=Value.slice a (A.length+1) c:=by
      rcases HG9.own.2 with⟨e,hn⟩|⟨g',cap,cur,e,_⟩
      ·simp at hn
      ·exact⟨_,_,by simpa using e⟩
     clear HB9 HG9 HF9;go_roundw
     case rel=>exact⟨A++[y],_,_,by simp;omega,HG9',HR9,HF9'⟩
     case measure=>simp;omega
   ·have hd:=dF hlt
    go_wp2_with fail;go_ret;exact hS.out
 ·have hdx:(x !=(want:Int))=true:=by simp[hx]
  obtain⟨-, -,k9,kf⟩:=HR.out.cells;have kf2:=kf 2;obtain⟨i3,fl3,HR3,HF3⟩:∃i3 fl3,Hid (Rd nv L q (w2.setCell ⟨q,2,none⟩ (jB true)) i3 fl3)/\Hid (Fr (only q) w.heap.size w (w2.setCell ⟨q,2,none⟩ (jB true))):=⟨_,_,rA HR.out.fail,rA (HF.out.setCell (.inl (qP q)) _)⟩;clear HR HF hx kf;go_wp2_with fail;go_loopw [5] (fun v wr=>∃(A:List Fe) (i:Nat) (fl:Bool),A.length<=want/\Hid (AgL Fe.enc Fe.ok 33 5 w.heap.size wr v A)/\Hid (Rd nv L q wr i fl)/\Hid (Fr (only q) w.heap.size w wr)) (fun v _=>match v with| jS _ n _=>want - n|_=>0)
  case atStart=>exact⟨[],i3,fl3,by simp,rA AgL.nil,HR3,HF3⟩
  case round=>
   obtain⟨A,i4,fl4,hA,HA,HR4,HF4⟩:=hrel;obtain⟨-, -,k2,kf⟩:=HR4.out.cells;clear kf;have hS:=rA (show NxR nv L q w (jR u5) wr from⟨u5,_,_,_,rfl,HA.out.fv (by omega),HR4.out,HF4.out⟩);obtain⟨la,lc,rfl⟩:∃a c,u5=Value.slice a A.length c:=by
    rcases HA.out.own.2 with⟨e,hn⟩|⟨g',cap,cur,e,_⟩
    ·exact⟨none,0,by rw[e,hn]⟩
    ·exact⟨_,_,e⟩
   by_cases hlt:A.length<want
   ·have hd:=dT hlt
    cases fl4 with
    |true=>
     go_wp2_with fail;go_ret;exact hS.out
    |false=>
     have HT:=rA (zBd HL.out HR4.out);clear hS;go_wp2_with fail;refine HT.out.mono ?_;rintro e w8 ⟨y,i8,fl8,rfl,hy,hR8,hF8⟩;have HFW:Hid (Fr (only q) w.heap.size w w8):=rA (HF4.out.trans (hF8.mono HF4.out.size));have HOK:Hid (y.ok (dim (zCx w.heap.size (jS la A.length lc)) w8)):=rA (Fe.ok_sub _ _ _ (HA.out.sees HF4.out.size) hy.1);have HAG:=rA (HA.out.call Fe.ok_sub HQ.out hF8);have HR8:=rA hR8;have HAL:Hid (∀o:Obj,AgL Fe.enc Fe.ok 33 5 w.heap.size (w8.alloc o) (jS la A.length lc) A/\Fr (only q) w.heap.size w (w8.alloc o)/\w.heap.size<=(w8.alloc o).heap.size/\y.ok (dim (zCx w.heap.size (jS la A.length lc)) (w8.alloc o))):=rA fun o=>
      ⟨HAG.out.alloc Fe.ok_sub _,HFW.out.alloc HFW.out.size _,by have:=HFW.out.size;simp;omega,Fe.ok_sub _ _ _ (zE (by simp) fun k hk hp=>⟨hp,rD w8 o hk⟩) HOK.out⟩
     have HBQ:Hid (∀o:Obj,(w8.alloc o).heap[q]? =some (.cells #[nv,jI kQ i8,jB fl8] 64 (0,0))):=rA fun o=>(rD w8 o HR8.out.lt).trans HR8.out.blk
     clear hF8 hR8 hy k2;go_wp2_with (first
      |(at_builtin;refine vZ (enc:=Fe.enc) (ok:=Fe.ok) (y:=y) Fe.ok_sub (fun _=>rfl) rfl (.tmp 24) (.tmp 27) 31 rfl i0 _ Tryz.underlying31 hi hz0 hz1 hz2 rfl (by decide) (by decide) (HAL.out _).1 (HAL.out _).2.2.2 (HAL.out _).2.2.1 rfl w8.heap.size 1 rfl (zAa w8 y.enc 33) (by intro u hu;simp[Fe.enc] at hu;rcases hu with rfl|rfl|rfl|rfl|rfl<;>rfl) (by omega) HQ.out (HAL.out _).2.1 ?_;intro v' w9 HG9 HF9 HB9))
     have HR9:=rA (HR0.out.of HF9 (HB9.trans (HBQ.out _)) HR8.out.le);have HG9':=rA HG9;have HF9':=rA HF9;obtain⟨lb,ld,rfl⟩:∃a c,v'=Value.slice a (A.length+1) c:=by
      rcases HG9.own.2 with⟨e,hn⟩|⟨g',cap,cur,e,_⟩
      ·simp at hn
      ·exact⟨_,_,by simpa using e⟩
     clear HB9 HG9 HF9;go_roundw
     case rel=>exact⟨A++[y],_,_,by simp;omega,HG9',HR9,HF9'⟩
     case measure=>simp;omega
   ·have hd:=dF hlt
    go_wp2_with fail;go_ret;exact hS.out
theorem zB7 {c:Nat} (h:w.cell? ⟨c,0,none⟩=some (jI kQ k)):Calls rC 17 #[jP (some ⟨c,0,none⟩)] w (fun e w'=>e=jR (if k=1 then .iface 93 (jG #[jP (some ⟨c,0,none⟩)]) else if k=2 then .iface 94 (jG #[jP (some ⟨c,0,none⟩)]) else if k=3 then .iface 95 (jG #[jP (some ⟨c,0,none⟩)]) else if k=4 then .iface 96 (jG #[jP (some ⟨c,0,none⟩)]) else .nilIface)/\w'=w):=by
 by_cases h1:k=1
 ·subst h1
  go_enter Tryz.func17,Tryz.ntmps17;go_wp2_with fail;go_ret;exact⟨rfl,rfl⟩
 ·have d1:(k==(1:Int))=false:=by simpa using h1
  by_cases h2:k=2
  ·subst h2
   go_enter Tryz.func17,Tryz.ntmps17;go_wp2_with fail;go_ret;exact⟨rfl,rfl⟩
  ·have d2:(k==(2:Int))=false:=by simpa using h2
   by_cases h3:k=3
   ·subst h3
    go_enter Tryz.func17,Tryz.ntmps17;go_wp2_with fail;go_ret;exact⟨rfl,rfl⟩
   ·have d3:(k==(3:Int))=false:=by simpa using h3
    by_cases h4:k=4
    ·subst h4
     go_enter Tryz.func17,Tryz.ntmps17;go_wp2_with fail;go_ret;exact⟨rfl,rfl⟩
    ·have d4:(k==(4:Int))=false:=by simpa using h4
     rw[if_neg h1,if_neg h2,if_neg h3,if_neg h4];go_enter Tryz.func17,Tryz.ntmps17;go_wp2_with fail;go_ret;exact⟨rfl,rfl⟩
def zTT (nv:Value) (L:List Int) (q:Nat) (w:World) (e:Ending) (w':World):Prop:=∃x1 x2 x3 v1 v2 A1 A2 i' fl',e=jR (jG #[jI kQ x1,jI kQ x2,jI kQ x3,v1,v2])/\Nums (dim (neu w.heap.size) w') v1 A1/\A1.length<=65519/\zR (dim (neu w.heap.size) w') v2 A2/\Rd nv L q w' i' fl'/\Fr (only q) w.heap.size w w'
theorem zLn {wr:World}{v1 v2:Value}{A1:List Int}{A2:List Rw} (h:RcS 38 3 22 nv L q w g wr x1 x2 x3 v1 v2 (yS A1) (A2.map Rw.v) (pG A2) i fl) (h1:A1.length<=65519) (hl:A1.length=A2.length):
  zTT nv L q w (jR (jG #[jI kQ x1,jI kQ x2,jI kQ x3,v1,v2])) (put5 wr w.heap.size (jI kQ x1) (jI kQ x2) (jI kQ x3) v1 v2):=by
 obtain⟨ht,he,hr,hF⟩:=h.fin (jI kQ x1) (jI kQ x2) (jI kQ x3) v1 v2;have hg:=h.gn;exact⟨x1,x2,x3,v1,v2,A1,A2.map Rw.l,_,_,rfl,(zCW ht.o1).on (yG (by omega)),h1,(zC2 ht.o2 he (by omega)).on (yG (by omega)),hr,hF⟩
theorem zQl (hp:tmps.getD 2 undef=jP (some ⟨g,0,none⟩)) (h:W.heap[g]? =some (.cells #[a,b,c,d,e] 38 (0,0))):
  (results Tryz.f43 tmps).run rC W=.ok (jG #[a,b,c,d,e]) W:=
 zGp rfl hp h fun W' h0 h1 h2 h3 h4=>by simp[go_sem,h0,h1,h2,h3,h4]
theorem zHB (hL:Good L) (h:Rd nv L q w i fl):Calls rC 43 #[jP (some ⟨q,0,none⟩)] w (zTT nv L q w):=by
 obtain⟨i0,hi,hz0,hz1,hz2⟩:=info_parts Tryz.info3;obtain⟨i1,hi',hz0',hz1',hz2'⟩:=info_parts Tryz.info22;have HQ:Hid (q<w.heap.size):=rA h.lt;have HR0:=rA h;have HL:=rA hL;clear h hL;go_enter Tryz.func43,Tryz.ntmps43;go_upto_region 1 with fail;have HRB:Hid ((w.alloc (.cells QC.q 38)).heap[w.heap.size]? =some (.cells QC.q 38 (0,0))):=rA (rI _ _);have HF1:Hid (Fr (only q) w.heap.size w (w.alloc (.cells QC.q 38))):=rA ((Fr.refl _ _ _).alloc (rH _) _);have HR1:=rA (HR0.out.later ((Below.refl _ _).alloc (rH _) (.cells QC.q 38)));generalize w.alloc (.cells QC.q 38)=w1 at*;have HLT:Hid (w.heap.size<w1.heap.size):=rA (Array.getElem?_eq_some_iff.1 HRB.out).1;have HN:=rA (xG HL.out HR1.out);go_wp2_with fail;refine HN.out.mono ?_;rintro e w2 ⟨x1,i2,fl2,rfl, -, -,hR2,hF2⟩;have HN2:=rA (xG HL.out hR2);have HF2:=rA hF2;clear HN hR2 hF2;go_wp2_with fail;refine HN2.out.mono ?_;rintro e w3 ⟨x2,i3,fl3,rfl,h20,h21,hR3,hF3⟩;have HX2:Hid (0<=x2/\x2<=65519):=rA ⟨h20,h21⟩;have HN3:=rA (xG HL.out hR3);have HF3:=rA (HF2.out.trans (hF3.mono HF2.out.size));clear HN2 hR3 hF3 HF2 h20 h21;go_wp2_with fail;refine HN3.out.mono ?_;rintro e w4 ⟨x3,i4,fl4,rfl, -, -,hR4,hF4⟩;have HF4:=rA (HF3.out.trans (hF4.mono HF3.out.size));have HR4:=rA hR4;have HRB4:Hid (w4.heap[w.heap.size]? =some (.cells QC.q 38 (0,0))):=rA ((HF4.out.block _ HLT.out (by have:=HQ.out;simp[only];omega)).trans HRB.out);clear HN3 hR4 hF4 HF3;go_upto_region 2 with fail;obtain⟨k2,rfl⟩:=rM HX2.out.1;have HK2:Hid (k2<=65519):=rA (by have:=HX2.out.2;omega);have HG0:Hid (RcS 38 3 22 nv L q w w4.heap.size (w4.alloc (.cells #[jI kQ x1,jI kQ k2,jI kQ x3,jS none 0 0,jS none 0 0] 38)) x1 k2 x3 (jS none 0 0) (jS none 0 0) (yS []) (([]:List Rw).map Rw.v) (pG []) i4 fl4):=rA (RcS.start HR0.out HRB4.out (HF1.out.trans (HF4.out.mono HF1.out.size)) HR4.out fun U x hx=>by cases hx);have HGG:Hid (w.heap.size<w4.heap.size):=rA HG0.out.gn;generalize w4.alloc (.cells #[jI kQ x1,jI kQ k2,jI kQ x3,jS none 0 0,jS none 0 0] 38)=w5 at*;generalize w4.heap.size=g at*;clear HF1 HR1 HRB HLT HF4 HR4 HRB4 HX2;have HN:=rA (xG HL.out HG0.out.rd);go_wp2_with fail;refine HN.out.mono ?_;rintro e w6 ⟨x,i6,fl6,rfl,h0,h1,hR,hF⟩;obtain⟨n,rfl⟩:=rM h0;have HG6:=rA (HG0.out.call hF hR);have hn:n<=65519:=by omega
 clear hR hF h0 h1 HN HG0;go_wp2_with fail;go_loopw [4] (fun n wr=>∃(m:Nat) (v1 v2:Value) (A1:List Int) (A2:List Rw) (i:Nat) (fl:Bool),n=jI kQ m/\m+A1.length<=65519/\Hid (A1.length=A2.length)/\Hid (RcS 38 3 22 nv L q w g wr x1 k2 x3 v1 v2 (yS A1) (A2.map Rw.v) (pG A2) i fl)) (fun n _=>(intOf n).toNat)
 case atStart=>exact⟨n,_,_,[],[],i6,fl6,rfl,by simpa using hn,rA rfl,HG6⟩
 case round=>
  obtain⟨m,v1,v2,A1,A2,i3,fl3,rfl,hm,HLL,HG⟩:=hrel;obtain⟨-, -,k2f,kf⟩:=HG.out.rd.cells;obtain⟨y0,y1,y2,y3,y4,yf⟩:=HG.out.cells;obtain⟨r0,r1,r2,r3,r4,rf⟩:=HG.out.rcells;have rf0:=rf 0;have rf1:=rf 1;have rf2:=rf 2;have rf3:=rf 3;have rf4:=rf 4;clear kf yf rf;by_cases hm0:m=0
  ·subst hm0
   obtain⟨b1,d1,b2,d2,rfl,rfl⟩:=HG.out.forms;have hS:=rA (zLn HG.out (by omega) HLL.out);simp only[List.length_map] at hS;have hE:=rA (yA (a:=jI kQ x1) (b:=jI kQ k2) (c:=jI kQ x3) (d:=jS b1 (yS A1).length d1) (e:=jS b2 A2.length d2) HG.out.rb);have hd:decide ((0:Int)<((0:Nat):Int))=false:=by simp
   go_wp2_with fail;exact rK (zQl rfl hE.out) rfl hS.out
  ·have hd:decide ((0:Int)<(m:Int))=true:=by simp;omega
   cases fl3 with
   |true=>
    obtain⟨b1,d1,b2,d2,rfl,rfl⟩:=HG.out.forms;have hS:=rA (zLn HG.out (by omega) HLL.out);simp only[List.length_map] at hS;have hE:=rA (yA (a:=jI kQ x1) (b:=jI kQ k2) (c:=jI kQ x3) (d:=jS b1 (yS A1).length d1) (e:=jS b2 A2.length d2) HG.out.rb);go_wp2_with fail;exact rK (zQl rfl hE.out) rfl hS.out
   |false=>
    have HM:Hid (m+A1.length<=65519):=rA hm;have hmb:m<=65519:=by omega
    clear hm r0 r1 r2 r3 r4 rf0 rf1 rf2 rf3 rf4;go_upto_region 5 with fail;clear k2f;have HC:=rA (xG HL.out (HG.out.rd.drawn 1));have HST:Hid (∀(w5:World) (i5:Nat) (fl5:Bool) (x:Int),Fr (only q) (wr.drewN 1).heap.size (wr.drewN 1) w5->Rd nv L q w5 i5 fl5->∃a c w',(rL #[22,22] 22 #[v1,jS (some ⟨w5.heap.size,0,none⟩) 1 1]).run rC (w5.alloc (.cells #[jI kQ x] 3))=.ok (jS a ((yS A1).length+1) c) w'/\w'.frozen? ⟨g,3,none⟩=false/\w'.cell? ⟨g,3,none⟩=some v1/\
     RcS 38 3 22 nv L q w g (w'.setCell ⟨g,3,none⟩ (jS a ((yS A1).length+1) c)) x1 k2 x3 (jS a ((yS A1).length+1) c) v2 (yS A1++[jI kQ x]) (A2.map Rw.v) (pG A2) i5 fl5):=rA fun w5 i5 fl5 x hF hR=>
      ((HG.out.drawn 1).call hF hR).app1 ((HG.out.drawn 1).call hF hR).els (zAC _) 22 i0 _ _ Tryz.underlying22 hi hz0 hz1 hz2 rfl (by decide) rfl (by simp[yS];have:=HM.out;omega) 3
    have HP:Hid (∀(w5:World),Fr (only q) (wr.drewN 1).heap.size (wr.drewN 1) w5->w5.cell? ⟨g,3,none⟩=some v1):=rA fun w5 hF=>(hF.cell (a:=⟨g,3,none⟩) (by have:=HG.out.n0;show g<wr.heap.size;omega) (by have:=HQ.out;have:=HGG.out;simp[only];omega)).trans HG.out.cells.2.2.2.1
    have HPA:Hid (∀(w5:World) (o:Obj),Fr (only q) (wr.drewN 1).heap.size (wr.drewN 1) w5->(w5.alloc o).cell? ⟨g,3,none⟩=some v1):=rA fun w5 o hF=>(rJ (rD w5 o (by have:=HG.out.n0;have:=hF.size;show g<_;have e:(wr.drewN 1).heap.size=wr.heap.size:=rfl;omega))).trans (HP.out w5 hF)
    go_cut [] from 25 to 32 (fun wx=>∃(x:Int) (a:Option Addr) (c i:Nat) (fl:Bool),Hid (RcS 38 3 22 nv L q w g wx x1 k2 x3 (jS a ((yS A1).length+1) c) v2 (yS A1++[jI kQ x]) (A2.map Rw.v) (pG A2) i fl))
    case first=>
     go_region_law (first
      |(refine zM rfl (.tmp 26) (.tmp 29) 22 22 (some 30) rfl rfl _ _ rfl rfl _ _ HRUN.out ?_)
      |(go_simp;refine HC.out.mono ?_;rintro e w5 ⟨x5,i5,fl5,rfl, -, -,hR5,hF5⟩;obtain⟨a5,c5,w6,hrun,sf6,s6,HNX⟩:=HST.out w5 i5 fl5 x5 hF5 hR5;have u4:=HP.out w5 hF5;have v4:=HPA.out w5 (.cells #[jI kQ x5] 3) hF5;have HRUN:=rA hrun;clear hrun hF5 hR5))
     all_goals
      go_wp2_with fail;go_meet;exact⟨x5,a5,c5,i5,fl5,rA HNX⟩
    case rest=>
     obtain⟨xA,a1,c1,j1,g1,HGA⟩:=hcut;have y1:=HGA.out.cells.2.1;have y4:=HGA.out.cells.2.2.2.2.1;clear HC HST HP HPA y0 y2 y3;go_upto_region 6 with fail;have HC:=rA (zHb HL.out (HGA.out.rd.drawn 1) k2 (by have:=HK2.out;omega));have HST:Hid (∀(w5:World) (i5:Nat) (fl5:Bool) (M:List Int) (sa:Option Addr) (sc:Nat),Fr (only q) (wc.drewN 1).heap.size (wc.drewN 1) w5->Rd nv L q w5 i5 fl5->Nums (dim (neu (wc.drewN 1).heap.size) w5) (jS sa M.length sc) M->M.length<=20000->∃a c w',(rL #[34,34] 34 #[v2,jS (some ⟨w5.heap.size,0,none⟩) 1 1]).run rC (w5.alloc (.cells #[jS sa M.length sc] 22))=.ok (jS a ((A2.map Rw.v).length+1) c) w'/\w'.frozen? ⟨g,4,none⟩=false/\w'.cell? ⟨g,4,none⟩=some v2/\
      RcS 38 3 22 nv L q w g (w'.setCell ⟨g,4,none⟩ (jS a ((A2.map Rw.v).length+1) c)) x1 k2 x3 (jS a1 ((yS A1).length+1) c1) (jS a ((A2.map Rw.v).length+1) c) (yS A1++[jI kQ xA]) (A2.map Rw.v++[jS sa M.length sc]) (pG (A2++[⟨M,sa,sc⟩])) i5 fl5):=rA fun w5 i5 fl5 M sa sc hF hR hNM hML=>
       ((HGA.out.drawn 1).call hF hR).app2 (zBt (x:=⟨M,sa,sc⟩) ((HGA.out.drawn 1).call hF hR).els (show zFV _ ⟨M,sa,sc⟩ from⟨hNM.on (zCr (HGA.out.drawn 1).tri HGA.out.n0),by show M.length<=1000000;omega⟩)) (zAC _) 34 i1 _ _ Tryz.underlying34 hi' hz0' hz1' hz2' rfl (by decide) rfl (by simp;have:=HM.out;have:=HLL.out;omega) 22
     have HP:Hid (∀(w5:World),Fr (only q) (wc.drewN 1).heap.size (wc.drewN 1) w5->w5.cell? ⟨g,4,none⟩=some v2):=rA fun w5 hF=>(hF.cell (a:=⟨g,4,none⟩) (by have:=HGA.out.n0;show g<wc.heap.size;omega) (by have:=HQ.out;have:=HGG.out;simp[only];omega)).trans HGA.out.cells.2.2.2.2.1
     have HPA:Hid (∀(w5:World) (o:Obj),Fr (only q) (wc.drewN 1).heap.size (wc.drewN 1) w5->(w5.alloc o).cell? ⟨g,4,none⟩=some v2):=rA fun w5 o hF=>(rJ (rD w5 o (by have:=HGA.out.n0;have:=hF.size;show g<_;have e:(wc.drewN 1).heap.size=wc.heap.size:=rfl;omega))).trans (HP.out w5 hF)
     go_region_law (first
      |(refine zM rfl (.tmp 33) (.tmp 38) 34 34 (some 39) rfl rfl _ _ rfl rfl _ _ HRUN.out ?_)
      |(go_simp;refine HC.out.mono ?_;rintro e w5 ⟨v5,M,i5,fl5,rfl,hN5,hG5,hR5,hF5⟩;obtain⟨sa,sc,rfl,hN6⟩:=hN5;obtain⟨a5,c5,w6,hrun,sf6,s6,HNX⟩:=HST.out w5 i5 fl5 M sa sc hF5 hR5 ⟨sa,sc,rfl,hN6⟩ hG5.2;have u4:=HP.out w5 hF5;have v4:=HPA.out w5 (.cells #[jS sa M.length sc] 22) hF5;have HRUN:=rA hrun;clear hrun hF5 hR5))
     all_goals
      have HGC:=rA HNX;go_wp2_with fail;go_roundw
      case rel=>exact⟨m - 1,_,_,A1++[xA],A2++[⟨M,sa,sc⟩],_,_,by go_num,by simp;have:=HM.out;omega,rA (by have:=HLL.out;simp;exact this),by simpa[yS,Rw.v] using HGC⟩
      case measure=>simp[intOf];omega
theorem SgV.on {U U':World} (h:Sub U U') {v:Value} {l:List Sg} (hn:SgV U v l):SgV U' v l:=by
 obtain⟨a,c,e,hl,hn⟩:=hn;refine⟨a,c,e,hl,fun h0=>?_⟩;obtain⟨b,o,e',hb,hc⟩:=hn h0;refine⟨b,o,e',rO hb h.size,fun j hj=>?_⟩;obtain⟨c0,c1,c2,c3⟩:=hc j hj;exact⟨h.cell c0,h.cell c1,h.cell c2,c3⟩
theorem SpV.on {U U':World} (h:Sub U U') {v:Value} {l:List Sp} (hn:SpV U v l):SpV U' v l:=by
 obtain⟨a,c,e,hl,hn⟩:=hn;refine⟨a,c,e,hl,fun h0=>?_⟩;obtain⟨b,o,e',hb,hc⟩:=hn h0;refine⟨b,o,e',rO hb h.size,fun j hj=>?_⟩;obtain⟨c0,c1,⟨u,c2,c3,c4⟩,c5,c6⟩:=hc j hj;exact⟨h.cell c0,h.cell c1,⟨u,h.cell c2,c3.on h,c4⟩,h.cell c5,h.cell c6⟩
theorem FV.on {U U':World} (h:Sub U U') {v:Value} {f:Fs} (hn:FV U v f):FV U' v f:=by
 obtain⟨hl,a,c,e,hc,hn⟩:=hn;exact⟨hl,a,c,e,hc,FArgs.on h hn⟩
structure ClS (nv:Value) (L:List Int) (q C:Nat) (w W:World) (cs:Array Value) (E:World->Prop) (i:Nat) (fl:Bool):Prop where
 cb:W.heap[C]? =some (.cells cs 43 (0,0))
 blk:W.heap[q]? =some (.cells #[nv,jI kQ i,jB fl] 64 (0,0))
 nums0:Nums (dim (two q C) w) nv L
 le:i<=L.length
 cap:∃a c,nv=jS a L.length c/\L.length<=c
 fr:Fr (two q C) w.heap.size w W
 lt:q<w.heap.size/\C<w.heap.size/\q≠C
 els:E (dim (neu w.heap.size) W)
 sub:∀U U',Sub U U'->E U->E U'
section
variable {nv:Value} {L:List Int} {q C:Nat} {w W W':World} {cs:Array Value} {E E':World->Prop} {i i':Nat} {fl fl':Bool}
theorem ClS.rd (h:ClS nv L q C w W cs E i fl):Rd nv L q W i fl:=
 ⟨h.blk,h.nums0.on (zE h.fr.size fun k hk hp=>⟨by simp[only];exact(yP.1 hp).1,h.fr.block k hk hp⟩),h.le,h.cap⟩
theorem ClS.stay (h:ClS nv L q C w W cs E i fl) (hF:Fr (two q C) W.heap.size W W'):Sub (dim (neu w.heap.size) W) (dim (neu w.heap.size) W'):=
 zE hF.size fun k hk hp=>⟨hp,hF.block k hk (yP.2 (by
   have:=h.lt;have:w.heap.size<=k:=by simpa[neu] using hp
   omega))⟩
theorem ClS.call (h:ClS nv L q C w W cs E i fl) (hF:Fr (only q) W.heap.size W W') (hR:Rd nv L q W' i' fl'):ClS nv L q C w W' cs E i' fl':=by
 have hl:=h.lt;have hs:=h.fr.size;exact⟨(hF.block C (by omega) (by simp[only];omega)).trans h.cb,hR.blk,h.nums0,hR.le,h.cap,h.fr.trans (hF.wide.mono hs),hl,h.sub _ _ (h.stay hF.wide) h.els,h.sub⟩
theorem ClS.put (h:ClS nv L q C w W cs E i fl) (j:Nat) (v:Value):ClS nv L q C w (W.setCell ⟨C,j,none⟩ v) (cs.setIfInBounds j v) E i fl:=by
 have hl:=h.lt;have hF:Fr (two q C) W.heap.size W (W.setCell ⟨C,j,none⟩ v):=(Fr.refl _ _ _).setCell (.inl (by simp[two])) _;exact⟨rP W C j _ 43 v h.cb,(rF _ _ _ _ (by simp;omega)).trans h.blk,h.nums0,h.le,h.cap,h.fr.trans (hF.mono h.fr.size),hl,h.sub _ _ (h.stay hF) h.els,h.sub⟩
theorem ClS.with (h:ClS nv L q C w W cs E i fl) (hE:E' (dim (neu w.heap.size) W)) (hs:∀U U',Sub U U'->E' U->E' U'):ClS nv L q C w W cs E' i fl:=
 ⟨h.cb,h.blk,h.nums0,h.le,h.cap,h.fr,h.lt,hE,hs⟩
theorem ClS.cell (h:ClS nv L q C w W cs E i fl) (j:Nat):W.cell? ⟨C,j,none⟩=cs[j]? :=by simp[rE,h.cb]
theorem ClS.frozen (h:ClS nv L q C w W cs E i fl) (j:Nat):W.frozen? ⟨C,j,none⟩=false:=by simp[rG,h.cb]
end
theorem ClV.on {U U':World} (hs:Sub U U') {x:Cv} {c:Cl} (h:ClV U x c):ClV U' x c:=
 ⟨h.sigs.on hs,h.nm,h.args.on hs,h.out.on hs,h.next.on hs,h.inn.on hs,h.innL,h.enext.on hs,h.spots.on hs,h.owner.on hs,h.ownerL,h.prio.on hs,h.prioL,h.succ.on hs,h.meas.on hs,h.letters.on hs,h.lettersL,h.res.on hs⟩
theorem Nums.nn (U:World):Nums U (jS none 0 0) []:=⟨Option.none,0,rfl,fun h=>absurd rfl h⟩
theorem zR.nn (U:World):zR U (jS none 0 0) []:=⟨Option.none,0,rfl,by simp,fun h=>absurd rfl h⟩
theorem SgV.nn (U:World):SgV U (jS none 0 0) []:=⟨Option.none,0,rfl,by simp,fun h=>absurd rfl h⟩
theorem SpV.nn (U:World):SpV U (jS none 0 0) []:=⟨Option.none,0,rfl,by simp,fun h=>absurd rfl h⟩
theorem FV.nn (U:World):FV U (jS none 0 0) .nil:=⟨by simp[Fs.len],Option.none,0,rfl,by simp[Fs.len],fun h=>absurd rfl h⟩
def zK (k:Int):Array Value:= #[jI kQ k,jS none 0 0,jI kQ 0,jT ⟨#[]⟩,jI kQ 0,jI kQ 0,jS none 0 0,jI kQ 0,jI kQ 0,jI kQ 0,jS none 0 0,jS none 0 0,jI kQ 0,jI kQ 0,jI kQ 0,jS none 0 0,jS none 0 0,jS none 0 0,jS none 0 0,jS none 0 0,jS none 0 0,jS none 0 0,jS none 0 0,jS none 0 0]
def NxC (nv:Value) (L:List Int) (q C:Nat) (w:World) (e:Ending) (w':World):Prop:=∃(x:Cv) (c:Cl) (i':Nat) (fl':Bool),e=jR (jU #[])/\ClS nv L q C w w' (x.cells c) (fun U=>ClV U x c) i' fl'/\c.args.nodes<=400
theorem pU (h:Tryz.prog.underlying t=some (.struct fs)):(rB (.iface t v) xT t true).run rC w=.ok (jU #[v,jB true]) w:=by
 simp[rB,rN h]
theorem zBI {i:TypeInfo} (h:Tryz.prog.underlying s=some (.struct fs)) (hi:Tryz.prog.info? s=some i) (hz:i.zero=some z) (hn:t≠s):(rB (.iface t v) xT s true).run rC w=.ok (jU #[z,jB false]) w:=by
 simp[rB,rN h,hn,zeroValue,typeInfo,hi,hz]
theorem zL8 {B1:List (List Int)}
  (h:ClS nv L q C w W (((((((((((((zK 1).setIfInBounds 1 (jS a1 A1.length c1)).setIfInBounds 2 (jI kQ y.op)).setIfInBounds 3 (jT y.nm)).setIfInBounds 4 (jI kQ y.v)).setIfInBounds 5 (jI kQ y.bd)).setIfInBounds 6 (jS y.a y.args.len y.c)).setIfInBounds 7 (jI kQ x1)).setIfInBounds 8 (jI kQ x2)).setIfInBounds 9 (jI kQ x3)).setIfInBounds 10 (jS b1 B1.length d1)).setIfInBounds 11 (jS b2 B2.length d2)).setIfInBounds 17 (jS b3 B3.length d3))
   (fun U=>((SgV U (jS a1 A1.length c1) A1/\y.ok4 U)/\zR U (jS b1 B1.length d1) B1/\zR U (jS b2 B2.length d2) B2)/\SpV U (jS b3 B3.length d3) B3) i fl):NxC nv L q C w (jR (jU #[])) W:=by
 obtain⟨⟨⟨e1,e2⟩,e3,e4⟩,e5⟩:=h.els;obtain⟨e2,e2n⟩:=e2;refine⟨⟨a1,c1,y.a,y.c,b1,d1,b2,d2,none,0,none,0,b3,d3,none,0,none,0,none,0,none,0,none,0,none,0⟩,⟨1,A1,y.op,y.nm,y.v,y.bd,y.args,⟨x1,x2,x3,B1,B2⟩,⟨0,0,0,[],[]⟩,B3,⟨[],[],[],[]⟩,[],.nil⟩,i,fl,rfl,?_,e2n⟩;refine⟨?_,h.blk,h.nums0,h.le,h.cap,h.fr,h.lt,⟨e1,e2.2.1,⟨e2.2.2.1,y.a,y.c,rfl,e2.2.2.2,e2.1⟩,e3,e4,Nums.nn _,by simp,zR.nn _,e5,Nums.nn _,by simp,Nums.nn _,by simp,zR.nn _,zR.nn _,Nums.nn _,by simp,FV.nn _⟩,fun _ _ hs=>ClV.on hs⟩;rw[h.cb];simp[zK,Cv.cells,Fs.len]
theorem zKI (hL:Good L) (h:ClS nv L q C w w (zK 1) (fun _=>True) i fl):Calls rC 20 #[jP (some ⟨q,0,none⟩),jP (some ⟨C,0,none⟩)] w (NxC nv L q C w):=by
 have HT:=rA (zB7 (w:=w) (c:=C) (k:=1) (h.cell 0));have HL:=rA hL;have H0:=rA h;clear h hL;go_enter Tryz.func20,Tryz.ntmps20;go_wp2_with fail;refine HT.out.mono ?_;rintro e w' ⟨rfl,rfl⟩;simp only[if_true];have HN:=rA (zE2 HL.out H0.out.rd);clear HT;have ha:∀W:World,(rB (.iface 93 (jG #[jP (some ⟨C,0,none⟩)])) 59 93 true).run rC W=.ok (jU #[jG #[jP (some ⟨C,0,none⟩)],jB true]) W:=fun W=>pU Tryz.underlying93
 go_wp2_with fail;refine HN.out.mono ?_;rintro e w2 ⟨v1,A1,i2,fl2,rfl,hS1,hR2,hF2⟩;obtain⟨s1a,s1c,rfl⟩:∃a c,v1=Value.slice a A1.length c:=by
  obtain⟨a,c,e,_⟩:=hS1;exact⟨a,c,e⟩
 have H2:=rA (((H0.out.call hF2 hR2).with (E':=fun U=>SgV U (jS s1a A1.length s1c) A1) hS1 fun _ _ hs h=>h.on hs).put 1 (jS s1a A1.length s1c));have g1:w2.cell? ⟨C,1,none⟩=some (jS none 0 0):=(H0.out.call hF2 hR2).cell 1;have f1:=(H0.out.call hF2 hR2).frozen 1;clear HN hS1 hR2 hF2 ha;go_upto_region 4 with fail;clear g1 f1;generalize w2.setCell ⟨C,1,none⟩ (jS s1a A1.length s1c)=w3 at*;have HN:=rA (zBd HL.out H2.out.rd);go_wp2_with fail;refine HN.out.mono ?_;rintro e w4 ⟨y,i4,fl4,rfl,hy,hR4,hF4⟩;have h4:=H2.out.call hF4 hR4;have H5:=rA ((((((h4.with (E':=fun U=>SgV U (jS s1a A1.length s1c) A1/\y.ok4 U) ⟨h4.els,Fe.ok4_sub _ _ _ (yG H2.out.fr.size) hy⟩ fun _ _ hs h=>⟨h.1.on hs,Fe.ok4_sub _ _ _ hs h.2⟩).put 2 (jI kQ y.op)).put 3 (jT y.nm)).put 4 (jI kQ y.v)).put 5 (jI kQ y.bd)).put 6 (jS y.a y.args.len y.c));have g2:w4.cell? ⟨C,2,none⟩=some (jI kQ 0):=(h4.cell 2).trans (by simp[zK]);have g3:w4.cell? ⟨C,3,none⟩=some (jT ⟨#[]⟩):=(h4.cell 3).trans (by simp[zK]);have g4:w4.cell? ⟨C,4,none⟩=some (jI kQ 0):=(h4.cell 4).trans (by simp[zK]);have g5:w4.cell? ⟨C,5,none⟩=some (jI kQ 0):=(h4.cell 5).trans (by simp[zK]);have g6:w4.cell? ⟨C,6,none⟩=some (jS none 0 0):=(h4.cell 6).trans (by simp[zK]);have f2:=h4.frozen 2;have f3:=h4.frozen 3;have f4:=h4.frozen 4;have f5:=h4.frozen 5;have f6:=h4.frozen 6;clear HN hy hR4 hF4 h4 H2;go_upto_region 5 with fail;clear g2 g3 g4 g5 g6 f2 f3 f4 f5 f6;generalize ((((w4.setCell ⟨C,2,none⟩ (jI kQ y.op)).setCell ⟨C,3,none⟩ (jT y.nm)).setCell ⟨C,4,none⟩ (jI kQ y.v)).setCell ⟨C,5,none⟩ (jI kQ y.bd)).setCell ⟨C,6,none⟩ (jS y.a y.args.len y.c)=w5 at*;have HN:=rA (zIL HL.out H5.out.rd);go_wp2_with fail;refine HN.out.mono ?_;rintro e w6 ⟨x1,x2,x3,u1,u2,B1,B2,i6,fl6,rfl,hB1,hB2,hR6,hF6⟩;obtain⟨b1,d1,rfl⟩:∃a c,u1=Value.slice a B1.length c:=by
  obtain⟨a,c,e,_⟩:=hB1;exact⟨a,c,e⟩
 obtain⟨b2,d2,rfl⟩:∃a c,u2=Value.slice a B2.length c:=by
  obtain⟨a,c,e,_⟩:=hB2;exact⟨a,c,e⟩
 have h6:=H5.out.call hF6 hR6;have H7:=rA ((((((h6.with (E':=fun U=>(SgV U (jS s1a A1.length s1c) A1/\y.ok4 U)/\zR U (jS b1 B1.length d1) B1/\zR U (jS b2 B2.length d2) B2) ⟨h6.els,hB1.on (yG H5.out.fr.size),hB2.on (yG H5.out.fr.size)⟩ fun _ _ hs h=>⟨⟨h.1.1.on hs,Fe.ok4_sub _ _ _ hs h.1.2⟩,h.2.1.on hs,h.2.2.on hs⟩).put 7 (jI kQ x1)).put 8 (jI kQ x2)).put 9 (jI kQ x3)).put 10 (jS b1 B1.length d1)).put 11 (jS b2 B2.length d2));have g2:w6.cell? ⟨C,7,none⟩=some (jI kQ 0):=(h6.cell 7).trans (by simp[zK]);have g3:w6.cell? ⟨C,8,none⟩=some (jI kQ 0):=(h6.cell 8).trans (by simp[zK]);have g4:w6.cell? ⟨C,9,none⟩=some (jI kQ 0):=(h6.cell 9).trans (by simp[zK]);have g5:w6.cell? ⟨C,10,none⟩=some (jS none 0 0):=(h6.cell 10).trans (by simp[zK]);have g6:w6.cell? ⟨C,11,none⟩=some (jS none 0 0):=(h6.cell 11).trans (by simp[zK]);have f2:=h6.frozen 7;have f3:=h6.frozen 8;have f4:=h6.frozen 9;have f5:=h6.frozen 10;have f6:=h6.frozen 11;clear HN hB1 hB2 hR6 hF6 h6 H5;go_upto_region 6 with fail;clear g2 g3 g4 g5 g6 f2 f3 f4 f5 f6;generalize ((((w6.setCell ⟨C,7,none⟩ (jI kQ x1)).setCell ⟨C,8,none⟩ (jI kQ x2)).setCell ⟨C,9,none⟩ (jI kQ x3)).setCell ⟨C,10,none⟩ (jS b1 B1.length d1)).setCell ⟨C,11,none⟩ (jS b2 B2.length d2)=w7 at*;have HN:=rA (zMS HL.out H7.out.rd);go_wp2_with fail;refine HN.out.mono ?_;rintro e w8 ⟨u3,B3,i8,fl8,rfl,hB3,hR8,hF8⟩;obtain⟨b3,d3,rfl⟩:∃a c,u3=Value.slice a B3.length c:=by
  obtain⟨a,c,e,_⟩:=hB3;exact⟨a,c,e⟩
 have h8:=H7.out.call hF8 hR8;have H9:=rA ((h8.with (E':=fun U=>((SgV U (jS s1a A1.length s1c) A1/\y.ok4 U)/\zR U (jS b1 B1.length d1) B1/\zR U (jS b2 B2.length d2) B2)/\SpV U (jS b3 B3.length d3) B3) ⟨h8.els,hB3.on (yG H7.out.fr.size)⟩ fun _ _ hs h=>⟨⟨⟨h.1.1.1.on hs,Fe.ok4_sub _ _ _ hs h.1.1.2⟩,h.1.2.1.on hs,h.1.2.2.on hs⟩,h.2.on hs⟩).put 17 (jS b3 B3.length d3));have g2:w8.cell? ⟨C,17,none⟩=some (jS none 0 0):=(h8.cell 17).trans (by simp[zK]);have f2:=h8.frozen 17;clear HN hB3 hR8 hF8 h8 H7;go_wp2_with fail;refine bodyPost_end (results_none rfl _ _ _) rfl ?_;exact zL8 H9.out
theorem Tryz.info93: (Tryz.prog.info? 93).map (fun i=>(i.zero,i.size,i.bytes))=some (some (jG #[jP none]),1,8):=by kernel_rfl
theorem Tryz.info94: (Tryz.prog.info? 94).map (fun i=>(i.zero,i.size,i.bytes))=some (some (jG #[jP none]),1,8):=by kernel_rfl
theorem Tryz.info95: (Tryz.prog.info? 95).map (fun i=>(i.zero,i.size,i.bytes))=some (some (jG #[jP none]),1,8):=by kernel_rfl
theorem Tryz.info96: (Tryz.prog.info? 96).map (fun i=>(i.zero,i.size,i.bytes))=some (some (jG #[jP none]),1,8):=by kernel_rfl
theorem zRW (w:World) (hn:t≠93):(rB (.iface t v) 59 93 true).run rC w=.ok (jU #[jG #[jP none],jB false]) w:=by
 obtain⟨i,hi,hz,_⟩:=info_parts Tryz.info93;exact zBI Tryz.underlying93 hi hz hn
theorem zTN (w:World) (hn:t≠94):(rB (.iface t v) 59 94 true).run rC w=.ok (jU #[jG #[jP none],jB false]) w:=by
 obtain⟨i,hi,hz,_⟩:=info_parts Tryz.info94;exact zBI Tryz.underlying94 hi hz hn
theorem zT5 (w:World) (hn:t≠95):(rB (.iface t v) 59 95 true).run rC w=.ok (jU #[jG #[jP none],jB false]) w:=by
 obtain⟨i,hi,hz,_⟩:=info_parts Tryz.info95;exact zBI Tryz.underlying95 hi hz hn
theorem zNJ {B1:List Int}
  (h:ClS nv L q C w W (((((((((((((zK 2).setIfInBounds 1 (jS a1 A1.length c1)).setIfInBounds 2 (jI kQ y.op)).setIfInBounds 3 (jT y.nm)).setIfInBounds 4 (jI kQ y.v)).setIfInBounds 5 (jI kQ y.bd)).setIfInBounds 6 (jS y.a y.args.len y.c)).setIfInBounds 12 (jI kQ x1)).setIfInBounds 13 (jI kQ x2)).setIfInBounds 14 (jI kQ x3)).setIfInBounds 15 (jS b1 B1.length d1)).setIfInBounds 16 (jS b2 B2.length d2)).setIfInBounds 17 (jS b3 B3.length d3))
   (fun U=>((SgV U (jS a1 A1.length c1) A1/\y.ok4 U)/\(Nums U (jS b1 B1.length d1) B1/\B1.length<=65519)/\zR U (jS b2 B2.length d2) B2)/\SpV U (jS b3 B3.length d3) B3) i fl):NxC nv L q C w (jR (jU #[])) W:=by
 obtain⟨⟨⟨e1,e2⟩,e3,e4⟩,e5⟩:=h.els;obtain⟨e2,e2n⟩:=e2;refine⟨⟨a1,c1,y.a,y.c,none,0,none,0,b1,d1,b2,d2,b3,d3,none,0,none,0,none,0,none,0,none,0,none,0⟩,⟨2,A1,y.op,y.nm,y.v,y.bd,y.args,⟨0,0,0,[],[]⟩,⟨x1,x2,x3,B1,B2⟩,B3,⟨[],[],[],[]⟩,[],.nil⟩,i,fl,rfl,?_,e2n⟩;refine⟨?_,h.blk,h.nums0,h.le,h.cap,h.fr,h.lt,⟨e1,e2.2.1,⟨e2.2.2.1,y.a,y.c,rfl,e2.2.2.2,e2.1⟩,zR.nn _,zR.nn _,e3.1,by have:=e3.2;show B1.length<=_;omega,e4,e5,Nums.nn _,by simp,Nums.nn _,by simp,zR.nn _,zR.nn _,Nums.nn _,by simp,FV.nn _⟩,fun _ _ hs=>ClV.on hs⟩;rw[h.cb];simp[zK,Cv.cells,Fs.len]
theorem zLN (hL:Good L) (h:ClS nv L q C w w (zK 2) (fun _=>True) i fl):Calls rC 20 #[jP (some ⟨q,0,none⟩),jP (some ⟨C,0,none⟩)] w (NxC nv L q C w):=by
 have HT:=rA (zB7 (w:=w) (c:=C) (k:=2) (h.cell 0));have HL:=rA hL;have H0:=rA h;clear h hL;go_enter Tryz.func20,Tryz.ntmps20;go_wp2_with fail;refine HT.out.mono ?_;rintro e w' ⟨rfl,rfl⟩;rw[if_neg (by decide)];simp only[if_true];have HN:=rA (zE2 HL.out H0.out.rd);clear HT;have ha:∀W:World,(rB (.iface 94 (jG #[jP (some ⟨C,0,none⟩)])) 59 94 true).run rC W=.ok (jU #[jG #[jP (some ⟨C,0,none⟩)],jB true]) W:=fun W=>pU Tryz.underlying94
 have hb:∀W:World,(rB (.iface 94 (jG #[jP (some ⟨C,0,none⟩)])) 59 93 true).run rC W=.ok (jU #[jG #[jP none],jB false]) W:=fun W=>zRW W (by decide)
 go_wp2_with fail;refine HN.out.mono ?_;rintro e w2 ⟨v1,A1,i2,fl2,rfl,hS1,hR2,hF2⟩;obtain⟨s1a,s1c,rfl⟩:∃a c,v1=Value.slice a A1.length c:=by
  obtain⟨a,c,e,_⟩:=hS1;exact⟨a,c,e⟩
 have H2:=rA (((H0.out.call hF2 hR2).with (E':=fun U=>SgV U (jS s1a A1.length s1c) A1) hS1 fun _ _ hs h=>h.on hs).put 1 (jS s1a A1.length s1c));have g1:w2.cell? ⟨C,1,none⟩=some (jS none 0 0):=(H0.out.call hF2 hR2).cell 1;have f1:=(H0.out.call hF2 hR2).frozen 1;clear HN hS1 hR2 hF2 ha hb;go_upto_region 9 with fail;clear g1 f1;generalize w2.setCell ⟨C,1,none⟩ (jS s1a A1.length s1c)=w3 at*;have HN:=rA (zBd HL.out H2.out.rd);go_wp2_with fail;refine HN.out.mono ?_;rintro e w4 ⟨y,i4,fl4,rfl,hy,hR4,hF4⟩;have h4:=H2.out.call hF4 hR4;have H5:=rA ((((((h4.with (E':=fun U=>SgV U (jS s1a A1.length s1c) A1/\y.ok4 U) ⟨h4.els,Fe.ok4_sub _ _ _ (yG H2.out.fr.size) hy⟩ fun _ _ hs h=>⟨h.1.on hs,Fe.ok4_sub _ _ _ hs h.2⟩).put 2 (jI kQ y.op)).put 3 (jT y.nm)).put 4 (jI kQ y.v)).put 5 (jI kQ y.bd)).put 6 (jS y.a y.args.len y.c));have g2:w4.cell? ⟨C,2,none⟩=some (jI kQ 0):=(h4.cell 2).trans (by simp[zK]);have g3:w4.cell? ⟨C,3,none⟩=some (jT ⟨#[]⟩):=(h4.cell 3).trans (by simp[zK]);have g4:w4.cell? ⟨C,4,none⟩=some (jI kQ 0):=(h4.cell 4).trans (by simp[zK]);have g5:w4.cell? ⟨C,5,none⟩=some (jI kQ 0):=(h4.cell 5).trans (by simp[zK]);have g6:w4.cell? ⟨C,6,none⟩=some (jS none 0 0):=(h4.cell 6).trans (by simp[zK]);have f2:=h4.frozen 2;have f3:=h4.frozen 3;have f4:=h4.frozen 4;have f5:=h4.frozen 5;have f6:=h4.frozen 6;clear HN hy hR4 hF4 h4 H2;go_upto_region 10 with fail;clear g2 g3 g4 g5 g6 f2 f3 f4 f5 f6;generalize ((((w4.setCell ⟨C,2,none⟩ (jI kQ y.op)).setCell ⟨C,3,none⟩ (jT y.nm)).setCell ⟨C,4,none⟩ (jI kQ y.v)).setCell ⟨C,5,none⟩ (jI kQ y.bd)).setCell ⟨C,6,none⟩ (jS y.a y.args.len y.c)=w5 at*;have HN:=rA (zHB HL.out H5.out.rd);go_wp2_with fail;refine HN.out.mono ?_;rintro e w6 ⟨x1,x2,x3,u1,u2,B1,B2,i6,fl6,rfl,hB1,hB1l,hB2,hR6,hF6⟩;obtain⟨b1,d1,rfl⟩:∃a c,u1=Value.slice a B1.length c:=by
  obtain⟨a,c,e,_⟩:=hB1;exact⟨a,c,e⟩
 obtain⟨b2,d2,rfl⟩:∃a c,u2=Value.slice a B2.length c:=by
  obtain⟨a,c,e,_⟩:=hB2;exact⟨a,c,e⟩
 have h6:=H5.out.call hF6 hR6;have H7:=rA ((((((h6.with (E':=fun U=>(SgV U (jS s1a A1.length s1c) A1/\y.ok4 U)/\(Nums U (jS b1 B1.length d1) B1/\B1.length<=65519)/\zR U (jS b2 B2.length d2) B2) ⟨h6.els,⟨hB1.on (yG H5.out.fr.size),hB1l⟩,hB2.on (yG H5.out.fr.size)⟩ fun _ _ hs h=>⟨⟨h.1.1.on hs,Fe.ok4_sub _ _ _ hs h.1.2⟩,⟨h.2.1.1.on hs,h.2.1.2⟩,h.2.2.on hs⟩).put 12 (jI kQ x1)).put 13 (jI kQ x2)).put 14 (jI kQ x3)).put 15 (jS b1 B1.length d1)).put 16 (jS b2 B2.length d2));have g2:w6.cell? ⟨C,12,none⟩=some (jI kQ 0):=(h6.cell 12).trans (by simp[zK]);have g3:w6.cell? ⟨C,13,none⟩=some (jI kQ 0):=(h6.cell 13).trans (by simp[zK]);have g4:w6.cell? ⟨C,14,none⟩=some (jI kQ 0):=(h6.cell 14).trans (by simp[zK]);have g5:w6.cell? ⟨C,15,none⟩=some (jS none 0 0):=(h6.cell 15).trans (by simp[zK]);have g6:w6.cell? ⟨C,16,none⟩=some (jS none 0 0):=(h6.cell 16).trans (by simp[zK]);have f2:=h6.frozen 12;have f3:=h6.frozen 13;have f4:=h6.frozen 14;have f5:=h6.frozen 15;have f6:=h6.frozen 16;clear HN hB1 hB2 hR6 hF6 h6 H5;go_upto_region 11 with fail;clear g2 g3 g4 g5 g6 f2 f3 f4 f5 f6;generalize ((((w6.setCell ⟨C,12,none⟩ (jI kQ x1)).setCell ⟨C,13,none⟩ (jI kQ x2)).setCell ⟨C,14,none⟩ (jI kQ x3)).setCell ⟨C,15,none⟩ (jS b1 B1.length d1)).setCell ⟨C,16,none⟩ (jS b2 B2.length d2)=w7 at*;have HN:=rA (zMS HL.out H7.out.rd);go_wp2_with fail;refine HN.out.mono ?_;rintro e w8 ⟨u3,B3,i8,fl8,rfl,hB3,hR8,hF8⟩;obtain⟨b3,d3,rfl⟩:∃a c,u3=Value.slice a B3.length c:=by
  obtain⟨a,c,e,_⟩:=hB3;exact⟨a,c,e⟩
 have h8:=H7.out.call hF8 hR8;have H9:=rA ((h8.with (E':=fun U=>((SgV U (jS s1a A1.length s1c) A1/\y.ok4 U)/\(Nums U (jS b1 B1.length d1) B1/\B1.length<=65519)/\zR U (jS b2 B2.length d2) B2)/\SpV U (jS b3 B3.length d3) B3) ⟨h8.els,hB3.on (yG H7.out.fr.size)⟩ fun _ _ hs h=>⟨⟨⟨h.1.1.1.on hs,Fe.ok4_sub _ _ _ hs h.1.1.2⟩,⟨h.1.2.1.1.on hs,h.1.2.1.2⟩,h.1.2.2.on hs⟩,h.2.on hs⟩).put 17 (jS b3 B3.length d3));have g2:w8.cell? ⟨C,17,none⟩=some (jS none 0 0):=(h8.cell 17).trans (by simp[zK]);have f2:=h8.frozen 17;clear HN hB3 hR8 hF8 h8 H7;go_wp2_with fail;refine bodyPost_end (results_none rfl _ _ _) rfl ?_;exact zNJ H9.out
theorem zM6 {M:List Int}{f:Fs}
  (h:ClS nv L q C w W ((((((((zK 4).setIfInBounds 1 (jS a1 A1.length c1)).setIfInBounds 2 (jI kQ y.op)).setIfInBounds 3 (jT y.nm)).setIfInBounds 4 (jI kQ y.v)).setIfInBounds 5 (jI kQ y.bd)).setIfInBounds 6 (jS y.a y.args.len y.c)).setIfInBounds 22 (jS b1 M.length d1) |>.setIfInBounds 23 (jS b2 f.len d2))
   (fun U=>((SgV U (jS a1 A1.length c1) A1/\y.ok4 U)/\Nums U (jS b1 M.length d1) M/\M.length<=20000)/\FV U (jS b2 f.len d2) f) i fl):NxC nv L q C w (jR (jU #[])) W:=by
 obtain⟨⟨⟨e1,e2⟩,e3,e4⟩,e5⟩:=h.els;obtain⟨e2,e2n⟩:=e2;refine⟨⟨a1,c1,y.a,y.c,none,0,none,0,none,0,none,0,none,0,none,0,none,0,none,0,none,0,b1,d1,b2,d2⟩,⟨4,A1,y.op,y.nm,y.v,y.bd,y.args,⟨0,0,0,[],[]⟩,⟨0,0,0,[],[]⟩,[],⟨[],[],[],[]⟩,M,f⟩,i,fl,rfl,?_,e2n⟩;refine⟨?_,h.blk,h.nums0,h.le,h.cap,h.fr,h.lt,⟨e1,e2.2.1,⟨e2.2.2.1,y.a,y.c,rfl,e2.2.2.2,e2.1⟩,zR.nn _,zR.nn _,Nums.nn _,by simp,zR.nn _,SpV.nn _,Nums.nn _,by simp,Nums.nn _,by simp,zR.nn _,zR.nn _,e3,by show M.length<=_;omega,e5⟩,fun _ _ hs=>ClV.on hs⟩;rw[h.cb];simp[zK,Cv.cells]
theorem zLL (hL:Good L) (h:ClS nv L q C w w (zK 4) (fun _=>True) i fl):Calls rC 20 #[jP (some ⟨q,0,none⟩),jP (some ⟨C,0,none⟩)] w (NxC nv L q C w):=by
 have HT:=rA (zB7 (w:=w) (c:=C) (k:=4) (h.cell 0));have HL:=rA hL;have H0:=rA h;clear h hL;go_enter Tryz.func20,Tryz.ntmps20;go_wp2_with fail;refine HT.out.mono ?_;rintro e w' ⟨rfl,rfl⟩;rw[if_neg (by decide),if_neg (by decide),if_neg (by decide)];simp only[if_true];have HN:=rA (zE2 HL.out H0.out.rd);clear HT;have ha:∀W:World,(rB (.iface 96 (jG #[jP (some ⟨C,0,none⟩)])) 59 96 true).run rC W=.ok (jU #[jG #[jP (some ⟨C,0,none⟩)],jB true]) W:=fun W=>pU Tryz.underlying96
 have hb3:∀W:World,(rB (.iface 96 (jG #[jP (some ⟨C,0,none⟩)])) 59 93 true).run rC W=.ok (jU #[jG #[jP none],jB false]) W:=fun W=>zRW W (by decide)
 have hb4:∀W:World,(rB (.iface 96 (jG #[jP (some ⟨C,0,none⟩)])) 59 94 true).run rC W=.ok (jU #[jG #[jP none],jB false]) W:=fun W=>zTN W (by decide)
 have hb5:∀W:World,(rB (.iface 96 (jG #[jP (some ⟨C,0,none⟩)])) 59 95 true).run rC W=.ok (jU #[jG #[jP none],jB false]) W:=fun W=>zT5 W (by decide)
 go_wp2_with fail;refine HN.out.mono ?_;rintro e w2 ⟨v1,A1,i2,fl2,rfl,hS1,hR2,hF2⟩;obtain⟨s1a,s1c,rfl⟩:∃a c,v1=Value.slice a A1.length c:=by
  obtain⟨a,c,e,_⟩:=hS1;exact⟨a,c,e⟩
 have H2:=rA (((H0.out.call hF2 hR2).with (E':=fun U=>SgV U (jS s1a A1.length s1c) A1) hS1 fun _ _ hs h=>h.on hs).put 1 (jS s1a A1.length s1c));have g1:w2.cell? ⟨C,1,none⟩=some (jS none 0 0):=(H0.out.call hF2 hR2).cell 1;have f1:=(H0.out.call hF2 hR2).frozen 1;clear HN hS1 hR2 hF2 ha hb3 hb4 hb5;go_upto_region 20 with fail;clear g1 f1;generalize w2.setCell ⟨C,1,none⟩ (jS s1a A1.length s1c)=w3 at*;have HN:=rA (zBd HL.out H2.out.rd);go_wp2_with fail;refine HN.out.mono ?_;rintro e w4 ⟨y,i4,fl4,rfl,hy,hR4,hF4⟩;have h4:=H2.out.call hF4 hR4;have H5:=rA ((((((h4.with (E':=fun U=>SgV U (jS s1a A1.length s1c) A1/\y.ok4 U) ⟨h4.els,Fe.ok4_sub _ _ _ (yG H2.out.fr.size) hy⟩ fun _ _ hs h=>⟨h.1.on hs,Fe.ok4_sub _ _ _ hs h.2⟩).put 2 (jI kQ y.op)).put 3 (jT y.nm)).put 4 (jI kQ y.v)).put 5 (jI kQ y.bd)).put 6 (jS y.a y.args.len y.c));have g2:w4.cell? ⟨C,2,none⟩=some (jI kQ 0):=(h4.cell 2).trans (by simp[zK]);have g3:w4.cell? ⟨C,3,none⟩=some (jT ⟨#[]⟩):=(h4.cell 3).trans (by simp[zK]);have g4:w4.cell? ⟨C,4,none⟩=some (jI kQ 0):=(h4.cell 4).trans (by simp[zK]);have g5:w4.cell? ⟨C,5,none⟩=some (jI kQ 0):=(h4.cell 5).trans (by simp[zK]);have g6:w4.cell? ⟨C,6,none⟩=some (jS none 0 0):=(h4.cell 6).trans (by simp[zK]);have f2:=h4.frozen 2;have f3:=h4.frozen 3;have f4:=h4.frozen 4;have f5:=h4.frozen 5;have f6:=h4.frozen 6;clear HN hy hR4 hF4 h4 H2;go_upto_region 21 with fail;clear g2 g3 g4 g5 g6 f2 f3 f4 f5 f6;generalize ((((w4.setCell ⟨C,2,none⟩ (jI kQ y.op)).setCell ⟨C,3,none⟩ (jT y.nm)).setCell ⟨C,4,none⟩ (jI kQ y.v)).setCell ⟨C,5,none⟩ (jI kQ y.bd)).setCell ⟨C,6,none⟩ (jS y.a y.args.len y.c)=w5 at*;have HN:=rA (zG6 HL.out H5.out.rd);go_wp2_with fail;refine HN.out.mono ?_;rintro e w6 ⟨u1,M,i6,fl6,rfl,hM,hG,hR6,hF6⟩;obtain⟨b1,d1,rfl⟩:∃a c,u1=Value.slice a M.length c:=by
  obtain⟨a,c,e,_⟩:=hM;exact⟨a,c,e⟩
 have h6:=H5.out.call hF6 hR6;have H7:=rA ((h6.with (E':=fun U=>(SgV U (jS s1a A1.length s1c) A1/\y.ok4 U)/\Nums U (jS b1 M.length d1) M/\M.length<=20000) ⟨h6.els,hM.on (yG H5.out.fr.size),hG.2⟩ fun _ _ hs h=>⟨⟨h.1.1.on hs,Fe.ok4_sub _ _ _ hs h.1.2⟩,h.2.1.on hs,h.2.2⟩).put 22 (jS b1 M.length d1));have HML:Hid (M.length<=20000):=rA hG.2;have hM2:M.length<=20000:=hG.2;have g2:w6.cell? ⟨C,22,none⟩=some (jS none 0 0):=(h6.cell 22).trans (by simp[zK]);have f2:=h6.frozen 22;clear HN hM hR6 hF6 h6 H5 hG;go_upto_region 22 with fail;clear g2 f2;generalize w6.setCell ⟨C,22,none⟩ (jS b1 M.length d1)=w7 at*;have HN:=rA (zKS HL.out H7.out.rd M.length HML.out);have g2:w7.cell? ⟨C,22,none⟩=some (jS b1 M.length d1):=(H7.out.cell 22).trans (by simp[zK]);go_wp2_with fail;refine HN.out.mono ?_;rintro e w8 ⟨u3,f,i8,fl8,rfl,hf,hR8,hF8⟩;obtain⟨b3,d3,rfl⟩:∃a c,u3=Value.slice a f.len c:=by
  obtain⟨_,a,c,e,_⟩:=hf;exact⟨a,c,e⟩
 have h8:=H7.out.call hF8 hR8;have H9:=rA ((h8.with (E':=fun U=>((SgV U (jS s1a A1.length s1c) A1/\y.ok4 U)/\Nums U (jS b1 M.length d1) M/\M.length<=20000)/\FV U (jS b3 f.len d3) f) ⟨h8.els,hf.on (yG H7.out.fr.size)⟩ fun _ _ hs h=>⟨⟨⟨h.1.1.1.on hs,Fe.ok4_sub _ _ _ hs h.1.1.2⟩,h.1.2.1.on hs,h.1.2.2⟩,h.2.on hs⟩).put 23 (jS b3 f.len d3));have g3:w8.cell? ⟨C,23,none⟩=some (jS none 0 0):=(h8.cell 23).trans (by simp[zK]);have f3:=h8.frozen 23;clear HN hf hR8 hF8 h8 H7 g2;go_wp2_with fail;refine bodyPost_end (results_none rfl _ _ _) rfl ?_;exact zM6 H9.out
theorem pT {i:TypeInfo} (h:Tryz.prog.underlying s=some (.struct fs)) (hi:Tryz.prog.info? s=some i) (hz:i.zero=some z):(rB .nilIface xT s true).run rC w=.ok (jU #[z,jB false]) w:=by
 simp[rB,rN h,zeroValue,typeInfo,hi,hz]
theorem zKj (h:ClS nv L q C w W (zK k) (fun _=>True) i fl):NxC nv L q C w (jR (jU #[])) W:=by
 refine⟨⟨none,0,none,0,none,0,none,0,none,0,none,0,none,0,none,0,none,0,none,0,none,0,none,0,none,0⟩,⟨k,[],0,⟨#[]⟩,0,0,.nil,⟨0,0,0,[],[]⟩,⟨0,0,0,[],[]⟩,[],⟨[],[],[],[]⟩,[],.nil⟩,i,fl,rfl,?_,by simp[Fs.nodes]⟩;exact⟨h.cb,h.blk,h.nums0,h.le,h.cap,h.fr,h.lt,⟨SgV.nn _,(by decide:(⟨#[]⟩:ByteArray).size<=9223372036854775807),FV.nn _,zR.nn _,zR.nn _,Nums.nn _,by simp,zR.nn _,SpV.nn _,Nums.nn _,by simp,Nums.nn _,by simp,zR.nn _,zR.nn _,Nums.nn _,by simp,FV.nn _⟩,fun _ _ hs=>ClV.on hs⟩
theorem zI7 (hk:k≠1/\k≠2/\k≠3/\k≠4) (h:ClS nv L q C w w (zK k) (fun _=>True) i fl):Calls rC 20 #[jP (some ⟨q,0,none⟩),jP (some ⟨C,0,none⟩)] w (NxC nv L q C w):=by
 have hT:=zB7 (w:=w) (c:=C) (k:=k) (h.cell 0);rw[if_neg hk.1,if_neg hk.2.1,if_neg hk.2.2.1,if_neg hk.2.2.2] at hT;have HT:=rA hT;have hl:=h.lt;have H2:Hid (ClS nv L q C w (w.setCell ⟨q,2,none⟩ (jB true)) (zK k) (fun _=>True) i true):=rA
  ⟨(rF _ _ _ _ (by simp;omega)).trans h.cb,h.rd.fail.blk,h.nums0,h.le,h.cap,h.fr.setCell (.inl (by simp[two])) _,h.lt,trivial,fun _ _ _ _=>trivial⟩
 obtain⟨-, -,k2,kf⟩:=h.rd.cells;have kf2:=kf 2;obtain⟨i3,hi3,hz3,_⟩:=info_parts Tryz.info93;obtain⟨i4,hi4,hz4,_⟩:=info_parts Tryz.info94;obtain⟨i5,hi5,hz5,_⟩:=info_parts Tryz.info95;obtain⟨i6,hi6,hz6,_⟩:=info_parts Tryz.info96;have hb3:∀W:World,(rB .nilIface 59 93 true).run rC W=.ok (jU #[jG #[jP none],jB false]) W:=fun W=>pT Tryz.underlying93 hi3 hz3
 have hb4:∀W:World,(rB .nilIface 59 94 true).run rC W=.ok (jU #[jG #[jP none],jB false]) W:=fun W=>pT Tryz.underlying94 hi4 hz4
 have hb5:∀W:World,(rB .nilIface 59 95 true).run rC W=.ok (jU #[jG #[jP none],jB false]) W:=fun W=>pT Tryz.underlying95 hi5 hz5
 have hb6:∀W:World,(rB .nilIface 59 96 true).run rC W=.ok (jU #[jG #[jP none],jB false]) W:=fun W=>pT Tryz.underlying96 hi6 hz6
 clear hT h hk kf hi3 hz3 hi4 hz4 hi5 hz5 hi6 hz6;go_enter Tryz.func20,Tryz.ntmps20;go_wp2_with fail;refine HT.out.mono ?_;rintro e w' ⟨rfl,rfl⟩;go_wp2_with fail;refine bodyPost_end (results_none rfl _ _ _) rfl ?_;exact zKj H2.out
def rwE (x:Rw):List Value:=[x.v]
theorem zLo:∀A:List Rw,A.flatMap rwE=A.map Rw.v
 |[]=>rfl
 |x::r=>by rw[List.flatMap_cons,zLo r];rfl
structure MsS (nv:Value) (L:List Int) (q C:Nat) (W1:World) (cs1:Array Value) (Wr:World) (lv:Value) (A:List Rw) (i:Nat) (fl:Bool):Prop where
 cb:Wr.heap[C]? =some (.cells (cs1.setIfInBounds 21 lv) 43 (0,0))
 blk:Wr.heap[q]? =some (.cells #[nv,jI kQ i,jB fl] 64 (0,0))
 le:i<=L.length
 fr:Fr (two q C) W1.heap.size W1 Wr
 list:AgL rwE zFV 22 1 W1.heap.size Wr lv A
section
variable {nv:Value} {L:List Int} {q C:Nat} {w W1 Wr W5:World} {cs1:Array Value} {E:World->Prop} {i i' i1:Nat} {fl fl' fl1:Bool} {lv:Value} {A:List Rw} {y:Rw}
theorem MsS.rd (h:MsS nv L q C W1 cs1 Wr lv A i fl) (h1:ClS nv L q C w W1 cs1 E i1 fl1):Rd nv L q Wr i fl:=by
 have hs:=h1.fr.size;exact⟨h.blk,h1.nums0.on (zE (rQ hs h.fr.size) fun k hk hp=>⟨by simp[only];exact(yP.1 hp).1,(h.fr.block k (by omega) hp).trans (h1.fr.block k hk hp)⟩),h.le,h1.cap⟩
theorem MsS.drawn (h:MsS nv L q C W1 cs1 Wr lv A i fl) (n:Nat):MsS nv L q C W1 cs1 (Wr.drewN n) lv A i fl:=
 ⟨h.cb,h.blk,h.le,h.fr.drawn n,h.list.keep (w':=Wr.drewN n) qT (rH _) fun _ _ _=>rfl⟩
theorem MsS.call (h:MsS nv L q C W1 cs1 Wr lv A i fl) (h1:ClS nv L q C w W1 cs1 E i1 fl1) (hF:Fr (only q) Wr.heap.size Wr W5) (hR:Rd nv L q W5 i' fl'):MsS nv L q C W1 cs1 W5 lv A i' fl':=by
 have hl:=h1.lt;have hs:=h1.fr.size;have hs2:=h.fr.size;exact⟨(hF.block C (by omega) (by simp[only];omega)).trans h.cb,hR.blk,hR.le,h.fr.trans (hF.wide.mono hs2),h.list.call qT (by omega) hF⟩
theorem MsS.app (h:MsS nv L q C W1 cs1 Wr lv A i fl) (h1:ClS nv L q C w W1 cs1 E i1 fl1) (hy:zFV (dim (zCx W1.heap.size lv) Wr) y) (hl:A.length+1<=1000000):
  ∃a c w',(rL #[34,34] 34 #[lv,jS (some ⟨Wr.heap.size,0,none⟩) 1 1]).run rC (Wr.alloc (.cells #[y.v] 22))=.ok (jS a (A.length+1) c) w'/\w'.frozen? ⟨C,21,none⟩=false/\w'.cell? ⟨C,21,none⟩=(cs1.setIfInBounds 21 lv)[21]?/\
   MsS nv L q C W1 cs1 (w'.setCell ⟨C,21,none⟩ (jS a (A.length+1) c)) (jS a (A.length+1) c) (A++[y]) i fl:=by
 obtain⟨i0,hi,hz0,hz1,hz2⟩:=info_parts Tryz.info22;have hlt:=h1.lt;have hs:=h1.fr.size;have hs2:=h.fr.size;have h6:=h.list.alloc qT (.cells #[y.v] 22);obtain⟨v',w',hr,hown,hg, -,hat⟩:=run_append_own_at (P:=rC) (Wr.alloc (.cells #[y.v] 22)) W1.heap.size 34 34 22 i0 _ 1 24 Tryz.underlying34 hi hz0 hz1 hz2 rfl (by omega) lv A.length (A.flatMap rwE) h6.own ⟨Wr.heap.size,0,none⟩ 1 1 [y.v] rfl (cell_one_new Wr y.v 22) (by intro u hu;simp at hu;subst hu;rfl) (by unfold maxLen;omega)
  (by omega) (by simp;omega)
 have hL:=h6.push qT (qT _ _ _ (zE (by simp) fun k hk hp=>⟨hp,rD Wr _ hk⟩) hy) hown hg hat;obtain⟨a,c,rfl⟩:∃a c,v'=jS a (A.length+1) c:=by
  rcases hown.2 with⟨_,hn⟩|⟨g',cap,cur,e,_⟩
  ·omega
  ·exact⟨_,_,e⟩
 have hold:∀k,k<W1.heap.size->w'.heap[k]? =Wr.heap[k]? :=fun k hk=>by
  rw[hg.block k (by simp;omega) fun e=>by have:=(h6.own.lt k e.symm).1;omega];exact rD Wr _ (by omega)
 have hgb:=(hold C (by omega)).trans h.cb;have hsz:Wr.heap.size<=w'.heap.size:=by have:=hg.size;simp at this;omega
 have F1:Fr (two q C) W1.heap.size Wr w':=⟨hg.os,hg.tape,hg.output,hsz,fun k hk _=>hold k hk⟩;have hk:∀k,k≠C->(w'.setCell ⟨C,21,none⟩ (jS a (A.length+1) c)).heap[k]? =w'.heap[k]? :=fun k h1=>rF _ _ _ _ (by simpa using h1)
 refine⟨a,c,w',hr,by simp[rG,hgb],by simp[rE,hgb],⟨?_,?_,h.le,(h.fr.trans F1).setCell (.inl (by simp[two])) _,hL.keep qT (by simp) fun k h2 _=>hk k (by omega)⟩⟩
 ·rw[rP _ _ _ _ _ _ hgb]
  simp
 ·rw[hk q (by omega)]
  exact(hold q (by omega)).trans h.blk
theorem MsS.claim (h:MsS nv L q C W1 cs1 Wr lv A i fl) (h1:ClS nv L q C w W1 cs1 E i1 fl1) (hA:A.length<=1000000):ClS nv L q C w Wr (cs1.setIfInBounds 21 lv) (fun U=>E U/\zR U lv (A.map Rw.l)) i fl:=by
 have hs:=h1.fr.size;have ho:=h.list.own;rw[zLo] at ho;have hrows:=zC2 (v:=lv) (A:=A) (by simpa using ho) (fun x hx=>qT _ _ _ (zE (rH _) fun k _ hp=>⟨zC7 (pB.1 hp).1,rfl⟩) (h.list.els x hx)) hA;have hst:Sub (dim (neu w.heap.size) W1) (dim (neu w.heap.size) Wr):=zE h.fr.size fun k hk hp=>by
  have hk2:w.heap.size<=k:=by simpa[neu] using hp
  have:=h1.lt;exact⟨hp,h.fr.block k hk (yP.2 ⟨by omega,by omega⟩)⟩
 exact⟨h.cb,h.blk,h1.nums0,h.le,h1.cap,h1.fr.trans (h.fr.mono hs),h1.lt,⟨h1.sub _ _ hst h1.els,hrows.on (yG hs)⟩,fun U U' hs h=>⟨h1.sub U U' hs h.1,h.2.on hs⟩⟩
theorem MsS.start (h1:ClS nv L q C w W1 cs1 E i1 fl1) (hz:cs1[21]? =some (jS none 0 0)):MsS nv L q C W1 cs1 W1 (jS none 0 0) [] i1 fl1:=by
 refine⟨?_,h1.blk,h1.le,Fr.refl _ _ _,AgL.nil⟩;rw[h1.cb];congr 2;obtain⟨hlt,he⟩:=Array.getElem?_eq_some_iff.1 hz;apply Array.ext (by simp);intro k hk1 hk2;rw[Array.getElem_setIfInBounds];split
 ·rename_i e;subst e;exact he
 ·rfl
end
theorem zLS {b4:Option Addr}{d4:Nat}{A1 A2:List Int}{A3 A4:List (List Int)} (hl4:A4.length<=1000000)
  (h:ClS nv L q C w W (((((zK 3).setIfInBounds 18 (jS b1 A1.length d1)).setIfInBounds 19 (jS b2 A2.length d2)).setIfInBounds 20 (jS b3 A3.length d3)).setIfInBounds 21 (jS b4 A4.length d4))
   (fun U=>(Nums U (jS b1 A1.length d1) A1/\A1.length<=65519/\Nums U (jS b2 A2.length d2) A2/\A2.length<=65519/\zR U (jS b3 A3.length d3) A3)/\zR U (jS b4 A4.length d4) A4) i fl):NxC nv L q C w (jR (jU #[])) W:=by
 obtain⟨⟨e1,e2,e3,e4,e5⟩,e6⟩:=h.els;refine⟨⟨none,0,none,0,none,0,none,0,none,0,none,0,none,0,b1,d1,b2,d2,b3,d3,b4,d4,none,0,none,0⟩,⟨3,[],0,⟨#[]⟩,0,0,.nil,⟨0,0,0,[],[]⟩,⟨0,0,0,[],[]⟩,[],⟨A1,A2,A3,A4⟩,[],.nil⟩,i,fl,rfl,?_,by simp[Fs.nodes]⟩;refine⟨?_,h.blk,h.nums0,h.le,h.cap,h.fr,h.lt,⟨SgV.nn _,(by decide:(⟨#[]⟩:ByteArray).size<=9223372036854775807),FV.nn _,zR.nn _,zR.nn _,Nums.nn _,by simp,zR.nn _,SpV.nn _,e1,by show A1.length<=_;omega,e3,by show A2.length<=_;omega,e5,e6,Nums.nn _,by simp,FV.nn _⟩,fun _ _ hs=>ClV.on hs⟩;rw[h.cb];simp[zK,Cv.cells,Fs.len]
theorem zJW (hL:Good L) (h:ClS nv L q C w w (zK 3) (fun _=>True) i fl):Calls rC 20 #[jP (some ⟨q,0,none⟩),jP (some ⟨C,0,none⟩)] w (NxC nv L q C w):=by
 have HT:=rA (zB7 (w:=w) (c:=C) (k:=3) (h.cell 0));have HL:=rA hL;have H0:=rA h;clear h hL;go_enter Tryz.func20,Tryz.ntmps20;go_wp2_with fail;refine HT.out.mono ?_;rintro e w' ⟨rfl,rfl⟩;rw[if_neg (by decide),if_neg (by decide)];simp only[if_true];have HN:=rA (zRy HL.out H0.out.rd);clear HT;have ha:∀W:World,(rB (.iface 95 (jG #[jP (some ⟨C,0,none⟩)])) 59 95 true).run rC W=.ok (jU #[jG #[jP (some ⟨C,0,none⟩)],jB true]) W:=fun W=>pU Tryz.underlying95
 have hb3:∀W:World,(rB (.iface 95 (jG #[jP (some ⟨C,0,none⟩)])) 59 93 true).run rC W=.ok (jU #[jG #[jP none],jB false]) W:=fun W=>zRW W (by decide)
 have hb4:∀W:World,(rB (.iface 95 (jG #[jP (some ⟨C,0,none⟩)])) 59 94 true).run rC W=.ok (jU #[jG #[jP none],jB false]) W:=fun W=>zTN W (by decide)
 go_wp2_with fail;refine HN.out.mono ?_;rintro e w2 ⟨v1,v2,v3,A1,A2,A3,i2,fl2,rfl,hA1,hl1,hA2,hl2,hA3,hR2,hF2⟩;obtain⟨b1,d1,rfl⟩:∃a c,v1=Value.slice a A1.length c:=by
  obtain⟨a,c,e,_⟩:=hA1;exact⟨a,c,e⟩
 obtain⟨b2,d2,rfl⟩:∃a c,v2=Value.slice a A2.length c:=by
  obtain⟨a,c,e,_⟩:=hA2;exact⟨a,c,e⟩
 obtain⟨b3,d3,rfl⟩:∃a c,v3=Value.slice a A3.length c:=by
  obtain⟨a,c,e,_⟩:=hA3;exact⟨a,c,e⟩
 have h2:=H0.out.call hF2 hR2;have H2:=rA ((((h2.with (E':=fun U=>Nums U (jS b1 A1.length d1) A1/\A1.length<=65519/\Nums U (jS b2 A2.length d2) A2/\A2.length<=65519/\zR U (jS b3 A3.length d3) A3) ⟨hA1,hl1,hA2,hl2,hA3⟩ fun _ _ hs h=>⟨h.1.on hs,h.2.1,h.2.2.1.on hs,h.2.2.2.1,h.2.2.2.2.on hs⟩).put 18 (jS b1 A1.length d1)).put 19 (jS b2 A2.length d2)).put 20 (jS b3 A3.length d3));have g1:w2.cell? ⟨C,18,none⟩=some (jS none 0 0):=h2.cell 18;have g2:w2.cell? ⟨C,19,none⟩=some (jS none 0 0):=h2.cell 19;have g3:w2.cell? ⟨C,20,none⟩=some (jS none 0 0):=h2.cell 20;have f1:=h2.frozen 18;have f2:=h2.frozen 19;have f3:=h2.frozen 20;clear HN hA1 hA2 hA3 hR2 hF2 ha hb3 hb4 h2 hl2;go_upto_region 14 with fail;clear g1 g2 g3 f1 f2 f3;generalize ((w2.setCell ⟨C,18,none⟩ (jS b1 A1.length d1)).setCell ⟨C,19,none⟩ (jS b2 A2.length d2)).setCell ⟨C,20,none⟩ (jS b3 A3.length d3)=w3 at*;have g1:w3.cell? ⟨C,18,none⟩=some (jS b1 A1.length d1):=(H2.out.cell 18).trans (by simp[zK]);have HM0:=rA (MsS.start H2.out (by simp[zK]));go_wp2_with fail;go_loopw [69] (fun t wr=>∃(j:Nat) (lv:Value) (A:List Rw) (i:Nat) (fl:Bool),t=jI kQ j/\j<=A1.length/\A.length<=j/\Hid (MsS nv L q C w3 ((((zK 3).setIfInBounds 18 (jS b1 A1.length d1)).setIfInBounds 19 (jS b2 A2.length d2)).setIfInBounds 20 (jS b3 A3.length d3)) wr lv A i fl)) (fun t _=>A1.length - (intOf t).toNat)
 case atStart=>exact⟨0,_,[],_,_,rfl,Nat.zero_le _,by simp,HM0⟩
 case round=>
  obtain⟨j,lv,A,i5,fl5,rfl,hj,hAj,HM⟩:=hrel;by_cases hlt:j<A1.length
  ·have hd:=dT hlt
   have HC:=rA (zG6 HL.out ((HM.out.drawn 1).rd H2.out));have HAJ:Hid (A.length<=j):=rA hAj;have HST:Hid (∀(w5:World) (i5:Nat) (fl5:Bool) (M:List Int) (sa:Option Addr) (sc:Nat),Fr (only q) (wr.drewN 1).heap.size (wr.drewN 1) w5->Rd nv L q w5 i5 fl5->Nums (dim (neu (wr.drewN 1).heap.size) w5) (jS sa M.length sc) M->M.length<=20000->
     ∃a c w',(rL #[34,34] 34 #[lv,jS (some ⟨w5.heap.size,0,none⟩) 1 1]).run rC (w5.alloc (.cells #[jS sa M.length sc] 22))=.ok (jS a (A.length+1) c) w'/\w'.frozen? ⟨C,21,none⟩=false/\w'.cell? ⟨C,21,none⟩=some lv/\
      MsS nv L q C w3 ((((zK 3).setIfInBounds 18 (jS b1 A1.length d1)).setIfInBounds 19 (jS b2 A2.length d2)).setIfInBounds 20 (jS b3 A3.length d3)) (w'.setCell ⟨C,21,none⟩ (jS a (A.length+1) c)) (jS a (A.length+1) c) (A++[⟨M,sa,sc⟩]) i5 fl5):=rA fun w5 i5 fl5 M sa sc hF hR hN hM=>by
    obtain⟨a,c,w',e1,e2,e3,e4⟩:=((HM.out.drawn 1).call H2.out hF hR).app (y:=⟨M,sa,sc⟩) H2.out (qT _ _ _ ((HM.out.drawn 1).list.sees (HM.out.drawn 1).fr.size) ⟨hN,by show M.length<=1000000;omega⟩) (by have:=HAJ.out;omega);exact⟨a,c,w',e1,e2,e3.trans (by simp[zK]),e4⟩
   have y1:wr.cell? ⟨C,21,none⟩=some lv:=by simp[rE,HM.out.cb,zK]
   have HP:Hid (∀(w5:World),Fr (only q) (wr.drewN 1).heap.size (wr.drewN 1) w5->w5.cell? ⟨C,21,none⟩=some lv):=rA fun w5 hF=>(hF.cell (a:=⟨C,21,none⟩) (by have:=HM.out.fr.size;have:=H2.out.fr.size;have:=H0.out.lt;show C<wr.heap.size;omega) (by have:=H0.out.lt;simp[only];omega)).trans (by simp[rE,HM.out.cb,zK])
   have HPA:Hid (∀(w5:World) (o:Obj),Fr (only q) (wr.drewN 1).heap.size (wr.drewN 1) w5->(w5.alloc o).cell? ⟨C,21,none⟩=some lv):=rA fun w5 o hF=>(rJ (rD w5 o (by have:=HM.out.fr.size;have:=H2.out.fr.size;have:=H0.out.lt;have:=hF.size;have e:(wr.drewN 1).heap.size=wr.heap.size:=rfl;show C<w5.heap.size;omega))).trans (HP.out w5 hF)
   go_upto_region 16 with fail;clear g1
   go_region_law (first
    |(refine zM rfl (.tmp 75) (.tmp 78) 34 34 (some 79) rfl rfl _ _ rfl rfl _ _ HRUN.out ?_)
    |(go_simp;refine HC.out.mono ?_;rintro e w5 ⟨v5,M,i6,fl6,rfl,hN5,hG5,hR5,hF5⟩;obtain⟨sa,sc,rfl,hN6⟩:=hN5;obtain⟨a5,c5,w7,hrun,sf6,s6,HNX⟩:=HST.out w5 i6 fl6 M sa sc hF5 hR5 ⟨sa,sc,rfl,hN6⟩ hG5.2;have u4:=HP.out w5 hF5;have v4:=HPA.out w5 (.cells #[jS sa M.length sc] 22) hF5;have HRUN:=rA hrun;clear hrun hF5 hR5 hN6 hG5))
   all_goals
    have HGC:=rA HNX;go_wp2_with fail;go_roundw
    case rel=>exact⟨j+1,_,A++[⟨M,sa,sc⟩],_,_,by go_num,by omega,by simp;exact HAJ.out,HGC⟩
    case measure=>simp[intOf];omega
  ·have hd:=dF hlt
   have H9:=rA (HM.out.claim H2.out (by omega));obtain⟨b4,d4,rfl⟩:∃a c,lv=Value.slice a (A.map Rw.l).length c:=by
    obtain⟨a,c,e,_⟩:=H9.out.els.2;exact⟨a,c,e⟩
   go_wp2_with fail;refine bodyPost_end (results_none rfl _ _ _) rfl ?_;exact zLS (by simp;omega) H9.out
