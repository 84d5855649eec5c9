/- The judge's reader of games. -/
import Derived.Test.YtmabhhngoklncaaGreatDoorF
set_option maxRecDepth 100000
set_option maxHeartbeats 40000000
set_option linter.all false
open Go renaming heap_setCell_other->rA,heap_setCell_same->rC,heap_alloc_old->rJ,heap_alloc_new->rL,bodyPost_ret->rN
open Go.Lib renaming hid->rB
open Go.World renaming cell?->rD,frozen?->rG,cell?_of_block->rM
open Go.Proofs.Tryz renaming prog->rE
open Nat renaming le_refl->rF,le_trans->rI
open Go.Builtin renaming append_->rH
open Int renaming eq_ofNat_of_zero_le->rK
open Go.Value renaming int->jI,slice->jS,pointer->jP,bool->jB,string->jT,agg->jG
open Go.IntKind renaming i64->kQ
open Go.Ending renaming returned->jR
open Go Go.RowKit
namespace Go.Proofs.YtmabhhngoklncaaGreatDoor
variable {w wr:World}{nv b v1 v2:Value}{L:List Int}{q i g:Nat}{fl:Bool}{tmps:Array Value}
theorem Tryz.info22:(Tryz.prog.info? 22).map (fun i=>(i.zero,i.size,i.bytes))=some (some (jS none 0 0),1,24):=by kernel_rfl
structure GmS (T:TypeId) (T1 T2 T3:TypeId) (nv:Value) (L:List Int) (q:Nat) (w wr:World) (v1 v2 v3:Value) (C1 C2 C3:List Value) (E:World->Prop) (i:Nat) (fl:Bool):Prop where
 gb:wr.heap[w.heap.size+1]? =some (.cells #[v1,v2,v3] T (0,0))
 rb:wr.heap[w.heap.size]? =some (.cells QB.q T (0,0))
 tri:Tri T1 T2 T3 (w.heap.size+2) wr v1 v2 v3 C1 C2 C3
 els:E (dim (qM (w.heap.size+2) v1 v2 v3) wr)
 sub:∀U U',Sub U U'->E U->E U'
 rd:Rd nv L q wr i fl
 rd0:∃i0 fl0,Rd nv L q w i0 fl0
 fr:Fr (only q) w.heap.size w wr
 qn:q<w.heap.size
 n0:w.heap.size+2<=wr.heap.size
section
variable {T T1 T2 T3:TypeId} {nv:Value} {L:List Int} {q:Nat} {w wr w5:World} {v1 v2 v3:Value} {C1 C2 C3:List Value} {E:World->Prop} {i i':Nat} {fl fl':Bool}
theorem GmS.drawn (h:GmS T T1 T2 T3 nv L q w wr v1 v2 v3 C1 C2 C3 E i fl) (n:Nat):GmS T T1 T2 T3 nv L q w (wr.drewN n) v1 v2 v3 C1 C2 C3 E i fl:=
 ⟨h.gb,h.rb,h.tri.keep fun _ _ _=>rfl,h.sub _ _ (xZ (w:=wr) (w':=wr.drewN n) (rF _) fun _ _ _=>rfl) h.els,h.sub,h.rd.drawn n,h.rd0,h.fr.drawn n,h.qn,h.n0⟩
theorem GmS.call (h:GmS T T1 T2 T3 nv L q w wr v1 v2 v3 C1 C2 C3 E i fl) (hF:Fr (only q) wr.heap.size wr w5) (hR:Rd nv L q w5 i' fl'):GmS T T1 T2 T3 nv L q w w5 v1 v2 v3 C1 C2 C3 E i' fl':=by
 have hk:∀k,w.heap.size<=k->k<wr.heap.size->w5.heap[k]? =wr.heap[k]? :=fun k h1 h2=>hF.block k h2 (by have:=h.qn;simp[only];omega)
 have hn:=h.n0;exact⟨(hk _ (by omega) (by omega)).trans h.gb,(hk _ (by omega) (by omega)).trans h.rb,h.tri.keep fun k h1 h2=>hk k (by omega) h2,h.sub _ _ (xZ hF.size fun k h1 h2=>hk k (by omega) h2) h.els,h.sub,hR,h.rd0,h.fr.trans (hF.mono (by omega)),h.qn,rI h.n0 hF.size⟩
theorem GmS.cells (h:GmS T T1 T2 T3 nv L q w wr v1 v2 v3 C1 C2 C3 E i fl):wr.cell? ⟨w.heap.size+1,0,none⟩=some v1/\wr.cell? ⟨w.heap.size+1,1,none⟩=some v2/\wr.cell? ⟨w.heap.size+1,2,none⟩=some v3/\∀j,wr.frozen? ⟨w.heap.size+1,j,none⟩=false:=by
 refine⟨?_,?_,?_,fun j=>?_⟩;all_goals simp[rD,rG,h.gb]
theorem zAz {B:Nat} {a b c:Value}:qM B b c a=qM B a b c:=by
 funext k;unfold qM;cases decide (k<B)<;>cases (a.ownBlock==some k)<;>cases (b.ownBlock==some k)<;>cases (c.ownBlock==some k)<;>rfl
theorem zH3 {B:Nat} {a b c:Value}:qM B c a b=qM B a b c:=by rw[<-zAz,<-zAz,<-zAz]
theorem GmS.rcells (h:GmS T T1 T2 T3 nv L q w wr v1 v2 v3 C1 C2 C3 E i fl):wr.cell? ⟨w.heap.size,0,none⟩=some (jS none 0 0)/\wr.cell? ⟨w.heap.size,1,none⟩=some (jS none 0 0)/\wr.cell? ⟨w.heap.size,2,none⟩=some (jS none 0 0)/\∀j,wr.frozen? ⟨w.heap.size,j,none⟩=false:=by
 refine⟨?_,?_,?_,fun j=>?_⟩;all_goals simp[rD,rG,h.rb]
theorem GmS.app1 (h:GmS T T1 T2 T3 nv L q w wr v1 v2 v3 C1 C2 C3 E i fl) {u:Value} {E':World->Prop} (hE:E' (dim (qM (w.heap.size+2) v1 v2 v3) wr)) (hs:∀U U',Sub U U'->E' U->E' U') (t:TypeId) (i0:TypeInfo) (z:Value) (bytes:Nat) (ht:Tryz.prog.underlying t=some (.slice T1)) (hi:Tryz.prog.info? T1=some i0) (hz:i0.zero=some z)
  (hsize:i0.size=1) (hby:i0.bytes=bytes) (hzs:z.cells.size=1) (hb2:bytes<=1000) (hu:u.oneCell'=true) (hl:C1.length+1<=1000000) (TT:TypeId):
  ∃a c w',(rH #[t,t] t #[v1,jS (some ⟨wr.heap.size,0,none⟩) 1 1]).run rE (wr.alloc (.cells #[u] TT))=.ok (jS a (C1.length+1) c) w'/\w'.frozen? ⟨w.heap.size+1,0,none⟩=false/\w'.cell? ⟨w.heap.size+1,0,none⟩=some v1/\
   GmS T T1 T2 T3 nv L q w (w'.setCell ⟨w.heap.size+1,0,none⟩ (jS a (C1.length+1) c)) (jS a (C1.length+1) c) v2 v3 (C1++[u]) C2 C3 E' i fl:=by
 obtain⟨v',w',hr,htri,hsub,hold,hfr⟩:=h.tri.app t i0 z bytes ht hi hz hsize hby hzs hb2 h.n0 hu hl TT;have hshape:∃a c,v'=jS a (C1.length+1) c:=by
  rcases htri.o1.2 with⟨_,hn⟩|⟨g,cap,cur,e,_⟩
  ·simp at hn
  ·exact⟨_,cap,by simpa using e⟩
 obtain⟨a,c,rfl⟩:=hshape;have hgb:w'.heap[w.heap.size+1]? =some (.cells #[v1,v2,v3] T (0,0)):=(hold _ (by omega)).trans h.gb;have hq:=h.qn;have hn0:=h.n0;have hs1:wr.heap.size<=w'.heap.size:=(hfr wr (fun _=>false) (Fr.refl _ _ _)).size;have F:Fr (only q) w.heap.size w w':=by
  have h1:=h.fr;refine⟨?_,?_,?_,rI h1.size hs1,fun k hk hp=>(hold k (by omega)).trans (h1.block k hk hp)⟩
  ·exact(hfr wr (fun _=>false) (Fr.refl _ _ _)).os.trans h1.os
  ·exact(hfr wr (fun _=>false) (Fr.refl _ _ _)).tape.trans h1.tape
  ·exact(hfr wr (fun _=>false) (Fr.refl _ _ _)).output.trans h1.output
 have hkb:∀k,w.heap.size+2<=k->k<w'.heap.size->(w'.setCell ⟨w.heap.size+1,0,none⟩ (jS a (C1.length+1) c)).heap[k]? =w'.heap[k]? :=fun k h1 _=>rA _ _ _ _ (by simp;omega)
 have F2:Fr (only q) w.heap.size w (w'.setCell ⟨w.heap.size+1,0,none⟩ (jS a (C1.length+1) c)):=F.setCell (.inr (by simp)) _;obtain⟨j0,f0,hr0⟩:=h.rd0;refine⟨a,c,w',hr,by simp[rG,hgb],by simp[rD,hgb],⟨?_,?_,htri.keep hkb,?_,hs,?_,⟨j0,f0,hr0⟩,F2,hq,by simp;omega⟩⟩
 ·rw[rC _ _ _ _ _ _ hgb];rfl
 ·rw[rA _ _ _ _ (by simp)]
  exact(hold _ (by omega)).trans h.rb
 ·exact hs _ _ (hsub.trans (xZ (by simp) hkb)) hE
 ·refine hr0.of F2 ?_ h.rd.le
  rw[rA _ _ _ _ (by simp;omega)];exact(hold _ (by omega)).trans h.rd.blk
theorem GmS.app2 (h:GmS T T1 T2 T3 nv L q w wr v1 v2 v3 C1 C2 C3 E i fl) {u:Value} {E':World->Prop} (hE:E' (dim (qM (w.heap.size+2) v1 v2 v3) wr)) (hs:∀U U',Sub U U'->E' U->E' U') (t:TypeId) (i0:TypeInfo) (z:Value) (bytes:Nat) (ht:Tryz.prog.underlying t=some (.slice T2)) (hi:Tryz.prog.info? T2=some i0) (hz:i0.zero=some z)
  (hsize:i0.size=1) (hby:i0.bytes=bytes) (hzs:z.cells.size=1) (hb2:bytes<=1000) (hu:u.oneCell'=true) (hl:C2.length+1<=1000000) (TT:TypeId):
  ∃a c w',(rH #[t,t] t #[v2,jS (some ⟨wr.heap.size,0,none⟩) 1 1]).run rE (wr.alloc (.cells #[u] TT))=.ok (jS a (C2.length+1) c) w'/\w'.frozen? ⟨w.heap.size+1,1,none⟩=false/\w'.cell? ⟨w.heap.size+1,1,none⟩=some v2/\
   GmS T T1 T2 T3 nv L q w (w'.setCell ⟨w.heap.size+1,1,none⟩ (jS a (C2.length+1) c)) v1 (jS a (C2.length+1) c) v3 C1 (C2++[u]) C3 E' i fl:=by
 obtain⟨v',w',hr,htri,hsub,hold,hfr⟩:=h.tri.rot.app t i0 z bytes ht hi hz hsize hby hzs hb2 h.n0 hu hl TT;have hshape:∃a c,v'=jS a (C2.length+1) c:=by
  rcases htri.o1.2 with⟨_,hn⟩|⟨g,cap,cur,e,_⟩
  ·simp at hn
  ·exact⟨_,cap,by simpa using e⟩
 obtain⟨a,c,rfl⟩:=hshape;rw[show qM (w.heap.size+2) v2 v3 v1=qM (w.heap.size+2) v1 v2 v3 from zAz,show qM (w.heap.size+2) (jS a (C2.length+1) c) v3 v1=qM (w.heap.size+2) v1 (jS a (C2.length+1) c) v3 from zAz] at hsub;have hgb:w'.heap[w.heap.size+1]? =some (.cells #[v1,v2,v3] T (0,0)):=(hold _ (by omega)).trans h.gb;have hq:=h.qn;have hn0:=h.n0;have hs1:wr.heap.size<=w'.heap.size:=(hfr wr (fun _=>false) (Fr.refl _ _ _)).size;have F:Fr (only q) w.heap.size w w':=by
  have h1:=h.fr;refine⟨?_,?_,?_,rI h1.size hs1,fun k hk hp=>(hold k (by omega)).trans (h1.block k hk hp)⟩
  ·exact(hfr wr (fun _=>false) (Fr.refl _ _ _)).os.trans h1.os
  ·exact(hfr wr (fun _=>false) (Fr.refl _ _ _)).tape.trans h1.tape
  ·exact(hfr wr (fun _=>false) (Fr.refl _ _ _)).output.trans h1.output
 have hkb:∀k,w.heap.size+2<=k->k<w'.heap.size->(w'.setCell ⟨w.heap.size+1,1,none⟩ (jS a (C2.length+1) c)).heap[k]? =w'.heap[k]? :=fun k h1 _=>rA _ _ _ _ (by simp;omega)
 have F2:Fr (only q) w.heap.size w (w'.setCell ⟨w.heap.size+1,1,none⟩ (jS a (C2.length+1) c)):=F.setCell (.inr (by simp)) _;obtain⟨j0,f0,hr0⟩:=h.rd0;refine⟨a,c,w',hr,by simp[rG,hgb],by simp[rD,hgb],⟨?_,?_,htri.rot.rot.keep hkb,?_,hs,?_,⟨j0,f0,hr0⟩,F2,hq,by simp;omega⟩⟩
 ·rw[rC _ _ _ _ _ _ hgb];rfl
 ·rw[rA _ _ _ _ (by simp)]
  exact(hold _ (by omega)).trans h.rb
 ·exact hs _ _ (hsub.trans (xZ (by simp) hkb)) hE
 ·refine hr0.of F2 ?_ h.rd.le
  rw[rA _ _ _ _ (by simp;omega)];exact(hold _ (by omega)).trans h.rd.blk
theorem GmS.app3 (h:GmS T T1 T2 T3 nv L q w wr v1 v2 v3 C1 C2 C3 E i fl) {u:Value} {E':World->Prop} (hE:E' (dim (qM (w.heap.size+2) v1 v2 v3) wr)) (hs:∀U U',Sub U U'->E' U->E' U') (t:TypeId) (i0:TypeInfo) (z:Value) (bytes:Nat) (ht:Tryz.prog.underlying t=some (.slice T3)) (hi:Tryz.prog.info? T3=some i0) (hz:i0.zero=some z)
  (hsize:i0.size=1) (hby:i0.bytes=bytes) (hzs:z.cells.size=1) (hb2:bytes<=1000) (hu:u.oneCell'=true) (hl:C3.length+1<=1000000) (TT:TypeId):
  ∃a c w',(rH #[t,t] t #[v3,jS (some ⟨wr.heap.size,0,none⟩) 1 1]).run rE (wr.alloc (.cells #[u] TT))=.ok (jS a (C3.length+1) c) w'/\w'.frozen? ⟨w.heap.size+1,2,none⟩=false/\w'.cell? ⟨w.heap.size+1,2,none⟩=some v3/\
   GmS T T1 T2 T3 nv L q w (w'.setCell ⟨w.heap.size+1,2,none⟩ (jS a (C3.length+1) c)) v1 v2 (jS a (C3.length+1) c) C1 C2 (C3++[u]) E' i fl:=by
 obtain⟨v',w',hr,htri,hsub,hold,hfr⟩:=h.tri.rot.rot.app t i0 z bytes ht hi hz hsize hby hzs hb2 h.n0 hu hl TT;have hshape:∃a c,v'=jS a (C3.length+1) c:=by
  rcases htri.o1.2 with⟨_,hn⟩|⟨g,cap,cur,e,_⟩
  ·simp at hn
  ·exact⟨_,cap,by simpa using e⟩
 obtain⟨a,c,rfl⟩:=hshape;rw[show qM (w.heap.size+2) v3 v1 v2=qM (w.heap.size+2) v1 v2 v3 from zH3,show qM (w.heap.size+2) (jS a (C3.length+1) c) v1 v2=qM (w.heap.size+2) v1 v2 (jS a (C3.length+1) c) from zH3] at hsub;have hgb:w'.heap[w.heap.size+1]? =some (.cells #[v1,v2,v3] T (0,0)):=(hold _ (by omega)).trans h.gb;have hq:=h.qn;have hn0:=h.n0;have hs1:wr.heap.size<=w'.heap.size:=(hfr wr (fun _=>false) (Fr.refl _ _ _)).size;have F:Fr (only q) w.heap.size w w':=by
  have h1:=h.fr;refine⟨?_,?_,?_,rI h1.size hs1,fun k hk hp=>(hold k (by omega)).trans (h1.block k hk hp)⟩
  ·exact(hfr wr (fun _=>false) (Fr.refl _ _ _)).os.trans h1.os
  ·exact(hfr wr (fun _=>false) (Fr.refl _ _ _)).tape.trans h1.tape
  ·exact(hfr wr (fun _=>false) (Fr.refl _ _ _)).output.trans h1.output
 have hkb:∀k,w.heap.size+2<=k->k<w'.heap.size->(w'.setCell ⟨w.heap.size+1,2,none⟩ (jS a (C3.length+1) c)).heap[k]? =w'.heap[k]? :=fun k h1 _=>rA _ _ _ _ (by simp;omega)
 have F2:Fr (only q) w.heap.size w (w'.setCell ⟨w.heap.size+1,2,none⟩ (jS a (C3.length+1) c)):=F.setCell (.inr (by simp)) _;obtain⟨j0,f0,hr0⟩:=h.rd0;refine⟨a,c,w',hr,by simp[rG,hgb],by simp[rD,hgb],⟨?_,?_,htri.rot.keep hkb,?_,hs,?_,⟨j0,f0,hr0⟩,F2,hq,by simp;omega⟩⟩
 ·rw[rC _ _ _ _ _ _ hgb];rfl
 ·rw[rA _ _ _ _ (by simp)]
  exact(hold _ (by omega)).trans h.rb
 ·exact hs _ _ (hsub.trans (xZ (by simp) hkb)) hE
 ·refine hr0.of F2 ?_ h.rd.le
  rw[rA _ _ _ _ (by simp;omega)];exact(hold _ (by omega)).trans h.rd.blk
theorem GmS.start (h:Rd nv L q w i fl) (hE:∀U,E U):GmS T T1 T2 T3 nv L q w ((w.alloc (.cells QB.q T)).alloc (.cells QB.q T)) (jS none 0 0) (jS none 0 0) (jS none 0 0) [] [] [] E i fl:=by
 have hB:Below w.heap.size w ((w.alloc (.cells QB.q T)).alloc (.cells QB.q T)):=((Below.refl _ _).alloc (rF _) _).alloc (by simp) _;refine⟨?_,?_,Tri.nil,hE _,fun _ _ _ _=>hE _,h.later hB,⟨i,fl,h⟩,Fr.of_below hB,h.lt,by simp⟩
 ·have:=rL (w.alloc (.cells QB.q T)) (.cells QB.q T)
  rwa[show(w.alloc (.cells QB.q T)).heap.size=w.heap.size+1 by simp] at this
 ·rw[rJ _ _ (by simp),rL]
theorem GmS.fin (h:GmS T T1 T2 T3 nv L q w wr v1 v2 v3 C1 C2 C3 E i fl) (x1 x2 x3:Value):Tri T1 T2 T3 (w.heap.size+2) (((wr.setCell ⟨w.heap.size,0,none⟩ x1).setCell ⟨w.heap.size,1,none⟩ x2).setCell ⟨w.heap.size,2,none⟩ x3) v1 v2 v3 C1 C2 C3/\E (dim (neu (w.heap.size+2)) (((wr.setCell ⟨w.heap.size,0,none⟩ x1).setCell ⟨w.heap.size,1,none⟩ x2).setCell ⟨w.heap.size,2,none⟩ x3))/\
  Rd nv L q (((wr.setCell ⟨w.heap.size,0,none⟩ x1).setCell ⟨w.heap.size,1,none⟩ x2).setCell ⟨w.heap.size,2,none⟩ x3) i fl/\Fr (only q) w.heap.size w (((wr.setCell ⟨w.heap.size,0,none⟩ x1).setCell ⟨w.heap.size,1,none⟩ x2).setCell ⟨w.heap.size,2,none⟩ x3):=by
 have hk:∀k,k≠w.heap.size->(((wr.setCell ⟨w.heap.size,0,none⟩ x1).setCell ⟨w.heap.size,1,none⟩ x2).setCell ⟨w.heap.size,2,none⟩ x3).heap[k]? =wr.heap[k]? :=fun k h1=>by
  rw[rA _ _ _ _ (by simpa using h1),rA _ _ _ _ (by simpa using h1),rA _ _ _ _ (by simpa using h1)]
 have hF:=((h.fr.setCell (a:=⟨w.heap.size,0,none⟩) (.inr (rF _)) x1).setCell (a:=⟨w.heap.size,1,none⟩) (.inr (rF _)) x2).setCell (a:=⟨w.heap.size,2,none⟩) (.inr (rF _)) x3;obtain⟨j0,f0,hr0⟩:=h.rd0;have hq:=h.qn;refine⟨h.tri.keep fun k h1 _=>hk k (by omega),h.sub _ _ (Sub.trans (xZ (w:=wr) (by simp) fun k h1 _=>hk k (by omega)) zJ8) h.els,hr0.of hF ?_ h.rd.le,hF⟩;rw[hk q (by omega)];exact h.rd.blk
end
def zSP (nv:Value) (L:List Int) (q:Nat) (w:World) (e:Ending) (w':World):Prop:=∃v1 v2 v3 A1 A2 A3 i' fl',e=jR (jG #[v1,v2,v3])/\Nums (dim (neu w.heap.size) w') v1 A1/\A1.length<=65519/\Nums (dim (neu w.heap.size) w') v2 A2/\A2.length<=65519/\zR (dim (neu w.heap.size) w') v3 A3/\Rd nv L q w' i' fl'/\Fr (only q) w.heap.size w w'
def yS (A:List Int):List Value:=A.map (Value.int .i64)
theorem zHf (A:List Int) (x:Int):yS A++[jI kQ x]=yS (A++[x]):=by simp[yS]
theorem zDh (A:List Int):(yS A).length=A.length:=by simp[yS]
def pG (A:List Rw) (U:World):Prop:=∀x∈A,zFV U x
theorem zAC (A:List Rw) (U U':World) (h:Sub U U') (hr:pG A U):pG A U':=fun x hx=>qT _ _ x h (hr x hx)
theorem zKP {v3:Value}{A1 A2:List Int}{A3:List Rw} (h:GmS 41 3 3 22 nv L q w wr v1 v2 v3 (yS A1) (yS A2) (A3.map Rw.v) (pG A3) i fl) (h1:A1.length<=65519) (hl:A1.length=A2.length/\A1.length=A3.length):
  zSP nv L q w (jR (jG #[v1,v2,v3])) (((wr.setCell ⟨w.heap.size,0,none⟩ v1).setCell ⟨w.heap.size,1,none⟩ v2).setCell ⟨w.heap.size,2,none⟩ v3):=by
 obtain⟨ht,he,hr,hF⟩:=h.fin v1 v2 v3;exact⟨v1,v2,v3,A1,A2,A3.map Rw.l,_,_,rfl,(zCW ht.o1).on (yG (by omega)),h1,(zCW ht.o2).on (yG (by omega)),by omega,(zC2 ht.o3 he (by omega)).on (yG (by omega)),hr,hF⟩
theorem zBL {fn:Func}{p:Tmp}{ty:TypeId} (h:fn.results= #[.cell p ty]) (tmps:Array Value) (P:Program) (w:World):
  (results fn tmps).run P w=((asAddr (tmps.getD p undef)).run P w).andThen fun a w₁=>(loadVar ty a).run P w₁:=by
 simp only[results,h];simp[Sem.run_bind,Result.andThen]
theorem zQY {a c:Value} (hp:tmps.getD 2 undef=jP (some ⟨g,0,none⟩)) (h:w.heap[g]? =some (.cells #[a,b,c] 41 (0,0))):
  (results Tryz.f44 tmps).run rE w=.ok (jG #[a,b,c]) w:=by
 have h0:w.cell? ⟨g,0,none⟩=some a:=by simp[rD,h]
 have h1:w.cell? ⟨g,1,none⟩=some b:=by simp[rD,h]
 have h2:w.cell? ⟨g,2,none⟩=some c:=by simp[rD,h]
 rw[zBL rfl,hp];simp[asAddr,go_sem,h0,h1,h2]
theorem zMT {x y z a c:Value}{T:TypeId} (h:w.heap[g]? =some (.cells #[x,y,z] T (0,0))):(((w.setCell ⟨g,0,none⟩ a).setCell ⟨g,1,none⟩ b).setCell ⟨g,2,none⟩ c).heap[g]? =some (.cells #[a,b,c] T (0,0)):=by
 have e1:=rC w g 0 _ T a h;have e2:=rC _ g 1 _ T b e1;have e3:=rC _ g 2 _ T c e2;exact e3
theorem zBt {A:List Rw}{U:World}{x:Rw} (h:pG A U) (hx:zFV U x):pG (A++[x]) U:=fun y hy=>by
 rcases List.mem_append.1 hy with hy|hy
 ·exact h y hy
 ·simp only[List.mem_singleton] at hy
  subst hy;exact hx
theorem zRy (hL:Good L) (h:Rd nv L q w i fl):Calls rE 44 #[jP (some ⟨q,0,none⟩)] w (zSP nv L q w):=by
 obtain⟨i0,hi,hz0,hz1,hz2⟩:=info_parts Tryz.info3;obtain⟨i1,hi',hz0',hz1',hz2'⟩:=info_parts Tryz.info22;have HQ:Hid (q<w.heap.size):=rB h.lt;have HR0:=rB h;have HL:=rB hL;clear h hL;go_enter Tryz.func44,Tryz.ntmps44;go_upto_region 2 with fail;have HG0:Hid (GmS 41 3 3 22 nv L q w ((w.alloc (.cells QB.q 41)).alloc (.cells QB.q 41)) (jS none 0 0) (jS none 0 0) (jS none 0 0) (yS []) (yS []) (([]:List Rw).map Rw.v) (pG []) i fl):=rB (GmS.start HR0.out fun U x hx=>by cases hx);generalize (w.alloc (.cells QB.q 41)).alloc (.cells QB.q 41)=w1 at*;have HN:=rB (xG HL.out HG0.out.rd);go_wp2_with fail;refine HN.out.mono ?_;rintro e w2 ⟨x,i2,fl2,rfl,h0,h1,hR,hF⟩;obtain⟨n,rfl⟩:=rK h0;have HG2:=rB (HG0.out.call hF hR);have hn:n<=65519:=by omega
 clear hR hF h0 h1 HN HG0;go_wp2_with fail;go_loopw [4] (fun n wr=>∃(m:Nat) (v1 v2 v3:Value) (A1 A2:List Int) (A3:List Rw) (i:Nat) (fl:Bool),n=jI kQ m/\m+A1.length<=65519/\Hid (A1.length=A2.length/\A1.length=A3.length)/\Hid (GmS 41 3 3 22 nv L q w wr v1 v2 v3 (yS A1) (yS A2) (A3.map Rw.v) (pG A3) i fl)) (fun n _=>(intOf n).toNat)
 case atStart=>exact⟨n,_,_,_,[],[],[],i2,fl2,rfl,by simpa using hn,rB ⟨rfl,rfl⟩,HG2⟩
 case round=>
  obtain⟨m,v1,v2,v3,A1,A2,A3,i3,fl3,rfl,hm,HLL,HG⟩:=hrel;obtain⟨-, -,k2,kf⟩:=HG.out.rd.cells;obtain⟨y0,y1,y2,yf⟩:=HG.out.cells;clear kf yf;obtain⟨r0,r1,r2,rf⟩:=HG.out.rcells;have rf0:=rf 0;have rf1:=rf 1;have rf2:=rf 2;clear rf;by_cases hm0:m=0
  ·subst hm0
   have hd:decide ((0:Int)<((0:Nat):Int))=false:=by simp
   obtain⟨b1,d1,b2,d2,b3,d3,rfl,rfl,rfl⟩:=HG.out.tri.forms;have hS:=rB (zKP HG.out (by omega) HLL.out);simp only[List.length_map] at hS;have hE:=rB (zMT (a:=jS b1 (yS A1).length d1) (b:=jS b2 (yS A2).length d2) (c:=jS b3 A3.length d3) HG.out.rb);go_wp2_with fail;exact rN (zQY rfl hE.out) rfl hS.out
  ·have hd:decide ((0:Int)<(m:Int))=true:=by simp;omega
   cases fl3 with
   |true=>
    obtain⟨b1,d1,b2,d2,b3,d3,rfl,rfl,rfl⟩:=HG.out.tri.forms;have hS:=rB (zKP HG.out (by omega) HLL.out);simp only[List.length_map] at hS;have hE:=rB (zMT (a:=jS b1 (yS A1).length d1) (b:=jS b2 (yS A2).length d2) (c:=jS b3 A3.length d3) HG.out.rb);go_wp2_with fail;exact rN (zQY rfl hE.out) rfl hS.out
   |false=>
    have HM:Hid (m+A1.length<=65519):=rB hm;clear r0 r1 r2 rf0 rf1 rf2;go_upto_region 5 with fail;clear k2;have HC:=rB (xG HL.out (HG.out.rd.drawn 1));have HST:Hid (∀(w5:World) (i5:Nat) (fl5:Bool) (x:Int),Fr (only q) (wr.drewN 1).heap.size (wr.drewN 1) w5->Rd nv L q w5 i5 fl5->∃a c w',(rH #[22,22] 22 #[v1,jS (some ⟨w5.heap.size,0,none⟩) 1 1]).run rE (w5.alloc (.cells #[jI kQ x] 3))=.ok (jS a ((yS A1).length+1) c) w'/\w'.frozen? ⟨w.heap.size+1,0,none⟩=false/\w'.cell? ⟨w.heap.size+1,0,none⟩=some v1/\
     GmS 41 3 3 22 nv L q w (w'.setCell ⟨w.heap.size+1,0,none⟩ (jS a ((yS A1).length+1) c)) (jS a ((yS A1).length+1) c) v2 v3 ((yS A1)++[(jI kQ x)]) (yS A2) (A3.map Rw.v) (pG A3) i5 fl5):=rB fun w5 i5 fl5 x hF hR=>
      ((HG.out.drawn 1).call hF hR).app1 ((HG.out.drawn 1).call hF hR).els (zAC _) 22 i0 _ _ Tryz.underlying22 hi hz0 hz1 hz2 rfl (by decide) rfl (by simp[yS];have:=HM.out;have:=HLL.out;omega) 3
    have HP:Hid (∀(w5:World),Fr (only q) (wr.drewN 1).heap.size (wr.drewN 1) w5->w5.cell? ⟨w.heap.size+1,0,none⟩=some v1):=rB fun w5 hF=>(hF.cell (a:=⟨w.heap.size+1,0,none⟩) (by have:=HG.out.n0;show _<wr.heap.size;simp;omega) (by have:=HQ.out;simp[only];omega)).trans HG.out.cells.1
    have HPA:Hid (∀(w5:World) (o:Obj),Fr (only q) (wr.drewN 1).heap.size (wr.drewN 1) w5->(w5.alloc o).cell? ⟨w.heap.size+1,0,none⟩=some v1):=rB fun w5 o hF=>(rM (rJ w5 o (by have:=HG.out.n0;have:=hF.size;show w.heap.size+1<_;have e:(wr.drewN 1).heap.size=wr.heap.size:=rfl;omega))).trans (HP.out w5 hF)
    go_cut [] from 18 to 25 (fun wx=>∃(x:Int) (a:Option Addr) (c:Nat) (i:Nat) (fl:Bool),Hid (GmS 41 3 3 22 nv L q w wx (jS a ((yS A1).length+1) c) v2 v3 ((yS A1)++[(jI kQ x)]) (yS A2) (A3.map Rw.v) (pG A3) i fl))
    case first=>
     go_region_law (first
      |(refine zM rfl (.tmp 19) (.tmp 22) 22 22 (some 23) rfl rfl _ _ rfl rfl _ _ HRUN.out ?_)
      |(go_simp;refine HC.out.mono ?_;rintro e w5 ⟨x5,i5,fl5,rfl, -, -,hR5,hF5⟩;obtain⟨a5,c5,w6,hrun,sf6,s6,HNX⟩:=HST.out w5 i5 fl5 x5 hF5 hR5;have u4:=HP.out w5 hF5;have v4:=HPA.out w5 (.cells #[jI kQ x5] 3) hF5;have HRUN:=rB hrun;clear hrun hF5 hR5))
     all_goals
      go_wp2_with fail;go_meet;exact⟨x5,a5,c5,i5,fl5,rB HNX⟩
    case rest=>
     obtain⟨x1,a1,c1,j1,g1,HGA⟩:=hcut;have y1:=HGA.out.cells.2.1;clear HC HST HP HPA y0;have HC:=rB (xG HL.out (HGA.out.rd.drawn 1));have HST:Hid (∀(w5:World) (i5:Nat) (fl5:Bool) (x:Int),Fr (only q) (wc.drewN 1).heap.size (wc.drewN 1) w5->Rd nv L q w5 i5 fl5->∃a c w',(rH #[22,22] 22 #[v2,jS (some ⟨w5.heap.size,0,none⟩) 1 1]).run rE (w5.alloc (.cells #[jI kQ x] 3))=.ok (jS a ((yS A2).length+1) c) w'/\w'.frozen? ⟨w.heap.size+1,1,none⟩=false/\w'.cell? ⟨w.heap.size+1,1,none⟩=some v2/\
      GmS 41 3 3 22 nv L q w (w'.setCell ⟨w.heap.size+1,1,none⟩ (jS a ((yS A2).length+1) c)) (jS a1 ((yS A1).length+1) c1) (jS a ((yS A2).length+1) c) v3 ((yS A1)++[(jI kQ x1)]) ((yS A2)++[(jI kQ x)]) (A3.map Rw.v) (pG A3) i5 fl5):=rB fun w5 i5 fl5 x hF hR=>
       ((HGA.out.drawn 1).call hF hR).app2 ((HGA.out.drawn 1).call hF hR).els (zAC _) 22 i0 _ _ Tryz.underlying22 hi hz0 hz1 hz2 rfl (by decide) rfl (by simp[yS];have:=HM.out;have:=HLL.out;omega) 3
     have HP:Hid (∀(w5:World),Fr (only q) (wc.drewN 1).heap.size (wc.drewN 1) w5->w5.cell? ⟨w.heap.size+1,1,none⟩=some v2):=rB fun w5 hF=>(hF.cell (a:=⟨w.heap.size+1,1,none⟩) (by have:=HGA.out.n0;show _<wc.heap.size;simp;omega) (by have:=HQ.out;simp[only];omega)).trans HGA.out.cells.2.1
     have HPA:Hid (∀(w5:World) (o:Obj),Fr (only q) (wc.drewN 1).heap.size (wc.drewN 1) w5->(w5.alloc o).cell? ⟨w.heap.size+1,1,none⟩=some v2):=rB fun w5 o hF=>(rM (rJ w5 o (by have:=HGA.out.n0;have:=hF.size;show w.heap.size+1<_;have e:(wc.drewN 1).heap.size=wc.heap.size:=rfl;omega))).trans (HP.out w5 hF)
     go_upto_region 6 with fail;go_cut [] from 25 to 32 (fun wx=>∃(x:Int) (a:Option Addr) (c:Nat) (i:Nat) (fl:Bool),Hid (GmS 41 3 3 22 nv L q w wx (jS a1 ((yS A1).length+1) c1) (jS a ((yS A2).length+1) c) v3 ((yS A1)++[(jI kQ x1)]) ((yS A2)++[(jI kQ x)]) (A3.map Rw.v) (pG A3) i fl))
     case first=>
      go_region_law (first
       |(refine zM rfl (.tmp 26) (.tmp 29) 22 22 (some 30) rfl rfl _ _ rfl rfl _ _ HRUN.out ?_)
       |(go_simp;refine HC.out.mono ?_;rintro e w5 ⟨x5,i5,fl5,rfl, -, -,hR5,hF5⟩;obtain⟨a5,c5,w6,hrun,sf6,s6,HNX⟩:=HST.out w5 i5 fl5 x5 hF5 hR5;have u4:=HP.out w5 hF5;have v4:=HPA.out w5 (.cells #[jI kQ x5] 3) hF5;have HRUN:=rB hrun;clear hrun hF5 hR5))
      all_goals
       go_wp2_with fail;go_meet;exact⟨x5,a5,c5,i5,fl5,rB HNX⟩
     case rest=>
      obtain⟨x2,a2,c2,j2,g2,HGB⟩:=hcut;have y2:=HGB.out.cells.2.2.1;clear HC HST HP HPA y1;have HC:=rB (zG6 HL.out (HGB.out.rd.drawn 1));have HST:Hid (∀(w5:World) (i5:Nat) (fl5:Bool) (M:List Int) (sa:Option Addr) (sc:Nat),Fr (only q) (wc.drewN 1).heap.size (wc.drewN 1) w5->Rd nv L q w5 i5 fl5->Nums (dim (neu (wc.drewN 1).heap.size) w5) (jS sa M.length sc) M->M.length<=20000->∃a c w',(rH #[34,34] 34 #[v3,jS (some ⟨w5.heap.size,0,none⟩) 1 1]).run rE (w5.alloc (.cells #[jS sa M.length sc] 22))=.ok (jS a ((A3.map Rw.v).length+1) c) w'/\w'.frozen? ⟨w.heap.size+1,2,none⟩=false/\w'.cell? ⟨w.heap.size+1,2,none⟩=some v3/\
       GmS 41 3 3 22 nv L q w (w'.setCell ⟨w.heap.size+1,2,none⟩ (jS a ((A3.map Rw.v).length+1) c)) (jS a1 ((yS A1).length+1) c1) (jS a2 ((yS A2).length+1) c2) (jS a ((A3.map Rw.v).length+1) c) ((yS A1)++[(jI kQ x1)]) ((yS A2)++[(jI kQ x2)]) ((A3.map Rw.v)++[(jS sa M.length sc)]) (pG (A3++[⟨M,sa,sc⟩])) i5 fl5):=rB fun w5 i5 fl5 M sa sc hF hR hNM hML=>
        ((HGB.out.drawn 1).call hF hR).app3 (zBt (x:=⟨M,sa,sc⟩) ((HGB.out.drawn 1).call hF hR).els (show zFV _ ⟨M,sa,sc⟩ from⟨hNM.on (zCr (HGB.out.drawn 1).tri HGB.out.n0),by show M.length<=1000000;omega⟩)) (zAC _) 34 i1 _ _ Tryz.underlying34 hi' hz0' hz1' hz2' rfl (by decide) rfl (by simp;have:=HM.out;have:=HLL.out;omega) 22
      have HP:Hid (∀(w5:World),Fr (only q) (wc.drewN 1).heap.size (wc.drewN 1) w5->w5.cell? ⟨w.heap.size+1,2,none⟩=some v3):=rB fun w5 hF=>(hF.cell (a:=⟨w.heap.size+1,2,none⟩) (by have:=HGB.out.n0;show _<wc.heap.size;simp;omega) (by have:=HQ.out;simp[only];omega)).trans HGB.out.cells.2.2.1
      have HPA:Hid (∀(w5:World) (o:Obj),Fr (only q) (wc.drewN 1).heap.size (wc.drewN 1) w5->(w5.alloc o).cell? ⟨w.heap.size+1,2,none⟩=some v3):=rB fun w5 o hF=>(rM (rJ w5 o (by have:=HGB.out.n0;have:=hF.size;show w.heap.size+1<_;have e:(wc.drewN 1).heap.size=wc.heap.size:=rfl;omega))).trans (HP.out w5 hF)
      go_upto_region 7 with fail
      go_region_law (first
       |(refine zM rfl (.tmp 33) (.tmp 36) 34 34 (some 37) rfl rfl _ _ rfl rfl _ _ HRUN.out ?_)
       |(go_simp;refine HC.out.mono ?_;rintro e w5 ⟨v5,M,i5,fl5,rfl,hN5,hG5,hR5,hF5⟩;obtain⟨sa,sc,rfl,hN6⟩:=hN5;obtain⟨a5,c5,w6,hrun,sf6,s6,HNX⟩:=HST.out w5 i5 fl5 M sa sc hF5 hR5 ⟨sa,sc,rfl,hN6⟩ hG5.2;have u4:=HP.out w5 hF5;have v4:=HPA.out w5 (.cells #[jS sa M.length sc] 22) hF5;have HRUN:=rB hrun;clear hrun hF5 hR5))
      all_goals
       have HGC:=rB HNX;go_wp2_with fail;go_roundw
       case rel=>exact⟨m - 1,_,_,_,A1++[x1],A2++[x2],A3++[⟨M,sa,sc⟩],_,_,by go_num,by simp;have:=HM.out;omega,rB (by have:=HLL.out;simp;exact this),by simpa[yS,Rw.v] using HGC⟩
       case measure=>simp[intOf];omega
structure RcS (T:TypeId) (T1 T2:TypeId) (nv:Value) (L:List Int) (q:Nat) (w:World) (g:Nat) (wr:World) (x1 x2 x3:Int) (v1 v2:Value) (C1 C2:List Value) (E:World->Prop) (i:Nat) (fl:Bool):Prop where
 gb:wr.heap[g]? =some (.cells #[jI kQ x1,jI kQ x2,jI kQ x3,v1,v2] T (0,0))
 rb:wr.heap[w.heap.size]? =some (.cells QC.q T (0,0))
 gn:w.heap.size<g
 tri:Tri T1 T2 3 (g+1) wr v1 v2 (jS none 0 0) C1 C2 []
 els:E (dim (qM (g+1) v1 v2 (jS none 0 0)) wr)
 sub:∀U U',Sub U U'->E U->E U'
 rd:Rd nv L q wr i fl
 rd0:∃i0 fl0,Rd nv L q w i0 fl0
 fr:Fr (only q) w.heap.size w wr
 qn:q<w.heap.size
 n0:g+1<=wr.heap.size
section
variable {T T1 T2:TypeId} {nv:Value} {L:List Int} {q g:Nat} {w wr w5:World} {x1 x2 x3:Int} {v1 v2:Value} {C1 C2:List Value} {E:World->Prop} {i i':Nat} {fl fl':Bool}
theorem RcS.drawn (h:RcS T T1 T2 nv L q w g wr x1 x2 x3 v1 v2 C1 C2 E i fl) (n:Nat):RcS T T1 T2 nv L q w g (wr.drewN n) x1 x2 x3 v1 v2 C1 C2 E i fl:=
 ⟨h.gb,h.rb,h.gn,h.tri.keep fun _ _ _=>rfl,h.sub _ _ (xZ (w:=wr) (w':=wr.drewN n) (rF _) fun _ _ _=>rfl) h.els,h.sub,h.rd.drawn n,h.rd0,h.fr.drawn n,h.qn,h.n0⟩
theorem RcS.call (h:RcS T T1 T2 nv L q w g wr x1 x2 x3 v1 v2 C1 C2 E i fl) (hF:Fr (only q) wr.heap.size wr w5) (hR:Rd nv L q w5 i' fl'):RcS T T1 T2 nv L q w g w5 x1 x2 x3 v1 v2 C1 C2 E i' fl':=by
 have hk:∀k,w.heap.size<=k->k<wr.heap.size->w5.heap[k]? =wr.heap[k]? :=fun k h1 h2=>hF.block k h2 (by have:=h.qn;simp[only];omega)
 have hn:=h.n0;have hg:=h.gn;exact⟨(hk _ (by omega) (by omega)).trans h.gb,(hk _ (by omega) (by omega)).trans h.rb,h.gn,h.tri.keep fun k h1 h2=>hk k (by omega) h2,h.sub _ _ (xZ hF.size fun k h1 h2=>hk k (by omega) h2) h.els,h.sub,hR,h.rd0,h.fr.trans (hF.mono (by omega)),h.qn,rI h.n0 hF.size⟩
theorem RcS.cells (h:RcS T T1 T2 nv L q w g wr x1 x2 x3 v1 v2 C1 C2 E i fl):wr.cell? ⟨g,0,none⟩=some (jI kQ x1)/\wr.cell? ⟨g,1,none⟩=some (jI kQ x2)/\wr.cell? ⟨g,2,none⟩=some (jI kQ x3)/\wr.cell? ⟨g,3,none⟩=some v1/\wr.cell? ⟨g,4,none⟩=some v2/\∀j,wr.frozen? ⟨g,j,none⟩=false:=by
 refine⟨?_,?_,?_,?_,?_,fun j=>?_⟩;all_goals simp[rD,rG,h.gb]
theorem RcS.rcells (h:RcS T T1 T2 nv L q w g wr x1 x2 x3 v1 v2 C1 C2 E i fl):wr.cell? ⟨w.heap.size,0,none⟩=some (jI kQ 0)/\wr.cell? ⟨w.heap.size,1,none⟩=some (jI kQ 0)/\wr.cell? ⟨w.heap.size,2,none⟩=some (jI kQ 0)/\wr.cell? ⟨w.heap.size,3,none⟩=some (jS none 0 0)/\wr.cell? ⟨w.heap.size,4,none⟩=some (jS none 0 0)/\∀j,wr.frozen? ⟨w.heap.size,j,none⟩=false:=by
 refine⟨?_,?_,?_,?_,?_,fun j=>?_⟩;all_goals simp[rD,rG,h.rb]
theorem RcS.forms (h:RcS T T1 T2 nv L q w g wr x1 x2 x3 v1 v2 C1 C2 E i fl):∃a1 c1 a2 c2,v1=jS a1 C1.length c1/\v2=jS a2 C2.length c2:=by
 obtain⟨a1,c1,a2,c2,_,_,e1,e2,_⟩:=h.tri.forms;exact⟨a1,c1,a2,c2,e1,e2⟩
theorem RcS.app1 (h:RcS T T1 T2 nv L q w g wr x1 x2 x3 v1 v2 C1 C2 E i fl) {u:Value} {E':World->Prop} (hE:E' (dim (qM (g+1) v1 v2 (jS none 0 0)) wr)) (hs:∀U U',Sub U U'->E' U->E' U') (t:TypeId) (i0:TypeInfo) (z:Value) (bytes:Nat) (ht:Tryz.prog.underlying t=some (.slice T1)) (hi:Tryz.prog.info? T1=some i0) (hz:i0.zero=some z)
  (hsize:i0.size=1) (hby:i0.bytes=bytes) (hzs:z.cells.size=1) (hb2:bytes<=1000) (hu:u.oneCell'=true) (hl:C1.length+1<=1000000) (TT:TypeId):
  ∃a c w',(rH #[t,t] t #[v1,jS (some ⟨wr.heap.size,0,none⟩) 1 1]).run rE (wr.alloc (.cells #[u] TT))=.ok (jS a (C1.length+1) c) w'/\w'.frozen? ⟨g,3,none⟩=false/\w'.cell? ⟨g,3,none⟩=some v1/\
   RcS T T1 T2 nv L q w g (w'.setCell ⟨g,3,none⟩ (jS a (C1.length+1) c)) x1 x2 x3 (jS a (C1.length+1) c) v2 (C1++[u]) C2 E' i fl:=by
 obtain⟨v',w',hr,htri,hsub,hold,hfr⟩:=h.tri.app t i0 z bytes ht hi hz hsize hby hzs hb2 h.n0 hu hl TT;obtain⟨a,c,rfl⟩:=zAH htri.o1;simp only[List.length_append,List.length_singleton] at hr htri hsub
 skip
 have hgb:w'.heap[g]? =some (.cells #[jI kQ x1,jI kQ x2,jI kQ x3,v1,v2] T (0,0)):=(hold _ (by omega)).trans h.gb;have hq:=h.qn;have hn0:=h.n0;have hgn:=h.gn;have hs0:=hfr wr (fun _=>false) (Fr.refl _ _ _);have hs1:wr.heap.size<=w'.heap.size:=hs0.size;have F:Fr (only q) w.heap.size w w':=by
  have h1:=h.fr;exact⟨hs0.os.trans h1.os,hs0.tape.trans h1.tape,hs0.output.trans h1.output,rI h1.size hs1,fun k hk hp=>(hold k (by omega)).trans (h1.block k hk hp)⟩
 have hkb:∀k,g+1<=k->k<w'.heap.size->(w'.setCell ⟨g,3,none⟩ (jS a (C1.length+1) c)).heap[k]? =w'.heap[k]? :=fun k h1 _=>rA _ _ _ _ (by simp;omega)
 have F2:Fr (only q) w.heap.size w (w'.setCell ⟨g,3,none⟩ (jS a (C1.length+1) c)):=F.setCell (.inr (by show w.heap.size<=g;omega)) _;obtain⟨j0,f0,hr0⟩:=h.rd0;refine⟨a,c,w',hr,by simp[rG,hgb],by simp[rD,hgb],⟨?_,?_,hgn,htri.keep hkb,?_,hs,?_,⟨j0,f0,hr0⟩,F2,hq,by simp;omega⟩⟩
 ·rw[rC _ _ _ _ _ _ hgb];rfl
 ·rw[rA _ _ _ _ (by simp;omega)]
  exact(hold _ (by omega)).trans h.rb
 ·exact hs _ _ (hsub.trans (xZ (by simp) hkb)) hE
 ·refine hr0.of F2 ?_ h.rd.le
  rw[rA _ _ _ _ (by simp;omega)];exact(hold _ (by omega)).trans h.rd.blk
theorem RcS.app2 (h:RcS T T1 T2 nv L q w g wr x1 x2 x3 v1 v2 C1 C2 E i fl) {u:Value} {E':World->Prop} (hE:E' (dim (qM (g+1) v1 v2 (jS none 0 0)) wr)) (hs:∀U U',Sub U U'->E' U->E' U') (t:TypeId) (i0:TypeInfo) (z:Value) (bytes:Nat) (ht:Tryz.prog.underlying t=some (.slice T2)) (hi:Tryz.prog.info? T2=some i0) (hz:i0.zero=some z)
  (hsize:i0.size=1) (hby:i0.bytes=bytes) (hzs:z.cells.size=1) (hb2:bytes<=1000) (hu:u.oneCell'=true) (hl:C2.length+1<=1000000) (TT:TypeId):
  ∃a c w',(rH #[t,t] t #[v2,jS (some ⟨wr.heap.size,0,none⟩) 1 1]).run rE (wr.alloc (.cells #[u] TT))=.ok (jS a (C2.length+1) c) w'/\w'.frozen? ⟨g,4,none⟩=false/\w'.cell? ⟨g,4,none⟩=some v2/\
   RcS T T1 T2 nv L q w g (w'.setCell ⟨g,4,none⟩ (jS a (C2.length+1) c)) x1 x2 x3 v1 (jS a (C2.length+1) c) C1 (C2++[u]) E' i fl:=by
 obtain⟨v',w',hr,htri,hsub,hold,hfr⟩:=h.tri.rot.app t i0 z bytes ht hi hz hsize hby hzs hb2 h.n0 hu hl TT;obtain⟨a,c,rfl⟩:=zAH htri.o1;simp only[List.length_append,List.length_singleton] at hr htri hsub;rw[show qM (g+1) v2 (jS none 0 0) v1=qM (g+1) v1 v2 (jS none 0 0) from zAz,show qM (g+1) (jS a (C2.length+1) c) (jS none 0 0) v1=qM (g+1) v1 (jS a (C2.length+1) c) (jS none 0 0) from zAz] at hsub;have hgb:w'.heap[g]? =some (.cells #[jI kQ x1,jI kQ x2,jI kQ x3,v1,v2] T (0,0)):=(hold _ (by omega)).trans h.gb;have hq:=h.qn;have hn0:=h.n0;have hgn:=h.gn;have hs0:=hfr wr (fun _=>false) (Fr.refl _ _ _);have hs1:wr.heap.size<=w'.heap.size:=hs0.size;have F:Fr (only q) w.heap.size w w':=by
  have h1:=h.fr;exact⟨hs0.os.trans h1.os,hs0.tape.trans h1.tape,hs0.output.trans h1.output,rI h1.size hs1,fun k hk hp=>(hold k (by omega)).trans (h1.block k hk hp)⟩
 have hkb:∀k,g+1<=k->k<w'.heap.size->(w'.setCell ⟨g,4,none⟩ (jS a (C2.length+1) c)).heap[k]? =w'.heap[k]? :=fun k h1 _=>rA _ _ _ _ (by simp;omega)
 have F2:Fr (only q) w.heap.size w (w'.setCell ⟨g,4,none⟩ (jS a (C2.length+1) c)):=F.setCell (.inr (by show w.heap.size<=g;omega)) _;obtain⟨j0,f0,hr0⟩:=h.rd0;refine⟨a,c,w',hr,by simp[rG,hgb],by simp[rD,hgb],⟨?_,?_,hgn,htri.rot.rot.keep hkb,?_,hs,?_,⟨j0,f0,hr0⟩,F2,hq,by simp;omega⟩⟩
 ·rw[rC _ _ _ _ _ _ hgb];rfl
 ·rw[rA _ _ _ _ (by simp;omega)]
  exact(hold _ (by omega)).trans h.rb
 ·exact hs _ _ (hsub.trans (xZ (by simp) hkb)) hE
 ·refine hr0.of F2 ?_ h.rd.le
  rw[rA _ _ _ _ (by simp;omega)];exact(hold _ (by omega)).trans h.rd.blk
def put5 (w:World) (g:Nat) (a b c d e:Value):World:=((((w.setCell ⟨g,0,none⟩ a).setCell ⟨g,1,none⟩ b).setCell ⟨g,2,none⟩ c).setCell ⟨g,3,none⟩ d).setCell ⟨g,4,none⟩ e
theorem yA {x1 x2 x3 x4 x5 a b c d e:Value} (h:wr.heap[g]? =some (.cells #[x1,x2,x3,x4,x5] T (0,0))):(put5 wr g a b c d e).heap[g]? =some (.cells #[a,b,c,d,e] T (0,0)):=by
 have e1:=rC wr g 0 _ T a h;have e2:=rC _ g 1 _ T b e1;have e3:=rC _ g 2 _ T c e2;have e4:=rC _ g 3 _ T d e3;have e5:=rC _ g 4 _ T e e4;exact e5
theorem zJ {a b c d e:Value} {k:Nat} (h:k≠g):(put5 wr g a b c d e).heap[k]? =wr.heap[k]? :=by
 unfold put5;rw[rA _ _ _ _ (by simpa using h),rA _ _ _ _ (by simpa using h),rA _ _ _ _ (by simpa using h),rA _ _ _ _ (by simpa using h),rA _ _ _ _ (by simpa using h)]
theorem Fr.put5 {p:Nat->Bool} {B:Nat} {a b c d e:Value} (h:Fr p B w wr) (hg:B<=g):Fr p B w (put5 wr g a b c d e):=
 ((((h.setCell (.inr hg) a).setCell (.inr hg) b).setCell (.inr hg) c).setCell (.inr hg) d).setCell (.inr hg) e
theorem yJ {a b c d e:Value}:(put5 wr g a b c d e).heap.size=wr.heap.size:=by simp[Go.Proofs.YtmabhhngoklncaaGreatDoor.put5]
theorem RcS.fin (h:RcS T T1 T2 nv L q w g wr x1 x2 x3 v1 v2 C1 C2 E i fl) (a b c d e:Value):Tri T1 T2 3 (g+1) (put5 wr w.heap.size a b c d e) v1 v2 (jS none 0 0) C1 C2 []/\E (dim (neu (g+1)) (put5 wr w.heap.size a b c d e))/\
  Rd nv L q (put5 wr w.heap.size a b c d e) i fl/\Fr (only q) w.heap.size w (put5 wr w.heap.size a b c d e):=by
 have hF:=h.fr.put5 (a:=a) (b:=b) (c:=c) (d:=d) (e:=e) (rF w.heap.size);obtain⟨j0,f0,hr0⟩:=h.rd0;have hq:=h.qn;have hg:=h.gn;refine⟨h.tri.keep fun k h1 _=>zJ (by omega),h.sub _ _ (Sub.trans (xZ (w:=wr) (by rw[yJ];exact rF _) fun k h1 _=>zJ (by omega)) zJ8) h.els,hr0.of hF ?_ h.rd.le,hF⟩;rw[zJ (by omega)];exact h.rd.blk
theorem RcS.start (h0:Rd nv L q w i' fl') (hr:wr.heap[w.heap.size]? =some (.cells QC.q T (0,0))) (hF:Fr (only q) w.heap.size w wr) (hR:Rd nv L q wr i fl) (hE:∀U,E U):RcS T T1 T2 nv L q w wr.heap.size (wr.alloc (.cells #[jI kQ x1,jI kQ x2,jI kQ x3,jS none 0 0,jS none 0 0] T)) x1 x2 x3 (jS none 0 0) (jS none 0 0) [] [] E i fl:=by
 have hl:=(Array.getElem?_eq_some_iff.1 hr).1;refine⟨rL _ _,(rJ _ _ hl).trans hr,hl,Tri.nil,hE _,fun _ _ _ _=>hE _,hR.later ((Below.refl _ _).alloc (rF _) _),⟨i',fl',h0⟩,hF.alloc hF.size _,h0.lt,by simp⟩
theorem zGp {fn:Func} {tmps:Array Value} {W:World} {p:Tmp} {ty:TypeId} {a b c d e:Value} (hf:fn.results= #[.cell p ty]) (hp:tmps.getD p undef=jP (some ⟨g,0,none⟩)) (h:W.heap[g]? =some (.cells #[a,b,c,d,e] T (0,0)))
  (hl:∀W':World,W'.cell? ⟨g,0,none⟩=some a->W'.cell? ⟨g,1,none⟩=some b->W'.cell? ⟨g,2,none⟩=some c->W'.cell? ⟨g,3,none⟩=some d->W'.cell? ⟨g,4,none⟩=some e->(loadVar ty ⟨g,0,none⟩).run rE W'=.ok (jG #[a,b,c,d,e]) W'):
  (results fn tmps).run rE W=.ok (jG #[a,b,c,d,e]) W:=by
 rw[zBL hf,hp];simp only[asAddr,Sem.run_pure,Result.andThen_ok];exact hl W (by simp[rD,h]) (by simp[rD,h]) (by simp[rD,h]) (by simp[rD,h]) (by simp[rD,h])
end
def zS7 (nv:Value) (L:List Int) (q:Nat) (w:World) (e:Ending) (w':World):Prop:=∃x1 x2 x3 v1 v2 A1 A2 i' fl',e=jR (jG #[jI kQ x1,jI kQ x2,jI kQ x3,v1,v2])/\zR (dim (neu w.heap.size) w') v1 A1/\zR (dim (neu w.heap.size) w') v2 A2/\Rd nv L q w' i' fl'/\Fr (only q) w.heap.size w w'
def zLI (A B:List Rw) (U:World):Prop:=pG A U/\pG B U
theorem zJn (A B:List Rw) (U U':World) (h:Sub U U') (hr:zLI A B U):zLI A B U':=⟨zAC A _ _ h hr.1,zAC B _ _ h hr.2⟩
theorem zJm {x1 x2 x3:Int}{A1 A2:List Rw} (h:RcS 36 22 22 nv L q w g wr x1 x2 x3 v1 v2 (A1.map Rw.v) (A2.map Rw.v) (zLI A1 A2) i fl) (h1:A1.length<=65519) (hl:A1.length=A2.length):
  zS7 nv L q w (jR (jG #[jI kQ x1,jI kQ x2,jI kQ x3,v1,v2])) (put5 wr w.heap.size (jI kQ x1) (jI kQ x2) (jI kQ x3) v1 v2):=by
 obtain⟨ht,he,hr,hF⟩:=h.fin (jI kQ x1) (jI kQ x2) (jI kQ x3) v1 v2;have hg:=h.gn;exact⟨x1,x2,x3,v1,v2,A1.map Rw.l,A2.map Rw.l,_,_,rfl,(zC2 ht.o1 he.1 (by omega)).on (yG (by omega)),(zC2 ht.o2 he.2 (by omega)).on (yG (by omega)),hr,hF⟩
theorem zQQ {W:World}{a c d e:Value} (hp:tmps.getD 2 undef=jP (some ⟨g,0,none⟩)) (h:W.heap[g]? =some (.cells #[a,b,c,d,e] 36 (0,0))):
  (results Tryz.f41 tmps).run rE W=.ok (jG #[a,b,c,d,e]) W:=
 zGp rfl hp h fun W' h0 h1 h2 h3 h4=>by simp[go_sem,h0,h1,h2,h3,h4]
theorem zOH {B:Nat}{wI:World}{vo vn:Value}{O N:List Int} (h:Tri 3 3 3 B wI vo vn (jS none 0 0) (yS O) (yS N) []) (hB:B<=wI.heap.size) (hO:O.length<=100000) (hN:N.length<=100000) (x y:Int):
  ∃vo' w1 vn' w2,(rH #[22,22] 22 #[vo,jS (some ⟨wI.heap.size,0,none⟩) 1 1]).run rE (wI.alloc (.cells #[jI kQ x] 3))=.ok vo' w1/\(rH #[22,22] 22 #[vn,jS (some ⟨w1.heap.size,0,none⟩) 1 1]).run rE (w1.alloc (.cells #[jI kQ y] 3))=.ok vn' w2/\
   Tri 3 3 3 B w2 vo' vn' (jS none 0 0) (yS (O++[x])) (yS (N++[y])) []/\Below B wI w1/\Below B wI w2/\B<=w2.heap.size:=by
 obtain⟨i0,hi,hz0,hz1,hz2⟩:=info_parts Tryz.info3;obtain⟨vo',w1,hr1,ht1, -,hold1,hfr1⟩:=h.app 22 i0 _ _ Tryz.underlying22 hi hz0 hz1 hz2 rfl (by decide) hB (u:=jI kQ x) rfl (by rw[zDh];omega) 3;have hb1:=hfr1 wI (fun _=>false) (Fr.refl _ _ _);have hB1:Below B wI w1:=⟨hb1.os,hb1.tape,hb1.output,hb1.size,fun k hk=>hold1 k hk⟩;obtain⟨vn',w2,hr2,ht2, -,hold2,hfr2⟩:=ht1.rot.app 22 i0 _ _ Tryz.underlying22 hi hz0 hz1 hz2 rfl (by decide) (rI hB hB1.size) (u:=jI kQ y) rfl (by rw[zDh];omega) 3;have hb2:=hfr2 w1 (fun _=>false) (Fr.refl _ _ _);have hB2:Below B wI w2:=⟨hb2.os.trans hb1.os,hb2.tape.trans hb1.tape,hb2.output.trans hb1.output,rI hb1.size hb2.size,fun k hk=>(hold2 k hk).trans (hold1 k hk)⟩;refine⟨vo',w1,vn',w2,hr1,hr2,?_,hB1,hB2,rI hB hB2.size⟩;have:=ht2.rot.rot;rwa[zHf,zHf] at this
theorem zIL (hL:Good L) (h:Rd nv L q w i fl):Calls rE 41 #[jP (some ⟨q,0,none⟩)] w (zS7 nv L q w):=by
 obtain⟨i1,hi',hz0',hz1',hz2'⟩:=info_parts Tryz.info22;have HQ:Hid (q<w.heap.size):=rB h.lt;have HR0:=rB h;have HL:=rB hL;clear h hL;go_enter Tryz.func41,Tryz.ntmps41;go_upto_region 1 with fail;have HRB:Hid ((w.alloc (.cells QC.q 36)).heap[w.heap.size]? =some (.cells QC.q 36 (0,0))):=rB (rL _ _);have HF1:Hid (Fr (only q) w.heap.size w (w.alloc (.cells QC.q 36))):=rB ((Fr.refl _ _ _).alloc (rF _) _);have HR1:=rB (HR0.out.later ((Below.refl _ _).alloc (rF _) (.cells QC.q 36)));generalize w.alloc (.cells QC.q 36)=w1 at*;have HLT:Hid (w.heap.size<w1.heap.size):=rB (Array.getElem?_eq_some_iff.1 HRB.out).1;have HN:=rB (xG HL.out HR1.out);go_wp2_with fail;refine HN.out.mono ?_;rintro e w2 ⟨x1,i2,fl2,rfl,h10,h11,hR2,hF2⟩;have HX1:Hid (0<=x1/\x1<=65519):=rB ⟨h10,h11⟩;have HN2:=rB (xG HL.out hR2);have HF2:=rB hF2;clear HN hR2 hF2 h10 h11;go_wp2_with fail;refine HN2.out.mono ?_;rintro e w3 ⟨x2,i3,fl3,rfl, -, -,hR3,hF3⟩;have HN3:=rB (xG HL.out hR3);have HF3:=rB (HF2.out.trans (hF3.mono HF2.out.size));clear HN2 hR3 hF3 HF2;go_wp2_with fail;refine HN3.out.mono ?_;rintro e w4 ⟨x3,i4,fl4,rfl, -, -,hR4,hF4⟩;have HF4:=rB (HF3.out.trans (hF4.mono HF3.out.size));have HR4:=rB hR4;have HRB4:Hid (w4.heap[w.heap.size]? =some (.cells QC.q 36 (0,0))):=rB ((HF4.out.block _ HLT.out (by have:=HQ.out;simp[only];omega)).trans HRB.out);clear HN3 hR4 hF4 HF3;go_upto_region 2 with fail;obtain⟨k1,rfl⟩:=rK HX1.out.1;have hk1:k1<=65519:=by have:=HX1.out.2;omega
 have HG0:Hid (RcS 36 22 22 nv L q w w4.heap.size (w4.alloc (.cells #[jI kQ k1,jI kQ x2,jI kQ x3,jS none 0 0,jS none 0 0] 36)) k1 x2 x3 (jS none 0 0) (jS none 0 0) (([]:List Rw).map Rw.v) (([]:List Rw).map Rw.v) (zLI [] []) i4 fl4):=rB (RcS.start HR0.out HRB4.out (HF1.out.trans (HF4.out.mono HF1.out.size)) HR4.out fun U=>⟨fun x hx=>(by cases hx),fun x hx=>(by cases hx)⟩);have HGG:Hid (w.heap.size<w4.heap.size):=rB HG0.out.gn;generalize w4.alloc (.cells #[jI kQ k1,jI kQ x2,jI kQ x3,jS none 0 0,jS none 0 0] 36)=w5 at*;generalize w4.heap.size=g at*;clear HF1 HR1 HRB HLT HF4 HR4 HRB4 HX1;have HN:=rB (xG HL.out HG0.out.rd);go_wp2_with fail;refine HN.out.mono ?_;rintro e w6 ⟨x,i6,fl6,rfl,h0,h1,hR,hF⟩;obtain⟨n,rfl⟩:=rK h0;have HG6:=rB (HG0.out.call hF hR);have hn:n<=65519:=by omega
 clear hR hF h0 h1 HN HG0;go_wp2_with fail;go_loopw [4,5,6,7,8] (fun n _ _ _ _ wr=>∃(m:Nat) (v1 v2:Value) (A1 A2:List Rw) (i:Nat) (fl:Bool),n=jI kQ m/\m+A1.length<=65519/\Hid (A1.length=A2.length)/\Hid (RcS 36 22 22 nv L q w g wr k1 x2 x3 v1 v2 (A1.map Rw.v) (A2.map Rw.v) (zLI A1 A2) i fl)) (fun n _ _ _ _ _=>(intOf n).toNat)
 case atStart=>exact⟨n,_,_,[],[],i6,fl6,rfl,by simpa using hn,rB rfl,HG6⟩
 case round=>
  obtain⟨m,v1,v2,A1,A2,i3,fl3,rfl,hm,HLL,HG⟩:=hrel;obtain⟨-, -,k2f,kf⟩:=HG.out.rd.cells;obtain⟨y0,y1,y2,y3,y4,yf⟩:=HG.out.cells;obtain⟨r0,r1,r2,r3,r4,rf⟩:=HG.out.rcells;have rf0:=rf 0;have rf1:=rf 1;have rf2:=rf 2;have rf3:=rf 3;have rf4:=rf 4;clear kf yf rf;by_cases hm0:m=0
  ·subst hm0
   obtain⟨b1,d1,b2,d2,rfl,rfl⟩:=HG.out.forms;have hS:=rB (zJm HG.out (by omega) HLL.out);simp only[List.length_map] at hS;have hE:=rB (yA (a:=jI kQ k1) (b:=jI kQ x2) (c:=jI kQ x3) (d:=jS b1 A1.length d1) (e:=jS b2 A2.length d2) HG.out.rb);have hd:decide ((0:Int)<((0:Nat):Int))=false:=by simp
   go_wp2_with fail;exact rN (zQQ rfl hE.out) rfl hS.out
  ·have hd:decide ((0:Int)<(m:Int))=true:=by simp;omega
   cases fl3 with
   |true=>
    obtain⟨b1,d1,b2,d2,rfl,rfl⟩:=HG.out.forms;have hS:=rB (zJm HG.out (by omega) HLL.out);simp only[List.length_map] at hS;have hE:=rB (yA (a:=jI kQ k1) (b:=jI kQ x2) (c:=jI kQ x3) (d:=jS b1 A1.length d1) (e:=jS b2 A2.length d2) HG.out.rb);go_wp2_with fail;exact rN (zQQ rfl hE.out) rfl hS.out
   |false=>
    have HM:Hid (m+A1.length<=65519):=rB hm;have hmb:m<=65519:=by omega
    have HC:Hid (Calls rE 90 #[jP (some ⟨q,0,none⟩),jI kQ (2*(k1:Int))] wr (Nxn nv L q wr (2*k1))):=rB (by simpa using zGL HL.out HG.out.rd (2*k1) (by omega));clear hm r0 r1 r2 r3 r4 rf0 rf1 rf2 rf3 rf4 y1 y2 y3 y4;go_wp2_with fail;refine HC.out.mono ?_;rintro e w7 ⟨v7,M,i7,fl7,rfl,hML,hN7,hG7,hR7,hF7⟩;obtain⟨a7,c7,rfl,hM7⟩:=hN7;have HM7:=rB hM7;have HG7:=rB (HG.out.call hF7 hR7);have HMG:=rB hG7;have hM20:M.length<=20000:=hG7.2;have HEV:Hid (∃d,M.length=2*d):=rB (by
     rcases hML with h|h
     ·exact⟨k1,h⟩
     ·exact⟨0,by rw[h];rfl⟩)
    clear hM7 hR7 hF7 hG7 hML k2f y0 HC;go_upto_region 8 with fail;go_loopw [6,7,8] (fun o n i wI=>∃(j:Nat) (O N:List Int),i=jI kQ j/\j<=M.length/\Hid (∃k,j=2*k)/\Hid (O.length<=j/\N.length<=j)/\Hid (Tri 3 3 3 w7.heap.size wI o n (jS none 0 0) (yS O) (yS N) [])/\Hid (Below w7.heap.size w7 wI)) (fun _ _ i _=>M.length - (intOf i).toNat)
    case atStart=>exact⟨0,[],[],rfl,Nat.zero_le _,rB ⟨0,rfl⟩,rB ⟨rF _,rF _⟩,rB Tri.nil,rB (Below.refl _ _)⟩
    case round=>
     obtain⟨j,O,N,rfl,hj,HK,HON,HT,HB⟩:=hrel;by_cases hlt:j<M.length
     ·have hj1:j+1<M.length:=by
       obtain⟨a,ha⟩:=HEV.out;obtain⟨b,hb⟩:=HK.out;omega
      obtain⟨b1,o1,rfl,hb1,hc1⟩:=HM7.out (fun e=>by rw[e] at hlt;simp at hlt);rw[zW] at hb1;have ckw:=zAr (hc1 j hlt);have dkw:=zAr (hc1 (j+1) hj1);have ck:=(HB.out.cell (p:=⟨b1,o1+j,none⟩) hb1).trans ckw;have dk:=(HB.out.cell (p:=⟨b1,o1+(j+1),none⟩) hb1).trans dkw;have hd':decide (j<M.length)=true:=by simpa using hlt
      clear hc1;generalize hx:M.getD j 0=x at*;generalize hy:M.getD (j+1) 0=y at*;clear hx hy;obtain⟨vo',wA,vn',wB,hr1,hr2,hT2,hB1,hB2,hs2⟩:=zOH HT.out HB.out.size (by have:=HON.out;omega) (by have:=HON.out;omega) x y;have ek:=(hB1.cell (p:=⟨b1,o1+(j+1),none⟩) hb1).trans dk;have HRA:=rB hr1;have HRB2:=rB hr2;have HT2:=rB hT2;have HB2:=rB (HB.out.trans hB2);clear hr1 hr2 hT2 hB1 hB2 ckw dkw;go_upto_region 11 with(at_builtin;refine Lib.wpList_append_run _ rfl (.tmp 40) (.tmp 45) 22 22 rfl _ _ rfl rfl _ _ HRA.out ?_);clear HRA ck;go_wp2_with (at_builtin;refine Lib.wpList_append_run _ rfl (.tmp 47) (.tmp 53) 22 22 rfl _ _ rfl rfl _ _ HRB2.out ?_);go_roundw
      case rel=>exact⟨j+2,O++[x],N++[y],by go_num,by omega,rB (by obtain⟨k,hk⟩:=HK.out;exact⟨k+1,by omega⟩),rB (by have:=HON.out;simp;omega),HT2,HB2⟩
      case measure=>simp[intOf];omega
     ·have hd':decide (j<M.length)=false:=by simpa using hlt
      obtain⟨a6,c6,rfl⟩:∃a c,u6=Value.slice a O.length c:=by
       have:=zAH HT.out.o1;rwa[zDh] at this
      obtain⟨a9,c9,rfl⟩:∃a c,u7=Value.slice a N.length c:=by
       have:=zAH HT.out.o2;rwa[zDh] at this
      have hnO:=(zCW HT.out.o1).on (zCr HG7.out.tri HG7.out.n0);have hnN:=(zCW HT.out.o2).on (zCr HG7.out.tri HG7.out.n0);have hO1:O.length<=1000000:=by have:=HON.out;omega
      have hN1:N.length<=1000000:=by have:=HON.out;omega
      have HGI:=HG7.out.call (Fr.of_below HB.out) (HG7.out.rd.later HB.out);obtain⟨p1,d1,wA,hr1,sf1,sc1,HGA⟩:=HGI.app1 (u:=jS a6 O.length c6) (E':=fun U=>zLI (A1++[⟨O,a6,c6⟩]) A2 U/\zFV U ⟨N,a9,c9⟩) ⟨⟨zBt HGI.els.1 (show zFV _ ⟨O,a6,c6⟩ from⟨hnO,hO1⟩),HGI.els.2⟩,⟨hnN,hN1⟩⟩ (fun U U' hs he=>⟨zJn (A1++[⟨O,a6,c6⟩]) A2 U U' hs he.1,qT U U' ⟨N,a9,c9⟩ hs he.2⟩) 34 i1 _ _ Tryz.underlying34 hi' hz0' hz1' hz2' rfl (by decide) rfl (by simp;have:=HM.out;omega) 22;obtain⟨p2,d2,wB,hr2,sf2,sc2,HGB⟩:=HGA.app2 (u:=jS a9 N.length c9) (E':=zLI (A1++[⟨O,a6,c6⟩]) (A2++[⟨N,a9,c9⟩])) ⟨HGA.els.1.1,zBt HGA.els.1.2 HGA.els.2⟩ (zJn _ _) 34 i1 _ _ Tryz.underlying34 hi' hz0' hz1' hz2' rfl (by decide) rfl (by simp;have:=HM.out;have:=HLL.out;omega) 22;have y3:=HGI.cells.2.2.2.1;have z4:=HGA.cells.2.2.2.2.1;have HRA:=rB hr1;have HRB2:=rB hr2;have HGC:=rB HGB;simp only[List.length_map] at HRA HRB2 sc1 sc2 z4 HGC;clear hr1 hr2 HGB HGA HGI hnO hnN;go_upto_region 13 with(at_builtin;refine Lib.wpList_append_run _ rfl (.tmp 56) (.tmp 58) 34 34 rfl _ _ rfl rfl _ _ HRA.out ?_);generalize wA.setCell ⟨g,3,none⟩ (jS p1 (A1.length+1) d1)=w8 at*;clear HRA y3 sc1 sf1;go_wp2_with (at_builtin;refine Lib.wpList_append_run _ rfl (.tmp 62) (.tmp 64) 34 34 rfl _ _ rfl rfl _ _ HRB2.out ?_);generalize wB.setCell ⟨g,4,none⟩ (jS p2 (A2.length+1) d2)=w9 at*;go_roundw
      case rel=>exact⟨m - 1,_,_,A1++[⟨O,a6,c6⟩],A2++[⟨N,a9,c9⟩],_,_,by go_num,by simp;have:=HM.out;omega,rB (by have:=HLL.out;simp;exact this),by simpa[Rw.v] using HGC⟩
      case measure=>simp[intOf];omega
end Go.Proofs.YtmabhhngoklncaaGreatDoor
namespace Go.Proofs
@[go_sem] theorem zKb (P:Program) (w:World) (a:Addr) (m:Mode) (f:Fn) (x y:Array Value):(store a (.func f x y) m).run P w=stored P w a (.func f x y) m:=run_store P w a _ m rfl
end Go.Proofs
namespace Go.Proofs.YtmabhhngoklncaaGreatDoor
open Go.RowKit
theorem FArgs.on {U U':World} (h:Sub U U') {a:Option Addr} {f:Fs} (hf:FArgs U a f):FArgs U' a f:=fun h0=>by
 obtain⟨b,o,e,hb,hat⟩:=hf h0;exact⟨b,o,e,Nat.lt_of_lt_of_le hb h.size,h.fat hat⟩
structure Fe where
 op:Int
 nm:ByteArray
 v:Int
 bd:Int
 args:Fs
 a:Option Addr
 c:Nat
instance:Coe Fe (Array Value):=⟨fun x=> #[jI kQ x.op,jT x.nm,jI kQ x.v,jI kQ x.bd,jS x.a x.args.len x.c]⟩
def Fe.enc (x:Fe):List Value:=[jI kQ x.op,jT x.nm,jI kQ x.v,jI kQ x.bd,jS x.a x.args.len x.c]
def Fe.ok (w:World) (x:Fe):Prop:=FArgs w x.a x.args/\x.nm.size<=9223372036854775807/\x.args.len<=9223372036854775807/\x.args.len<=x.c
theorem Fe.ok_sub (U U':World) (x:Fe) (h:Sub U U') (hx:Fe.ok U x):Fe.ok U' x:=⟨hx.1.on h,hx.2⟩
def Fe.forest:List Fe->Fs
 |[]=>.nil
 |x::r=>.cons x.op x.nm x.v x.bd x.args (Fe.forest r)
theorem Fe.forest_len:∀A:List Fe,(Fe.forest A).len=A.length
 |[]=>rfl
 |_::r=>by simp[Fe.forest,Fs.len,Fe.forest_len r]
theorem Fe.at {w:World} {b:Nat}:∀(A:List Fe) (o:Nat),(∀j (hj:j<A.length) (c:Nat) (u:Value),c<5->(A[j].enc)[c]? =some u->w.cell? ⟨b,o+j*5+c,none⟩=some u)->(∀x∈A,x.ok w)->FAt w (Fe.forest A) b o
 |[],_,_,_=>trivial
 |x::r,o,hc,hx=>by
  have h0:=fun c u h1 h2=>hc 0 (by simp) c u h1 h2
  simp only[Nat.zero_mul,Nat.add_zero] at h0;obtain⟨k1,k2,k3,k4⟩:=hx x (List.mem_cons_self ..);refine⟨h0 0 _ (by omega) rfl,h0 1 _ (by omega) rfl,k2,h0 2 _ (by omega) rfl,h0 3 _ (by omega) rfl,k3,⟨x.a,x.c,h0 4 _ (by omega) rfl,k4,k1⟩,Fe.at r (o+5) (fun j hj c u h1 h2=>?_) fun y hy=>hx y (List.mem_cons_of_mem _ hy)⟩;have:=hc (j+1) (by simpa using hj) c u h1 (by simpa using h2);rw[show o+5+j*5+c=o+(j+1)*5+c by omega];exact this
theorem AgL.forest {B:Nat} {w:World} {v:Value} {A:List Fe} (h:AgL Fe.enc Fe.ok 33 5 B w v A):∃a c,v=jS a (Fe.forest A).len c/\(Fe.forest A).len<=c/\FArgs (dim (neu B) w) a (Fe.forest A):=by
 obtain⟨a,c,rfl,hc,h1,h2⟩:=AgL.read Fe.ok_sub (enc:=Fe.enc) (sz:=5) (fun _=>rfl) h;refine⟨a,c,by rw[Fe.forest_len],by rw[Fe.forest_len];exact hc,fun h0=>?_⟩;rw[Fe.forest_len] at h0;obtain⟨b,e,hb,hbs,hcell⟩:=h1 (fun e=>h0 (by rw[e];rfl));exact⟨b,0,e,by rw[zW];exact hbs,Fe.at A 0 (fun j hj c u h1 h2=>by rw[Nat.zero_add];exact hcell j hj c u h1 h2) h2⟩
def two (q N:Nat):Nat->Bool:=fun k=>k==q||k==N
theorem yP {q N k:Nat}:two q N k=false↔k≠q/\k≠N:=by simp[two]
theorem Fr.wide {q N B:Nat} {w w':World} (h:Fr (only q) B w w'):Fr (two q N) B w w':=⟨h.os,h.tape,h.output,h.size,fun k hk hp=>h.block k hk (by simp[only];exact(yP.1 hp).1)⟩
structure Cx (nv:Value) (L:List Int) (q N R F:Nat) (fv:Value) (w:World) (i:Nat) (fl:Bool) (x:Int):Prop where
 blk:w.heap[q]? =some (.cells #[nv,jI kQ i,jB fl] 64 (0,0))
 nums:Nums (dim (two q N) w) nv L
 le:i<=L.length
 cap:∃a c,nv=jS a L.length c/\L.length<=c
 nb:w.heap[N]? =some (.cells #[jI kQ x] 3 (0,0))
 rb:w.heap[R]? =some (.cells #[jP (some ⟨q,0,none⟩)] 62 (0,0))
 fb:w.heap[F]? =some (.cells #[fv] 163 (0,0))
 nq:N≠q/\R≠q/\F≠q/\R≠N/\F≠N
section
variable {nv:Value} {L:List Int} {q N R F:Nat} {fv:Value} {w w':World} {i i':Nat} {fl fl':Bool} {x x':Int}
theorem Cx.rd (h:Cx nv L q N R F fv w i fl x):Rd nv L q w i fl:=
 ⟨h.blk,h.nums.on (zE (rF _) fun k _ hp=>⟨by simp[only];exact(yP.1 hp).1,rfl⟩),h.le,h.cap⟩
theorem Cx.step (h:Cx nv L q N R F fv w i fl x) (hF:Fr (two q N) w.heap.size w w') (hq:w'.heap[q]? =some (.cells #[nv,jI kQ i',jB fl'] 64 (0,0))) (hi:i'<=L.length) (hN:w'.heap[N]? =some (.cells #[jI kQ x'] 3 (0,0))):Cx nv L q N R F fv w' i' fl' x':=by
 obtain⟨n1,n2,n3,n4,n5⟩:=h.nq;refine⟨hq,h.nums.on (zE hF.size fun k hk hp=>⟨hp,hF.block k hk hp⟩),hi,h.cap,hN,?_,?_,h.nq⟩
 ·exact(hF.block R (Array.getElem?_eq_some_iff.1 h.rb).1 (yP.2 ⟨n2,n4⟩)).trans h.rb
 ·exact(hF.block F (Array.getElem?_eq_some_iff.1 h.fb).1 (yP.2 ⟨n3,n5⟩)).trans h.fb
theorem Cx.call (h:Cx nv L q N R F fv w i fl x) (hF:Fr (only q) w.heap.size w w') (hR:Rd nv L q w' i' fl'):Cx nv L q N R F fv w' i' fl' x:=
 h.step hF.wide hR.blk hR.le ((hF.block N (Array.getElem?_eq_some_iff.1 h.nb).1 (by simp[only];exact h.nq.1)).trans h.nb)
theorem Cx.below (h:Cx nv L q N R F fv w i fl x) (hB:Below w.heap.size w w'):Cx nv L q N R F fv w' i fl x:=
 h.step (Fr.of_below hB) ((hB.block q (Array.getElem?_eq_some_iff.1 h.blk).1).trans h.blk) h.le ((hB.block N (Array.getElem?_eq_some_iff.1 h.nb).1).trans h.nb)
theorem Cx.fail (h:Cx nv L q N R F fv w i fl x):Cx nv L q N R F fv (w.setCell ⟨q,2,none⟩ (jB true)) i true x:=
 h.step ((Fr.refl _ _ _).setCell (.inl (by simp[two])) _) h.rd.fail.blk h.le (by rw[rA _ _ _ _ (by simpa using h.nq.1)];exact h.nb)
theorem Cx.count (h:Cx nv L q N R F fv w i fl x) (y:Int):Cx nv L q N R F fv (w.setCell ⟨N,0,none⟩ (jI kQ y)) i fl y:=
 h.step ((Fr.refl _ _ _).setCell (.inl (by simp[two])) _) (by rw[rA _ _ _ _ (by simpa using h.nq.1.symm)];exact h.blk) h.le (by rw[rC _ N 0 _ _ _ h.nb];rfl)
theorem Cx.cells (h:Cx nv L q N R F fv w i fl x):w.cell? ⟨q,2,none⟩=some (jB fl)/\w.cell? ⟨N,0,none⟩=some (jI kQ x)/\w.cell? ⟨R,0,none⟩=some (jP (some ⟨q,0,none⟩))/\w.cell? ⟨F,0,none⟩=some fv/\w.frozen? ⟨q,2,none⟩=false/\w.frozen? ⟨N,0,none⟩=false:=by
 refine⟨?_,?_,?_,?_,?_,?_⟩;all_goals simp[rD,rG,h.blk,h.nb,h.rb,h.fb]
theorem Cx.lt (h:Cx nv L q N R F fv w i fl x):q<w.heap.size/\N<w.heap.size/\R<w.heap.size/\F<w.heap.size:=
 ⟨(Array.getElem?_eq_some_iff.1 h.blk).1,(Array.getElem?_eq_some_iff.1 h.nb).1,(Array.getElem?_eq_some_iff.1 h.rb).1,(Array.getElem?_eq_some_iff.1 h.fb).1⟩
end
theorem AgL.keep {α:Type} {enc:α->List Value} {ok:World->α->Prop} {T:TypeId} {sz B:Nat} {w w':World} {v:Value} {A:List α} (hok:∀U U' x,Sub U U'->ok U x->ok U' x) (h:AgL enc ok T sz B w v A) (hs:w.heap.size<=w'.heap.size) (hb:∀k,B<=k->k<w.heap.size->w'.heap[k]? =w.heap[k]?):AgL enc ok T sz B w' v A:=
 ⟨zH5 h.own fun k hk=>hb k (h.own.lt k hk).1 (h.own.lt k hk).2,fun x hx=>hok _ _ x (zE hs fun k hk hp=>⟨hp,hb k (pB.1 hp).1 hk⟩) (h.els x hx)⟩
theorem Tryz.info33:(Tryz.prog.info? 33).map (fun i=>(i.zero,i.size,i.bytes))=some (some (jG #[jI kQ 0,jT ⟨#[]⟩,jI kQ 0,jI kQ 0,jS none 0 0]),5,64):=by kernel_rfl
structure FmS (nv:Value) (L:List Int) (q N R F:Nat) (fv:Value) (w:World) (g:Nat) (wr:World) (op:Int) (nm:ByteArray) (v bd:Int) (lv:Value) (A:List Fe) (i:Nat) (fl:Bool) (x:Int):Prop where
 gb:wr.heap[g]? =some (.cells #[jI kQ op,jT nm,jI kQ v,jI kQ bd,lv] 33 (0,0))
 rz:wr.heap[w.heap.size]? =some (.cells #[jI kQ 0,jT ⟨#[]⟩,jI kQ 0,jI kQ 0,jS none 0 0] 33 (0,0))
 gn:w.heap.size<g
 list:AgL Fe.enc Fe.ok 33 5 (g+1) wr lv A
 cx:Cx nv L q N R F fv wr i fl x
 cx0:∃i0 fl0 x0,Cx nv L q N R F fv w i0 fl0 x0
 fr:Fr (two q N) w.heap.size w wr
 lt:q<w.heap.size/\N<w.heap.size
 n0:g+1<=wr.heap.size
 nm9:nm.size<=20000
section
variable {nv:Value} {L:List Int} {q N R F:Nat} {fv:Value} {w wr w5:World} {g:Nat} {op v bd:Int} {nm:ByteArray} {lv:Value} {A:List Fe} {i i':Nat} {fl fl':Bool} {x x':Int} {y:Fe}
theorem FmS.call (h:FmS nv L q N R F fv w g wr op nm v bd lv A i fl x) (hF:Fr (two q N) wr.heap.size wr w5) (hC:Cx nv L q N R F fv w5 i' fl' x'):FmS nv L q N R F fv w g w5 op nm v bd lv A i' fl' x':=by
 have hl:=h.lt;have hg:=h.gn;have hn:=h.n0;have hk:∀k,w.heap.size<=k->k<wr.heap.size->w5.heap[k]? =wr.heap[k]? :=fun k h1 h2=>hF.block k h2 (yP.2 ⟨by omega,by omega⟩)
 exact⟨(hk g (by omega) (by omega)).trans h.gb,(hk _ (by omega) (by omega)).trans h.rz,hg,h.list.keep Fe.ok_sub hF.size fun k h1 h2=>hk k (by omega) h2,hC,h.cx0,h.fr.trans (hF.mono (by omega)),hl,rI hn hF.size,h.nm9⟩
theorem FmS.cells (h:FmS nv L q N R F fv w g wr op nm v bd lv A i fl x):wr.cell? ⟨g,0,none⟩=some (jI kQ op)/\wr.cell? ⟨g,1,none⟩=some (jT nm)/\wr.cell? ⟨g,2,none⟩=some (jI kQ v)/\wr.cell? ⟨g,3,none⟩=some (jI kQ bd)/\wr.cell? ⟨g,4,none⟩=some lv:=by
 refine⟨?_,?_,?_,?_,?_⟩;all_goals simp[rD,h.gb]
theorem FmS.drawn (h:FmS nv L q N R F fv w g wr op nm v bd lv A i fl x) (n:Nat):FmS nv L q N R F fv w g (wr.drewN n) op nm v bd lv A i fl x:=
 h.call (w5:=wr.drewN n) ((Fr.refl _ _ _).drawn n) ⟨h.cx.blk,h.cx.nums.drawn n,h.cx.le,h.cx.cap,h.cx.nb,h.cx.rb,h.cx.fb,h.cx.nq⟩
theorem FmS.frozen (h:FmS nv L q N R F fv w g wr op nm v bd lv A i fl x):wr.frozen? ⟨g,0,none⟩=false/\wr.frozen? ⟨g,1,none⟩=false/\wr.frozen? ⟨g,2,none⟩=false/\wr.frozen? ⟨g,3,none⟩=false/\wr.frozen? ⟨g,4,none⟩=false:=by
 refine⟨?_,?_,?_,?_,?_⟩;all_goals simp[rG,h.gb]
theorem FmS.neR (h:FmS nv L q N R F fv w g wr op nm v bd lv A i fl x):g≠R/\R≠g:=by
 obtain⟨i0,f0,x0,h0⟩:=h.cx0;have:=h0.lt;have:=h.gn;omega
theorem FmS.form (h:FmS nv L q N R F fv w g wr op nm v bd lv A i fl x):∃a c,lv=jS a A.length c:=by
 rcases h.list.own.2 with⟨e,hn⟩|⟨g',cap,cur,e,_⟩
 ·exact⟨none,0,by rw[e,hn]⟩
 ·exact⟨_,_,e⟩
theorem FmS.app (h:FmS nv L q N R F fv w g wr op nm v bd lv A i fl x) (hy:y.ok (dim (zCx (g+1) lv) wr)) (hl:A.length+1<=1000000):
  ∃a c w',(rH #[31,31] 31 #[lv,jS (some ⟨wr.heap.size,0,none⟩) 1 1]).run rE (wr.alloc (.cells y.enc.toArray 33))=.ok (jS a (A.length+1) c) w'/\w'.frozen? ⟨g,4,none⟩=false/\w'.cell? ⟨g,4,none⟩=some lv/\
   FmS nv L q N R F fv w g (w'.setCell ⟨g,4,none⟩ (jS a (A.length+1) c)) op nm v bd (jS a (A.length+1) c) (A++[y]) i fl x:=by
 obtain⟨i0,hi,hz0,hz1,hz2⟩:=info_parts Tryz.info33;have h6:=h.list.alloc Fe.ok_sub (.cells y.enc.toArray 33);have hlt:=h.lt;have hgn:=h.gn;have hn0:=h.n0;have hcl:=h.cx.lt;obtain⟨v',w',hr,hown,hg, -,hat⟩:=run_append_own_at (P:=rE) (wr.alloc (.cells y.enc.toArray 33)) (g+1) 31 31 33 i0 _ 5 64 Tryz.underlying31 hi hz0 hz1 hz2 rfl (by omega) lv A.length (A.flatMap Fe.enc) h6.own ⟨wr.heap.size,0,none⟩ 1 1 y.enc rfl (zAa wr y.enc 33) (by intro u hu;simp[Fe.enc] at hu;rcases hu with rfl|rfl|rfl|rfl|rfl<;>rfl) (by unfold maxLen;omega)
  (by omega) (by simp;omega)
 have hL:=h6.push Fe.ok_sub (Fe.ok_sub _ _ _ (zE (by simp) fun k hk hp=>⟨hp,rJ wr _ hk⟩) hy) hown hg hat;obtain⟨a,c,rfl⟩:∃a c,v'=jS a (A.length+1) c:=by
  rcases hown.2 with⟨_,hn⟩|⟨g',cap,cur,e,_⟩
  ·omega
  ·exact⟨_,_,e⟩
 have hold:∀k,k<g+1->w'.heap[k]? =wr.heap[k]? :=fun k hk=>by
  rw[hg.block k (by simp;omega) fun e=>by have:=(h6.own.lt k e.symm).1;omega];exact rJ wr _ (by omega)
 have hgb:w'.heap[g]? =some (.cells #[jI kQ op,jT nm,jI kQ v,jI kQ bd,lv] 33 (0,0)):=(hold g (by omega)).trans h.gb;have hsz:wr.heap.size<=w'.heap.size:=by have:=hg.size;simp at this;omega
 have F1:Fr (two q N) w.heap.size wr w':=⟨hg.os,hg.tape,hg.output,hsz,fun k hk _=>hold k (by omega)⟩;have F0:Fr (two q N) w.heap.size w (w'.setCell ⟨g,4,none⟩ (jS a (A.length+1) c)):=(h.fr.trans F1).setCell (.inr (by show w.heap.size<=g;omega)) _;obtain⟨i9,f9,x9,h9⟩:=h.cx0;have hk:∀k,k≠g->(w'.setCell ⟨g,4,none⟩ (jS a (A.length+1) c)).heap[k]? =w'.heap[k]? :=fun k h1=>rA _ _ _ _ (by simpa using h1)
 refine⟨a,c,w',hr,by simp[rG,hgb],by simp[rD,hgb],⟨?_,?_,hgn,?_,?_,⟨i9,f9,x9,h9⟩,F0,hlt,by simp;omega,h.nm9⟩⟩
 ·rw[rC _ _ _ _ _ _ hgb];rfl
 ·rw[hk _ (by omega)]
  exact(hold _ (by omega)).trans h.rz
 ·exact hL.keep Fe.ok_sub (by simp) fun k h1 _=>hk k (by omega)
 ·refine h9.step F0 ?_ h.cx.le ?_
  ·rw[hk _ (by omega)]
   exact(hold _ (by omega)).trans h.cx.blk
  ·rw[hk _ (by omega)]
   exact(hold _ (by omega)).trans h.cx.nb
end
structure Pre (nv:Value) (L:List Int) (q N R F:Nat) (fv:Value) (w W:World) (i:Nat) (fl:Bool) (x:Int):Prop where
 cx:Cx nv L q N R F fv W i fl x
 cx0:∃i0 fl0 x0,Cx nv L q N R F fv w i0 fl0 x0
 fr:Fr (two q N) w.heap.size w W
 rz:W.heap[w.heap.size]? =some (.cells #[jI kQ 0,jT ⟨#[]⟩,jI kQ 0,jI kQ 0,jS none 0 0] 33 (0,0))
section
variable {nv:Value} {L:List Int} {q N R F:Nat} {fv:Value} {w W W':World} {i i':Nat} {fl fl':Bool} {x:Int}
theorem Pre.call (h:Pre nv L q N R F fv w W i fl x) (hF:Fr (only q) W.heap.size W W') (hR:Rd nv L q W' i' fl'):Pre nv L q N R F fv w W' i' fl' x:=by
 obtain⟨i0,f0,x0,h0⟩:=h.cx0;have:=h0.lt;have hl:=(Array.getElem?_eq_some_iff.1 h.rz).1;exact⟨h.cx.call hF hR,h.cx0,h.fr.trans (hF.wide.mono h.fr.size),(hF.block _ hl (by simp[only];omega)).trans h.rz⟩
theorem Pre.drawn (h:Pre nv L q N R F fv w W i fl x) (n:Nat):Pre nv L q N R F fv w (W.drewN n) i fl x:=
 ⟨⟨h.cx.blk,h.cx.nums.drawn n,h.cx.le,h.cx.cap,h.cx.nb,h.cx.rb,h.cx.fb,h.cx.nq⟩,h.cx0,h.fr.drawn n,h.rz⟩
theorem zQB (hL:Good L) (h:Pre nv L q N R F fv w W i fl x):Calls rE 19 #[jP (some ⟨q,0,none⟩)] W (fun e w'=>∃z i' fl',e=jR (jI kQ z)/\0<=z/\z<=65519/\Pre nv L q N R F fv w w' i' fl' x):=
 (xG hL h.cx.rd).mono fun _ _ ⟨z,i',fl',h1,h2,h3,h4,h5⟩=>⟨z,i',fl',h1,h2,h3,h.call h5 h4⟩
theorem zQJ (hL:Good L) (h:Pre nv L q N R F fv w W i fl x):Calls rE 88 #[jP (some ⟨q,0,none⟩)] W (fun e w'=>∃nm i' fl',e=jR (jT nm)/\nm.size<=20000/\Pre nv L q N R F fv w w' i' fl' x):=
 (zLU hL h.cx.rd).mono fun _ _ ⟨z,i',fl',h1,h2,h4,h5⟩=>⟨z,i',fl',h1,h2,h.call h5 h4⟩
theorem Pre.rcells (h:Pre nv L q N R F fv w W i fl x):W.cell? ⟨w.heap.size,0,none⟩=some (jI kQ 0)/\W.cell? ⟨w.heap.size,1,none⟩=some (jT ⟨#[]⟩)/\W.cell? ⟨w.heap.size,2,none⟩=some (jI kQ 0)/\W.cell? ⟨w.heap.size,3,none⟩=some (jI kQ 0)/\W.cell? ⟨w.heap.size,4,none⟩=some (jS none 0 0)/\
  W.frozen? ⟨w.heap.size,0,none⟩=false/\W.frozen? ⟨w.heap.size,1,none⟩=false/\W.frozen? ⟨w.heap.size,2,none⟩=false/\W.frozen? ⟨w.heap.size,3,none⟩=false/\W.frozen? ⟨w.heap.size,4,none⟩=false:=by
 refine⟨?_,?_,?_,?_,?_,?_,?_,?_,?_,?_⟩;all_goals simp[rD,rG,h.rz]
theorem Pre.start (h:Pre nv L q N R F fv w W i fl x) (op v bd:Int) (nm:ByteArray) (hn:nm.size<=20000):FmS nv L q N R F fv w W.heap.size (W.alloc (.cells #[jI kQ op,jT nm,jI kQ v,jI kQ bd,jS none 0 0] 33)) op nm v bd (jS none 0 0) [] i fl x:=by
 obtain⟨i0,f0,x0,h0⟩:=h.cx0;have hl:=(Array.getElem?_eq_some_iff.1 h.rz).1;exact⟨rL _ _,(rJ _ _ hl).trans h.rz,hl,AgL.nil,h.cx.below ((Below.refl _ _).alloc (rF _) _),h.cx0,h.fr.alloc h.fr.size _,⟨h0.lt.1,h0.lt.2.1⟩,by simp,hn⟩
theorem Pre.put5 (h:Pre nv L q N R F fv w W i fl x) (a b c d e:Value):Cx nv L q N R F fv (Go.Proofs.YtmabhhngoklncaaGreatDoor.put5 W w.heap.size a b c d e) i fl x/\Fr (two q N) w.heap.size w (Go.Proofs.YtmabhhngoklncaaGreatDoor.put5 W w.heap.size a b c d e):=by
 obtain⟨i0,f0,x0,h0⟩:=h.cx0;have hF:=h.fr.put5 (a:=a) (b:=b) (c:=c) (d:=d) (e:=e) (rF w.heap.size);have:=h0.lt;exact⟨h0.step hF ((zJ (by omega)).trans h.cx.blk) h.cx.le ((zJ (by omega)).trans h.cx.nb),hF⟩
theorem FmS.pre {g:Nat} {op v bd:Int} {nm:ByteArray} {lv:Value} {A:List Fe} (h:FmS nv L q N R F fv w g W op nm v bd lv A i fl x):Pre nv L q N R F fv w W i fl x:=⟨h.cx,h.cx0,h.fr,h.rz⟩
end
section
variable {nv:Value} {L:List Int} {q N R F g:Nat} {fv:Value} {w W W':World} {i i':Nat} {fl fl':Bool} {x:Int} {op v bd:Int} {nm:ByteArray} {lv:Value} {A:List Fe}
theorem zKr (hL:Good L) (h:FmS nv L q N R F fv w g W op nm v bd lv A i fl x):Calls rE 19 #[jP (some ⟨q,0,none⟩)] W (fun e w'=>∃z i' fl',e=jR (jI kQ z)/\0<=z/\z<=65519/\FmS nv L q N R F fv w g w' op nm v bd lv A i' fl' x):=
 (xG hL h.cx.rd).mono fun _ _ ⟨z,i',fl',h1,h2,h3,h4,h5⟩=>⟨z,i',fl',h1,h2,h3,h.call h5.wide (h.cx.call h5 h4)⟩
theorem zO2 (hL:Good L) (h:FmS nv L q N R F fv w g W op nm v bd lv A i fl x):Calls rE 88 #[jP (some ⟨q,0,none⟩)] W (fun e w'=>∃nm' i' fl',e=jR (jT nm')/\nm'.size<=20000/\FmS nv L q N R F fv w g w' op nm v bd lv A i' fl' x):=
 (zLU hL h.cx.rd).mono fun _ _ ⟨z,i',fl',h1,h2,h4,h5⟩=>⟨z,i',fl',h1,h2,h.call h5.wide (h.cx.call h5 h4)⟩
theorem FmS.fill (h:FmS nv L q N R F fv w g W op nm v bd (jS none 0 0) [] i fl x) (op' v' bd':Int) (nm':ByteArray) (hn:nm'.size<=20000):FmS nv L q N R F fv w g (Go.Proofs.YtmabhhngoklncaaGreatDoor.put5 W g (jI kQ op') (jT nm') (jI kQ v') (jI kQ bd') (jS none 0 0)) op' nm' v' bd' (jS none 0 0) [] i fl x:=by
 obtain⟨i0,f0,x0,h0⟩:=h.cx0;have hF:=h.fr.put5 (a:=jI kQ op') (b:=jT nm') (c:=jI kQ v') (d:=jI kQ bd') (e:=jS none 0 0) (Nat.le_of_lt h.gn);have hl:=h.lt;have hg:=h.gn;exact⟨yA h.gb,(zJ (by omega)).trans h.rz,hg,AgL.nil,h0.step hF ((zJ (by omega)).trans h.cx.blk) h.cx.le ((zJ (by omega)).trans h.cx.nb),h.cx0,hF,hl,by rw[yJ];exact h.n0,hn⟩
end
def Cnt (x x':Int) (fl':Bool) (n:Nat):Prop:=0<=x->x<=400->(n:Int)+1+x<=x'/\x'<=401/\(fl'=false->x'<=400)
theorem Fe.forest_snoc:∀(A:List Fe) (z:Fe),(Fe.forest (A++[z])).nodes=(Fe.forest A).nodes+z.args.nodes+1
 |[],z=>by simp[Fe.forest,Fs.nodes]
 |x::A,z=>by
  simp only[List.cons_append,Fe.forest,Fs.nodes,Fe.forest_snoc A z];omega
def LpC (x y x':Int) (fl:Bool) (A:List Fe):Prop:=0<=x->x<=400->y=x+1/\((Fe.forest A).nodes:Int)+y<=x'/\x'<=401/\(fl=false->x'<=400)
theorem LpC.cnt {x y x':Int} {fl:Bool} {A:List Fe} (h:LpC x y x' fl A):Cnt x x' fl (Fe.forest A).nodes:=fun h0 h1=>by
 obtain⟨rfl,h2,h3⟩:=h h0 h1;exact⟨by omega,h3⟩
theorem LpC.step {x y x7 x5:Int} {fl5:Bool} {A:List Fe} {z:Fe} (h:LpC x y x7 false A) (hc:Cnt x7 x5 fl5 z.args.nodes):LpC x y x5 fl5 (A++[z]):=fun h0 h1=>by
 obtain⟨rfl,h2,h3,h4⟩:=h h0 h1;have h4:=h4 rfl;obtain⟨h5,h6,h7⟩:=hc (by omega) h4;refine⟨rfl,?_,h6,h7⟩;rw[Fe.forest_snoc];omega
def zP7 (nv:Value) (L:List Int) (q N R F:Nat) (fv:Value) (w:World) (x0:Int) (e:Ending) (w':World):Prop:=∃(y:Fe) (i':Nat) (fl':Bool) (x':Int),e=jR (jG y)/\y.ok (dim (neu w.heap.size) w')/\Cx nv L q N R F fv w' i' fl' x'/\Fr (two q N) w.heap.size w w'/\Cnt x0 x' fl' y.args.nodes
theorem zQI {nv:Value} {L:List Int} {q N R F:Nat} {fv:Value} {w W:World} {i:Nat} {fl:Bool} {x:Int} (h:Pre nv L q N R F fv w W i fl x) {x0:Int} (hcn:Cnt x0 x fl 0):zP7 nv L q N R F fv w x0 (jR (jG #[jI kQ 0,jT ⟨#[]⟩,jI kQ 0,jI kQ 0,jS none 0 0])) (put5 W w.heap.size (jI kQ 0) (jT ⟨#[]⟩) (jI kQ 0) (jI kQ 0) (jS none 0 0)):=by
 obtain⟨h1,h2⟩:=h.put5 (jI kQ 0) (jT ⟨#[]⟩) (jI kQ 0) (jI kQ 0) (jS none 0 0);exact⟨⟨0,⟨#[]⟩,0,0,.nil,none,0⟩,_,_,_,rfl,⟨fun h0=>absurd rfl h0,by decide,by decide,by decide⟩,h1,h2,hcn⟩
theorem zJx {nv:Value} {L:List Int} {q N R F:Nat} {fv:Value} {w W:World} {g:Nat} {op v bd:Int} {nm:ByteArray} {a:Option Addr} {c:Nat} {A:List Fe} {i:Nat} {fl:Bool} {x:Int} (h:FmS nv L q N R F fv w g W op nm v bd (jS a A.length c) A i fl x) (hA:A.length<=1000000) {x0:Int} (hcn:Cnt x0 x fl (Fe.forest A).nodes):
  zP7 nv L q N R F fv w x0 (jR (jG #[jI kQ op,jT nm,jI kQ v,jI kQ bd,jS a A.length c])) (put5 W w.heap.size (jI kQ op) (jT nm) (jI kQ v) (jI kQ bd) (jS a A.length c)):=by
 obtain⟨h1,h2⟩:=h.pre.put5 (jI kQ op) (jT nm) (jI kQ v) (jI kQ bd) (jS a A.length c);have hgn:=h.gn;obtain⟨a',c',e,hc,hf⟩:=AgL.forest (h.list.keep (w':=put5 W w.heap.size (jI kQ op) (jT nm) (jI kQ v) (jI kQ bd) (jS a A.length c)) Fe.ok_sub (by rw[yJ];exact rF _) fun k hk _=>zJ (by omega));simp only[Value.slice.injEq] at e;obtain⟨rfl,el,rfl⟩:=e;have hn:=h.nm9;refine⟨⟨op,nm,v,bd,Fe.forest A,a,c⟩,_,_,_,by simp[Fe.forest_len],⟨hf.on (yG (by omega)),by show nm.size<=_;omega,by show(Fe.forest A).len<=_;rw[Fe.forest_len];omega,hc⟩,h1,h2,hcn⟩
end Go.Proofs.YtmabhhngoklncaaGreatDoor
