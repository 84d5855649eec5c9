/- Each operation of the evaluator is the model's, fifteenth part: max an -/
import Derived.Test.YtmabhhngoklncaaGreatDoorD
import Derived.RangeFuncLeaves
import Derived.LoopNIn
import Derived.OrdersIn
set_option maxRecDepth 100000
set_option maxHeartbeats 40000000
set_option linter.all false
open Array renaming getElem?_setIfInBounds_ne->rA,getElem?_eq_none->rE
open Option renaming map_eq_some_iff->rB,bind_eq_some_iff->rG
open Go.Instr renaming checkKey->rC,lookup->rH
open Go.Sem renaming run_bind->rD,run_pure->rM
open Go.Result renaming andThen_ok->rF
open Nat renaming lt_or_ge->rI,le_of_ble_eq_true->rK,eq_of_beq_eq_true->rL,zero_add->rN,add_zero->rO
open Bool renaming false_eq_true->rJ
open Go
namespace Go.AM
section
variable {P:Program} {ι:Inj} {m:Mem} {w w':World} {A B:Value} {a b:AV} {t:TypeId} {g:G} {ts:Array TypeId} {ty:TypeId} {mask:Nat} {fr:Fr} {act:Act}
theorem pR {mx:Bool}:∀ {rest:List AV} {REST:List Value} {k:IntKind} {x:Int} {f:Int->R},concL ι rest=some REST->
  zGa (fun v (a:Int) k'=>zD3 v fun y=>iteB (zAZ (pY mx a y) (pY mx y a)) (k' y) (k' a)) rest x f=.ok->
  ∃y,f y=.ok/\(REST.foldlM (if mx then Builtin.max2 else Builtin.min2) (Value.int k x)).run P w=.ok (.int k y) w
 |[],REST,k,x,f,hc,h=>by
  simp[concL] at hc;subst hc;exact⟨x,h,by simp⟩
 |v::rest,REST,k,x,f,hc,h=>by
  simp only[concL,rG,rB] at hc;obtain⟨V,h1,L,h2,rfl⟩:=hc;have h':zD3 v (fun y=>iteB (zAZ (pY mx x y) (pY mx y x)) (zGa (fun v (a:Int) k'=>zD3 v fun y=>iteB (zAZ (pY mx a y) (pY mx y a)) (k' y) (k' a)) rest y f)
    (zGa (fun v (a:Int) k'=>zD3 v fun y=>iteB (zAZ (pY mx a y) (pY mx y a)) (k' y) (k' a)) rest x f))=.ok:=h
  obtain⟨j,n,rfl,h3⟩:=zHj h';rw[zV,zCQ] at h3;rw[z7 h1];cases mx with
  |true=>
   by_cases hlt:x<n
   ·rw[if_pos (show decide (pY true x n<pY true n x)=true from decide_eq_true hlt)] at h3
    obtain⟨y,i1,i2⟩:=pR (k:=k) h2 h3;refine⟨y,i1,?_⟩;simp only[if_true] at i2;simp[Builtin.max2,hlt,i2]
   ·rw[if_neg (show¬decide (pY true x n<pY true n x)=true from fun h=>hlt (of_decide_eq_true h))] at h3
    obtain⟨y,i1,i2⟩:=pR (k:=k) h2 h3;refine⟨y,i1,?_⟩;simp only[if_true] at i2;simp[Builtin.max2,hlt,i2]
  |false=>
   by_cases hlt:n<x
   ·rw[if_pos (show decide (pY false x n<pY false n x)=true from decide_eq_true hlt)] at h3
    obtain⟨y,i1,i2⟩:=pR (k:=k) h2 h3;refine⟨y,i1,?_⟩;simp only[rJ,if_false] at i2;simp[Builtin.min2,hlt,i2]
   ·rw[if_neg (show¬decide (pY false x n<pY false n x)=true from fun h=>hlt (of_decide_eq_true h))] at h3
    obtain⟨y,i1,i2⟩:=pR (k:=k) h2 h3;refine⟨y,i1,?_⟩;simp only[rJ,if_false] at i2;simp[Builtin.min2,hlt,i2]
theorem zFI {mx:Bool} {vs:List AV} {args:Array Value} {f:AV->R} (hc:concL ι vs=some args.toList) (h:zEB mx vs f=.ok):
  yD P ι w f ((if mx then Builtin.max_ ts ty args else Builtin.min_ ts ty args).run P w):=by
 unfold zEB at h;split at h<;>first|(cases h;done)|skip
 rename_i k x rest;simp only[concL,rG,rB] at hc;obtain⟨V,h1,L,h2,h3⟩:=hc;have hV:=z7 h1;subst hV;obtain⟨y,i1,i2⟩:=pR (P:=P) (w:=w) (k:=k) h2 h;refine .mkInt i1 (n':=y) ?_ rfl;cases mx with
 |true=>
  simp only[if_true] at i2 ⊢;simp only[Builtin.max_,<-h3];exact i2
 |false=>
  simp only[rJ,if_false] at i2 ⊢;simp only[Builtin.min_,<-h3];exact i2
theorem zJg {es:List Ent}:∀ {Es:List MapEntry},yN ι es Es->∀ {q:Nat} {e:Ent},(es.find? fun e=>e.born==q)=some e->∃E,(Es.find? fun E=>E.born==q)=some E/\zGM ι e E:=by
 induction es with
 |nil=>intro Es _ q e h;cases h
 |cons e0 es ih=>
  intro Es hr q e h;cases Es with
  |nil=>exact hr.elim
  |cons E0 Es=>
   obtain⟨h0,h1⟩:=hr;rw[List.find?_cons] at h ⊢;rw[<-h0.2.2];split at h
   ·injection h with h;subst h;exact⟨E0,rfl,h0⟩
   ·exact ih h1 h
theorem zAO {r:Nat} {mb:Option Nat} {s l:Nat} {seen:Array Nat} (h:w.heap[r]? =some (.mapIter mb s seen l)):(getObj r).run P w=.ok (.mapIter mb s seen l) w:=by simp[getObj,Sem.run,h]
theorem zM1 (hr:Rel P ι m w) {f:AV->Mem->R} (ha:conc ι a=some A) (h:zL2 a m f=.ok):Out P ι m w f ((Instr.entry A).run P w):=by
 unfold zL2 at h;split at h<;>first|(cases h;done)|skip
 rename_i b;obtain⟨p,hp,rfl⟩:=yK ha;obtain⟨x,h1,h2⟩:=T.getK_ok (h:m.t.getK b _=.ok);split at h2<;>first|(cases h2;done)|skip
 rename_i mb s seen last;obtain⟨y,h3,h4⟩:=T.getK_ok (h2:m.t.getK mb _=.ok);split at h4<;>first|(cases h4;done)|skip
 rename_i es c;obtain⟨h5,h6⟩:=zB h4;obtain⟨q,h7,h8⟩:=zF h6;obtain⟨e,h9,h10⟩:=zF h8;obtain⟨d0,m',k1,p',hp',rfl⟩:=blkOf hr h1 hp;obtain⟨E,j1,j2,j3⟩:=blkOf hr h3 hp';obtain⟨E0,i1,i2,i3,i4⟩:=zJg j2 h9;obtain rfl:=rL h5;refine yD.out hr (.mk' h10 (V:=.tuple #[E0.key,E0.val]) (by simp[conc,concL,i2,i3]) ?_);have hb:seen.toArray.back? =some q:=by simpa[Array.back?,List.getLast?_eq_getElem?] using h7
 have hf:(E.find? fun x=>x.born==q)=some E0:=by
  rw[<-Array.find?_toList];exact i1
 have hdef:(Instr.entry (.pointer (some ⟨p.blk,p.delta+0,none⟩)))=Instr.entry (.pointer (some ⟨p.blk,0,none⟩)):=by rw[d0]
 rw[hdef];simp[Instr.entry,zAO k1,xN j1,hb,hf]
end
section
variable {P:Program} {ι:Inj} {m:Mem} {w w':World} {A B K:Value} {a b key:AV} {t:TypeId} {g:G}
theorem zKp {k:IntKind} {x:Int} {V:Value} {f:Bool->R} (ha:conc ι a=some V) (h:cellEq (.int k x) a f=.ok) (j:IntKind):∃r,Instr.sameNow (.int j) (.int k x) V=some r/\f r=.ok/\(r=true->a=.int k x):=by
 cases a<;>first|(cases h;done)|skip
 rename_i k' y;obtain⟨h1,h2⟩:=zB (h:ifB 0 (zC0 k k') (f (intEq x y))=.ok);obtain rfl:=zB0 h1;rw[z7 ha];rw[intEq_ok] at h2;exact⟨_,by simp[Instr.sameNow],h2,fun h=>by rw[eq_of_beq h]⟩
theorem zKi {s:List UInt8} {V:Value} {f:Bool->R} (ha:conc ι a=some V) (h:cellEq (.str s) a f=.ok):∃r,Instr.sameNow .string (.string ⟨s.toArray⟩) V=some r/\f r=.ok/\(r=true->a=.str s):=by
 cases a<;>first|(cases h;done)|skip
 rename_i s';have h2:f (zAn s s')=.ok:=h;rw[yR ha];rw[zAw] at h2;refine⟨s==s',?_,h2,fun h=>by rw[eq_of_beq h]⟩;show some ((⟨s.toArray⟩:ByteArray)==⟨s'.toArray⟩)=_;congr 1;by_cases e:s=s'
 ·subst e
  rw[(MapKept.bytes_beq _ _).2 rfl];simp
 ·have:¬((⟨s.toArray⟩:ByteArray)==⟨s'.toArray⟩)=true:=fun h=>e (by have:=(MapKept.bytes_beq _ _).1 h;injection this with h;exact List.toArray_inj h)
  rw[beq_eq_false_iff_ne.2 e];exact Bool.eq_false_iff.2 this
theorem zJw {x:Bool} {V:Value} {f:Bool->R} (ha:conc ι a=some V) (h:cellEq (.bool x) a f=.ok):∃r,Instr.sameNow .bool (.bool x) V=some r/\f r=.ok/\(r=true->a=.bool x):=by
 cases a<;>first|(cases h;done)|skip
 rename_i y;have h2:f (iteB x y (Bool.not y))=.ok:=h;rw[xL ha];refine⟨x==y,rfl,?_,fun h=>by rw[eq_of_beq h]⟩;rw[<-h2];cases x<;>cases y<;>rfl
noncomputable def zBc (g:G) (t:TypeId) (key:AV) (yes:Nat->Ent->R) (no:R):List Ent->Nat->R
 |[],_=>no
 |e::es,i=>zDw g t key e.key fun b=>if b then yes i e else zBc g t key yes no es (i+1)
theorem zKy {yes:Nat->Ent->R} {no:R} (es:List Ent):zHY g t key es yes no=zBc g t key yes no es 0:=by
 suffices H:∀(es:List Ent) (i:Nat),(List.rec (motive:=fun _=>Nat->R) (fun _=>no) (fun e _ ih i=>zDw g t key e.key fun b=>Bool.rec (motive:=fun _=>R) (zS (Nat.succ i) ih) (yes i e) b) es i:R)=zBc g t key yes no es i from H es 0
 intro es;induction es with
 |nil=>intro i;rfl
 |cons e es ih=>
  intro i;show zDw g t key e.key _=_;simp only[zBc];congr 1;funext b;cases b with
  |true=>rfl
  |false=>
   show zS (Nat.succ i) _=_;rw[zN];exact ih _
def Found (ι:Inj) (key:AV) (yes:Nat->Ent->R) (no:R) (es:List Ent) (Es:List MapEntry) (i0:Nat) (r:Option (Nat×Value)):Prop:=
 (r=none/\no=.ok)∨∃i e E,r=some (i0+i,E.val)/\yes (i0+i) e=.ok/\es[i]? =some e/\Es[i]? =some E/\zGM ι e E/\e.key=key
theorem Found.cons {yes:Nat->Ent->R} {no:R} {es:List Ent} {Es:List MapEntry} {i0:Nat} {r:Option (Nat×Value)} {e:Ent} {E:MapEntry} (h:Found ι key yes no es Es (i0+1) r):Found ι key yes no (e::es) (E::Es) i0 r:=by
 rcases h with h|⟨i,e',E',h1,h2,h3,h4,h5⟩
 ·exact .inl h
 ·exact .inr ⟨i+1,e',E',by rw[h1];congr 2;omega,by rw[show i0+(i+1)=i0+1+i by omega];exact h2,by simpa using h3,by simpa using h4,h5⟩
theorem zG1 {d:TypeDesc} {yes:Nat->Ent->R} {no:R} (hs:∀(e:AV) (V:Value) (f:Bool->R),conc ι e=some V->zDw g t key e f=.ok->∃r,Instr.sameNow d K V=some r/\f r=.ok/\(r=true->e=key)):
  ∀ {es:List Ent} {Es:List MapEntry} {i0:Nat},yN ι es Es->zBc g t key yes no es i0=.ok->∃r,Instr.findNow d K Es i0=some r/\Found ι key yes no es Es i0 r
 |[],[],i0,_,h=>⟨none,rfl,.inl ⟨rfl,h⟩⟩
 |[],_::_,_,hr,_=>hr.elim
 |_::_,[],_,hr,_=>hr.elim
 |e::es,E::Es,i0,hr,h=>by
  obtain⟨r,h1,h2,hk⟩:=hs e.key E.key _ hr.1.1 (h:zDw g t key e.key _=.ok);simp only[Instr.findNow,h1];cases r with
  |true=>exact⟨_,rfl,.inr ⟨0,e,E,rfl,by simpa using h2,rfl,rfl,hr.1,hk rfl⟩⟩
  |false=>
   obtain⟨r,h3,h4⟩:=zG1 hs hr.2 (by simpa using h2);exact⟨r,h3,h4.cons⟩
theorem zDF {yes:Nat->Ent->R} {no:R} (hs:∀(e:AV) (V:Value) (f:Bool->R),conc ι e=some V->zDw g t key e f=.ok->∃r,(Op.equal t K V).run P w=.ok r w/\f r=.ok/\(r=true->e=key)):
  ∀ {es:List Ent} {Es:List MapEntry} {i0:Nat},yN ι es Es->zBc g t key yes no es i0=.ok->∃r,(Instr.findAsking t K Es i0).run P w=.ok r w/\Found ι key yes no es Es i0 r
 |[],[],i0,_,h=>⟨none,by simp[Instr.findAsking],.inl ⟨rfl,h⟩⟩
 |[],_::_,_,hr,_=>hr.elim
 |_::_,[],_,hr,_=>hr.elim
 |e::es,E::Es,i0,hr,h=>by
  obtain⟨r,h1,h2,hk⟩:=hs e.key E.key _ hr.1.1 (h:zDw g t key e.key _=.ok);cases r with
  |true=>exact⟨_,by simp[Instr.findAsking,h1],.inr ⟨0,e,E,rfl,by simpa using h2,rfl,rfl,hr.1,hk rfl⟩⟩
  |false=>
   obtain⟨r,h3,h4⟩:=zDF hs hr.2 (by simpa using h2);exact⟨r,by simp[Instr.findAsking,h1];exact h3,h4.cons⟩
theorem zJs {x y:AV} {f:Bool->R} (h:cellEq x y f=.ok):∃r,(∀f',cellEq x y f'=f' r)/\f r=.ok/\(r=true->x=y):=by
 cases x<;>cases y<;>first|(cases h;done)|skip
 ·rename_i x y
  refine⟨x==y,fun f'=>?_,?_,fun h=>by rw[eq_of_beq h]⟩
  ·show f' (iteB x y (Bool.not y))=_
   cases x<;>cases y<;>rfl
  ·have:f (iteB x y (Bool.not y))=.ok:=h
   rw[<-this];cases x<;>cases y<;>rfl
 ·rename_i k x j y
  obtain⟨h1,h2⟩:=zB (h:ifB 0 (zC0 k j) (f (intEq x y))=.ok);refine⟨x==y,fun f'=>?_,by rw[<-intEq_ok];exact h2,fun h=>by rw[eq_of_beq h,zB0 h1]⟩;show ifB 0 (zC0 k j) (f' (intEq x y))=_;rw[h1,intEq_ok];rfl
 ·rename_i x y
  refine⟨x==y,fun f'=>?_,?_,fun h=>by rw[eq_of_beq h]⟩
  ·show f' (zAn x y)=_
   rw[zAw]
  ·have:f (zAn x y)=.ok:=h
   rw[<-zAw];exact this
theorem zEH:∀ {xs ys:List AV} {f:Bool->R},cellsEq xs ys f=.ok->∃r,(∀f',cellsEq xs ys f'=f' r)/\f r=.ok/\(r=true->xs=ys)
 |[],[],f,h=>⟨true,fun _=>rfl,h,fun _=>rfl⟩
 |[],_::_,f,h=>⟨false,fun _=>rfl,h,fun h=>by cases h⟩
 |x::xs,[],f,h=>absurd (show R.bad 0=R.ok from h) (by simp)
 |x::xs,y::ys,f,h=>by
  have e:∀f',cellsEq (x::xs) (y::ys) f'=cellEq x y fun b=>Bool.rec (motive:=fun _=>R) (f' false) (cellsEq xs ys f') b:=fun f'=>rfl
  rw[e] at h;obtain⟨r,h1,h2,h3⟩:=zJs h;cases r with
  |false=>exact⟨false,fun f'=>by rw[e,h1],h2,fun h=>by cases h⟩
  |true=>
   obtain⟨q,h4,h5,h6⟩:=zEH (h2:cellsEq xs ys f=.ok);exact⟨q,fun f'=>by rw[e,h1];exact h4 f',h5,fun h=>by rw[h3 rfl,h6 h]⟩
theorem zJz (hg:GOk P g) (hflat:∀t,g.isFlat t=true->Flat P t) {xs ys:List AV} {X Y:List Value} {f:Bool->R} (hX:concL ι xs=some X) (hY:concL ι ys=some Y) (h:zD5 g t xs ys f=.ok):
  ∃b,f b=.ok/\(Op.equal t (.agg X.toArray) (.agg Y.toArray)).run P w=.ok b w/\(b=true->xs=ys):=by
 obtain⟨h1,h2⟩:=zB h;obtain⟨z,h3,h4⟩:=zF h2;obtain⟨h5,h6⟩:=zB h4;obtain⟨h7,h8⟩:=zB h6;obtain⟨r,j1,j2,j3⟩:=zEH h8;have h0:zD5 g t xs ys (fun b=>if b=r then .ok else .bad 0)=.ok:=by
  show ifB 0 (g.isFlat t) (zP 0 (g.zero t) fun z=>ifB 0 (fitsB xs z.cells) (ifB 0 (fitsB ys z.cells) (cellsEq xs ys _)))=_;rw[h1,h3];show ifB 0 (fitsB xs z.cells) (ifB 0 (fitsB ys z.cells) (cellsEq xs ys _))=_;rw[h5,h7];show cellsEq xs ys _=_;rw[j1,if_pos rfl]
 obtain⟨b,k1,k2, -⟩:=zEl hg hflat (w:=w) hX hY h0;have:b=r:=by
  by_cases e:b=r
  ·exact e
  ·rw[if_neg e] at k1;cases k1
 subst this;exact⟨b,j2,k2,j3⟩
theorem zDd (hg:GOk P g) (hflat:∀t,g.isFlat t=true->Flat P t) (hk:key.isKey g t=true) (hK:conc ι key=some K) {es:List Ent} {Es:List MapEntry} {yes:Nat->Ent->R} {no:R} (he:yN ι es Es)
  (h:zHY g t key es yes no=.ok):(∀e,(rC e 10000 t K).run P w=.ok () w)/\∃r,(Instr.findKey t K Es).run P w=.ok r w/\Found ι key yes no es Es 0 r:=by
 rw[zKy] at h;have now:∀d,g.desc t=d->d≠.invalid->(∀(e:AV) (V:Value) (f:Bool->R),conc ι e=some V->zDw g t key e f=.ok->∃r,Instr.sameNow d K V=some r/\f r=.ok/\(r=true->e=key))->
   ∃r,(Instr.findKey t K Es).run P w=.ok r w/\Found ι key yes no es Es 0 r:=fun d hd hi hs=>by
  have hu:=hg.run_desc hd hi w;obtain⟨r,h1,h2⟩:=zG1 hs he h;exact⟨r,by simp[Instr.findKey,hu,h1],h2⟩
 have agg:∀d xs,g.desc t=d->d≠.invalid->(∀X V,Instr.sameNow d (.agg X) V=none)->key=.agg xs->iteB (zBX xs) (iteB (g.isFlat t) (match g.zero t with|some z=>fitsB xs z.cells|none=>false) false) false=true->
   (∀e,(rC e 10000 t K).run P w=.ok () w)/\∃r,(Instr.findKey t K Es).run P w=.ok r w/\Found ι key yes no es Es 0 r:=fun d xs hd hi hn hx hf=>by
  subst hx;obtain⟨X,hX,rfl⟩:=vD hK;rw[zV] at hf;split at hf<;>try cases hf
  rw[zV] at hf;split at hf<;>rename_i hfl<;>try cases hf
  have hF:=hflat t hfl;split at hf<;>try cases hf
  rename_i z hs;refine⟨fun e=>hF.key e ι xs X w z (hg.zero hs) hX hf,?_⟩;have hu:=hg.run_desc hd hi w;cases Es with
  |nil=>
   cases es with
   |nil=>exact⟨none,by simp[Instr.findKey,hu,Instr.findNow],.inl ⟨rfl,h⟩⟩
   |cons e es=>exact he.elim
  |cons E Es=>
   obtain⟨r,h1,h2⟩:=zDF (P:=P) (w:=w) (K:=.agg X.toArray) (fun e V f hV hq=>by
    cases e<;>first|(cases hq;done)|skip
    rename_i ys;obtain⟨Y,hY,rfl⟩:=vD hV;obtain⟨r,q1,q2,q3⟩:=zJz hg hflat (w:=w) hX hY (hq:zD5 g t xs ys f=.ok);exact⟨r,q2,q1,fun h=>by rw[q3 h]⟩) he h
   exact⟨r,by simp[Instr.findKey,hu,Instr.findNow,hn,h1],h2⟩
 unfold AV.isKey at hk;split at hk<;>try cases hk
 ·rename_i j k x hd
  have hu:=hg.run_desc hd (by simp) w;obtain rfl:=z7 hK;exact⟨fun e=>(show∀n:Nat,(rC e (n+1) t _).run P w=.ok () w from fun n=>by simp[rC,hu]) 9999,now _ hd (by simp) fun e V f hV hq=>zKp hV hq j⟩
 ·rename_i x hd
  have hu:=hg.run_desc hd (by simp) w;obtain rfl:=yR hK;exact⟨fun e=>(show∀n:Nat,(rC e (n+1) t _).run P w=.ok () w from fun n=>by simp[rC,hu]) 9999,now _ hd (by simp) fun e V f hV hq=>zKi hV hq⟩
 ·rename_i x hd
  have hu:=hg.run_desc hd (by simp) w;obtain rfl:=xL hK;exact⟨fun e=>(show∀n:Nat,(rC e (n+1) t _).run P w=.ok () w from fun n=>by simp[rC,hu]) 9999,now _ hd (by simp) fun e V f hV hq=>zJw hV hq⟩
 ·rename_i fs xs hd
  exact agg _ xs hd (by simp) (fun _ _=>by simp[Instr.sameNow]) rfl hk
 ·rename_i n e xs hd
  exact agg _ xs hd (by simp) (fun _ _=>by simp[Instr.sameNow]) rfl hk
end
section
variable {P:Program} {ι:Inj} {m:Mem} {w w':World} {A B:Value} {a b:AV} {t:TypeId} {g:G}
theorem zK9 (hg:GOk P g) (hflat:∀t,g.isFlat t=true->Flat P t) (hr:Rel P ι m w) {ok:Bool} {f:AV->R} (ha:conc ι a=some A) (hb:conc ι b=some B) (h:zIs g t a b ok m f=.ok):
  yD P ι w f ((rH t A B ok).run P w):=by
 unfold zIs at h;split at h<;>first|(cases h;done)|skip
 rename_i kt e hd;have hu:=hg.run_desc hd (by simp) w;obtain⟨h1,h2⟩:=zB h;have out:∀ {v:AV} {V:Value} {c:Bool},conc ι v=some V->iteB ok (f (.tup [v,.bool c])) (f v)=.ok->yD P ι w f (.ok (if ok then .tuple #[V,.bool c] else V) w):=fun {v V c} hv h0=>by
  cases ok with
  |true=>exact .mk' (h0:f (.tup [v,.bool c])=.ok) (V:=.tuple #[V,.bool c]) (by simp[conc,concL,hv]) rfl
  |false=>exact .mk' (h0:f v=.ok) hv rfl
 have none_:zP 0 (g.zero e) (fun z=>iteB ok (f (.tup [z,.bool false])) (f z))=.ok->∃Z,(zeroValue e).run P w=.ok Z w/\yD P ι w f (.ok (if ok then .tuple #[Z,.bool false] else Z) w):=fun h0=>by
  obtain⟨z,h3,h4⟩:=zF h0;obtain⟨Z,k1,k2⟩:=G.zero_ok hg (ι:=ι) h3 w;exact⟨Z,k1,out k2 h4⟩
 split at h2<;>first|(cases h2;done)|skip
 ·rw[vA ha]
  obtain⟨hck,r,h3,h4⟩:=zDd (P:=P) (w:=w) (es:=[]) (Es:=[]) (yes:=fun _ _=>.bad 0) (no:=R.ok) hg hflat h1 hb trivial rfl;have hr0:r=none:=by
   rcases h4 with⟨h,_⟩|⟨i,e',E,_,h,_⟩
   ·exact h
   ·cases h
  subst hr0;obtain⟨Z,k1,k2⟩:=none_ h2;have hc:=hck true
  simpa[rH,hu,hc,h3,k1] using k2
 ·rename_i bl
  obtain⟨x,h3,h4⟩:=T.getK_ok (h2:m.t.getK bl _=.ok);split at h4<;>first|(cases h4;done)|skip
  rename_i es c;obtain⟨p,hp,rfl⟩:∃p,ι bl=some p/\A=.map (some p.blk):=by
   simp only[conc,rB] at ha;obtain⟨p,q1,q2⟩:=ha;exact⟨p,q1,q2.symm⟩
  obtain⟨E,k1,k2,k3⟩:=blkOf hr h3 hp;obtain⟨hck,r,h5,h6⟩:=zDd (P:=P) (w:=w) hg hflat h1 hb k2 h4;have hc:=hck E.isEmpty;rcases h6 with⟨rfl,h7⟩|⟨i,e',E',rfl,h7,h8,h9,h10, -⟩
  ·obtain⟨Z,j1,j2⟩:=none_ h7
   have:(rH t (.map (some p.blk)) B ok).run P w=.ok (if ok then .tuple #[Z,.bool false] else Z) w:=by
    simp[rH,hu,xN k1,hc,h5,j1]
   rw[this];exact j2
  ·have:(rH t (.map (some p.blk)) B ok).run P w=.ok (if ok then .tuple #[E'.val,.bool true] else E'.val) w:=by
    simp[rH,hu,xN k1,hc,h5]
   rw[this];exact out h10.2.1 h7
end
section
variable {ι:Inj} {K:Value} {key:AV}
theorem pS (h:key.plain=true) (hK:conc ι key=some K) (n:Nat):Instr.sameBits n K K=true:=by
 cases key<;>first|(cases h;done)|skip
 ·rw[xL hK];cases n<;>simp[Instr.sameBits]
 ·rw[z7 hK];cases n<;>simp[Instr.sameBits]
 ·rw[yR hK]
  cases n<;>(simp only[Instr.sameBits];exact(MapKept.bytes_beq _ _).2 rfl)
theorem zDg (n:Nat):∀ {xs:List AV} {X:List Value},concL ι xs=some X->(∀x∈xs,x.plain=true)->((X.zip X).all fun(x,y)=>Instr.sameBits n x y)=true
 |[],X,h,_=>by simp[concL] at h;subst h;rfl
 |x::xs,X,h,hp=>by
  simp only[concL,rG,rB] at h;obtain⟨V,h1,L,h2,rfl⟩:=h;have h3:=zDg n h2 fun y hy=>hp y (List.mem_cons_of_mem _ hy)
  rw[List.zip_cons_cons,List.all_cons,h3];simp[pS (hp x (List.mem_cons_self ..)) h1 n]
theorem sameBits_agg {xs:List AV} {X:List Value} (h:concL ι xs=some X) (hp:∀x∈xs,x.plain=true) (n:Nat):Instr.sameBits (n+1) (.agg X.toArray) (.agg X.toArray)=true:=by
 have:=zDg n h hp;simp only[Instr.sameBits,beq_self_eq_true,Bool.true_and];exact this
end
section
variable {P:Program} {ι:Inj} {m:Mem} {w w':World} {A B:Value} {a b:AV} {t:TypeId} {g:G}
theorem zBf {r:Nat} {E E':Array MapEntry} {c c':Nat} (h:w.heap[r]? =some (.map E c)):(setObj r (.map E' c')).run P w=.ok () {w with heap:=w.heap.setIfInBounds r (.map E' c')}:=by
 simp[setObj,Sem.run,h]
theorem Step.map (hr:Rel P ι m w) {bl:Nat} {es es':List Ent} {c c':Nat} {p:Pl} {E':Array MapEntry} (hb:m.t.find bl bl=some (.map es c)) (hp:ι bl=some p) (he:yN ι es' E'.toList) {f:Mem->R}
  (h:zAq m bl (.map es' c') f=.ok):∃m',f m'=.ok/\Step P ι m w ι m' {w with heap:=w.heap.setIfInBounds p.blk (.map E' c')}:=by
 obtain⟨E,k1,k2,k3⟩:=blkOf hr hb hp;obtain⟨t',h1,h2⟩:=T.setK_ok (h:m.t.setK bl (.map es' c') (fun t=>f ⟨m.next,t⟩)=.ok);have hlt:p.blk<w.heap.size:=by
  rcases rI p.blk w.heap.size with h|h
  ·exact h
  ·rw[rE h] at k1;cases k1
 refine⟨_,h1,Step.put hr hb rfl hp h2 (by simp) (fun k hk=>?_) rfl rfl rfl ⟨E',?_,he,k3⟩⟩
 ·simp only[rA (Ne.symm hk)]
 ·simp[hlt]
theorem yN.set:∀ {es:List Ent} {Es:List MapEntry},yN ι es Es->∀ {i:Nat} {e:Ent} {E:MapEntry},zGM ι e E->yN ι (es.set i e) (Es.set i E)
 |[],[],_,_,_,_,_=>trivial
 |[],_::_,h,_,_,_,_=>h.elim
 |_::_,[],h,_,_,_,_=>h.elim
 |_::_,_::_,h,0,_,_,he=>⟨he,h.2⟩
 |_::_,_::_,h,_+1,_,_,he=>⟨h.1,h.2.set he⟩
theorem yN.app:∀ {es:List Ent} {Es:List MapEntry},yN ι es Es->∀ {es':List Ent} {Es':List MapEntry},yN ι es' Es'->yN ι (es++es') (Es++Es')
 |[],[],_,_,_,h=>h
 |[],_::_,h,_,_,_=>h.elim
 |_::_,[],h,_,_,_=>h.elim
 |_::_,_::_,h,_,_,h'=>⟨h.1,h.2.app h'⟩
theorem yN.erase:∀ {es:List Ent} {Es:List MapEntry},yN ι es Es->∀(i:Nat),yN ι (es.take i++es.drop (i+1)) (Es.eraseIdx i)
 |[],[],_,i=>by simp;trivial
 |[],_::_,h,_=>h.elim
 |_::_,[],h,_=>h.elim
 |_::_,_::_,h,0=>by simpa using h.2
 |e::es,E::Es,h,i+1=>by
  have:=h.2.erase i;simp only[List.take_succ_cons,List.drop_succ_cons,List.cons_append,List.eraseIdx_cons_succ];exact⟨h.1,this⟩
theorem zLQ {kt:TypeId} {key:AV} {K:Value} (hk:key.isKey g kt=true) (hK:conc ι key=some K) (n:Nat):Instr.sameBits (n+1) K K=true:=by
 unfold AV.isKey at hk;have agg:∀xs,key=.agg xs->zBX xs=true->Instr.sameBits (n+1) K K=true:=fun xs hx hp=>by
  subst hx;obtain⟨X,hX,rfl⟩:=vD hK;refine sameBits_agg hX (fun x hx=>?_) n;have:∀(l:List AV),zBX l=true->∀x∈l,x.plain=true:=by
   intro l;induction l with
   |nil=>intro _ x hx;cases hx
   |cons a l ih=>
    intro h x hx;have h':iteB a.plain (zBX l) false=true:=h;rw[zV] at h';split at h'
    ·rcases List.mem_cons.1 hx with rfl|hx
     ·assumption
     ·exact ih h' x hx
    ·cases h'
  exact this xs hp x hx
 split at hk<;>try cases hk
 ·exact pS rfl hK _
 ·exact pS rfl hK _
 ·exact pS rfl hK _
 ·rw[zV] at hk
  split at hk
  ·exact agg _ rfl ‹_›
  ·cases hk
 ·rw[zV] at hk
  split at hk
  ·exact agg _ rfl ‹_›
  ·cases hk
theorem zGl (hg:GOk P g) (hflat:∀t,g.isFlat t=true->Flat P t) (hr:Rel P ι m w) {key val:AV} {K V:Value} {f:Mem->R} (ha:conc ι a=some A) (hK:conc ι key=some K) (hV:conc ι val=some V)
  (h:zFf g t a key val m f=.ok):∃w' m',(Instr.mapUpdate t A K V).run P w=.ok () w'/\f m'=.ok/\Step P ι m w ι m' w':=by
 unfold zFf at h;split at h<;>first|(cases h;done)|skip
 rename_i kt e hd;have hu:=hg.run_desc hd (by simp) w;obtain⟨h1,h2⟩:=zB h;split at h2<;>first|(cases h2;done)|skip
 rename_i bl;obtain⟨x,h3,h4⟩:=T.getK_ok (h2:m.t.getK bl _=.ok);split at h4<;>first|(cases h4;done)|skip
 rename_i es c;obtain⟨p,hp,rfl⟩:=zAK ha;obtain⟨E,k1,k2,k3⟩:=blkOf hr h3 hp;obtain⟨hck,r,h5,h6⟩:=zDd (P:=P) (w:=w) hg hflat h1 hK k2 h4;have hc:=hck false;rcases h6 with⟨rfl,h7⟩|⟨i,e',E',rfl,h7,h8,h9,h10,h11⟩
 ·rw[q5,zN] at h7
  obtain⟨m',i1,i2⟩:=Step.map hr h3 hp (E':=E.push {key:=K,val:=V,born:=c}) (by
   rw[Array.toList_push];exact k2.app (es':=[⟨key,val,c⟩]) (Es':=[{key:=K,val:=V,born:=c}]) ⟨⟨hK,hV,rfl⟩,trivial⟩) h7
  refine⟨_,m',?_,i1,i2⟩;simp[Instr.mapUpdate,hu,xN k1,hc,h5,zBf k1]
 ·obtain⟨h12,h13⟩:=zGm h7
  simp only[rN] at h12 h13 h5;have hkey:E'.key=K:=by
   have:=h10.1;rw[h11,hK] at this;injection this with this;exact this.symm
  obtain⟨m',i1,i2⟩:=Step.map hr h3 hp (E':=E.modify i fun e=> {e with key:=K,val:=V}) (by
   have:(E.modify i fun e=> {e with key:=K,val:=V}).toList=E.toList.set i {key:=K,val:=V,born:=E'.born}:=by
    rw[Array.toList_modify];apply List.ext_getElem?;intro j;rw[List.getElem?_modify,List.getElem?_set];by_cases e:i=j
    ·subst e
     have hl:i<E.toList.length:=by
      rcases rI i E.toList.length with h|h
      ·exact h
      ·rw[List.getElem?_eq_none h] at h9;cases h9
     rw[if_pos rfl,if_pos hl,h9];simp
    ·simp[e]
   rw[this];exact k2.set ⟨hK,hV,h10.2.2⟩) h13
  refine⟨_,m',?_,i1,i2⟩;have hEi:E[i]? =some E':=by rw[<-h9];simp
  have hkts:(Instr.keyThatStays K K).run P w=.ok K w:=by
   simp[Instr.keyThatStays,zLQ h1 hK 9999]
  simp[Instr.mapUpdate,hu,xN k1,hc,h5,hEi,hkey,hkts,zBf k1]
theorem zLX (hg:GOk P g) (hflat:∀t,g.isFlat t=true->Flat P t) (hr:Rel P ι m w) {kt et:TypeId} {bl:Nat} {key:AV} {K:Value} {ts:Array TypeId} {args:Array Value} {ty:TypeId} {f:AV->Mem->R}
  (ts0:ts[0]? =some t) (a0:args[0]? =some A) (a1:args[1]? =some K) (hd:g.desc t=.map kt et) (ha:conc ι (.mp bl)=some A) (hK:conc ι key=some K)
  (h:ifB 0 (key.isKey g kt) (pJ m bl fun y=>match y with
       | .map es c=>zHY g kt key es (fun i _=>zEE es i fun l=>zFG es (Nat.succ i) fun r=>zCy l r fun es=>zAq m bl (.map es c) fun m=>f (.tup []) m) (f (.tup []) m)
       |_=>.bad 0)=.ok):Out P ι m w f ((Builtin.delete_ ts ty args).run P w):=by
 have hu:=hg.run_desc hd (by simp) w;obtain⟨h1,h2⟩:=zB h;obtain⟨x,h3,h4⟩:=T.getK_ok (h2:m.t.getK bl _=.ok);split at h4<;>first|(cases h4;done)|skip
 rename_i es c;obtain⟨p,hp,rfl⟩:=zAK ha;obtain⟨E,k1,k2,k3⟩:=blkOf hr h3 hp;obtain⟨hck,r,h5,h6⟩:=zDd (P:=P) (w:=w) hg hflat h1 hK k2 h4;have hc:=hck E.isEmpty;rcases h6 with⟨rfl,h7⟩|⟨i,e',E',rfl,h7,h8,h9,h10,h11⟩
 ·refine⟨.tuple #[],w,ι,.tup [],m,?_,h7,.refl hr,by simp[conc,concL]⟩
  have hsame: {w with heap:=w.heap.setIfInBounds p.blk (.map E c)}=w:=by
   have:w.heap.setIfInBounds p.blk (.map E c)=w.heap:=by
    apply Array.ext_getElem?;intro j;by_cases e:p.blk=j
    ·subst e
     rw[k1];have hlt:p.blk<w.heap.size:=by
      rcases rI p.blk w.heap.size with h|h
      ·exact h
      ·rw[rE h] at k1;cases k1
     simp[hlt]
    ·rw[rA e]
   rw[this]
  simp[Builtin.delete_,ts0,a0,a1,hu,xN k1,hc,h5,zBf k1,hsame]
 ·obtain⟨h12,h13⟩:=zAT h7
  obtain⟨h14,h15⟩:=zAi h13;rw[q5] at h15;simp only[rN] at h12 h14 h15 h5;obtain⟨m',i1,i2⟩:=Step.map hr h3 hp (E':=E.eraseIdxIfInBounds i) (by
   have:(E.eraseIdxIfInBounds i).toList=E.toList.eraseIdx i:=by
    simp[Array.toList_eraseIdxIfInBounds]
   rw[this];exact k2.erase i) h15
  refine⟨.tuple #[],_,ι,.tup [],m',?_,i1,i2,by simp[conc,concL]⟩;simp[Builtin.delete_,ts0,a0,a1,hu,xN k1,hc,h5,zBf k1]
end
section
variable {P:Program} {ι:Inj} {m:Mem} {w w':World} {A B:Value} {a b:AV} {t:TypeId} {g:G} {fr:Fr} {mask:Nat} {act:Act}
theorem zJf (hg:GOk P g) (hr:Rel P ι m w) (hf:xI P ι fr mask act.tmps) {r:Option Operand} {f:AV->Mem->R} (h:zC5 g t r fr m f=.ok):Out P ι m w f ((Instr.makeMap t (r.map act.eval)).run P w):=by
 unfold zC5 at h;cases r with
 |none=>
  have:=zHu hr h
  simpa[Instr.makeMap] using this
 |some x=>
  obtain⟨v,h1,h2⟩:=zCa hr hf (h:ev x fr _=.ok);split at h1<;>first|(cases h1;done)|skip
  rename_i kt e hd;have hu:=hg.run_desc hd (by simp) w;obtain⟨k,n,rfl,h3⟩:=zHj h1;have:=zHu hr h3;have hv:=z7 h2
  simpa[Instr.makeMap,hu,hv,asInt,asIntOf] using this
theorem zFj {a b:R} (h:zIk a b=.ok):a=.ok/\b=.ok:=by
 cases a<;>first|(cases h;done)|exact⟨rfl,h⟩
theorem zLm {α:Type} {f:α->R}:∀ {l:List α},zR1 l f=.ok->∀a∈l,f a=.ok
 |[],_,_,h=>by cases h
 |x::l,h,a,ha=>by
  obtain⟨h1,h2⟩:=zFj (h:zIk (f x) (zR1 l f)=.ok);rcases List.mem_cons.1 ha with rfl|ha
  ·exact h1
  ·exact zLm h2 a ha
theorem zGd {p:Nat->Bool}:∀ {es:List Ent} {Es:List MapEntry},yN ι es Es->yN ι (es.filter fun e=>p e.born) (Es.filter fun e=>p e.born)
 |[],[],_=>trivial
 |[],_::_,h=>h.elim
 |_::_,[],h=>h.elim
 |e::es,E::Es,h=>by
  have hb:=h.1.2.2;have ih:=zGd (p:=p) h.2;simp only[List.filter_cons,<-hb];by_cases hp:p e.born=true
  ·rw[if_pos hp,if_pos hp];exact⟨h.1,ih⟩
  ·rw[if_neg hp,if_neg hp];exact ih
theorem zIQ {p:Nat->Bool}:∀ {es:List Ent} {Es:List MapEntry},yN ι es Es->(es.all fun e=>p e.born)=(Es.all fun e=>p e.born)
 |[],[],_=>rfl
 |[],_::_,h=>h.elim
 |_::_,[],h=>h.elim
 |e::es,E::Es,h=>by
  have hb:=h.1.2.2;simp only[List.all_cons,zIQ (p:=p) h.2,hb]
theorem zJp:∀ {es:List Ent} {Es:List MapEntry},yN ι es Es->∀ {i:Nat} {E:MapEntry},Es[i]? =some E->∃e,es[i]? =some e/\zGM ι e E
 |[],[],_,i,E,h=>by simp at h
 |[],_::_,h,_,_,_=>h.elim
 |_::_,[],h,_,_,_=>h.elim
 |e::es,E::Es,h,0,E',hE=>by simp at hE;subst hE;exact⟨e,rfl,h.1⟩
 |e::es,E::Es,h,i+1,E',hE=>by simpa using zJp h.2 (by simpa using hE)
theorem zFX {n:Nat} (hn:0<n):∃i w',(choose (.mapNext n)).run P w=.ok i w'/\i<n/\∃d,w'= {w with drawn:=d}:=by
 by_cases h:n<=1
 ·exact⟨0,w,by simp[choose,Sem.run,Question.forced,h],hn,w.drawn,rfl⟩
 ·refine⟨w.tape w.drawn (.mapNext n) % n,{w with drawn:=w.drawn+1},?_,Nat.mod_lt _ hn,_,rfl⟩
  simp[choose,Sem.run,Question.forced,h,Question.cut]
theorem zN3 (hr:Rel P ι m w) {s:Bool} {ty:TypeId} {f:AV->Mem->R} (ha:conc ι a=some A) (h:zPX a s m f=.ok):Out P ι m w f ((Instr.next A s ty).run P w):=by
 unfold zPX at h;split at h<;>first|(cases h;done)|skip
 rename_i b;obtain⟨x,h1,h2⟩:=T.getK_ok (h:m.t.getK b _=.ok);obtain⟨p,hp,rfl⟩:=yK ha;split at h2<;>first|(cases h2;done)|skip
 ·rename_i since seen stepped
  obtain⟨k0,m',k1,k2⟩:=blkOf hr h1 hp;subst k2;refine yD.out hr (.mk' h2 (V:=.tuple #[.bool false]) (by simp[conc,concL]) ?_);rw[k0];simp[Instr.next,zAO k1]
 ·rename_i mb since seen last
  obtain⟨k0,m',k1,q,hq,rfl⟩:=blkOf hr h1 hp;obtain⟨z,h3,h4⟩:=T.getK_ok (h2:m.t.getK mb _=.ok);split at h4<;>first|(cases h4;done)|skip
  rename_i es clock;obtain⟨h5,h6⟩:=zB h4;obtain⟨E,j1,j2,j3⟩:=blkOf hr h3 hq;have hleft:=zGd (p:=fun n=>!(seen.any fun s=>s==n)) j2;have hlast:=zIQ (p:=fun n=>Nat.ble last n) j2;have hchk:(!seen.toArray.isEmpty&& !E.isEmpty&&E.all (fun x=>decide (x.born≥last)))=false:=by
   have e1:(E.all fun x=>decide (x.born≥last))=(es.all fun e=>Nat.ble last e.born):=by
    rw[hlast,<-Array.all_toList];congr 1;funext x;rw[Bool.eq_iff_iff,Nat.ble_eq];simp
   have e2:E.isEmpty=es.isEmpty:=by
    have:=j2.length;cases es with
    |nil=>simp at this ⊢;exact this
    |cons e es=>
     simp at this ⊢;intro e;rw[e] at this;simp at this
   rw[e1,e2];have h5':(seen.isEmpty||es.isEmpty|| !(es.all fun e=>Nat.ble last e.born))=true:=h5;have e3:seen.toArray.isEmpty=seen.isEmpty:=by cases seen<;>rfl
   rw[e3];revert h5';cases seen.isEmpty<;>cases es.isEmpty<;>cases (es.all fun e=>Nat.ble last e.born)<;>simp
  have hfil:(E.filter fun e=>!seen.toArray.contains e.born).toList=E.toList.filter fun e=>!(seen.any fun s=>s==e.born):=by
   rw[Array.toList_filter];congr 1;funext e;congr 1;rw[List.contains_toArray,List.contains_eq_any_beq];congr 1;funext x;rw[Bool.eq_iff_iff];simp;exact⟨fun h=>h.symm,fun h=>h.symm⟩
  rw[k0];generalize hl:(es.filter fun e=>!(seen.any fun s=>s==e.born))=left at h6 hleft;generalize hL:(E.filter fun e=>!seen.toArray.contains e.born)=LA at hfil;rw[<-hfil] at hleft;have hget:∀ {α:Type} (k:Obj->Sem α),((getObj p.blk).bind k).run P w=(k (.mapIter (some q.blk) since seen.toArray last)).run P w:=fun k=>by
   have:=zAO (P:=P) k1;show((getObj p.blk >>= k:Sem _)).run P w=_;rw[rD,this];rfl
  have hrest:∀ {α:Type} (k:Obj->Sem α),((getObj q.blk).bind k).run P w=(k (.map E clock)).run P w:=fun k=>by
   have:=xN (P:=P) j1;show((getObj q.blk >>= k:Sem _)).run P w=_;rw[rD,this];rfl
  cases left with
  |nil=>
   have hL0:LA= #[]:=by
    have:=hleft.length;simp at this;exact this
   refine yD.out hr (.mk' (h6:f (.tup [.bool false]) m=.ok) (V:=.tuple #[.bool false]) (by simp[conc,concL]) ?_);have hch:(choose (.mapNext 1)).run P w=.ok 0 w:=by simp[choose,Sem.run,Question.forced]
   simp only[rO,Instr.next,rD,zAO k1,xN j1,rF,hchk,hL,hL0];simp[hch]
  |cons e0 left=>
   obtain⟨h7,h8⟩:=zB (h6:ifB 0 _ _=.ok);have hall:=zLm h8;have hold:=zIQ (p:=fun n=>Nat.ble (Nat.succ n) since) hleft;rw[h7] at hold;have hlt:∀x∈LA,x.born<since:=fun x hx=>by
    have:=List.all_eq_true.1 hold.symm x (by simpa using hx);exact rK this
   have ho:LA.filter (fun x=>decide (x.born<since))=LA:=by
    rw[Array.filter_eq_self];intro x hx;simpa using hlt x hx
   have hn:LA.filter (fun x=>decide (x.born≥since))= #[]:=by
    rw[Array.filter_eq_empty_iff];intro x hx;have:=hlt x hx;simp;exact this
   have hpos:0<LA.size:=by
    have:=hleft.length;simp at this;omega
   have hne:LA.isEmpty=false:=by
    rw[Bool.eq_false_iff];intro h;rw[Array.isEmpty_iff] at h;rw[h] at hpos;simp at hpos
   obtain⟨i,w1,c1,c2,d,rfl⟩:=zFX (P:=P) (w:=w) hpos;have hgi:LA[i]? =some LA[i]:=Array.getElem?_eq_getElem c2;obtain⟨e,g1,g2⟩:=zJp hleft (i:=i) (E:=LA[i]) (by rw[<-hgi];simp);have hk:=hall e (List.mem_of_getElem? g1);obtain⟨t',p1,p2⟩:=T.setK_ok (hk:m.t.setK b _ (fun t=>f (.tup [.bool true,e.key,e.val]) ⟨m.next,t⟩)=.ok);have hbl:p.blk<w.heap.size:=by
    rcases rI p.blk w.heap.size with h|h
    ·exact h
    ·rw[rE h] at k1;cases k1
   have hst:Step P ι m w ι ⟨m.next,t'⟩ {w with drawn:=d,heap:=w.heap.setIfInBounds p.blk (.mapIter (some q.blk) since (seen.toArray.push e.born) clock)}:=
    Step.put hr h1 rfl hp p2 (by simp) (fun k hk=>by simp only[rA (Ne.symm hk)]) rfl rfl rfl
     ⟨k0,some q.blk,by simp[hbl],q,hq,rfl⟩
   refine⟨.tuple #[.bool true,LA[i].key,LA[i].val],_,ι,_,_,?_,p1,hst,by simp[conc,concL,g2.1,g2.2.1]⟩;have hsz:({w with drawn:=d}:World).heap[p.blk]? =some (.mapIter (some q.blk) since seen.toArray last):=k1;have hset:(setObj p.blk (.mapIter (some q.blk) since (seen.toArray.push LA[i].born) clock)).run P {w with drawn:=d}=.ok () {w with drawn:=d,heap:=w.heap.setIfInBounds p.blk (.mapIter (some q.blk) since (seen.toArray.push e.born) clock)}:=by
    rw[g2.2.2];simp[setObj,Sem.run,hsz]
   simp only[rO,Instr.next,rD,zAO k1,xN j1,rF,hchk,hL,ho,hn,hne];simp[c1,hgi];simp at hset;rw[hset];rfl
end
def Wide (F:Fence):Prop:=F=Fence.wide∨∃l,F=Fence.wide.inRound l
theorem Wide.fn {F:Fence} (h:Wide F) (f:FuncId):F.fn f:=by
 rcases h with rfl|⟨l,rfl⟩<;>trivial
def Came (P:Program) (F:Fence) (n:Nat) (o:Oper) (a:Act) (Q:Exit->Act->World->Prop) (ι:Inj) (m:Mem) (w:World) (f:AV->Mem->R) (r:Result Next):Prop:=
 o.uponIn F n P a (fun a' w'=>∃V v ι' m',a'=a.put o.dst V/\f v m'=.ok/\Step P ι m w ι' m' w'/\conc ι' v=some V) Q r
def Ret (P:Program) (ι:Inj) (m:Mem) (w:World) (k:AV->Mem->R) (e:Ending) (w':World):Prop:=
 ∃V,e=.returned V/\∃v ι' m',k v m'=.ok/\Step P ι m w ι' m' w'/\conc ι' v=some V
structure xY (P:Program) (call:yT):Prop where
 fn:∀(ι:Inj) (m:Mem) (w:World) (k:AV->Mem->R) (f:FuncId) (args:List AV) (Args:List Value),Rel P ι m w->concL ι args=some Args->call (.fn f args) m k=.ok->
  ∃fn,P.funcs[f]? =some fn/\((fn.body.isSome=true/\(callFunc f Args.toArray).run P w=.ok (.enter f Args.toArray) w/\∀n,CallsIn Fence.wide n P f Args.toArray w (Ret P ι m w k))∨
   (fn.body=none/\∃V w',(callFunc f Args.toArray).run P w=.ok (.value V) w'/\Ret P ι m w k (.returned V) w'))
 yield:∀(ι:Inj) (m:Mem) (w:World) (k:AV->Mem->R) (l:Nat) (p:Pl) (args:List AV) (Args:List Value),Rel P ι m w->ι l=some p->concL ι args=some Args->call (.yield l args) m k=.ok->
  ∃fn tmps asg body,(Instr.yield p.blk Args.toArray).run P w=.ok (.round p.blk fn tmps asg body) w/\∀n,RoundIn Fence.wide n P p.blk fn tmps asg body w (Ret P ι m w k)
section
variable {P:Program} {F:Fence} {n:Nat} {o:Oper} {a:Act} {Q:Exit->Act->World->Prop} {ι:Inj} {m:Mem} {w:World} {f:AV->Mem->R} {g:G} {call:yT}
theorem Out.came {s:Sem Value} (h:Out P ι m w f (s.run P w)):Came P F n o a Q ι m w f ((do pure (.value (<- s)):Sem Next).run P w):=by
 obtain⟨V,w',ι',v,m',h1,h2,h3,h4⟩:=h;simp only[rD,h1,rF,rM];exact⟨V,v,ι',m',rfl,h2,h3,h4⟩
theorem yD.came {s:Sem Value} (hr:Rel P ι m w) (h:yD P ι w (fun v=>f v m) (s.run P w)):Came P F n o a Q ι m w f ((do pure (.value (<- s)):Sem Next).run P w):=(h.out hr).came
theorem zEf {s:Sem Unit} {w':World} {m':Mem} (h1:s.run P w=.ok () w') (h2:f .undef m'=.ok) (h3:Step P ι m w ι m' w'):Came P F n o a Q ι m w f ((do s;pure .skip:Sem Next).run P w):=by
 simp only[rD,h1,rF,rM];exact⟨undef,.undef,ι,m',rfl,h2,h3,by simp[AV.undef,conc,concL,undef]⟩
theorem zAE {V:Value} {v:AV} (hr:Rel P ι m w) (h1:conc ι v=some V) (h2:f v m=.ok):Came P F n o a Q ι m w f (.ok (.value V) w):=⟨V,v,ι,m,rfl,h2,.refl hr,h1⟩
theorem zOp {V:Value} {w':World} (h:Ret P ι m w f (.returned V) w'):Came P F n o a Q ι m w f (.ok (.value V) w'):=by
 obtain⟨V',e,v,ι',m',h1,h2,h3⟩:=h;injection e with e;subst e
 exact⟨V,v,ι',m',rfl,h1,h2,h3⟩
theorem zL6 (hF:Wide F) {fid:FuncId} {args:Array Value} (h:∀n,CallsIn Fence.wide n P fid args w (Ret P ι m w f)):Came P F n o a Q ι m w f (.ok (.enter fid args) w):=by
 refine⟨fun hd=>absurd hd (by rcases hF with rfl|⟨l,rfl⟩<;>simp[Fence.wide]),?_⟩;have key:CallsIn F (n - 1) P fid args w (Ret P ι m w f):=by
  rcases hF with rfl|⟨l,rfl⟩
  ·exact h _
  ·exact h _
 refine key.mono fun e w'' ⟨V,he,v,ι',m',h1,h2,h3⟩=>?_
 subst he;exact⟨V,v,ι',m',rfl,h1,h2,h3⟩
theorem zK6 (hF:Wide F) {l:Nat} {fid:FuncId} {tmps:Array Value} {asg body:Code} (h:∀n,RoundIn Fence.wide n P l fid tmps asg body w (Ret P ι m w f)):Came P F n o a Q ι m w f (.ok (.round l fid tmps asg body) w):=by
 refine⟨fun hd=>absurd hd (by rcases hF with rfl|⟨l,rfl⟩<;>simp[Fence.wide]),?_⟩;have key:RoundIn F (n - 1) P l fid tmps asg body w (Ret P ι m w f):=by
  rcases hF with rfl|⟨l,rfl⟩
  ·exact h _
  ·exact h _
 refine key.mono fun e w'' ⟨V,he,v,ι',m',h1,h2,h3⟩=>?_
 subst he;exact⟨V,v,ι',m',rfl,h1,h2,h3⟩
theorem xY.came (hc:xY P call) (hF:Wide F) {fid:FuncId} {args:List AV} {Args:List Value} (hr:Rel P ι m w) (hargs:concL ι args=some Args) (h:call (.fn fid args) m f=.ok):
  Came P F n o a Q ι m w f ((callFunc fid Args.toArray).run P w):=by
 obtain⟨fn,_,⟨_,h1,h2⟩|⟨_,V,w',h1,h2⟩⟩:=hc.fn ι m w f fid args Args hr hargs h
 ·rw[h1];exact zL6 hF h2
 ·rw[h1];exact zOp h2
theorem zKO (hg:GOk P g) {t:TypeId} {name:String} {fid:FuncId} {V:Value} (h:zGG g t name=some fid):(method (P.types.size+Made.depth) t V name).run P w=.ok (fid,V) w:=by
 have h1:1<=Made.depth:=by decide
 obtain⟨k,hk⟩:∃k,P.types.size+Made.depth=k+1:=⟨P.types.size+Made.depth - 1,by omega⟩;rw[hk];unfold zGG at h;split at h<;>first|(cases h;done)|skip
 rename_i i hi;have hinfo:=hg.info hi;split at h<;>first|(cases h;done)|skip
 rename_i mt hm;split at h<;>first|(cases h;done)|skip
 rename_i hpath;have hp:mt.path.toList=[]:=by
  have:=Array.isEmpty_iff.1 hpath;rw[this]
 have hfind:i.methods.find? (fun x=>x.name==name)=some mt:=by simpa using hm
 have hd:∀d,g.desc t=d->d≠.invalid->(underlying t).run P w=.ok d w:=fun d h1 h2=>hg.run_desc h1 h2 w
 split at h<;>first|(cases h;done)|skip
 ·rename_i f' hfn
  split at h<;>first|(cases h;done)|skip
  rename_i e hdesc;injection h with h
  subst h;have hu:=hd _ hdesc (by simp);simp[method,typeInfo,hinfo,hfind,hp,follow,hfn,receiverAt,hu,Place.get]
 ·rename_i f' hfn
  have hnp:∀e,g.desc t≠.pointer e:=fun e he=>by rw[he] at h;cases h
  have hinv:g.desc t≠.invalid:=fun he=>by rw[he] at h;cases h
  have hf':f'=fid:=by
   split at h
   ·cases h
   ·cases h
   ·injection h
  subst hf';have hu:=hd _ rfl hinv;simp[method,typeInfo,hinfo,hfind,hp,follow,hfn,receiverAt,hu,Place.get]
theorem zIp (hc:xY P call) (hF:Wide F) (hr:Rel P ι m w) {fn:Fn} {first cap args:List AV} {A:Value} {ARGS:Array Value} (ha:conc ι (.fn fn first cap)=some A) (hargs:concL ι args=some ARGS.toList)
  (h:zCl fn first cap args (fun t=>call t m f)=.ok):Came P F n o a Q ι m w f ((do let d<-Deferred.ofValue A ARGS;invoke d.target d.args:Sem Next).run P w):=by
 obtain⟨f',a',c',h1,h2,h3,rfl⟩:=zA5 ha;unfold zCl at h;split at h<;>first|(cases h;done)|skip
 ·rename_i i
  rw[q5,q5] at h;simp only[zAB,Option.some.injEq] at h1;subst h1;have:=hc.came (n:=n) (o:=o) (a:=a) (Q:=Q) hF hr (yC h2 (yC hargs h3)) h;have e:(a'++(ARGS.toList++c')).toArray=a'.toArray++ARGS++c'.toArray:=by apply Array.ext';simp
  rw[e] at this
  simpa[Deferred.ofValue,invoke] using this
 ·rename_i l
  simp only[zAB,rB] at h1;obtain⟨p,hp,rfl⟩:=h1;rw[q5] at h;obtain⟨fn,tmps,asg,body,y1,y2⟩:=hc.yield ι m w f l p _ _ hr hp (yC h2 hargs) h;have:=zK6 (n:=n) (o:=o) (a:=a) (Q:=Q) hF y2;rw[<-y1] at this;have e:(a'++ARGS.toList).toArray=a'.toArray++ARGS:=by apply Array.ext';simp
  rw[e] at this
  simpa[Deferred.ofValue,invoke] using this
theorem zKC (hg:GOk P g) (hflat:∀t,g.isFlat t=true->Flat P t) (hr:Rel P ι m w) {b:Builtin} {ats:Array TypeId} {tl:List TypeId} (htl:ats.toList=tl) {args:List AV} {ARGS:Array Value} {ty:TypeId} {cs:Array Bool}
  (hargs:concL ι args=some ARGS.toList) (h:zAg g b tl args m f=.ok):Came P F n o a Q ι m w f ((builtin b ats ty cs ARGS).run P w):=by
 have get:∀ {i:Nat} {v:AV},args[i]? =some v->∃V,conc ι v=some V/\ARGS[i]? =some V:=fun {i v} hv=>by
  obtain⟨V,h1,h2⟩:=vI hargs hv;exact⟨V,h1,by simpa using h2⟩
 have tget:∀ {i:Nat} {t:TypeId},tl[i]? =some t->ats[i]? =some t:=fun {i t} hv=>by rw[<-htl] at hv;simpa using hv
 unfold zAg at h;split at h<;>first|(cases h;done)|skip
 ·split at h<;>first|(cases h;done)|skip
  rename_i t ts x xs;obtain⟨X,hX,a0⟩:=get (i:=0) (v:=x) rfl;exact(zQF (ts:=ats) (args:=ARGS) hg hr hX h (tget (i:=0) rfl) a0 ty).came hr
 ·split at h<;>first|(cases h;done)|skip
  rename_i t u ts s x xs;obtain⟨S,hS,a0⟩:=get (i:=0) (v:=s) rfl;obtain⟨X,hX,a1⟩:=get (i:=1) (v:=x) rfl;have t0:=tget (i:=0) (t:=t) rfl;have t1:=tget (i:=1) (t:=u) rfl;split at h<;>first|(cases h;done)|skip
  ·exact(zFt hg hr t0 t1 (.inl ⟨_,by assumption⟩) hS hX a0 a1 h).came
  ·exact(zFt hg hr t0 t1 (.inr (by assumption)) hS hX a0 a1 h).came
 ·split at h<;>first|(cases h;done)|skip
  rename_i t ts x xs;obtain⟨X,hX,a0⟩:=get (i:=0) (v:=x) rfl;exact(zMv hg hr (tget (i:=0) rfl) hX a0 h).came
 ·exact(zFI (mx:=true) (ts:=ats) (ty:=ty) hargs h).came hr
 ·exact(zFI (mx:=false) (ts:=ats) (ty:=ty) hargs h).came hr
 ·split at h<;>first|(cases h;done)|skip
  rename_i t ts bl key xs;obtain⟨S,hS,a0⟩:=get (i:=0) (v:=.mp bl) rfl;obtain⟨X,hX,a1⟩:=get (i:=1) (v:=key) rfl;split at h<;>first|(cases h;done)|skip
  exact(zLX hg hflat hr (tget (i:=0) rfl) a0 a1 (by assumption) hS hX h).came
theorem zNE (hg:GOk P g) (hflat:∀t,g.isFlat t=true->Flat P t) (hc:xY P call) (hF:Wide F) (hr:Rel P ι m w) {fr:Fr} {mask:Nat} (hf:xI P ι fr mask a.tmps) {c:Call} {args:List AV} {ty:TypeId}
  (hargs:concL ι args=some (c.args.toList.map a.eval)) (h:zCO call g c args fr m f=.ok):Came P F n o a Q ι m w f ((do let d<-resolve a.eval c ty;invoke d.target d.args:Sem Next).run P w):=by
 obtain⟨callee,cargs,ats⟩:=c;have hA:concL ι args=some (cargs.map a.eval).toList:=by simpa using hargs
 cases callee with
 |value x=>
  obtain⟨v,h1,h2⟩:=zCa hr hf (h:ev x fr (fun x=>zGI x args fun t=>call t m f)=.ok);cases v<;>first|(cases h1;done)|skip
  exact zIp hc hF hr h2 hA h1
 |invoke recv name=>
  obtain⟨v,h1,h2⟩:=zCa hr hf (h:ev recv fr (fun r=>zIS g r name args fun t=>call t m f)=.ok);unfold zIS at h1;split at h1<;>first|(cases h1;done)|skip
  obtain⟨fid,h3,h4⟩:=zF h1;obtain⟨V,hV,e⟩:=zAS h2;rename_i t v;have hm:=zKO (w:=w) (V:=V) hg h3;have:=hc.came (n:=n) (o:=o) (a:=a) (Q:=Q) hF hr (show concL ι (v::args)=some (V::(cargs.map a.eval).toList) by simp only[concL,hV,hA];rfl) h4;have e2:(V::(cargs.map a.eval).toList).toArray= #[V]++cargs.map a.eval:=by apply Array.ext';simp
  rw[e2] at this;have e3:((do let d<-resolve a.eval {callee:=.invoke recv name,args:=cargs,argTypes:=ats} ty;invoke d.target d.args:Sem Next).run P w)=(callFunc fid (#[V]++cargs.map a.eval)).run P w:=by
   have e4:(#[Value.iface t V]++cargs.map a.eval).extract 1 (#[Value.iface t V]++cargs.map a.eval).size=cargs.map a.eval:=by
    apply Array.ext';simp;exact List.take_of_length_le (by simp)
   have e5:(#[Value.iface t V]++cargs.map a.eval)[0]? =some (Value.iface t V):=by simp[Array.getElem?_append]
   simp only[resolve,rD,rM,rF,invoke,e,e5,e4,callMethod];simp[hm]
  rw[e3];exact this
 |builtin b=>
  have h1:zAg g b ats.toList args m f=.ok:=h;exact zKC hg hflat hr rfl hA h1
theorem zNR (hg:GOk P g) (hflat:∀t,g.isFlat t=true->Flat P t) (hc:xY P call) (hF:Wide F) (hr:Rel P ι m w) {fr:Fr} {mask:Nat} (hf:xI P ι fr mask a.tmps)
  (h:opK o.op g call fr m f=.ok):Came P F n o a Q ι m w f ((execOp a.eval o).run P w):=by
 have evk:∀ {x:Operand} {k:AV->R},ev x fr k=.ok->∃v,k v=.ok/\conc ι v=some (a.eval x):=fun h=>zCa hr hf h
 cases hop:o.op<;>rw[hop] at h<;>first|(cases h;done)|simp only[execOp,hop]
 case move x=>
  obtain⟨v,h1,h2⟩:=evk (h:ev x fr (fun v=>f v m)=.ok);exact zAE hr h2 h1
 case assign x=>
  obtain⟨v,h1,h2⟩:=evk (h:ev x fr (fun v=>f v m)=.ok);exact zAE hr h2 h1
 case pick c x y=>
  obtain⟨v,h1,h2⟩:=evk (h:ev c fr (fun c=>zBj c fun c=>ev (iteB c x y) fr fun v=>f v m)=.ok);obtain⟨b,rfl,h3⟩:=zFr h1;obtain⟨u,h4,h5⟩:=evk h3;have hb:=xL h2;have:=zAE (F:=F) (n:=n) (o:=o) (a:=a) (Q:=Q) hr h5 h4;rw[hb];cases b<;>exact this
 case alloc e=>
  obtain⟨z,h1,h2⟩:=zF (h:zP 0 (g.zero e) _=.ok);exact(zOZ hg hr h1 h2).came
 case box e x=>
  obtain⟨v,h1,h2⟩:=evk (h:ev x fr _=.ok);exact(zRi hr h2 h1).came
 case build t ps=>exact(zM3 hg hr hf (f:=fun v=>f v m) h).came hr
 case buildSlice t k ps=>exact(zGH hg hr hf h).came
 case load t x=>
  obtain⟨v,h1,h2⟩:=evk (h:ev x fr _=.ok);obtain⟨s,h3,h4⟩:=zF h1;exact(zKG hg hr h3 h2 h4).came hr
 case store t x y=>
  obtain⟨v,h1,h2⟩:=evk (h:ev x fr _=.ok);obtain⟨u,h3,h4⟩:=evk h1;obtain⟨s,h5,h6⟩:=zF h3;obtain⟨w',m',k1,k2,k3⟩:=zNM hg hr h5 h2 h4 h6;exact zEf k1 k2 k3
 case nilCheck x=>
  obtain⟨v,h1,h2⟩:=evk (h:ev x fr (fun v=>zE9 v fun v=>f v m)=.ok);obtain⟨h3,h4⟩:=zIY (P:=P) (w:=w) (o:=o) hop h2 h1;have:=zAE (F:=F) (n:=n) (o:=o) (a:=a) (Q:=Q) hr h2 h3;rw[<-h4] at this
  simpa only[execOp,hop] using this
 case binOp op t x y u=>
  obtain⟨v,h1,h2⟩:=evk (h:ev x fr _=.ok);obtain⟨z,h3,h4⟩:=evk h1;refine(zQD hg hflat hr x y (fun hl=>?_) h2 h4 h3).came hr;unfold zNf at hl;cases hx:zDG x
  ·rw[hx] at hl;exact .inr hl
  ·exact .inl rfl
 case unOp op t x=>
  obtain⟨v,h1,h2⟩:=evk (h:ev x fr _=.ok);exact(zRu h2 h1).came hr
 case convert s d x=>
  obtain⟨v,h1,h2⟩:=evk (h:ev x fr _=.ok);exact(zO3 hg hr h2 h1).came
 case makeInterface t x=>
  obtain⟨v,h1,h2⟩:=evk (h:ev x fr _=.ok);obtain⟨h3,h4⟩:=zB h1;rw[rD,zLa hg h3];exact zAE hr (by simp[conc,h2]) h4
 case makeFunc fn first cap=>
  obtain⟨h0,h⟩:=zB (h:ifB 0 (zFi fn) _=.ok);obtain⟨vs,h1,h2⟩:=zIj hr hf (h:evs first.toList fr _=.ok);obtain⟨us,h3,h4⟩:=zIj hr hf h1;have hfn:zAB ι fn=some fn:=by cases fn<;>first|rfl|cases h0
  refine zAE (V:=.func fn (first.map a.eval) (cap.map a.eval)) hr ?_ h3;have e1:(first.toList.map a.eval).toArray=first.map a.eval:=by apply Array.ext';simp
  have e2:(cap.toList.map a.eval).toArray=cap.map a.eval:=by apply Array.ext';simp
  simp only[conc,hfn,h2,h4,Option.bind_some,Option.map_some,e1,e2]
 case makeMap t r=>exact(zJf hg hr hf h).came
 case makeSlice t l c=>
  obtain⟨v,h1,h2⟩:=evk (h:ev l fr _=.ok);obtain⟨u,h3,h4⟩:=evk h1;exact(zGs hg hr h2 h4 h3).came
 case slice t x lo hi mx=>
  have h':(if Option.isNone mx=true then(ev x fr fun x=>evo lo fr fun lo=>evo hi fr fun hi=>zBh g t x lo hi m f) else(ifB 0 (Option.isNone lo) (ev x fr fun x=>evo hi fr fun h=>evo mx fr fun j=>zP 0 h fun h=>zP 0 j fun j=>zFF g t x h j m f)))=R.ok:=by
   rw[<-zV];exact h
  split at h'<;>rename_i h0
  ·have h1:=h'
   obtain⟨v,h2,h3⟩:=evk h1;obtain⟨l,h4,h5⟩:=zI6 hr hf h2;obtain⟨k,h6,h7⟩:=zI6 hr hf h4;cases mx<;>first|(cases h0;done)|skip
   have o1:zDP ι l (lo.map a.eval):=by
    cases l with
    |none=>simp only at h5;subst h5;rfl
    |some l=>simp only at h5;obtain⟨y,rfl,h8⟩:=h5;exact⟨_,rfl,h8⟩
   have o2:zDP ι k (hi.map a.eval):=by
    cases k with
    |none=>simp only at h7;subst h7;rfl
    |some l=>simp only at h7;obtain⟨y,rfl,h8⟩:=h7;exact⟨_,rfl,h8⟩
   exact(zMa o1 o2 hg hr h3 h6).came
  ·obtain⟨h10,h1⟩:=zB h'
   obtain⟨v,h2,h3⟩:=evk h1;obtain⟨l,h4,h5⟩:=zI6 hr hf h2;obtain⟨k,h6,h7⟩:=zI6 hr hf h4;obtain⟨l',rfl,h8⟩:=zF h6;obtain⟨k',rfl,h9⟩:=zF h8;simp only at h5 h7;obtain⟨y,rfl,h11⟩:=h5;obtain⟨z,rfl,h12⟩:=h7;cases lo<;>first|(cases h10;done)|skip
   exact(zN9 hg hr h3 h11 h12 h9).came
 case fieldAddr t x i=>
  obtain⟨v,h1,h2⟩:=evk (h:ev x fr _=.ok);exact(zHC hg h2 h1).came hr
 case field t x i=>
  obtain⟨v,h1,h2⟩:=evk (h:ev x fr _=.ok);cases v<;>first|(cases h1;done)|skip
  obtain⟨fd,h3,h4⟩:=zF h1;exact(zMY (f:=fun v=>f v m) hg h2 h3 h4).came hr
 case indexAddr t x i=>
  obtain⟨v,h1,h2⟩:=evk (h:ev x fr _=.ok);obtain⟨u,h3,h4⟩:=evk h1;exact(zBR hg h2 h4 h3).came hr
 case index t x i=>
  obtain⟨v,h1,h2⟩:=evk (h:ev x fr _=.ok);obtain⟨u,h3,h4⟩:=evk h1;exact(zMX hg h2 h4 h3).came hr
 case lookup t x i ok=>
  obtain⟨v,h1,h2⟩:=evk (h:ev x fr _=.ok);obtain⟨u,h3,h4⟩:=evk h1;exact(zK9 hg hflat hr h2 h4 h3).came hr
 case mapUpdate t x k v=>
  obtain⟨v1,h1,h2⟩:=evk (h:ev x fr _=.ok);obtain⟨v2,h3,h4⟩:=evk h1;obtain⟨v3,h5,h6⟩:=evk h3;obtain⟨w',m',k1,k2,k3⟩:=zGl hg hflat hr h2 h4 h6 h5;exact zEf k1 k2 k3
 case insert t x k v=>
  obtain⟨v1,h1,h2⟩:=evk (h:ev x fr _=.ok);obtain⟨v2,h3,h4⟩:=evk h1;obtain⟨v3,h5,h6⟩:=evk h3;obtain⟨w',m',k1,k2,k3⟩:=zGl hg hflat hr h2 h4 h6 h5;exact zEf k1 k2 k3
 case range t x=>
  obtain⟨v,h1,h2⟩:=evk (h:ev x fr _=.ok);obtain⟨h3,h4⟩:=zB h1;exact(zMt hg hr h3 h2 h4).came
 case next it s=>
  obtain⟨v,h1,h2⟩:=evk (h:ev it fr _=.ok);exact(zN3 hr h2 h1).came
 case entry it=>
  obtain⟨v,h1,h2⟩:=evk (h:ev it fr _=.ok);exact(zM1 hr h2 h1).came
 case typeAssert x xt t ok=>
  obtain⟨v,h1,h2⟩:=evk (h:ev x fr _=.ok);exact(zLE (f:=fun v=>f v m) hg h2 h1).came hr
 case extract x i=>
  obtain⟨v,h1,h2⟩:=evk (h:ev x fr _=.ok);cases v<;>first|(cases h1;done)|skip
  exact(zKl (f:=fun v=>f v m) h2 h1).came hr
 case call c=>
  obtain⟨vs,h1,h2⟩:=zIj hr hf (h:evs c.args.toList fr _=.ok);exact zNE hg hflat hc hF hr hf h2 h1
end
theorem Fr.setK_eq {fr:Fr} {d:Nat} {v:AV} {f:Fr->R} (h:fr.setK d v f=.ok):d<fr.n/\f ⟨.cons d v fr.log,fr.t,fr.n,fr.ng⟩=.ok:=by
 obtain⟨log,t,n,ng⟩:=fr;obtain⟨h1,h2⟩:=zB h;exact⟨rK h1,h2⟩
theorem xI.set {P:Program} {ι:Inj} {fr:Fr} {mask:Nat} {tmps:Array Value} (hf:xI P ι fr mask tmps) {d:Nat} {v:AV} {V:Value} (hd:d<fr.n) (hv:conc ι v=some V):
  xI P ι ⟨.cons d v fr.log,fr.t,fr.n,fr.ng⟩ mask (tmps.setIfInBounds d V):=by
 refine⟨by simpa using hf.size,hf.ng,fun k x hx=>hf.masked k x hx,fun k x hx=>?_⟩;simp only[Fr.find,Log.find] at hx;by_cases e:d=k
 ·subst e
  rw[if_pos rfl] at hx;simp at hx;subst hx;exact⟨V,hv,by simp[hf.size,hd]⟩
 ·rw[if_neg e] at hx
  obtain⟨W,h1,h2⟩:=hf.val k x hx;exact⟨W,h1,by rw[rA e];exact h2⟩
theorem xI.put {P:Program} {ι:Inj} {fr:Fr} {mask:Nat} {a:Act} (hf:xI P ι fr mask a.tmps) {dst:Option Tmp} {v:AV} {V:Value} {f:Fr->R} (hv:conc ι v=some V) (h:pZ fr dst v f=.ok):
  ∃fr',f fr'=.ok/\xI P ι fr' mask (a.put dst V).tmps:=by
 cases dst with
 |none=>exact⟨fr,h,hf⟩
 |some d=>
  obtain⟨h1,h2⟩:=Fr.setK_eq (h:fr.setK d v f=.ok);exact⟨_,h2,hf.set h1 hv⟩
theorem xI.less {P:Program} {ι:Inj} {fr fr':Fr} {mask:Nat} {tmps:Array Value} (hf:xI P ι fr mask tmps) (hl:fr'.less fr) (hm:fr'.masked mask):xI P ι fr' mask tmps:=
 ⟨by rw[hl.n];exact hf.size,by rw[hl.ng];exact hf.ng,hm,fun k x hx=>hf.val k x (hl.find k x hx)⟩
theorem put_defers (a:Act) (dst:Option Tmp) (V:Value):(a.put dst V).defers=a.defers:=by cases dst<;>rfl
def zAQ (N:Nat) (ι:Inj) (m:Mem) (w:World):List Deferred->Prop
 |[]=>True
 |d::ds=>(∃r,d= {target:=.collected r,args:= #[]}/\N<=r/\w.heap[r]? =some (.deferred (some []))/\¬occ ι m r/\∀d'∈ds,d'.target≠.collected r)/\zAQ N ι m w ds
theorem zPR {ι:Inj} {m:Mem} {k:Nat} (h:wr ι m k):occ ι m k:=let⟨b,x,p,h1,_,h2,h3⟩:=h;⟨b,x,p,h1,h2,h3⟩
theorem zA2 {w:World} {r:Nat} {o:Obj} (h:w.heap[r]? =some o):r<w.heap.size:=by
 rcases rI r w.heap.size with h'|h'
 ·exact h'
 ·rw[rE h'] at h;cases h
theorem zAQ.step {P:Program} {N:Nat} {ι ι':Inj} {m m':Mem} {w w':World} (hs:Step P ι m w ι' m' w'):∀ {ds:List Deferred},zAQ N ι m w ds->zAQ N ι' m' w' ds
 |[],_=>trivial
 |_::_,⟨⟨r,h1,h2,h3,h4,h5⟩,h6⟩=>⟨⟨r,h1,h2,by rw[hs.old r (zA2 h3) fun hw=>h4 (zPR hw)];exact h3,fun ho=>h4 (hs.occs r (zA2 h3) ho),h5⟩,h6.step hs⟩
structure St (P:Program) (mask:Nat) (ι0:Inj) (m0:Mem) (w0:World) (ι:Inj) (fr:Fr) (m:Mem) (a:Act) (w:World):Prop where
 step:Step P ι0 m0 w0 ι m w
 fr:xI P ι fr mask a.tmps
 defs:zAQ w0.heap.size ι m w a.defers
def boolOf (V:Value):Option Bool:=match V with| .bool b=>some b|_=>none
def AV.boolOf (c:AV):Option Bool:=match c with| .bool b=>some b|_=>none
theorem zJ4 {ι:Inj} {c:AV} {V:Value} (h:conc ι c=some V):Go.AM.boolOf V=c.boolOf:=by
 cases c
 case bool=>rw[xL h];rfl
 case int=>rw[z7 h];rfl
 case str=>rw[yR h];rfl
 case ptr=>obtain⟨_,_,rfl⟩:=yK h;rfl
 case nilp=>rw[zAd h];rfl
 case sl=>obtain⟨_,_,rfl⟩:=xU h;rfl
 case nils=>rw[yB h];rfl
 case mp=>obtain⟨_,_,rfl⟩:=zAK h;rfl
 case nilm=>rw[vA h];rfl
 case fn=>obtain⟨_,_,_,_,_,_,rfl⟩:=zA5 h;rfl
 case nilf=>rw[pI h];rfl
 case ifc=>obtain⟨_,_,rfl⟩:=zAS h;rfl
 case nili=>rw[pF h];rfl
 case agg=>obtain⟨_,_,rfl⟩:=vD h;rfl
 case tup=>obtain⟨_,_,rfl⟩:=zC1 h;rfl
 case dead=>obtain⟨_,_,_,rfl⟩:=vG h;rfl
theorem zK0 {ops:Array Oper} {tmps:Array Value} {j d:Nat} {V:Value} (hd:xE ops j=some d) (ht:tmps[d]? =some V):yielded ops tmps j=Go.AM.boolOf V:=by
 unfold yielded;unfold xE at hd;rw[hd];simp only[Option.bind_some,ht];cases V<;>rfl
theorem zJT {F:Fence} {n:Nat} {P:Program} {o:Oper} {a:Act} {Q:Exit->Act->World->Prop} {K K':Act->World->Prop} (h:∀a w,K a w->K' a w) {r:Result Next} (hh:o.uponIn F n P a K Q r):o.uponIn F n P a K' Q r:=by
 cases r with
 |ok x w'=>
  cases x<;>simp only[Oper.uponIn] at hh ⊢ <;>
   first
    |exact h _ _ hh
    |exact⟨hh.1,CallsIn.mono hh.2 (fun e w'' he=>by cases e<;>first|exact h _ _ he|exact he)⟩
    |exact⟨hh.1,RowsIn.mono hh.2 (fun _ _ he=>h _ _ he)⟩
    |exact⟨hh.1,RoundIn.mono hh.2 (fun e w'' he=>by cases e<;>first|exact h _ _ he|exact he)⟩
 |halt x w'=>cases x<;>simp only[Oper.uponIn] at hh ⊢ <;>exact hh
section
variable {P:Program} {F:Fence} {n:Nat} {Q:Exit->Act->World->Prop} {g:G} {call:yT} {mask:Nat} {ι0:Inj} {m0:Mem} {w0:World}
theorem zFL {ι:Inj} {want:Bool} {c:AV} {V:Value} (h:conc ι c=some V) {ops:Array Oper} {tmps:Array Value} {j d:Nat} (hd:xE ops j=some d) (ht:tmps[d]? =some V):
  (yielded ops tmps j==some want)=pK want c:=by
 rw[zK0 hd ht,zJ4 h];cases c
 case bool b=>cases b<;>cases want<;>rfl
 all_goals rfl
theorem zOM (hg:GOk P g) (hflat:∀t,g.isFlat t=true->Flat P t) (hc:xY P call) (hF:Wide F) {ops:Array Oper} {i:Nat} {o:Oper} (hi:ops[i]? =some o) {ι:Inj} {fr:Fr} {m:Mem} {a:Act} {w:World} {f:Fr->Mem->R}
  (hs:St P mask ι0 m0 w0 ι fr m a w) (h:zKZ g call ops o fr m f=.ok):wpOpIn F n P ops Q i (fun a' w'=>∃ι' fr' m',f fr' m'=.ok/\St P mask ι0 m0 w0 ι' fr' m' a' w') a w:=by
 have hab:∀fid,o.about P w a.eval=some fid->F.fn fid:=fun _ _=>hF.fn _
 have run:opK o.op g call fr m (fun v m=>pZ fr o.dst v fun fr=>f fr m)=.ok->o.wpIn F n P a w (fun a' w'=>∃ι' fr' m',f fr' m'=.ok/\St P mask ι0 m0 w0 ι' fr' m' a' w') Q:=fun h0=>by
  have hsem:o.semAt F.round a.eval=execOp a.eval o:=Oper.semAt_eq _ _ _ fun c hd=>by rw[hd] at h0;cases h0
  refine⟨hab,?_⟩;rw[hsem];have key:=zNR (n:=n) (Q:=Q) hg hflat hc hF hs.step.rel hs.fr h0;refine zJT (fun a' w' ⟨V,v,ι',m',e,h1,h2,h3⟩=>?_) key;subst e;obtain⟨fr',h4,h5⟩:=xI.put (hs.fr.mono h2.le) h3 h1;exact⟨ι',fr',m',h4,hs.step.trans h2,h5,by rw[put_defers];exact hs.defs.step h2⟩
 have skip:pZ fr o.dst .undef (fun fr=>f fr m)=.ok->∃ι' fr' m',f fr' m'=.ok/\St P mask ι0 m0 w0 ι' fr' m' (a.put o.dst undef) w:=fun h0=>by
  obtain⟨fr',h4,h5⟩:=xI.put hs.fr (V:=undef) (by simp[AV.undef,conc,concL,undef]) h0;exact⟨ι,fr',m,h4,hs.step,h5,by rw[put_defers];exact hs.defs⟩
 unfold wpOpIn;rw[hi];cases hgd:o.guard with
 |none=>
  have hw:Region.wanted o (yielded ops a.tmps)=true:=by simp[Region.wanted,hgd]
  simp only[hw,if_true];unfold zKZ at h;rw[hgd] at h;exact run h
 |some jw=>
  obtain⟨j,want⟩:=jw;unfold zKZ at h;rw[hgd] at h;obtain⟨d,h1,h2⟩:=zF (h:zP 0 (xE ops j) _=.ok);obtain⟨c,h3,h4⟩:=Fr.getK_ok h2;obtain⟨V,h5,h6⟩:=hs.fr.val d c h3;have hw:Region.wanted o (yielded ops a.tmps)=pK want c:=by
   simp only[Region.wanted,hgd];exact zFL h5 h1 h6
  rw[zV] at h4;simp only[hw];split at h4<;>rename_i hcw
  ·rw[if_pos hcw];exact run h4
  ·rw[if_neg hcw]
   exact⟨hab,skip h4⟩
theorem zMC (hg:GOk P g) (hflat:∀t,g.isFlat t=true->Flat P t) (hc:xY P call) (hF:Wide F) {ops:Array Oper}:∀(l:List Oper) (i:Nat) {ι:Inj} {fr:Fr} {m:Mem} {a:Act} {w:World} {f:Fr->Mem->R} {K:Act->World->Prop},
  (∀j,l[j]? =ops[i+j]?)->(∀a w ι fr m,f fr m=.ok->St P mask ι0 m0 w0 ι fr m a w->K a w)->St P mask ι0 m0 w0 ι fr m a w->zO6 g call ops l fr m f=.ok->
  ∀ {rest:List Nat},(∀a w,K a w->wpOpsIn F n P ops Q rest a w)->wpOpsIn F n P ops Q (List.range' i l.length++rest) a w
 |[],i,ι,fr,m,a,w,f,K,_,hK,hs,h,rest,hrest=>by simpa using hrest _ _ (hK a w ι fr m h hs)
 |o::l,i,ι,fr,m,a,w,f,K,hl,hK,hs,h,rest,hrest=>by
  have h0:ops[i]? =some o:=by simpa using(hl 0).symm
  have h':zKZ g call ops o fr m (fun fr m=>zO6 g call ops l fr m f)=.ok:=h;simp only[List.length_cons,List.range'_succ,List.cons_append];rw[wpOpsIn_cons];refine wpOpIn_mono (fun a' w' ⟨ι',fr',m',h1,h2⟩=>?_) (zOM (Q:=Q) hg hflat hc hF h0 hs h');exact zMC hg hflat hc hF l (i+1) (fun j=>by have:=hl (j+1);simpa[Nat.add_assoc,Nat.add_comm 1 j] using this) hK h2 h1 hrest
theorem zNG (hg:GOk P g) (hflat:∀t,g.isFlat t=true->Flat P t) (hc:xY P call) (hF:Wide F) {id:Nat} {ops:Array Oper} {ι:Inj} {fr:Fr} {m:Mem} {a:Act} {w:World} {f:Fr->Mem->R}
  (hK:∀a w ι fr m,f fr m=.ok->St P mask ι0 m0 w0 ι fr m a w->Q .normal a w) (hs:St P mask ι0 m0 w0 ι fr m a w) (h:zO6 g call ops ops.toList fr m f=.ok):(Code.region id ops false).wpIn F n P Q a w:=by
 refine wpIn_region ?_;have:=zMC (n:=n) (Q:=Q) hg hflat hc hF (K:=fun a w=>Q .normal a w) ops.toList 0 (fun j=>by simp) hK hs h (rest:=[]) fun a w h=>h
 simpa[List.range_eq_range'] using this
theorem zLY {c:Code} {a:Act} {w:World} (h:c.wpIn F n P (fun e a w=>match e with| .goto _=>False|e=>Q e a w) a w):(Code.scope c).wpIn F n P Q a w:=by
 intro b k cs hro hb hr;have h0:(lone (b.atR a (.code (.scope c)::k)) cs w).fenced P F:=fenced_calm hb hr rfl;have s0:step P (lone (b.atR a (.code (.scope c)::k)) cs w)=.next (lone (b.atR a (.code c::.inScope c::k)) cs w):=step_lone_go (by simp[stepG,stepG.exec,Frame.atR]);have s1:∀a w,step P (lone (b.atR a (.inScope c::k)) cs w)=.next (lone (b.atR a k) cs w):=fun a w=>step_lone_go (by simp[stepG,stepG.exec,Frame.atR])
 obtain⟨e,a₁,w₁,hq,harr⟩:=h b (.inScope c::k) cs hro hb hr;cases e with
 |normal=>exact⟨.normal,a₁,w₁,hq,.head h0 s0 (StepsIn.trans harr (.one (fenced_calm (fr:=b.atR a₁ (.inScope c::k)) hb hr rfl) (s1 a₁ w₁)))⟩
 |exit id=>exact⟨.exit id,a₁,w₁,hq,fun k' hk=>.head h0 s0 (harr.1 k' (by simp[exitTo,hk])),fun hn hk=>by
   obtain⟨k2,h2,h3⟩:=harr.2 hn (by simp[exitTo,hk]);exact⟨k2,h2,.head h0 s0 h3⟩⟩
 |goto l=>exact hq.elim
 |ret=>exact⟨_,a₁,w₁,hq,.of_steps (.one h0 s0) harr⟩
 |panic ch=>exact⟨_,a₁,w₁,hq,.of_steps (.one h0 s0) harr⟩
 |outgrown=>exact⟨_,a₁,w₁,hq,.of_steps (b:=b) (k:=k) (cs:=cs) (e:=.outgrown) (.one h0 s0) harr⟩
def zBJ:Exit->X->Prop
 | .normal,.n=>True
 | .exit id,.x j=>id=j
 | .ret,.r=>True
 |_,_=>False
def Post (P:Program) (mask:Nat) (ι0:Inj) (m0:Mem) (w0:World) (k:KX) (e:Exit) (a:Act) (w:World):Prop:=∃x ι fr m,zBJ e x/\k x fr m=.ok/\St P mask ι0 m0 w0 ι fr m a w
def zFe (P:Program) (F:Fence) (mask:Nat) (me:FuncId) (range:zI9):Prop:=
 ∀(n:Nat) (Q:Exit->Act->World->Prop) (ι0:Inj) (m0:Mem) (w0:World) (x:Operand) (ps:Array Tmp) (asg body:Code) (ι:Inj) (fr:Fr) (m:Mem) (a:Act) (w:World) (v:AV) (κ:Option Code->Mem->R),
  St P mask ι0 m0 w0 ι fr m a w->yU P me asg->yU P me body->conc ι v=some (a.eval x)->range v m fr ps asg body κ=.ok->
  (∀j m' ι' a' w',κ j m'=.ok->St P mask ι0 m0 w0 ι' fr m' a' w'->match j with|none=>Q .normal a' w'|some c=>c.wpIn F n P Q a' w')->(Code.rangeFunc x ps asg body).wpIn F n P Q a w
def zFn (P:Program) (F:Fence) (mask:Nat) (me:FuncId) (draw:zDI):Prop:=
 ∀(n:Nat) (Q:Exit->Act->World->Prop) (ι0:Inj) (m0:Mem) (w0:World) (id:Nat) (ops:Array Oper) (ι:Inj) (fr:Fr) (m:Mem) (a:Act) (w:World) (f:Fr->Mem->R),
  St P mask ι0 m0 w0 ι fr m a w->yU P me (.region id ops true)->draw id ops fr m f=.ok->(∀a w ι fr m,f fr m=.ok->St P mask ι0 m0 w0 ι fr m a w->Q .normal a w)->(Code.region id ops true).wpIn F n P Q a w
structure zON (P:Program) (F:Fence) (me:FuncId) (ax:Ax):Prop where
 g:GOk P ax.g
 flat:∀t,ax.g.isFlat t=true->Flat P t
 call:xY P ax.call
 wide:Wide F
 range:zFe P F ax.mask me ax.range
 draw:zFn P F ax.mask me ax.draw
theorem zLh {c:Code} {ax:Ax} (ih:∀ {ι:Inj} {fr:Fr} {m:Mem} {a:Act} {w:World} {k:KX} {Q:Exit->Act->World->Prop},St P ax.mask ι0 m0 w0 ι fr m a w->exK c ax fr m k=.ok->
   (∀e a w,Post P ax.mask ι0 m0 w0 k e a w->Q e a w)->c.wpIn F n P Q a w):∀(fuel:Nat) {ι:Inj} {fr:Fr} {m:Mem} {a:Act} {w:World} {k:KX} {Q:Exit->Act->World->Prop},St P ax.mask ι0 m0 w0 ι fr m a w->
  zLj (fun ax fr m k=>exK c ax fr m k) fuel ax fr m k=.ok->(∀e a w,Post P ax.mask ι0 m0 w0 k e a w->Q e a w)->Code.roundsIn F n P c Q fuel a w
 |0,ι,fr,m,a,w,k,Q,hs,h,hQ=>by cases h
 |fuel+1,ι,fr,m,a,w,k,Q,hs,h,hQ=>by
  rw[roundsIn_succ];have h':exK c ax fr m (fun e fr m=>zQq e (zLj (fun ax fr m k=>exK c ax fr m k) fuel) ax fr m k)=.ok:=h;refine ih hs h' fun e a w ⟨x,ι',fr',m',hx,hk,hs'⟩=>?_
  cases e<;>cases x<;>simp only[zBJ] at hx<;>try exact hx.elim
  ·exact zLh ih fuel hs' hk hQ
  ·exact hQ _ _ _ ⟨.x _,ι',fr',m',hx,hk,hs'⟩
  ·exact hQ _ _ _ ⟨.r,ι',fr',m',trivial,hk,hs'⟩
theorem zAW:∀(c:Code) {me:FuncId} {ax:Ax} (_:zON P F me ax) (_:yU P me c) {ι:Inj} {fr:Fr} {m:Mem} {a:Act} {w:World} {k:KX} {Q:Exit->Act->World->Prop},St P ax.mask ι0 m0 w0 ι fr m a w->exK c ax fr m k=.ok->
  (∀e a w,Post P ax.mask ι0 m0 w0 k e a w->Q e a w)->c.wpIn F n P Q a w
 | .skip,me,ax,hax,hD,ι,fr,m,a,w,k,Q,hs,h,hQ=>wpIn_skip (hQ _ _ _ ⟨.n,ι,fr,m,trivial,h,hs⟩)
 | .region id ops d,me,ax,hax,hD,ι,fr,m,a,w,k,Q,hs,h,hQ=>by
  have fin:∀(a:Act) (w:World) (ι:Inj) (fr:Fr) (m:Mem),fr.flushK ax.mask (fun fr=>k .n fr m)=.ok->St P ax.mask ι0 m0 w0 ι fr m a w->Q .normal a w:=fun a w ι fr m h hs=>by
   obtain⟨fr',h1,h2,h3⟩:=Fr.flushK_ok hs.fr.masked h;exact hQ _ _ _ ⟨.n,ι,fr',m,trivial,h1,hs.step,hs.fr.less h2 h3,hs.defs⟩
  cases d with
  |false=>exact zNG hax.g hax.flat hax.call hax.wide fin hs (h:zO6 ax.g ax.call ops ops.toList fr m _=.ok)
  |true=>exact hax.draw n Q ι0 m0 w0 id ops ι fr m a w _ hs hD (h:ax.draw id ops fr m _=.ok) fin
 | .seq x y,me,ax,hax,hD,ι,fr,m,a,w,k,Q,hs,h,hQ=>by
  have h':exK x ax fr m (fun e fr m=>zQy e fr m (fun a fr m k=>exK y a fr m k) ax k)=.ok:=h;refine wpIn_seq (zAW x hax (yU.left hD rfl).1 hs h' fun e a w ⟨x',ι',fr',m',hx,hk,hs'⟩=>?_);cases e<;>cases x'<;>simp only[zBJ] at hx<;>try exact hx.elim
  ·exact zAW y hax (yU.left hD rfl).2 hs' hk hQ
  ·exact hQ _ _ _ ⟨.x _,ι',fr',m',hx,hk,hs'⟩
  ·exact hQ _ _ _ ⟨.r,ι',fr',m',trivial,hk,hs'⟩
 | .cond x y z,me,ax,hax,hD,ι,fr,m,a,w,k,Q,hs,h,hQ=>by
  obtain⟨v,h1,h2⟩:=zCa hs.step.rel hs.fr (h:ev x fr (fun v=>zBj v fun b=>Bool.rec (motive:=fun _=>R) (exK z ax fr m k) (exK y ax fr m k) b)=.ok);obtain⟨b,rfl,h3⟩:=zFr h1;refine wpIn_cond (t:=b) (xL h2) ?_;cases b with
  |true=>exact zAW y hax (yU.left hD rfl).1 hs h3 hQ
  |false=>exact zAW z hax (yU.left hD rfl).2 hs h3 hQ
 | .block id c,me,ax,hax,hD,ι,fr,m,a,w,k,Q,hs,h,hQ=>by
  have h':exK c ax fr m (fun e fr m=>zNi e id fr m k)=.ok:=h;refine wpIn_block (zAW c hax hD hs h' fun e a w ⟨x',ι',fr',m',hx,hk,hs'⟩=>?_);cases e<;>cases x'<;>simp only[zBJ] at hx<;>try exact hx.elim
  ·exact hQ _ _ _ ⟨.n,ι',fr',m',trivial,hk,hs'⟩
  ·rename_i j j' _hp
   subst hx;have hk':iteB (Nat.beq j id) (k .n fr' m') (k (.x j) fr' m')=.ok:=hk;rw[zV] at hk';simp only[Exit.inBlock];by_cases e:j=id
   ·rw[if_pos (by simp[e])] at hk'
    rw[if_pos e];exact hQ _ _ _ ⟨.n,ι',fr',m',trivial,hk',hs'⟩
   ·have hb:Nat.beq j id=false:=by cases h:Nat.beq j id with|false=>rfl|true=>exact absurd (rL h) e
    rw[hb] at hk';rw[if_neg e];exact hQ _ _ _ ⟨.x _,ι',fr',m',rfl,hk',hs'⟩
  ·exact hQ _ _ _ ⟨.r,ι',fr',m',trivial,hk,hs'⟩
 | .loop c,me,ax,hax,hD,ι,fr,m,a,w,k,Q,hs,h,hQ=>wpIn_loop_rounds ax.fuel (zLh (fun hs h hQ=>zAW c hax hD hs h hQ) ax.fuel hs (h:zLj (fun ax fr m k=>exK c ax fr m k) ax.fuel ax fr m k=.ok) hQ)
 | .rangeFunc x ps asg body,me,ax,hax,hD,ι,fr,m,a,w,k,Q,hs,h,hQ=>by
  obtain⟨v,h1,h2⟩:=zCa hs.step.rel hs.fr (h:ev x fr (fun v=>ax.range v m fr ps asg body fun j m=>zQd j fr m k)=.ok);refine hax.range n Q ι0 m0 w0 x ps asg body ι fr m a w v _ hs (yU.left hD rfl).1 (yU.left hD rfl).2 h2 h1 fun j m' ι' a' w' hj hs'=>?_
  cases j with
  |none=>exact hQ _ _ _ ⟨.n,ι',fr,m',trivial,hj,hs'⟩
  |some c=>
   cases c<;>first|(cases hj;done)|skip
   ·exact wpIn_exit (hQ _ _ _ ⟨.x _,ι',fr,m',rfl,hj,hs'⟩)
   ·exact wpIn_ret (hQ _ _ _ ⟨.r,ι',fr,m',trivial,hj,hs'⟩)
 | .exit id,me,ax,hax,hD,ι,fr,m,a,w,k,Q,hs,h,hQ=>wpIn_exit (hQ _ _ _ ⟨.x id,ι,fr,m,rfl,h,hs⟩)
 | .scope c,me,ax,hax,hD,ι,fr,m,a,w,k,Q,hs,h,hQ=>zLY (zAW c hax hD hs (h:exK c ax fr m k=.ok) fun e a w ⟨x,ι',fr',m',hx,hk,hs'⟩=>by
   cases e<;>cases x<;>simp only[zBJ] at hx<;>try exact hx.elim
   ·exact hQ _ _ _ ⟨.n,ι',fr',m',trivial,hk,hs'⟩
   ·exact hQ _ _ _ ⟨.x _,ι',fr',m',hx,hk,hs'⟩
   ·exact hQ _ _ _ ⟨.r,ι',fr',m',trivial,hk,hs'⟩)
 | .label _,me,ax,hax,hD,ι,fr,m,a,w,k,Q,hs,h,hQ=>wpIn_label (hQ _ _ _ ⟨.n,ι,fr,m,trivial,h,hs⟩)
 | .goto _,me,ax,hax,hD,ι,fr,m,a,w,k,Q,hs,h,hQ=>by cases h
 | .ret,me,ax,hax,hD,ι,fr,m,a,w,k,Q,hs,h,hQ=>wpIn_ret (hQ _ _ _ ⟨.r,ι,fr,m,trivial,h,hs⟩)
 | .refuse _,me,ax,hax,hD,ι,fr,m,a,w,k,Q,hs,h,hQ=>by cases h
end
