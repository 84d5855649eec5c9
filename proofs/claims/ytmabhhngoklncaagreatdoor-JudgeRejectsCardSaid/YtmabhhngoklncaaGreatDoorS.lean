/- Calls: a function's body, a round of a range over a function, the rang -/
import Derived.Test.YtmabhhngoklncaaGreatDoorE
import Derived.RangeFuncRecord
set_option maxRecDepth 100000
set_option maxHeartbeats 40000000
set_option linter.all false
open Nat renaming eq_of_beq_eq_true->rA,le_of_ble_eq_true->rD,lt_or_ge->rO,le_refl->rP
open Bool renaming and_eq_true->rB
open Array renaming getElem?_push->rC,getElem?_setIfInBounds_ne->rF,getD_eq_getD_getElem?->rK,getElem?_eq_none->rM,length_toList->rN
open List renaming mem_cons_of_mem->rE,replicate->rH,mem_cons_self->rL
open Go.Result renaming andThen_ok->rG
open Go.Sem renaming run_pure->rI,run_bind->rJ
open Go
namespace Go.AM
variable {ops:Array Oper}{o:Oper}
section
variable {P:Program} {ι:Inj} {m:Mem} {w:World} {g:G} {mask:Nat}
def zEe (tmps:Array Value) (r:ResultVar):Sem Value:=match r with
 | .tmp t=>pure (tmps.getD t undef)
 | .cell a t=>do loadVar t (<- asAddr (tmps.getD a undef))
theorem zK4 (fn:Func) (tmps:Array Value):results fn tmps=(do let vs<-fn.results.mapM (zEe tmps);pure (if h:vs.size=1 then vs[0] else .tuple vs)):=rfl
theorem zLK (hg:GOk P g) (hr:Rel P ι m w) {fr:Fr} {tmps:Array Value} (hf:xI P ι fr mask tmps) {r:ResultVar} {k:AV->R} (h:zD7 g fr m r k=.ok):∃v V,k v=.ok/\conc ι v=some V/\(zEe tmps r).run P w=.ok V w:=by
 cases r with
 |tmp t=>
  obtain⟨v,h1,h2⟩:=Fr.getK_ok (h:fr.getK t k=.ok);obtain⟨V,h3,h4⟩:=hf.val t v h1;exact⟨v,V,h2,h3,by simp[zEe,h4]⟩
 |cell a t=>
  obtain⟨v,h1,h2⟩:=Fr.getK_ok (h:fr.getK a _=.ok);obtain⟨V,h3,h4⟩:=hf.val a v h1;obtain⟨s,h5,h6⟩:=zF h2;obtain⟨u,U,k1,k2,k3⟩:=zKG hg hr h5 h3 h6;refine⟨u,U,k1,k2,?_⟩;have e:tmps.getD a undef=V:=by simp[h4]
  simp only[zEe,e];cases v<;>first|(cases h6;done)|skip
  obtain⟨p,hp,rfl⟩:=yK h3
  simpa[Instr.loadAt,asAddr,Instr.sureAddr] using k3
theorem zFK (hg:GOk P g) (hr:Rel P ι m w) {fr:Fr} {tmps:Array Value} (hf:xI P ι fr mask tmps):∀ {rs:List ResultVar} {f:List AV->R},zHK (zD7 g fr m) rs f=.ok->
  ∃l L,f l=.ok/\concL ι l=some L/\(rs.mapM (zEe tmps)).run P w=.ok L w
 |[],f,h=>⟨[],[],h,rfl,by simp⟩
 |r::rs,f,h=>by
  obtain⟨v,V,h1,h2,h3⟩:=zLK hg hr hf (h:zD7 g fr m r (fun b=>zHK (zD7 g fr m) rs fun l=>f (b::l))=.ok);obtain⟨l,L,h4,h5,h6⟩:=zFK hg hr hf h1;refine⟨v::l,V::L,h4,by simp[concL,h2,h5],?_⟩;rw[List.mapM_cons];simp only[rJ,h3,rG,h6,rI]
theorem zMG (hg:GOk P g) (hr:Rel P ι m w) {fr:Fr} {tmps:Array Value} (hf:xI P ι fr mask tmps) {fn:Func} {f:AV->R} (h:zIy g fn.results.toList fr m f=.ok):
  yD P ι w f ((results fn tmps).run P w):=by
 obtain⟨l,L,h1,h2,h3⟩:=zFK hg hr hf h;have hl:=zG h2;have hm:(fn.results.mapM (zEe tmps)).run P w=.ok L.toArray w:=by
  rw[Array.mapM_eq_mapM_toList];simp only[Sem.run_map,h3];rfl
 rw[zK4,rJ,hm];simp only[rG,rI];have many:l.length≠1->f (.tup l)=.ok->yD P ι w f (.ok (if h:L.toArray.size=1 then L.toArray[0] else .tuple L.toArray) w):=fun hne h1=>by
  refine⟨.tup l,.tuple L.toArray,h1,by simp[conc,h2],?_⟩;rw[dif_neg (by simp;omega)]
 rcases l with _|⟨v,_|⟨u,l⟩⟩
 ·exact many (by simp) h1
 ·simp only[concL,Option.bind_eq_some_iff,Option.map_eq_some_iff] at h2
  obtain⟨V,h4,_,e,rfl⟩:=h2;injection e with e;subst e
  exact⟨v,V,h1,h4,by simp⟩
 ·exact many (by simp) h1
theorem zJU:∀ {args:List AV} {n:Nat} {l:Log} {f:Log->R},zLd args n l f=.ok->∃log,f log=.ok/\∀k x,log.find k=some x->(n<=k/\args[k - n]? =some x)∨l.find k=some x
 |[],n,l,f,h=>⟨l,h,fun _ _ h=>.inr h⟩
 |v::args,n,l,f,h=>by
  have h':zS (Nat.succ n) (fun n'=>zLd args n' (.cons n v l) f)=.ok:=h;rw[zN] at h';obtain⟨log,h1,h2⟩:=zJU h';refine⟨log,h1,fun k x hx=>?_⟩;rcases h2 k x hx with⟨h3,h4⟩|h3
  ·left
   have e:k - n=(k - (n+1))+1:=by omega
   exact⟨by omega,by rw[e];simpa using h4⟩
  ·simp only[Log.find] at h3
   split at h3
   ·rename_i e
    subst e;injection h3 with h3;subst h3
    left;simp
   ·exact .inr h3
theorem zPn (hn:g.nglob<=P.globals.size) {args:List AV} {Args:List Value} {nt:Nat} (hargs:concL ι args=some Args) (hle:args.length<=nt) {log:Log} (hlog:∀k x,log.find k=some x->(0<=k/\args[k - 0]? =some x)∨Log.nil.find k=some x):
  xI P ι ⟨log,.nil 8,nt,g.nglob⟩ mask (Args.toArray++Array.replicate (nt - Args.toArray.size) undef):=by
 have hl:=zG hargs;refine⟨by simp;omega,hn,fun k x hx=>by simp[T.find] at hx,fun k x hx=>?_⟩;simp only[Fr.find,T.find,Option.or_none] at hx;rcases hlog k x hx with⟨_,h2⟩|h2
 ·obtain⟨V,h3,h4⟩:=vI hargs (by simpa using h2)
  refine⟨V,h3,?_⟩;have hlt:k<Args.length:=by
   rcases rO k Args.length with h|h
   ·exact h
   ·rw[List.getElem?_eq_none h] at h4;cases h4
  rw[Array.getElem?_append_left (by simpa using hlt)]
  simpa using h4
 ·simp[Log.find] at h2
theorem Step.hidden {ι ι':Inj} {m m':Mem} {w w':World} (h:Step P ι m w ι' m' w') {r:Nat} {o:Obj} (hr:w.heap.size<=r) (hocc:¬occ ι' m' r):Step P ι m w ι' m' {w' with heap:=w'.heap.setIfInBounds r o}:=by
 have hk:∀k,k≠r->(w'.heap.setIfInBounds r o)[k]? =w'.heap[k]? :=fun k hk=>by rw[rF (Ne.symm hk)]
 refine⟨h.le,⟨h.rel.fresh,h.rel.low,fun b x hx=>?_,h.rel.apart⟩,by simpa using h.size,fun k h1 h2=>?_,h.wrs,h.os,h.tape,h.output,h.next,h.names,h.occs⟩
 ·obtain⟨p,h1,h2⟩:=h.rel.blk b x hx
  exact⟨p,h1,h2.at (hk _ fun e=>hocc ⟨b,x,p,hx,h1,e⟩)⟩
 ·rw[<-h.old k h1 h2];exact hk k (by omega)
theorem zEp {F:Fence} {n:Nat} {fn:Func} {tmps:Array Value} {R':Ending->World->Prop} {ι0:Inj} {m0:Mem} {w0:World} (hR:∀w,Step P ι0 m0 w0 ι m w->LeavesIn F n P fn tmps R' [] .returning w):∀ {ds:List Deferred} {w:World},
  Step P ι0 m0 w0 ι m w->zAQ w0.heap.size ι m w ds->LeavesInM F n P fn tmps R' ds .returning w
 |[],w,hs,_=>hR w hs
 |d::ds,w,hs,⟨⟨r,h1,h2,h3,h4,h5⟩,h6⟩=>by
  subst h1;refine⟨by simp,.inl ⟨r,_,rfl,run_takeDeferred h3,?_⟩⟩;refine zEp hR (hs.hidden h2 h4) ?_;have:∀ {ds:List Deferred},(∀d'∈ds,d'.target≠.collected r)->zAQ w0.heap.size ι m w ds->zAQ w0.heap.size ι m {w with heap:=w.heap.setIfInBounds r (.deferred none)} ds:=by
   intro ds;induction ds with
   |nil=>intro _ _;trivial
   |cons d ds ih=>
    intro hne ⟨⟨q,e,g2,g3,g4,g5⟩,g6⟩;have hqr:q≠r:=fun e'=>hne d (rL ..) (by rw[e,e'])
    exact⟨⟨q,e,g2,by show(w.heap.setIfInBounds r _)[q]? =_;rw[rF (Ne.symm hqr)];exact g3,g4,g5⟩,ih (fun d' h'=>hne d' (rE _ h')) g6⟩
  exact this h5 h6
theorem zAQ.lt {N:Nat}:∀ {ds:List Deferred},zAQ N ι m w ds->∀ {d:Deferred} {r:Nat},d∈ds->d.target=.collected r->r<w.heap.size
 |[],_,d,r,h,_=>by cases h
 |e::ds,⟨⟨q,h1,h2,h3,h4,h5⟩,h6⟩,d,r,h,ht=>by
  rcases List.mem_cons.1 h with rfl|h
  ·rw[h1] at ht
   injection ht with ht
   subst ht;exact zA2 h3
  ·exact h6.lt h ht
theorem zKz {F:Fence} {me:FuncId}:zFe P F mask me zF2:=fun _ _ _ _ _ _ _ _ _ _ _ _ _ _ _ _ _ _ _ _ h=>by cases h
theorem zNk (hg:GOk P g) (hflat:∀t,g.isFlat t=true->Flat P t) {ih:yT} (hc:xY P ih) {fuel:Nat} {draw:FuncId->zDI} (hd:∀(f:FuncId) (F:Fence) (mask:Nat),Wide F->zFn P F mask f (draw f))
  {f:FuncId} (hrange:∀mask,zFe P Fence.wide mask f (zAA g ih mask f)) {fn:Func} {c:Code} (hf:P.funcs[f]? =some fn) (hb:fn.body=some c) (hr:Rel P ι m w) {args:List AV} {Args:List Value} (hargs:concL ι args=some Args) {k:AV->Mem->R}
  (h:zJd g fuel draw ih f fn args m k=.ok) (n:Nat):CallsIn Fence.wide n P f Args.toArray w (Ret P ι m w k):=by
 unfold zJd at h;rw[hb] at h;have h:zS (qJ fn) (fun mask=>zAV args fun n=>ifB 0 (Nat.ble n fn.ntmps) (zLd args 0 .nil fun log=>
   exK c ⟨g,fuel,mask,ih,zAA g ih mask f,draw f⟩ ⟨log,.nil 8,fn.ntmps,g.nglob⟩ m fun e fr m=>X.rec (motive:=fun _=>R) (zIy g fn.results.toList fr m fun v=>k v m) (fun _=>.bad 0) (zIy g fn.results.toList fr m fun v=>k v m) e))=.ok:=h
 rw[zN,xR] at h;obtain⟨h1,h2⟩:=zB h;obtain⟨log,h3,h4⟩:=zJU h2;have hle:=rD h1;generalize qJ fn=mask at h3;have hax:zON P Fence.wide f ⟨g,fuel,mask,ih,zAA g ih mask f,draw f⟩:=⟨hg,hflat,hc,.inl rfl,hrange mask,hd f _ mask (.inl rfl)⟩;refine callsIn_of_wp_marks hf hb trivial ?_;refine zAW c hax (fun r hr=>⟨fn,c,hf,hb,hr⟩) (ι:=ι) (ι0:=ι) (m0:=m) (w0:=w) ⟨.refl hr,zPn hg.nglob hargs hle h4,trivial⟩ h3 fun e a w' ⟨x,ι',fr,m',hx,hk,hs⟩=>?_
 have fin:zIy g fn.results.toList fr m' (fun v=>k v m')=.ok->LeavesInM Fence.wide n P fn a.tmps (Ret P ι m w k) a.defers .returning w':=fun h0=>by
  refine zEp (ι0:=ι) (m0:=m) (w0:=w) (ι:=ι') (m:=m') (fun w2 hs2=>?_) hs.step hs.defs;obtain⟨v,V,r1,r2,r3⟩:=zMG (w:=w2) hg hs2.rel hs.fr h0;exact⟨V,r3,V,rfl,v,ι',m',r1,hs2,r2⟩
 cases e<;>cases x<;>simp only[zBJ] at hx<;>first|exact hx.elim|skip
 ·exact fin hk
 ·cases hk
 ·exact fin hk
theorem zHN:∀ {ps:List Tmp} {args:List AV} {Args:List Value} {fr:Fr} {tmps:Array Value} {f:Fr->R},xI P ι fr mask tmps->concL ι args=some Args->zI0 ps args fr f=.ok->
  ∃fr',f fr'=.ok/\xI P ι fr' mask ((ps.zip Args).foldl (fun tmps (x:Tmp×Value)=>tmps.setIfInBounds x.1 x.2) tmps)/\ps.length=Args.length
 |[],[],Args,fr,tmps,f,hf,hargs,h=>by
  simp only[concL,Option.some.injEq] at hargs;subst hargs;exact⟨fr,h,hf,rfl⟩
 |[],_::_,_,_,_,_,_,_,h=>by cases h
 |_::_,[],_,_,_,_,_,_,h=>by cases h
 |p::ps,a::args,Args,fr,tmps,f,hf,hargs,h=>by
  simp only[concL,Option.bind_eq_some_iff,Option.map_eq_some_iff] at hargs;obtain⟨A,hA,L,hL,rfl⟩:=hargs;obtain⟨h1,h2⟩:=Fr.setK_eq (h:fr.setK p a (fun fr=>zI0 ps args fr f)=.ok);obtain⟨fr',h3,h4,h5⟩:=zHN (hf.set h1 hA) hL h2;exact⟨fr',h3,by simpa using h4,by simp[h5]⟩
theorem Step.record (hr:Rel P ι m w) {l:Nat} {st st':Nat} {pend pend':Option Code} {fr:Fr} {fid:FuncId} {ps:List Tmp} {asg body:Code} {p:Pl} {L L':Loop} (hb:m.t.find l l=some (.loop st pend fr mask fid ps asg body)) (hp:ι l=some p)
  (hL:w.heap[p.blk]? =some (.loop L)) (e1:zTB L'.state=st') (e2:L'.pending=pend') (e4:L'.params=L.params) (e5:L'.assign=L.assign) (e6:L'.body=L.body) (e7:L'.tmps=L.tmps) {f:Mem->R}
  (h:zAq m l (.loop st' pend' fr mask fid ps asg body) f=.ok):∃m',f m'=.ok/\Step P ι m w ι m' (w.putObj p.blk (.loop L')):=by
 obtain⟨k0,kd,L0,k1,k2,k3,k5,k6,k7,k8⟩:=blkOf hr hb hp;rw[hL] at k1;injection k1 with k1;injection k1 with k1;subst k1
 obtain⟨t',h1,h2⟩:=T.setK_ok (h:m.t.setK l _ (fun t=>f ⟨m.next,t⟩)=.ok);refine⟨_,h1,Step.put hr hb rfl hp h2 (by simp[World.putObj]) (fun k hk=>by simp[World.putObj,rF (Ne.symm hk)]) rfl rfl rfl
  ⟨k0,kd,L',by rw[World.putObj_heap_same (zA2 hL)],e1,e2,e4.trans k5,e5.trans k6,e6.trans k7,by rw[e7];exact k8⟩⟩
theorem zQG (hr:Rel P ι m w) {l:Nat} {st:Nat} {pend:Option Code} {b:Bool} {k:AV->Mem->R} {p:Pl} (hp:ι l=some p) (hst:st=if pend.isNone then 0 else 2) (hb:b=pend.isNone) (h:zNn l st pend b m k=.ok):
  ∃v w',(Instr.endRound p.blk pend).run P w=.ok v w'/\Ret P ι m w k (.returned v) w':=by
 obtain⟨x,h1,h2⟩:=T.getK_ok (h:m.t.getK l _=.ok);split at h2<;>first|(cases h2;done)|skip
 rename_i st0 p0 fr mask f ps asg body;obtain⟨k0,kd,L,k1, -⟩:=blkOf hr h1 hp;obtain⟨m',h3,h4⟩:=Step.record hr h1 hp k1 (L':= {L with state:=if pend.isNone then .ready else .done,pending:=pend}) (by subst hst;cases pend<;>rfl) rfl rfl rfl rfl rfl h2;exact⟨_,_,run_endRound pend k1,_,rfl,.bool b,ι,m',h3,h4,by simp[conc,hb]⟩
theorem zJD (hg:GOk P g) (hflat:∀t,g.isFlat t=true->Flat P t) {ih:yT} (hc:xY P ih) {fuel:Nat} {draw:FuncId->zDI} (hd:∀(f:FuncId) (F:Fence) (mask:Nat),Wide F->zFn P F mask f (draw f))
  (hr:Rel P ι m w) {l:Nat} {p:Pl} (hp:ι l=some p) {args:List AV} {Args:List Value} (hargs:concL ι args=some Args) {k:AV->Mem->R} (h:zKA g fuel draw ih l args m k=.ok):
  ∃fn tmps asg body,(Instr.yield p.blk Args.toArray).run P w=.ok (.round p.blk fn tmps asg body) w/\∀n,RoundIn Fence.wide n P p.blk fn tmps asg body w (Ret P ι m w k):=by
 obtain⟨x,h1,h2⟩:=T.getK_ok (h:m.t.getK l _=.ok);split at h2<;>first|(cases h2;done)|skip
 rename_i st pend fr mask f ps asg body;obtain⟨k0,kd,L,k1,k2,k3,k5,k6,k7,k8⟩:=blkOf hr h1 hp;obtain⟨fr',h3,h4,h5⟩:=zHN k8 hargs h2;have hsz:Args.toArray.size=L.params.size:=by rw[k5];simp[h5]
 refine⟨L.fn,_,L.assign,L.body,run_yield k1 hsz,fun n=>?_⟩;have htm:(L.params.zip Args.toArray).foldl (fun tmps (t,a)=>tmps.setIfInBounds t a) L.tmps=(ps.zip Args).foldl (fun tmps (x:Tmp×Value)=>tmps.setIfInBounds x.1 x.2) L.tmps:=by
  rw[k5,<-Array.foldl_toList];simp
 rw[htm,k6,k7];have hax:zON P (Fence.wide.inRound p.blk) f ⟨g,fuel,mask,ih,zF2,draw f⟩:=⟨hg,hflat,hc,.inr ⟨_,rfl⟩,zKz,hd f _ mask (.inr ⟨_,rfl⟩)⟩;refine roundIn_of_wpIn trivial ?_;refine zAW asg hax kd.1 (ι:=ι) (ι0:=ι) (m0:=m) (w0:=w) ⟨.refl hr,h4,trivial⟩ h3 fun e a w1 ⟨x,ι1,fr1,m1,hx,hk,hs⟩=>?_
 cases e<;>cases x<;>simp only[zBJ] at hx<;>first|exact hx.elim|(cases hk;done)|skip
 have hp1:=hs.step.le _ _ hp;obtain⟨y,h6,h7⟩:=T.getK_ok (hk:m1.t.getK l _=.ok);split at h7<;>first|(cases h7;done)|skip
 rename_i pend1 fr2 mask1 f1 ps1 asg1 body1;obtain⟨j0,jd,L1,j1,j2, -⟩:=blkOf hs.step.rel h6 hp1;have hready:L1.state=.ready:=by
  cases hL1:L1.state<;>rw[hL1] at j2<;>first|rfl|cases j2
 obtain⟨m2,h8,h9⟩:=Step.record hs.step.rel h6 hp1 j1 (L':= {L1 with state:=.busy}) rfl (by
  obtain⟨_,_,L2,q1,_,q3,_⟩:=blkOf hs.step.rel h6 hp1;rw[j1] at q1;injection q1 with q1;injection q1 with q1;subst q1
  exact q3) rfl rfl rfl rfl h7
 refine⟨_,run_beginRound j1 hready,?_⟩;refine zAW body hax kd.2 (ι:=ι1) (ι0:=ι) (m0:=m) (w0:=w) ⟨hs.step.trans h9,hs.fr,hs.defs.step h9⟩ h8 fun e a w2 ⟨x,ι2,fr3,m3,hx,hk,hs2⟩=>?_
 have hp2:=hs2.step.le _ _ hp;have fin:∀ {pend:Option Code} {st:Nat} {b:Bool},(st=if pend.isNone then 0 else 2)->b=pend.isNone->zNn l st pend b m3 k=.ok->∃v w',(Instr.endRound p.blk pend).run P w2=.ok v w'/\Ret P ι m w k (.returned v) w':=fun {pend st b} e1 e2 h0=>by
  obtain⟨v,w',r1,V,r2,v',ι',m',r3,r4,r5⟩:=zQG hs2.step.rel hp2 e1 e2 h0;exact⟨v,w',r1,V,r2,v',ι',m',r3,hs2.step.trans r4,r5⟩
 cases e<;>cases x<;>simp only[zBJ] at hx<;>first|exact hx.elim|skip
 ·exact fin rfl rfl hk
 ·subst hx;exact fin rfl rfl hk
 ·exact fin rfl rfl hk
theorem zDJ (hg:GOk P g) {ih:yT} (hc:xY P ih) (f:FuncId):zFe P Fence.wide mask f (zAA g ih mask f):=by
 intro n Q ι0 m0 w0 x ps asg body ι fr m a w v κ hs hDa hDb hv h hκ;refine wpIn_rangeFunc fun fn _=>?_
 obtain⟨t',h1,h2⟩:=zCu (h:zA8 m (.loop 0 none fr mask f ps.toList asg body) _=.ok)
 let L0:Loop:= {state:=.ready,pending:=none,fn,tmps:=a.tmps,params:=ps,assign:=asg,body,defers:=w.heap.size}
 let w1:World:=(w.alloc (.deferred (some []))).alloc (.loop L0)
 have hL0:w1.heap[w.heap.size+1]? =some (.loop L0):=by
  show((w.heap.push _).push _)[w.heap.size+1]? =_;rw[rC,if_pos (by simp)]
 have hh:∀k,k<w.heap.size->w1.heap[k]? =w.heap[k]? :=fun k hk=>by
  show((w.heap.push _).push _)[k]? =_;rw[rC,if_neg (by simp;omega),rC,if_neg (by omega)]
 have hA:Step P ι m w ι m (w.alloc (.deferred (some []))):=by
  have hk:∀k,k<w.heap.size->(w.alloc (.deferred (some []))).heap[k]? =w.heap[k]? :=fun k hk=>by
   show(w.heap.push _)[k]? =_;rw[rC,if_neg (by omega)]
  have hr:=hs.step.rel;exact⟨.refl _,⟨hr.fresh,hr.low,fun b x hx=>let⟨p,q1,q2⟩:=hr.blk b x hx;⟨p,q1,q2.at (hk _ (zBB q2))⟩,hr.apart⟩,by simp,fun k h1 _=>hk k h1,fun _ _ h=>h,rfl,rfl,rfl,rP _,fun _ _ h=>h,fun _ _ h=>h⟩
 have hB:Step P ι m (w.alloc (.deferred (some []))) (ι.set m.next ⟨w.heap.size+1,0,0,0⟩) ⟨m.next+1,t'⟩ w1:=by
  refine Step.new hA.rel h1 (p:=⟨w.heap.size+1,0,0,0⟩) (by simp) rfl rfl rfl rfl ?_;refine⟨rfl,⟨hDa,hDb⟩,L0,hL0,rfl,rfl,by simp[L0],rfl,rfl,?_⟩;exact hs.fr.mono (Inj.le_set (hA.rel.fresh _ (rP _)))
 have hAB:=hA.trans hB;have hv':=qN hAB.le hv;have hpl:(ι.set m.next ⟨w.heap.size+1,0,0,0⟩) m.next=some ⟨w.heap.size+1,0,0,0⟩:=by simp[Inj.set]
 cases v<;>first|(cases h2;done)|skip
 rename_i fnv first cap
 obtain⟨f',a',c',g1,g2,g3,g4⟩:=zA5 hv';have h2:zCl fnv first cap [.fn (.yield m.next) [] []] (zDx g ih m.next ⟨m.next+1,t'⟩ κ)=.ok:=h2
 cases fnv<;>first|(cases h2;done)|skip
 case yield l _h=>
  have h2:zCy first [.fn (.yield m.next) [] []] (fun a=>zDx g ih m.next ⟨m.next+1,t'⟩ κ (.yield l a))=.ok:=h2
  rw[q5] at h2;cases h2
 rename_i fid _h;have h2:zCy [.fn (.yield m.next) [] []] cap (fun a=>zCy first a fun a=>zDx g ih m.next ⟨m.next+1,t'⟩ κ (.fn fid a))=.ok:=h2;rw[q5,q5] at h2;simp only[zAB,Option.some.injEq] at g1;subst g1;obtain⟨fn',h3,h4⟩:=T.getK_ok (h2:g.ft.getK fid _=.ok);have hfn':=hg.ft _ _ h3;obtain⟨hbody,h4⟩:=zB (h4:ifB 0 fn'.body.isSome _=.ok);have hy:conc (ι.set m.next ⟨w.heap.size+1,0,0,0⟩) (.fn (.yield m.next) [] [])=some (.func (.yield (w.heap.size+1)) #[] #[]):=by simp[conc,zAB,concL,hpl]
 have hargs:=yC g2 (yC (l:=[.fn (.yield m.next) [] []]) (L:=[.func (.yield (w.heap.size+1)) #[] #[]]) (by simp[concL,hy]) g3);obtain⟨fn2,q1,⟨q2,q3,q4⟩|⟨q2,_⟩⟩:=hc.fn _ _ w1 _ fid _ _ hB.rel hargs h4
 ·have e1:(a'++([Value.func (.yield (w.heap.size+1)) #[] #[]]++c')).toArray=a'.toArray++ #[.func (.yield (w.heap.size+1)) #[] #[]]++c'.toArray:=by apply Array.ext';simp
  refine⟨w.heap.size+1,[{target:=.collected w.heap.size,args:= #[]}],w1,{target:=.fn (.func fid) c'.toArray,args:=a'.toArray++ #[.func (.yield (w.heap.size+1)) #[] #[]]},w1,fid,
   a'.toArray++ #[.func (.yield (w.heap.size+1)) #[] #[]]++c'.toArray,w1,run_enterLoop_outer fn a.tmps ps asg body,?_,fun _ _=>trivial,?_,fun h=>by simp[Fence.wide] at h,?_⟩
  ·show(Deferred.ofValue (a.eval x) (Array.map a.eval #[.const (.func (.yield (w.heap.size+1)) #[] #[])])).run P w1=_
   rw[g4];simp[Deferred.ofValue,Act.eval]
  ·simp only[invoke];rw[<-e1];exact q3
  ·rw[<-e1]
   refine(q4 _).mono fun e w2 ⟨V,e2,u,ι2,m2,r1,r2,r3⟩=>?_
   subst e2;obtain⟨y,r4,r5⟩:=T.getK_ok (r1:m2.t.getK m.next _=.ok);cases y<;>first|(cases r5;done)|skip
   rename_i st pend fr2 mask2 f2 ps2 asg2 body2;obtain⟨r6,r7⟩:=zB r5;have hp2:=r2.le _ _ hpl;obtain⟨k0,kd,L,k1,k2,k3,k5,k6,k7,k8⟩:=blkOf r2.rel r4 hp2;have hbusy:L.state≠.busy:=fun e=>by rw[e] at k2;subst k2;cases r6
   obtain⟨t3,d1,d2⟩:=T.delK_ok (r7:m2.t.delK m.next (fun t=>κ pend ⟨m2.next,t⟩)=.ok);have hstep:=r2.trans (Step.drop r2.rel r4 rfl hp2 d2 (w':=w2.putObj (w.heap.size+1) (.loop {L with state:=.exhausted})) (by simp[World.putObj]) (fun k hk=>by simp[World.putObj,rF (Ne.symm hk)]) rfl rfl rfl);have hall:=hAB.trans hstep;have key:=hκ pend _ ι2 {a with defers:=[{target:=.collected w.heap.size,args:= #[]}]++a.defers} (w2.putObj (w.heap.size+1) (.loop {L with state:=.exhausted})) d1 ⟨hs.step.trans hall,?_,?_⟩
   ·refine⟨pend,_,?_,key⟩
    rw[run_endLoop k1 hbusy,k3]
   ·exact hs.fr.mono hall.le
   ·refine zAQ.step hstep (ds:= {target:=.collected w.heap.size,args:= #[]}::a.defers) ⟨⟨w.heap.size,rfl,hs.step.size,?_,?_,fun d' hd' e=>?_⟩,hs.defs.step hAB⟩
    ·show((w.heap.push _).push _)[w.heap.size]? =_
     rw[rC,if_neg (by simp),rC,if_pos rfl]
    ·intro ho
     obtain⟨b,y,q,o1,o2,o3⟩:=hB.occs w.heap.size (by simp) ho;obtain⟨q',o4,o5⟩:=hs.step.rel.blk b y o1;rw[o2] at o4;injection o4 with o4;subst o4
     have:=zBB o5;omega
    ·have:=hs.defs.lt hd' e
     omega
 ·rw[hfn'] at q1;injection q1 with q1;subst q1
  rw[q2] at hbody;cases hbody
theorem zFq (hg:GOk P g) (hflat:∀t,g.isFlat t=true->Flat P t) {fuel:Nat} {draw:yT->FuncId->zDI} (hd:∀call,xY P call->∀(f:FuncId) (F:Fence) (mask:Nat),Wide F->zFn P F mask f (draw call f)):
  ∀depth,xY P (zFC g fuel draw depth)
 |0=>by
  constructor
  ·intro ι m w k f args Args hr hargs h;cases h
  ·intro ι m w k l p args Args hr hp hargs h;cases h
 |depth+1=>by
  have ih:=zFq hg hflat (fuel:=fuel) hd depth;refine⟨fun ι m w k f args Args hr hargs h=>?_,fun ι m w k l p args Args hr hp hargs h=>?_⟩
  ·obtain⟨fn,h1,h2⟩:=T.getK_ok (h:g.ft.getK f (fun fn=>zJd g fuel (draw (zFC g fuel draw depth)) (zFC g fuel draw depth) f fn args m k)=.ok)
   have hf:=hg.ft _ _ h1;refine⟨fn,hf,?_⟩;cases hb:fn.body with
   |none=>
    right;unfold zJd at h2;rw[hb] at h2;cases h2
   |some c=>
    left;refine⟨rfl,?_,fun n=>zNk hg hflat ih (hd _ ih) (fun mask=>zDJ hg ih f) hf hb hr hargs h2 n⟩;have:=hg.num f fn hf;simp[callFunc,hf,this,hb]
  ·exact zJD hg hflat ih (hd _ ih) hr hp hargs h
end
noncomputable section
inductive DStep where
 |pure (i:Nat)
 |alloc (i:Nat)
 |eff (i:Nat) (ins chk:List Nat)
 |two (i j:Nat) (ins chk:List Nat)
inductive AK where
 |ptr
 |sl (l c:Nat)
 |mp
def zIM (k:AK) (b:Nat):AV:=match k with
 | .ptr=>.ptr b 0
 | .sl l c=>.sl b 0 l (some c)
 | .mp=>.mp b
structure Pend where
 i:Nat
 b:Nat
 x:Blk
 k:AK
def zJM (a b:Option Nat):Bool:=match a,b with
 |none,none=>true
 |some x,some y=>Nat.beq x y
 |_,_=>false
def zKd {α:Type} (p:α->α->Bool) (a b:List α):Bool:=List.rec (motive:=fun _=>List α->Bool) (fun b=>List.rec (motive:=fun _=>Bool) true (fun _ _ _=>false) b)
 (fun x _ ih b=>List.rec (motive:=fun _=>Bool) false (fun y b _=>iteB (p x y) (ih b) false) b) a b
def zQe (a b:Fn):Bool:=match a,b with
 | .func i,.func j=>Nat.beq i j
 | .yield i,.yield j=>Nat.beq i j
 |_,_=>false
def eqB (n:Nat):AV->AV->Bool:=Nat.rec (motive:=fun _=>AV->AV->Bool) (fun _ _=>false) (fun _ ih a b=>match a,b with
 | .bool x,.bool y=>iteB x y (Bool.not y)
 | .int k x,.int j y=>iteB (zC0 k j) (intEq x y) false
 | .str x,.str y=>zAn x y
 | .ptr b o,.ptr c p=>iteB (Nat.beq b c) (Nat.beq o p) false
 | .nilp,.nilp=>true
 | .sl b o l c,.sl b' o' l' c'=>iteB (Nat.beq b b') (iteB (Nat.beq o o') (iteB (Nat.beq l l') (zJM c c') false) false) false
 | .nils,.nils=>true
 | .dead b o l d,.dead b' o' l' d'=>iteB (Nat.beq b b') (iteB (Nat.beq o o') (iteB (Nat.beq l l') (Nat.beq d d') false) false) false
 | .mp b,.mp c=>Nat.beq b c
 | .nilm,.nilm=>true
 | .fn f x y,.fn f' x' y'=>iteB (zQe f f') (iteB (zKd ih x x') (zKd ih y y') false) false
 | .nilf,.nilf=>true
 | .ifc t v,.ifc u w=>iteB (Nat.beq t u) (ih v w) false
 | .nili,.nili=>true
 | .agg x,.agg y=>zKd ih x y
 | .tup x,.tup y=>zKd ih x y
 |_,_=>false) n
def zG4 (a b:Blk):Bool:=match a,b with
 | .cells c e g z,.cells c' e' g' z'=>iteB (Nat.beq e e') (iteB (iteB g g' (Bool.not g')) (iteB (Nat.beq z z') (zKd (eqB 4) c c') false) false) false
 | .map [] c,.map [] c'=>Nat.beq c c'
 |_,_=>false
def zQc (a b:AK):Bool:=match a,b with
 | .ptr,.ptr=>true
 | .sl l c,.sl l' c'=>iteB (Nat.beq l l') (Nat.beq c c') false
 | .mp,.mp=>true
 |_,_=>false
theorem yV {a b:Bool} (h:iteB a b false=true):a=true/\b=true:=by
 cases a
 ·cases h
 ·exact⟨rfl,h⟩
theorem zHi {x y:Bool} (h:iteB x y (Bool.not y)=true):x=y:=by cases x<;>cases y<;>first|rfl|cases h
theorem zCp {α:Type} {p:α->α->Bool} (hp:∀a b,p a b=true->a=b):∀ {a b:List α},zKd p a b=true->a=b
 |[],[],_=>rfl
 |[],_::_,h=>by cases h
 |_::_,[],h=>by cases h
 |x::a,y::b,h=>by
  obtain⟨h1,h2⟩:=yV (h:iteB (p x y) (zKd p a b) false=true);rw[hp _ _ h1,zCp hp h2]
theorem zJP {a b:Option Nat} (h:zJM a b=true):a=b:=by
 cases a<;>cases b<;>first|rfl|(cases h;done)|exact congrArg some (rA h)
theorem zOz {a b:Fn} (h:zQe a b=true):a=b:=by
 cases a<;>cases b<;>first|(cases h;done)|exact congrArg _ (rA h)
theorem zDR:∀(n:Nat) (a b:AV),eqB n a b=true->a=b
 |0,a,b,h=>by cases h
 |n+1,a,b,h=>by
  have ih:=zDR n;cases a<;>cases b<;>first|rfl|(cases h;done)|skip
  ·exact congrArg _ (zHi h)
  ·obtain⟨h1,h2⟩:=yV (h:iteB _ _ false=true)
   rw[intEq_ok] at h2;rw[zB0 h1,eq_of_beq h2]
  ·have h:zAn _ _=true:=h
   rw[zAw] at h;rw[eq_of_beq h]
  ·obtain⟨h1,h2⟩:=yV (h:iteB _ _ false=true)
   rw[rA h1,rA h2]
  ·obtain⟨h1,h2⟩:=yV (h:iteB _ _ false=true)
   obtain⟨h3,h4⟩:=yV h2;obtain⟨h5,h6⟩:=yV h4;rw[rA h1,rA h3,rA h5,zJP h6]
  ·exact congrArg _ (rA h)
  ·obtain⟨h1,h2⟩:=yV (h:iteB _ _ false=true)
   obtain⟨h3,h4⟩:=yV h2;rw[zOz h1,zCp ih h3,zCp ih h4]
  ·obtain⟨h1,h2⟩:=yV (h:iteB _ _ false=true)
   rw[rA h1,ih _ _ h2]
  ·exact congrArg _ (zCp ih h)
  ·exact congrArg _ (zCp ih h)
  ·obtain⟨h1,h2⟩:=yV (h:iteB _ _ false=true)
   obtain⟨h3,h4⟩:=yV h2;obtain⟨h5,h6⟩:=yV h4;rw[rA h1,rA h3,rA h5,rA h6]
theorem zHT {a b:Blk} (h:zG4 a b=true):a=b:=by
 unfold zG4 at h;split at h
 ·obtain⟨h1,h2⟩:=yV h
  obtain⟨h3,h4⟩:=yV h2;obtain⟨h5,h6⟩:=yV h4;rw[rA h1,zHi h3,rA h5,zCp (zDR 4) h6]
 ·rw[rA h]
 ·cases h
theorem zOc {a b:AK} (h:zQc a b=true):a=b:=by
 cases a<;>cases b<;>first|rfl|(cases h;done)|skip
 obtain⟨h1,h2⟩:=yV (h:iteB _ _ false=true);rw[rA h1,rA h2]
def qI (g:G) (call:yT) (ops:Array Oper) (o:Oper) (fr:Fr) (m:Mem) (f:AV->Mem->R):R:=
 Option.rec (motive:=fun _=>G->yT->Array Oper->Oper->Fr->Mem->(AV->Mem->R)->R)
  (fun g call _ o fr m f=>opK o.op g call fr m f)
  (fun jw g call ops o fr m f=>zP 0 (xE ops jw.1) fun d=>fr.getK d fun c=>iteB (pK jw.2 c) (opK o.op g call fr m f) (f .undef m))
  o.guard g call ops o fr m f
def pW (o:Op) (g:G) (fr:Fr) (f:Blk->AK->R):R:=match o with
 | .alloc e=>zP 0 (g.zero e) fun z=>f (.cells z.cells e false 0) .ptr
 | .box e x=>ev x fr fun v=>f (.cells v.cells e false 0) .ptr
 | .buildSlice t n ps=>(match g.desc t with
  | .slice e=>zP 0 (g.size e) fun s=>ifB 0 (Nat.ble 1 s) (ifB 0 (Nat.ble (Nat.mul n s) 16777216) (zP 0 (g.zero e) fun z=>zAV z.cells fun k=>ifB 0 (Nat.beq k s) (zDp z.cells n fun zs=>
    pP (fun i=>some (Nat.mul i s,s)) fr ps.toList zs fun l=>f (.cells l e false 0) (.sl n n))))
  |_=>.bad 0)
 | .makeMap _ none=>f (.map [] 0) .mp
 | .makeSlice t l c=>ev l fr fun l=>ev c fr fun c=>(match g.desc t with
  | .slice e=>p8 l fun l=>p8 c fun c=>ifB 0 (Nat.ble l c) (ifB 0 (Nat.ble c 1048576) (zP 0 (g.size e) fun s=>ifB 0 (Nat.ble 1 s) (zP 0 (g.zero e) fun z=>zAV z.cells fun k=>ifB 0 (Nat.beq k s) (zP 0 (g.info e) fun ie=>ifB 0 (Nat.ble (Nat.mul ie.bytes c) 281474976710656) (zDp z.cells c fun zs=>f (.cells zs e false 0) (.sl l c))))))
  |_=>.bad 0)
 |_=>.bad 0
def zAy (g:G) (call:yT) (ops:Array Oper) (j:Nat) (fr:Fr) (m:Mem):R:=
 zP 0 ops[j]? fun o=>zP 0 o.dst fun d=>fr.getK d fun v=>qI g call ops o fr m fun v' m'=>ifB 0 (eqB 5 v v') (ifB 0 (Nat.beq m'.next m.next) .ok)
def zLH (g:G) (ops:Array Oper) (p:Pend) (fr:Fr):R:=
 zP 0 ops[p.i]? fun o=>zP 0 o.dst fun d=>fr.getK d fun v=>ifB 0 (eqB 5 v (zIM p.k p.b)) (ifB 0 o.guard.isNone (pW o.op g fr fun x k=>ifB 0 (zG4 p.x x) (ifB 0 (zQc p.k k) .ok)))
def zBN (g:G) (call:yT) (ops:Array Oper) (l:List Nat) (fr:Fr) (m:Mem) (r:R):R:=
 List.rec (motive:=fun _=>R) r (fun j _ ih=>zIk (zAy g call ops j fr m) ih) l
def zA9 (i:Nat) (l:List Nat):Bool:=List.rec (motive:=fun _=>Bool) false (fun j _ ih=>iteB (Nat.beq i j) true ih) l
def zA4 (ins:List Nat) (ps:List Pend) (m:Mem) (f:List Pend->Mem->R):R:=
 List.rec (motive:=fun _=>Mem->(List Pend->Mem->R)->R) (fun m f=>f [] m)
  (fun p _ ih m f=>iteB (zA9 p.i ins) (zAq m p.b p.x fun m=>ih m f) (ih m fun ps m=>f (p::ps) m)) ps m f
def zCP (oi oj:Oper) (fr:Fr) (m:Mem) (k:R):R:=match oi.op,oj.op with
 | .store _ x _,.store _ y _=>ev x fr fun p=>ev y fr fun q=>(match p,q with
  | .ptr b _,.ptr c _=>ifB 0 (Bool.not (Nat.beq b c)) (pJ m b fun y=>pJ m c fun z=>match y,z with| .cells _ _ _ _,.cells _ _ _ z=>ifB 0 (Nat.ble z 1) k|_,_=>.bad 0)
  |_,_=>.bad 0)
 |_,_=>.bad 0
def zRj (r:R) (f:AV->R):R:=R.rec (motive:=fun _=>(AV->R)->R) (fun _=>.bad 0) (fun n _=>.bad n) (fun _ _ _ _=>.bad 0) (fun v _ f=>f v) r f
def pQ (g:G) (call:yT) (ops:Array Oper) (top:Nat) (S:List DStep) (fr:Fr) (m:Mem) (nm:Nat) (ps:List Pend) (f:Fr->Mem->R):R:=
 List.rec (motive:=fun _=>Fr->Mem->Nat->List Pend->R) (fun fr m _ ps=>zA4 (ps.map Pend.i) ps m fun _ m=>f fr m)
  (fun s _ ih fr m nm ps=>DStep.rec (motive:=fun _=>R)
   (fun i=>zP 0 ops[i]? fun o=>zRj (qI g call ops o fr m R.out) fun v=>pZ fr o.dst v fun fr=>zIk (zAy g call ops i fr m) (ih fr m nm ps))
   (fun i=>zP 0 ops[i]? fun o=>ifB 0 (Nat.ble (Nat.succ nm) top) (pW o.op g fr fun x k=>pZ fr o.dst (zIM k nm) fun fr=>zS (Nat.succ nm) fun nx=>zIk (zLH g ops ⟨i,nm,x,k⟩ fr) (ih fr m nx (⟨i,nm,x,k⟩::ps))))
   (fun i ins chk=>zA4 ins ps m fun ps m=>zP 0 ops[i]? fun o=>qI g call ops o fr m fun v m=>pZ fr o.dst v fun fr=>zBN g call ops chk fr m (ih fr m nm ps))
   (fun i j ins chk=>zA4 ins ps m fun ps m=>zP 0 ops[i]? fun o=>zP 0 ops[j]? fun oj=>zCP o oj fr m (qI g call ops o fr m fun v m=>pZ fr o.dst v fun fr=>zBN g call ops chk fr m (ih fr m nm ps))) s) S fr m nm ps
def zQX (g:G) (call:yT) (k:Nat) (S:List DStep) (ops:Array Oper) (fr:Fr) (m:Mem) (f:Fr->Mem->R):R:=
 zS (Nat.add m.next k) fun top=>pQ g call ops top S fr ⟨top,m.t⟩ m.next [] f
end
def zJt (v:Option AV) (f:AV->R):R:=match v with|some v=>f v|none=>.bad 0
theorem T.getK_eq {t:T AV} {k:Nat} {f:AV->R}:t.getK k f=zJt (t.find k k) f:=by
 suffices H:∀(t:T AV) (p:Nat),(T.rec (motive:=fun _=>Nat->Nat->(AV->R)->R) (fun _ _ _ _=>R.bad 0)
  (fun key a _ k f=>ifB 0 (Nat.beq key k) (f a))
  (fun _ _ ihl ihr p k f=>Nat.rec (motive:=fun _=>R) (ihl (Nat.div p 2) k f) (fun _ _=>ihr (Nat.div p 2) k f) (Nat.mod p 2)) t p k f:R)=zJt (t.find p k) f from H t k
 intro t;induction t with
 |nil d=>intro p;rfl
 |leaf key a=>
  intro p;show ifB 0 (Nat.beq key k) (f a)=_;simp only[T.find];by_cases e:key=k
  ·rw[if_pos e,e];simp[zJt];rfl
  ·have hb:Nat.beq key k=false:=by cases h:Nat.beq key k with|false=>rfl|true=>exact absurd (rA h) e
   rw[if_neg e,hb];rfl
 |node l r ihl ihr=>
  intro p;show(Nat.rec (motive:=fun _=>R) _ (fun _ _=>_) (Nat.mod p 2):R)=_;rw[xB];simp only[T.find];split
  ·exact ihl _
  ·exact ihr _
theorem Fr.getK_eq {fr:Fr} {k:Nat} {f:AV->R}:fr.getK k f=zJt (fr.find k) f:=by
 obtain⟨log,t,n,ng⟩:=fr;show(Log.rec (motive:=fun _=>T AV->Nat->(AV->R)->R) (fun t k f=>t.getK k f)
  (fun d v _ ih t k f=>Bool.rec (motive:=fun _=>R) (ih t k f) (f v) (Nat.beq d k)) log t k f:R)=_
 simp only[Fr.find];induction log with
 |nil=>simpa[Log.find] using T.getK_eq
 |cons d v l ih=>
  simp only[Log.find];show(Bool.rec (motive:=fun _=>R) _ (f v) (Nat.beq d k):R)=_;by_cases e:d=k
  ·subst e;simp[zJt]
  ·have hb:Nat.beq d k=false:=by cases h:Nat.beq d k with|false=>rfl|true=>exact absurd (rA h) e
   rw[hb,if_neg e];exact ih
def Agree (xs:List Operand) (fr fr':Fr):Prop:=fr'.ng=fr.ng/\∀t,Operand.tmp t∈xs->fr'.find t=fr.find t
theorem Agree.sub {xs ys:List Operand} {fr fr':Fr} (h:Agree ys fr fr') (hs:∀x∈xs,x∈ys):Agree xs fr fr':=⟨h.1,fun t ht=>h.2 t (hs _ ht)⟩
section
variable {fr fr':Fr} {g:G} {m:Mem} {call:yT}
theorem zL {x:Operand} (h:Agree [x] fr fr'):ev x fr'=ev x fr:=by
 funext f;cases x with
 |tmp t=>
  show fr'.getK t f=fr.getK t f;rw[Fr.getK_eq,Fr.getK_eq,h.2 t (by simp)]
 |const v=>rfl
 |global i=>
  show ifB 0 (Nat.ble (Nat.succ i) fr'.ng) _=ifB 0 (Nat.ble (Nat.succ i) fr.ng) _;rw[h.1]
 |func i=>rfl
theorem zCo:∀ {xs:List Operand},Agree xs fr fr'->evs xs fr'=evs xs fr
 |[],_=>rfl
 |x::xs,h=>by
  funext f;show ev x fr' (fun v=>evs xs fr' fun l=>f (v::l))=ev x fr (fun v=>evs xs fr fun l=>f (v::l));rw[zL (h.sub (by simp)),zCo (h.sub (by simp+contextual))]
theorem zEd {x:Option Operand} (h:Agree x.toList fr fr'):evo x fr'=evo x fr:=by
 funext f;cases x with
 |none=>rfl
 |some x=>
  show ev x fr' (fun v=>f (some v))=ev x fr (fun v=>f (some v));rw[zL h]
theorem zBF {place:Nat->Option (Nat×Nat)}:∀ {ps:List (Nat×Operand)} {cs:List AV} {f:List AV->R},Agree (ps.map (·.2)) fr fr'->pP place fr' ps cs f=pP place fr ps cs f
 |[],_,_,_=>rfl
 |(i,x)::ps,cs,f,h=>by
  show ev x fr' (fun v=>zP 0 (place i) fun pl=>zAV v.cells fun n=>ifB 0 (Nat.beq n pl.2) (pM cs pl.1 v.cells fun s=>pP place fr' ps s f))=ev x fr (fun v=>zP 0 (place i) fun pl=>zAV v.cells fun n=>ifB 0 (Nat.beq n pl.2) (pM cs pl.1 v.cells fun s=>pP place fr ps s f));rw[zL (h.sub (by simp))];congr 1;funext v;congr 1;funext pl;congr 1;funext n;congr 2;funext s;exact zBF (h.sub (by simp+contextual))
theorem zIl {t:TypeId} {ps:List (Nat×Operand)} {f:AV->R} (h:Agree (ps.map (·.2)) fr fr'):zD2 g t fr' ps f=zD2 g t fr ps f:=by
 have e:∀place cs (f:List AV->R),pP place fr' ps cs f=pP place fr ps cs f:=fun _ _ _=>zBF h
 unfold zD2;simp only[e]
theorem zDa {t:TypeId} {n:Nat} {ps:List (Nat×Operand)} {f:AV->Mem->R} (h:Agree (ps.map (·.2)) fr fr'):pE g t n fr' ps m f=pE g t n fr ps m f:=by
 have e:∀place cs (f:List AV->R),pP place fr' ps cs f=pP place fr ps cs f:=fun _ _ _=>zBF h
 unfold pE;simp only[e]
theorem zGe {t:TypeId} {r:Option Operand} {f:AV->Mem->R} (h:Agree r.toList fr fr'):zC5 g t r fr' m f=zC5 g t r fr m f:=by
 cases r with
 |none=>rfl
 |some x=>
  show ev x fr' _=ev x fr _;rw[zL h]
theorem zIn {c:Call} {args:List AV} {f:AV->Mem->R} (h:Agree c.operands.toList fr fr'):zCO call g c args fr' m f=zCO call g c args fr m f:=by
 obtain⟨callee,cargs,ats⟩:=c;cases callee with
 |value x=>
  show ev x fr' _=ev x fr _;rw[zL (h.sub (by simp[Call.operands]))]
 |invoke x name=>
  show ev x fr' _=ev x fr _;rw[zL (h.sub (by simp[Call.operands]))]
 |builtin b=>rfl
theorem zMw {o:Op} {f:AV->Mem->R} (h:Agree o.operands.toList fr fr'):opK o g call fr' m f=opK o g call fr m f:=by
 cases o<;>simp only[Op.operands] at h<;>first|rfl|skip
 case move x=>show ev x fr' _=ev x fr _;rw[zL (h.sub (by simp))]
 case assign x=>show ev x fr' _=ev x fr _;rw[zL (h.sub (by simp))]
 case pick c x y=>
  show ev c fr' (fun c=>zBj c fun c=>ev (iteB c x y) fr' fun v=>f v m)=ev c fr (fun c=>zBj c fun c=>ev (iteB c x y) fr fun v=>f v m);have e:∀b,ev (iteB b x y) fr'=ev (iteB b x y) fr:=fun b=>zL (h.sub (by cases b<;>simp[iteB]))
  simp only[e];rw[zL (h.sub (by simp))]
 case box e x=>show ev x fr' _=ev x fr _;rw[zL (h.sub (by simp))]
 case build t ps=>
  show zD2 g t fr' ps.toList (fun v=>f v m)=zD2 g t fr ps.toList (fun v=>f v m);exact zIl (by simpa using h)
 case buildSlice t n ps=>exact zDa (ps:=ps.toList) (by simpa using h)
 case load t x=>show ev x fr' _=ev x fr _;rw[zL (h.sub (by simp))]
 case store t x y=>
  show ev x fr' (fun a=>ev y fr' fun v=>_)=ev x fr (fun a=>ev y fr fun v=>_);rw[zL (x:=x) (h.sub (by simp)),zL (x:=y) (h.sub (by simp))]
 case nilCheck x=>show ev x fr' _=ev x fr _;rw[zL (h.sub (by simp))]
 case binOp op t x y u=>
  show ev x fr' (fun a=>ev y fr' fun v=>_)=ev x fr (fun a=>ev y fr fun v=>_);rw[zL (x:=x) (h.sub (by simp)),zL (x:=y) (h.sub (by simp))]
 case unOp op t x=>show ev x fr' _=ev x fr _;rw[zL (h.sub (by simp))]
 case convert s d x=>show ev x fr' _=ev x fr _;rw[zL (h.sub (by simp))]
 case makeInterface t x=>show ev x fr' _=ev x fr _;rw[zL (h.sub (by simp))]
 case makeFunc fn first cap=>
  show ifB 0 (zFi fn) (evs first.toList fr' fun a=>evs cap.toList fr' fun c=>_)=ifB 0 (zFi fn) (evs first.toList fr fun a=>evs cap.toList fr fun c=>_);rw[zCo (xs:=first.toList) (h.sub (by simp+contextual)),zCo (xs:=cap.toList) (h.sub (by simp+contextual))]
 case makeMap t r=>exact zGe (h.sub (by simp))
 case makeSlice t l c=>
  show ev l fr' (fun a=>ev c fr' fun v=>_)=ev l fr (fun a=>ev c fr fun v=>_);rw[zL (x:=l) (h.sub (by simp)),zL (x:=c) (h.sub (by simp))]
 case slice t x lo hi mx=>
  show iteB (Option.isNone mx) (ev x fr' fun x=>evo lo fr' fun lo=>evo hi fr' fun hi=>_) (ifB 0 (Option.isNone lo) (ev x fr' fun x=>evo hi fr' fun h=>evo mx fr' fun j=>_))=iteB (Option.isNone mx) (ev x fr fun x=>evo lo fr fun lo=>evo hi fr fun hi=>_) (ifB 0 (Option.isNone lo) (ev x fr fun x=>evo hi fr fun h=>evo mx fr fun j=>_));rw[zL (x:=x) (h.sub (by simp)),zEd (x:=lo) (h.sub (by simp+contextual)),zEd (x:=hi) (h.sub (by simp+contextual)),zEd (x:=mx) (h.sub (by simp+contextual))]
 case fieldAddr t x i=>show ev x fr' _=ev x fr _;rw[zL (h.sub (by simp))]
 case field t x i=>show ev x fr' _=ev x fr _;rw[zL (h.sub (by simp))]
 case indexAddr t x i=>
  show ev x fr' (fun a=>ev i fr' fun v=>_)=ev x fr (fun a=>ev i fr fun v=>_);rw[zL (x:=x) (h.sub (by simp)),zL (x:=i) (h.sub (by simp))]
 case index t x i=>
  show ev x fr' (fun a=>ev i fr' fun v=>_)=ev x fr (fun a=>ev i fr fun v=>_);rw[zL (x:=x) (h.sub (by simp)),zL (x:=i) (h.sub (by simp))]
 case lookup t x i ok=>
  show ev x fr' (fun a=>ev i fr' fun v=>_)=ev x fr (fun a=>ev i fr fun v=>_);rw[zL (x:=x) (h.sub (by simp)),zL (x:=i) (h.sub (by simp))]
 case mapUpdate t x k v=>
  show ev x fr' (fun a=>ev k fr' fun b=>ev v fr' fun c=>_)=ev x fr (fun a=>ev k fr fun b=>ev v fr fun c=>_);rw[zL (x:=x) (h.sub (by simp)),zL (x:=k) (h.sub (by simp)),zL (x:=v) (h.sub (by simp))]
 case insert t x k v=>
  show ev x fr' (fun a=>ev k fr' fun b=>ev v fr' fun c=>_)=ev x fr (fun a=>ev k fr fun b=>ev v fr fun c=>_);rw[zL (x:=x) (h.sub (by simp)),zL (x:=k) (h.sub (by simp)),zL (x:=v) (h.sub (by simp))]
 case range t x=>show ev x fr' _=ev x fr _;rw[zL (h.sub (by simp))]
 case next it s=>show ev it fr' _=ev it fr _;rw[zL (h.sub (by simp))]
 case entry it=>show ev it fr' _=ev it fr _;rw[zL (h.sub (by simp))]
 case typeAssert x xt t ok=>show ev x fr' _=ev x fr _;rw[zL (h.sub (by simp))]
 case extract x i=>show ev x fr' _=ev x fr _;rw[zL (h.sub (by simp))]
 case call c=>
  show evs c.args.toList fr' (fun args=>zCO call g c args fr' m f)=evs c.args.toList fr (fun args=>zCO call g c args fr m f);have e:∀args,zCO call g c args fr' m f=zCO call g c args fr m f:=fun args=>zIn (h.sub (by simp))
  simp only[e];rw[zCo (h.sub (by simp+contextual [Call.operands]))]
theorem zDC {o:Op} {f:Blk->AK->R} (h:Agree o.operands.toList fr fr'):pW o g fr' f=pW o g fr f:=by
 cases o<;>simp only[Op.operands] at h<;>first|rfl|skip
 case box e x=>show ev x fr' _=ev x fr _;rw[zL (h.sub (by simp))]
 case buildSlice t n ps=>
  have h':Agree (ps.toList.map (·.2)) fr fr':=h.sub (by simp);have e:∀place cs (f:List AV->R),pP place fr' ps.toList cs f=pP place fr ps.toList cs f:=fun _ _ _=>zBF h'
  unfold pW;simp only[e]
 case makeMap t r=>cases r<;>rfl
 case makeSlice t l c=>
  show ev l fr' (fun a=>ev c fr' fun v=>_)=ev l fr (fun a=>ev c fr fun v=>_);rw[zL (x:=l) (h.sub (by simp)),zL (x:=c) (h.sub (by simp))]
def looks (ops:Array Oper) (o:Oper):List Operand:=o.op.operands.toList++(match o.guard with|some (j,_)=>((xE ops j).map Operand.tmp).toList|none=>[])
theorem zFN {ops:Array Oper} {o:Oper} {f:AV->Mem->R} (h:Agree (looks ops o) fr fr'):qI g call ops o fr' m f=qI g call ops o fr m f:=by
 have h1:∀f,opK o.op g call fr' m f=opK o.op g call fr m f:=fun f=>zMw (h.sub fun x hx=>List.mem_append_left _ hx)
 unfold qI;cases hg:o.guard with
 |none=>exact h1 f
 |some jw=>
  obtain⟨j,want⟩:=jw;show zP 0 (xE ops j) (fun d=>fr'.getK d fun c=>iteB (pK want c) (opK o.op g call fr' m f) (f .undef m))=zP 0 (xE ops j) (fun d=>fr.getK d fun c=>iteB (pK want c) (opK o.op g call fr m f) (f .undef m));rw[h1];cases hs:xE ops j with
  |none=>rfl
  |some d=>
   show fr'.getK d _=fr.getK d _;rw[Fr.getK_eq,Fr.getK_eq,h.2 d];simp[looks,hg,hs]
end
open Classical in
noncomputable def zA1 (m m':Mem) (r:R):R:=if m'.next=m.next then(if m'=m then r else .bad 0) else r
theorem yZ {m:Mem} {r:R}:zA1 m m r=r:=by simp[zA1]
theorem zN7 {m m':Mem} {r:R} (h:zA1 m m' r=.ok) (hn:m'.next=m.next):m'=m/\r=.ok:=by
 unfold zA1 at h;rw[if_pos hn] at h;split at h
 ·exact⟨by assumption,h⟩
 ·cases h
def zKU:Builtin->Bool
 | .len| .cap| .max| .min| .unsafeSliceData=>true
 |_=>false
def zFo:Op->Bool
 | .move _| .assign _| .pick ..| .build ..| .load ..| .nilCheck _| .binOp ..| .unOp ..| .convert ..| .makeInterface ..| .makeFunc ..| .slice ..| .fieldAddr ..| .field ..| .indexAddr ..| .index ..| .lookup ..| .typeAssert ..| .extract ..=>true
 | .call {callee:=.builtin b,..}=>zKU b
 |_=>false
section
variable {fr:Fr} {g:G} {m:Mem} {call:yT} {f:AV->Mem->R}
theorem zJY {t:TypeId} {x:AV} {lo hi:Option AV}:zBh g t x lo hi m f=zBh g t x lo hi m (fun v m'=>zA1 m m' (f v m')):=by
 unfold zBh;split<;>try rfl
 ·split<;>try rfl
  congr 1;funext s;unfold zFg;congr 1;funext h;congr 1;funext l;congr 1;congr 1;funext d;split
  ·simp only[yZ]
  ·simp only[yZ,zN]
 ·split<;>try rfl
  simp only[zEF,yZ]
theorem zL1 {t:TypeId} {x h j:AV}:zFF g t x h j m f=zFF g t x h j m (fun v m'=>zA1 m m' (f v m')):=by
 unfold zFF;simp only[yZ]
theorem zKa {s d:TypeId} {x:AV}:zFw g s d x m f=zFw g s d x m (fun v m'=>zA1 m m' (f v m')):=by
 unfold zFw;congr 1;split<;>first|rfl|(simp only[yZ];done)
theorem zMh {o:Op} (h:zFo o=true):opK o g call fr m f=opK o g call fr m (fun v m'=>zA1 m m' (f v m')):=by
 cases o<;>first|(cases h;done)|skip
 case slice t x lo hi mx=>
  show iteB (Option.isNone mx) (ev x fr fun x=>evo lo fr fun lo=>evo hi fr fun hi=>zBh g t x lo hi m f) (ifB 0 (Option.isNone lo) (ev x fr fun x=>evo hi fr fun h=>evo mx fr fun j=>zP 0 h fun h=>zP 0 j fun j=>zFF g t x h j m f))=
   iteB (Option.isNone mx) (ev x fr fun x=>evo lo fr fun lo=>evo hi fr fun hi=>zBh g t x lo hi m _) (ifB 0 (Option.isNone lo) (ev x fr fun x=>evo hi fr fun h=>evo mx fr fun j=>zP 0 h fun h=>zP 0 j fun j=>zFF g t x h j m _))
  congr 1
  ·congr 1
   funext x;congr 1;funext lo;congr 1;funext hi;exact zJY
  ·congr 2
   funext x;congr 1;funext h;congr 1;funext j;congr 1;funext h;congr 1;funext j;exact zL1
 case convert s d x=>
  show ev x fr (fun x=>zFw g s d x m f)=ev x fr (fun x=>zFw g s d x m _);congr 1;funext x;exact zKa
 case call c=>
  obtain⟨callee,cargs,ats⟩:=c;cases callee<;>first|(cases h;done)|skip
  rename_i b;show evs cargs.toList fr (fun args=>zAg g b ats.toList args m f)=evs cargs.toList fr (fun args=>zAg g b ats.toList args m (fun v m'=>zA1 m m' (f v m')));congr 1;funext args;cases b<;>first|(cases h;done)|(unfold zAg;simp only[yZ];done)|skip
 case field t x i=>
  show ev x fr _=ev x fr _;congr 1;funext v;cases v<;>first|rfl|skip
  show zP 0 (zBe g t i) _=zP 0 (zBe g t i) _;simp only[yZ]
 case extract x i=>
  show ev x fr _=ev x fr _;congr 1;funext v;cases v<;>first|rfl|skip
  show zJi _ i _=zJi _ i _;simp only[yZ]
 all_goals (unfold opK;simp only[yZ])
theorem zLA {ops:Array Oper} {o:Oper} (h:zFo o.op=true):qI g call ops o fr m f=qI g call ops o fr m (fun v m'=>zA1 m m' (f v m')):=by
 have h1:=zMh (fr:=fr) (g:=g) (m:=m) (call:=call) (f:=f) h;unfold qI;cases hg:o.guard with
 |none=>exact h1
 |some jw=>
  obtain⟨j,want⟩:=jw;show zP 0 (xE ops j) (fun d=>fr.getK d fun c=>iteB (pK want c) (opK o.op g call fr m f) (f .undef m))=zP 0 (xE ops j) (fun d=>fr.getK d fun c=>iteB (pK want c) (opK o.op g call fr m _) (zA1 m m (f .undef m)));rw[<-h1,yZ]
end
noncomputable def part (fr:Fr) (xs:List Operand):Fr:=
 ⟨xs.foldr (fun x l=>match x with| .tmp t=>(match fr.find t with|some v=>.cons t v l|none=>l)|_=>l) .nil,.nil 8,fr.n,fr.ng⟩
theorem zEo {fr:Fr}:∀ {xs:List Operand} {t:Nat} {v:AV},(part fr xs).find t=some v->fr.find t=some v/\Operand.tmp t∈xs
 |[],t,v,h=>by simp[part,Fr.find,Log.find,T.find] at h
 |x::xs,t,v,h=>by
  have ih:=zEo (fr:=fr) (xs:=xs) (t:=t) (v:=v);simp only[part,Fr.find,T.find,Option.or_none,List.foldr_cons] at h ih ⊢;cases x with
  |tmp u=>
   simp only at h;cases hu:fr.find u with
   |none=>
    simp only[Fr.find] at hu;rw[hu] at h;obtain⟨h1,h2⟩:=ih h;exact⟨h1,rE _ h2⟩
   |some w=>
    have hu':=hu;simp only[Fr.find] at hu';rw[hu'] at h;simp only[Log.find] at h;split at h
    ·rename_i e
     subst e;injection h with h
     subst h;exact⟨hu',by simp⟩
    ·obtain⟨h1,h2⟩:=ih h
     exact⟨h1,rE _ h2⟩
  |const _=>obtain⟨h1,h2⟩:=ih h;exact⟨h1,rE _ h2⟩
  |global _=>obtain⟨h1,h2⟩:=ih h;exact⟨h1,rE _ h2⟩
  |func _=>obtain⟨h1,h2⟩:=ih h;exact⟨h1,rE _ h2⟩
theorem zHm {fr:Fr}:∀ {xs:List Operand} {t:Nat},Operand.tmp t∈xs->(part fr xs).find t=fr.find t
 |[],t,h=>by cases h
 |x::xs,t,h=>by
  have ih:=zHm (fr:=fr) (xs:=xs) (t:=t);have key:∀u v,x=.tmp u->fr.find u=some v->(part fr (x::xs)).find t=if u=t then some v else(part fr xs).find t:=fun u v e hv=>by
   subst e;simp only[part,Fr.find,T.find,Option.or_none,List.foldr_cons] at hv ⊢;rw[hv];rfl
  have skip:(∀u,x=.tmp u->fr.find u=none)->(part fr (x::xs)).find t=(part fr xs).find t:=fun h0=>by
   simp only[part,Fr.find,T.find,Option.or_none,List.foldr_cons] at h0 ⊢;cases x with
   |tmp u=>simp only[h0 u rfl]
   |_=>rfl
  rcases List.mem_cons.1 h with e|h'
  ·cases hv:fr.find t with
   |some v=>rw[key t v e.symm hv,if_pos rfl]
   |none=>
    rw[skip fun u hu=>by rw[<-e] at hu;injection hu with hu;subst hu;exact hv];cases hp:(part fr xs).find t with
    |none=>rfl
    |some v=>rw[(zEo hp).1] at hv;cases hv
  ·cases x with
   |tmp u=>
    cases hu:fr.find u with
    |none=>rw[skip fun u' e=>by injection e with e;subst e;exact hu];exact ih h'
    |some v=>
     rw[key u v rfl hu];split
     ·rename_i e;subst e;exact hu.symm
     ·exact ih h'
   |_=>rw[skip fun u e=>by cases e];exact ih h'
theorem zD1 {fr:Fr} {xs:List Operand}:Agree xs fr (part fr xs):=⟨rfl,fun _ ht=>zHm ht⟩
section
variable {P:Program} {F:Fence} {n:Nat} {Q:Exit->Act->World->Prop} {g:G} {call:yT} {mask:Nat} {ops:Array Oper} {o:Oper} {ι:Inj} {m:Mem} {w:World} {a:Act} {fr:Fr}
structure Seen (P:Program) (ι:Inj) (fr:Fr) (a:Act) (xs:List Operand):Prop where
 size:a.tmps.size=fr.n
 ng:fr.ng<=P.globals.size
 val:∀t x,Operand.tmp t∈xs->fr.find t=some x->∃V,conc ι x=some V/\a.tmps[t]? =some V
theorem Seen.part {xs:List Operand} (h:Seen P ι fr a xs):xI P ι (part fr xs) 0 a.tmps:=
 ⟨h.size,h.ng,fun k x hx=>by simp[AM.part,T.find] at hx,fun k x hx=>let⟨h1,h2⟩:=zEo hx;h.val k x h2 h1⟩
theorem zJI (hg:GOk P g) (hflat:∀t,g.isFlat t=true->Flat P t) (hc:xY P call) (hF:Wide F) {i:Nat} (hi:ops[i]? =some o) (hr:Rel P ι m w) (hs:Seen P ι fr a (looks ops o)) {f:AV->Mem->R}
  (h:qI g call ops o fr m f=.ok):wpOpIn F n P ops Q i (fun a' w'=>∃V v ι' m',a'=a.put o.dst V/\f v m'=.ok/\Step P ι m w ι' m' w'/\conc ι' v=some V) a w:=by
 rw[<-zFN zD1] at h;have hf:=hs.part;generalize AM.part fr (looks ops o)=fr at h hf;have hab:∀fid,o.about P w a.eval=some fid->F.fn fid:=fun _ _=>hF.fn _
 have run:opK o.op g call fr m f=.ok->o.wpIn F n P a w (fun a' w'=>∃V v ι' m',a'=a.put o.dst V/\f v m'=.ok/\Step P ι m w ι' m' w'/\conc ι' v=some V) Q:=fun h0=>by
  have hsem:o.semAt F.round a.eval=execOp a.eval o:=Oper.semAt_eq _ _ _ fun c hd=>by rw[hd] at h0;cases h0
  refine⟨hab,?_⟩;rw[hsem];exact zNR (n:=n) (Q:=Q) hg hflat hc hF hr hf h0
 unfold wpOpIn;rw[hi];cases hgd:o.guard with
 |none=>
  have hw:Region.wanted o (yielded ops a.tmps)=true:=by simp[Region.wanted,hgd]
  simp only[hw,if_true];unfold qI at h;rw[hgd] at h;exact run h
 |some jw=>
  obtain⟨j,want⟩:=jw;unfold qI at h;rw[hgd] at h;obtain⟨d,h1,h2⟩:=zF (h:zP 0 (xE ops j) _=.ok);obtain⟨c,h3,h4⟩:=Fr.getK_ok h2;obtain⟨V,h5,h6⟩:=hf.val d c h3;have hw:Region.wanted o (yielded ops a.tmps)=pK want c:=by
   simp only[Region.wanted,hgd];exact zFL h5 h1 h6
  rw[zV] at h4;simp only[hw];split at h4<;>rename_i hcw
  ·rw[if_pos hcw];exact run h4
  ·rw[if_neg hcw]
   exact⟨hab,undef,.undef,ι,m,rfl,h4,.refl hr,by simp[AV.undef,conc,concL,undef]⟩
theorem zNL (hg:GOk P g) (hflat:∀t,g.isFlat t=true->Flat P t) (hc:xY P call) (hF:Wide F) {j:Nat} (hj:ops[j]? =some o) (hp:zFo o.op=true) (hr:Rel P ι m w) (hs:Seen P ι fr a (looks ops o))
  (h:zAy g call ops j fr m=.ok):∃d v,o.dst=some d/\fr.find d=some v/\wpOpIn F n P ops Q j (fun a' w'=>∃V ι',a'=a.put (some d) V/\Step P ι m w ι' m w'/\conc ι' v=some V) a w:=by
 obtain⟨o',h1,h2⟩:=zF h;rw[hj] at h1;injection h1 with h1;subst h1
 obtain⟨d,h3,h4⟩:=zF h2;obtain⟨v,h5,h6⟩:=Fr.getK_ok h4;refine⟨d,v,h3,h5,?_⟩;rw[zLA hp] at h6;refine wpOpIn_mono (fun a' w' ⟨V,v',ι',m',e,h7,h8,h9⟩=>?_) (zJI (n:=n) (Q:=Q) hg hflat hc hF hj hr hs h6);have hn:m'.next=m.next:=by
  unfold zA1 at h7;split at h7
  ·assumption
  ·obtain⟨_,h10⟩:=zB h7
   exact rA (zB h10).1
 obtain⟨rfl,h10⟩:=zN7 h7 hn;obtain⟨h11,_⟩:=zB h10;have:=zDR 5 _ _ h11;subst this;rw[h3] at e;exact⟨V,ι',e,h8,h9⟩
theorem zE4 {l:List AV} {L:List Value} {C:Array Value} {e:TypeId} (hL:concL ι l=some L) (hC:C=L.toArray):∀(ι':Inj) (c:Nat) (w':World),ι.le ι'->w'.heap[c]? =some (.cells C e)->xX P ι' ⟨c,0,0,0⟩ (.cells l e false 0) w':=by
 subst hC;intro ι' c w' hle hc;refine⟨L.toArray,e,(0,0),L,hc,vU hle hL,fun i hi=>by simp,fun h=>(by cases h),fun _=>⟨rfl,fun _=>⟨rfl,by simpa using zG hL⟩,fun h=>(by cases h),fun _=>rfl,fun _=>.inl rfl,fun h=>(by cases h)⟩⟩
def Makes (P:Program) (ι:Inj) (w:World) (E:Blk->AK->R) (r:Result Value):Prop:=
 ∃(x:Blk) (k:AK) (O:Obj) (MK:Nat->Value),E x k=.ok/\r=.ok (MK w.heap.size) {w with heap:=w.heap.push O}/\(∀(ι':Inj) (c:Nat) (w':World),ι.le ι'->w'.heap[c]? =some O->xX P ι' ⟨c,0,0,0⟩ x w')/\∀(ι':Inj) (b c:Nat),ι' b=some ⟨c,0,0,0⟩->conc ι' (zIM k b)=some (MK c)
theorem zEA {e:TypeId} {v:AV} {V:Value} {E:Blk->AK->R} (hv:conc ι v=some V) (h:E (.cells v.cells e false 0) .ptr=.ok):Makes P ι w E ((do pure (.pointer (some (<- newVar e V))):Sem Value).run P w):=by
 refine⟨_,_,.cells V.cells e,fun c=>.pointer (some ⟨c,0,none⟩),h,by simp[newVar,newRow],zE4 (xO hv) (by simp),fun ι' b c hb=>by simp[zIM,conc,hb]⟩
section
variable {t:TypeId} {act:Act}
theorem zEh (hg:GOk P g) (hr:Rel P ι m w) (hf:xI P ι fr mask act.tmps) {n:Nat} {parts:Array (Nat×Operand)} {E:Blk->AK->R} (h:(match g.desc t with
  | .slice e=>zP 0 (g.size e) fun s=>ifB 0 (Nat.ble 1 s) (ifB 0 (Nat.ble (Nat.mul n s) 16777216) (zP 0 (g.zero e) fun z=>zAV z.cells fun k=>ifB 0 (Nat.beq k s) (zDp z.cells n fun zs=>
    pP (fun i=>some (Nat.mul i s,s)) fr parts.toList zs fun l=>E (.cells l e false 0) (.sl n n))))
  |_=>.bad 0)=.ok):Makes P ι w E ((Instr.buildSlice t n (parts.map fun(i,x)=>(i,act.eval x))).run P w):=by
 split at h<;>first|(cases h;done)|skip
 rename_i e hd;have hu:=hg.run_desc hd (by simp) w;obtain⟨s,h1,h2⟩:=zF h;obtain⟨h3,h4⟩:=zB h2;obtain⟨h5,h6⟩:=zB h4;obtain⟨z,h7,h8⟩:=zF h6;rw[xR] at h8;obtain⟨h9,h10⟩:=zB h8;rw[zAt] at h10;have hs:=hg.run_size h1 w;obtain⟨Z,k1,k2⟩:=G.zero_ok hg (ι:=ι) h7 w;have hz:=xO k2;have hzl:=zG hz;have hzs:=rA h9;have h1s:=rD h3;simp only[rN] at hzl;have hmany:∀n,concL ι (rH n z.cells).flatten=some (rH n Z.cells.toList).flatten:=fun n=>by
  induction n with
  |zero=>simp[concL]
  |succ n ih=>simp only[List.replicate_succ,List.flatten_cons];exact yC hz ih
 obtain⟨zero,hzero,hrow⟩:∃zero:Array Value,((if n*s=0 then pure #[] else do pure (<- zeroValue e).cells:Sem (Array Value)).run P w=.ok zero w)/\
   ((Array.range (n*s)).map (fun i=>zero[i % zero.size]!)).toList=(rH n Z.cells.toList).flatten:=by
  by_cases hn:n*s=0
  ·refine⟨#[],by simp[hn],?_⟩
   have:n=0:=by
    rcases Nat.mul_eq_zero.1 hn with h|h
    ·exact h
    ·omega
   simp[this]
  ·refine⟨Z.cells,by simp[hn,k1],?_⟩
   have:=zDy Z.cells n (by omega);rw[<-this,show Z.cells.size=s by omega]
 obtain⟨l,L,j1,j2,j3⟩:=zCS hr hf (CS:=(Array.range (n*s)).map (fun i=>zero[i % zero.size]!)) (by rw[hrow];exact hmany n) h10;refine⟨_,_,.cells L.toArray e,fun c=>.slice (some ⟨c,0,none⟩) n n,j1,?_,zE4 j2 rfl,fun ι' b c hb=>by simp[zIM,conc,hb]⟩;have hparts:(parts.map fun(i,x)=>(i,act.eval x)).toList=parts.toList.map fun p=>(p.1,act.eval p.2):=by simp
 have hlim:¬(n*s>16777216):=by have:=rD h5;simp at this;omega
 have j3':Instr.fill (fun i=>some (i*s,s)) ((Array.range (n*s)).map fun i=>zero[i % zero.size]!) (parts.toList.map fun p=>(p.1,act.eval p.2))=some L.toArray:=j3;by_cases hn:n*s=0
 ·have hz0:zero= #[]:=by
   rw[if_pos hn] at hzero
   simpa using hzero.symm
  subst hz0;simp only[Instr.buildSlice,rJ,hu,rG,hs,Sem.run_ite,hlim,if_false,hparts,if_pos hn,rI];rw[j3'];rfl
 ·have hz0:zero=Z.cells:=by
   rw[if_neg hn] at hzero
   simpa[k1] using hzero.symm
  subst hz0;simp only[Instr.buildSlice,rJ,hu,rG,hs,Sem.run_ite,hlim,if_false,hparts,if_neg hn,k1,rI];rw[j3'];rfl
theorem zFT (hg:GOk P g) {u v:AV} {A B:Value} (hl:conc ι u=some A) (hc':conc ι v=some B) {E:Blk->AK->R} (h:(match g.desc t with
  | .slice e=>p8 u fun l=>p8 v fun c=>ifB 0 (Nat.ble l c) (ifB 0 (Nat.ble c 1048576) (zP 0 (g.size e) fun s=>ifB 0 (Nat.ble 1 s) (zP 0 (g.zero e) fun z=>zAV z.cells fun k=>ifB 0 (Nat.beq k s) (zP 0 (g.info e) fun ie=>ifB 0 (Nat.ble (Nat.mul ie.bytes c) 281474976710656) (zDp z.cells c fun zs=>E (.cells zs e false 0) (.sl l c))))))
  |_=>.bad 0)=.ok):Makes P ι w E ((Instr.makeSlice t A B).run P w):=by
 split at h<;>first|(cases h;done)|skip
 rename_i e hd;have hu:=hg.run_desc hd (by simp) w;obtain⟨k,l,rfl,h1⟩:=vB h;obtain⟨j,c,rfl,h2⟩:=vB h1;obtain⟨h3,h4⟩:=zB h2;obtain⟨h5,h6⟩:=zB h4;obtain⟨s,h7,h8⟩:=zF h6;obtain⟨h9,h10⟩:=zB h8;obtain⟨z,h11,h12⟩:=zF h10;rw[xR] at h12;obtain⟨h13,h14⟩:=zB h12;obtain⟨ie,h15,h16⟩:=zF h14;obtain⟨h17,h18⟩:=zB h16;rw[zAt] at h18;have hs:=hg.run_size h7 w;have hi:=hg.info h15;obtain⟨Z,k1,k2⟩:=G.zero_ok hg (ι:=ι) h11 w;have hz:=xO k2;have hzl:=zG hz;have hzs:=rA h13;have hs1:=rD h9;have hlc:=rD h3;have hc:=rD h5;have hby:=rD h17;simp only[rN] at hzl;rw[z7 hl,z7 hc'];refine⟨_,_,.cells (rH c Z.cells.toList).flatten.toArray e,fun d=>.slice (some ⟨d,0,none⟩) l c,h18,?_,zE4 (zBz hz c) rfl,fun ι' b d hb=>by simp[zIM,conc,hb]⟩;have hw1:IntKind.i64.wrap (l:Int)=l:=zAk (by omega) (by omega);have hw2:IntKind.i64.wrap (c:Int)=c:=zAk (by omega) (by omega);have hb1:¬((ie.bytes:Int)*(c:Int)>2 ^ 48):=by
  have h0:((ie.bytes*c:Nat):Int)<=((281474976710656:Nat):Int):=Int.ofNat_le.2 hby
  rw[Int.natCast_mul] at h0;have h1:((281474976710656:Nat):Int)=2 ^ 48:=by decide
  rw[h1] at h0;exact Int.not_lt.2 h0
 have hcond:((decide ((c:Int)<0)||decide ((ie.bytes:Int)*(c:Int)>2 ^ 48))||decide ((l:Int)<0)||decide ((l:Int)>(c:Int)))=false:=by
  simp only[Bool.or_eq_false_iff,decide_eq_false_iff_not];exact⟨⟨⟨by omega,hb1⟩,by omega⟩,by omega⟩
 have hrow:∀zero:Array Value,(c*s=0->zero= #[])->(c*s≠0->zero=Z.cells)->((Array.range (c*s)).map (fun i=>zero[i % zero.size]!))=(rH c Z.cells.toList).flatten.toArray:=fun zero e1 e2=>by
  apply Array.toList_inj.1;by_cases hn:c*s=0
  ·have:c=0:=by
    rcases Nat.mul_eq_zero.1 hn with h|h
    ·exact h
    ·omega
   simp[this]
  ·rw[e2 hn]
   have:=zDy Z.cells c (by omega);rw[<-this,show Z.cells.size=s by omega]
 simp only[Instr.makeSlice,rJ,hu,rG,asInt,asIntOf,rI,typeInfo,run_program,hi,hw1,hw2,Sem.run_ite,hcond,Bool.false_eq_true,if_false,run_askRoom,hs,Int.toNat_natCast];by_cases hn:c*s=0
 ·rw[if_pos hn]
  rw[hrow #[] (fun _=>rfl) (fun h=>absurd hn h)];rfl
 ·rw[if_neg hn,k1]
  simp only[rG];rw[hrow Z.cells (fun h=>absurd h hn) (fun _=>rfl)];rfl
theorem zKk (hg:GOk P g) (hr:Rel P ι m w) (hf:xI P ι fr mask act.tmps) {E:Blk->AK->R} (h:pW o.op g fr E=.ok):
  ∃s:Sem Value,execOp act.eval o=(do pure (.value (<- s)))/\Makes P ι w E (s.run P w):=by
 have evk:∀ {x:Operand} {k:AV->R},ev x fr k=.ok->∃v,k v=.ok/\conc ι v=some (act.eval x):=fun h=>zCa hr hf h
 cases hop:o.op<;>rw[hop] at h<;>first|(cases h;done)|simp only[execOp,hop]
 case alloc e=>
  obtain⟨z,h1,h2⟩:=zF (h:zP 0 (g.zero e) _=.ok);obtain⟨Z,k1,k2⟩:=G.zero_ok hg (ι:=ι) h1 w;refine⟨_,rfl,?_⟩;have:=zEA (P:=P) (w:=w) k2 h2
  simpa[Instr.alloc,k1] using this
 case box e x=>
  obtain⟨v,h1,h2⟩:=evk (h:ev x fr _=.ok);exact⟨_,rfl,zEA h2 h1⟩
 case buildSlice t n ps=>exact⟨_,rfl,zEh hg hr hf h⟩
 case makeMap t r=>
  cases r<;>first|(cases h;done)|skip
  refine⟨_,rfl,_,_,.map #[] 0,fun c=>.map (some c),h,by simp[Instr.makeMap,newObj];rfl,fun ι' c w' _ hc=>⟨#[],hc,trivial,rfl⟩,fun ι' b c hb=>by simp[zIM,conc,hb]⟩
 case makeSlice t l c=>
  obtain⟨u,h1,h2⟩:=evk (h:ev l fr _=.ok);obtain⟨v,h3,h4⟩:=evk h1;exact⟨_,rfl,zFT hg h2 h4 h3⟩
end
end
def zC:DStep->Nat
 | .pure i=>i
 | .alloc i=>i
 | .eff i _ _=>i
 | .two i _ _ _=>i
def xC:DStep->Bool
 | .eff _ _ _=>false
 | .two _ _ _ _=>false
 |_=>true
def zEg (ops:Array Oper) (i:Nat):Bool:=match ops[i]? with|some o=>(match o.op with| .store _ _ _=>true|_=>false)&&o.guard.isNone&&o.dst.isNone|none=>false
def zM9 (ops:Array Oper) (i:Nat):Bool:=match ops[i]? with|some o=>(match o.op with| .indexAddr _ _ _=>true|_=>false)&&o.guard.isNone&&o.dst.isSome|none=>false
def zFc (ops:Array Oper) (i:Nat) (l:List Nat):Bool:=match ops[i]? with|some o=>o.after.toList.all (fun e=>!Region.binds .any e||l.contains e.on)|none=>false
def zPg:Op->Bool
 | .alloc _| .box ..| .buildSlice ..| .makeSlice ..=>true
 | .makeMap _ none=>true
 |_=>false
def masks (ops:Array Oper):Array Nat:=Region.before ops
def anc (M:Array Nat) (j i:Nat):Bool:=(M.getD j 0).testBit i
def zNw (xs:List Operand):List Tmp:=xs.filterMap fun| .tmp t=>some t|_=>none
def zGN (ops:Array Oper) (i:Nat):List Tmp:=match ops[i]? with|some o=>zNw (looks ops o)|none=>[]
def zEx (ops:Array Oper) (i:Nat):Option Tmp:=(ops[i]?).bind (·.dst)
def zBM (ops:Array Oper) (M:Array Nat) (pre:List DStep) (s:DStep) (post:List DStep):Bool:=
 (match zEx ops (zC s) with
  |none=>true
  |some d=>pre.all fun p=>!xC p|| !(zGN ops (zC p)).contains d||(!xC s&&anc M (zC s) (zC p)))&&
 (match s with
  | .pure i=>(match ops[i]? with|some o=>zFo o.op&&o.dst.isSome|none=>false)
  | .alloc i=>(match ops[i]? with|some o=>zPg o.op&&o.dst.isSome&&o.guard.isNone|none=>false)
  | .eff i ins chk=>post.all (fun p=>anc M (zC p) i)&&(pre.all fun p=>match p with| .pure j=>chk.contains j||anc M i j|_=>true)&&ins.all fun j=>anc M i j
  | .two i j ins chk=>(match post with| .eff j' [] _::post=>Nat.beq j j'&&post.all (fun p=>anc M (zC p) i)|_=>false)&&
   (pre.all fun p=>match p with| .pure x=>(chk.contains x||anc M i x)&&(anc M j x||(zM9 ops x&&zFc ops x (pre.map zC)))| .alloc x=>anc M i x&&anc M j x|_=>true)&&
   (ins.all fun x=>anc M i x&&anc M j x)&&zEg ops i&&zEg ops j&&zFc ops i (pre.map zC))
def zF6 (ops:Array Oper) (M:Array Nat):List DStep->List DStep->Bool
 |_,[]=>true
 |pre,s::post=>zBM ops M pre s post&&zF6 ops M (s::pre) post
def zII:List Nat->Bool
 |[]=>true
 |x::l=>!l.contains x&&zII l
def zGb (ops:Array Oper) (S:List DStep):Bool:=
 let M:=masks ops
 let ix:=S.map zC
 (ops.toList.zipIdx.all fun(o,i)=>o.after.toList.all fun e=>!Region.binds .any e||Nat.blt e.on i)&&
 ((List.range ops.size).all fun i=>ix.contains i)&&zII ix&&
 (S.all fun s=>!xC s||(match zEx ops (zC s) with
  |none=>false
  |some d=>(List.range ops.size).all fun i=>(Nat.beq i (zC s)||zEx ops i !=some d)&&(!(zGN ops i).contains d||anc M i (zC s))))&&
 zF6 ops M [] S&&(S.all fun s=>Nat.blt (zC s) ops.size)
structure zBS (ops:Array Oper) (S:List DStep):Prop where
 back:∀(i:Nat) (o:Oper),ops[i]? =some o->∀e∈o.after,Region.binds .any e=true->e.on<i
 cover:∀i,i<ops.size->i∈S.map zC
 nodup:(S.map zC).Nodup
 pureOk:∀i,DStep.pure i∈S->∃o d,ops[i]? =some o/\zFo o.op=true/\o.dst=some d
 allocOk:∀i,DStep.alloc i∈S->∃o d,ops[i]? =some o/\o.dst=some d/\o.guard=none
 uniq:∀s∈S,xC s=true->∀(i:Nat) (oi oj:Oper) (d:Tmp),i≠zC s->ops[i]? =some oi->ops[zC s]? =some oj->oj.dst=some d->oi.dst≠some d
 seen:∀s∈S,xC s=true->∀(i:Nat) (oi oj:Oper) (d:Tmp),ops[i]? =some oi->ops[zC s]? =some oj->oj.dst=some d->Operand.tmp d∈looks ops oi->anc (masks ops) i (zC s)=true
 free:∀pre s post,S=pre++s::post->∀p∈pre,xC p=true->∀(os op:Oper) (d:Tmp),ops[zC s]? =some os->ops[zC p]? =some op->os.dst=some d->Operand.tmp d∈looks ops op->xC s=false/\anc (masks ops) (zC s) (zC p)=true
 after:∀pre i ins chk post,S=pre++.eff i ins chk::post->∀p∈post,anc (masks ops) (zC p) i=true
 anew:∀pre i ins chk post,S=pre++.eff i ins chk::post->∀j,DStep.pure j∈pre->j∈chk∨anc (masks ops) i j=true
 ins:∀pre i ins chk post,S=pre++.eff i ins chk::post->∀j∈ins,anc (masks ops) i j=true
 low:∀s∈S,zC s<ops.size
 two:∀pre i j ins chk post,S=pre++.two i j ins chk::post->(∃chk2 post',post=.eff j [] chk2::post'/\∀p∈post',anc (masks ops) (zC p) i=true)/\
  (∀x,DStep.pure x∈pre->(x∈chk∨anc (masks ops) i x=true)/\(anc (masks ops) j x=true∨(zM9 ops x=true/\∀o,ops[x]? =some o->∀e∈o.after,Region.binds .any e=true->e.on∈pre.map zC)))/\
  (∀x,DStep.alloc x∈pre->anc (masks ops) i x=true/\anc (masks ops) j x=true)/\
  (∀x∈ins,anc (masks ops) i x=true/\anc (masks ops) j x=true)/\zEg ops i=true/\zEg ops j=true/\∀o,ops[i]? =some o->∀e∈o.after,Region.binds .any e=true->e.on∈pre.map zC
theorem zKo {xs:List Operand}{t:Tmp} (h:Operand.tmp t∈xs):t∈zNw xs:=List.mem_filterMap.2 ⟨_,h,rfl⟩
theorem zFm {ops:Array Oper} {M:Array Nat}:∀ {S acc:List DStep},zF6 ops M acc S=true->∀ {pre:List DStep} {s:DStep} {post:List DStep},S=pre++s::post->zBM ops M (pre.reverse++acc) s post=true
 |[],acc,_,pre,s,post,e=>by cases pre<;>cases e
 |x::S,acc,h,pre,s,post,e=>by
  simp only[zF6,rB] at h;cases pre with
  |nil=>
   simp only[List.nil_append,List.cons.injEq] at e;obtain⟨rfl,rfl⟩:=e
   simpa using h.1
  |cons y pre=>
   simp only[List.cons_append,List.cons.injEq] at e;obtain⟨rfl,rfl⟩:=e;have:=zFm h.2 (pre:=pre) (s:=s) (post:=post) rfl
   simpa using this
theorem zH1:∀ {l:List Nat},zII l=true->l.Nodup
 |[],_=>List.nodup_nil
 |x::l,h=>by
  simp only[zII,rB,Bool.not_eq_true',List.contains_eq_mem,decide_eq_false_iff_not] at h;exact List.nodup_cons.2 ⟨h.1,zH1 h.2⟩
theorem zHQ {i:Nat}{d:Tmp} (h:ops[i]? =some o) (hd:Operand.tmp d∈looks ops o):(zGN ops i).contains d=true:=by
 unfold zGN;rw[h]
 simpa using zKo hd
theorem zBa {i:Nat} (h:ops[i]? =some o):zEx ops i=o.dst:=by simp[zEx,h]
theorem z8 {α:Type} {a:Array α}{i:Nat} {x:α} (h:a[i]? =some x):i<a.size:=by
 rcases rO i a.size with h'|h'
 ·exact h'
 ·rw[rM h'] at h;cases h
theorem zN6 {S:List DStep} (h:zGb ops S=true):zBS ops S:=by
 simp only[zGb,rB] at h;obtain⟨⟨⟨⟨⟨h1,h2⟩,h3⟩,h4⟩,h5⟩,h6⟩:=h;have step:∀ {pre s post},S=pre++s::post->zBM ops (masks ops) (pre.reverse++[]) s post=true:=fun e=>zFm h5 e
 have hst:∀s∈S,∃pre post,S=pre++s::post:=fun s hs=>by
  obtain⟨pre,post,e⟩:=List.append_of_mem hs;exact⟨pre,post,e⟩
 have hoist:∀s∈S,xC s=true->∀oj d,ops[zC s]? =some oj->oj.dst=some d->∀i,i<ops.size->(Nat.beq i (zC s)||zEx ops i !=some d)=true/\(!(zGN ops i).contains d||anc (masks ops) i (zC s))=true:=fun s hs hh oj d hj hd i hi=>by
  have:=List.all_eq_true.1 h4 s hs;rw[hh,zBa hj,hd] at this;simp only[Bool.not_true,Bool.false_or] at this;have:=List.all_eq_true.1 this i (by simpa using hi)
  simpa only[rB] using this
 refine⟨fun i o hi e he hb=>?_,fun i hi=>?_,zH1 h3,fun i hi=>?_,fun i hi=>?_,fun s hs hh i oi oj d hne hi hj hd hc=>?_,fun s hs hh i oi oj d hi hj hd hl=>?_,fun pre s post e p hp hh os op d hs hop hd hl=>?_,fun pre i ins chk post e p hp=>?_,
  fun pre i ins chk post e j hj=>?_,fun pre i ins chk post e j hj=>?_,fun s hs=>by simpa[Nat.blt_eq] using List.all_eq_true.1 h6 s hs,fun pre i j ins chk post e=>?_⟩
 ·have hmem:(o,i)∈ops.toList.zipIdx:=by
   rw[List.mem_zipIdx_iff_getElem?]
   simpa using hi
  have:=List.all_eq_true.1 h1 _ hmem;have:=List.all_eq_true.1 this e (by simpa using he);rw[hb] at this
  simpa[Nat.blt_eq] using this
 ·have:=List.all_eq_true.1 h2 i (by simpa using hi)
  simpa using this
 ·obtain⟨pre,post,e⟩:=hst _ hi
  have:=step e;simp only[zBM,rB] at this;have:=this.2;split at this
  ·rename_i o ho
   simp only[rB,Option.isSome_iff_exists] at this;obtain⟨a,d,b⟩:=this;exact⟨o,d,ho,a,b⟩
  ·cases this
 ·obtain⟨pre,post,e⟩:=hst _ hi
  have:=step e;simp only[zBM,rB] at this;have:=this.2;split at this
  ·rename_i o ho
   simp only[rB,Option.isSome_iff_exists] at this;obtain⟨⟨a,d,b⟩,c⟩:=this;exact⟨o,d,ho,b,by simpa using c⟩
  ·cases this
 ·have:=(hoist s hs hh oj d hj hd i (z8 hi)).1
  rw[zBa hi,hc] at this;simp only[bne_self_eq_false,Bool.or_false] at this;exact hne (rA this)
 ·have:=(hoist s hs hh oj d hj hd i (z8 hi)).2
  rw[zHQ hi hl] at this
  simpa using this
 ·have:=step e
  simp only[zBM,rB] at this;have:=this.1;rw[zBa hs,hd] at this;have:=List.all_eq_true.1 this p (by simpa using hp);rw[hh,zHQ hop hl] at this
  simpa using this
 ·have:=step e
  simp only[zBM,rB] at this;exact List.all_eq_true.1 this.2.1.1 p hp
 ·have:=step e
  simp only[zBM,rB] at this;have:=List.all_eq_true.1 this.2.1.2 (.pure j) (by simpa using hj)
  simpa using this
 ·have:=step e
  simp only[zBM,rB] at this;exact List.all_eq_true.1 this.2.2 j hj
 ·have:=step e
  simp only[zBM,rB] at this;obtain⟨⟨⟨⟨⟨k1,k2⟩,k3⟩,k4⟩,k5⟩,k6⟩:=this.2;have hpreds:∀ {x},zFc ops x ((pre.reverse++[]).map zC)=true->∀o,ops[x]? =some o->∀e∈o.after,Region.binds .any e=true->e.on∈pre.map zC:=fun {x} k6 o ho e' he hb=>by
   unfold zFc at k6;rw[ho] at k6;have:=List.all_eq_true.1 k6 e' (by simpa using he);rw[hb] at this
   simpa using this
  refine⟨?_,fun x hx=>?_,fun x hx=>?_,fun x hx=>?_,k4,k5,hpreds k6⟩
  ·split at k1
   ·rename_i j' chk2 post'
    simp only[rB] at k1;exact⟨chk2,post',by rw[rA k1.1],fun p hp=>List.all_eq_true.1 k1.2 p hp⟩
   ·cases k1
  ·have:=List.all_eq_true.1 k2 (.pure x) (by simpa using hx)
   simp only[rB,Bool.or_eq_true] at this;exact⟨by simpa using this.1,this.2.imp_right fun h=>⟨h.1,hpreds h.2⟩⟩
  ·have:=List.all_eq_true.1 k2 (.alloc x) (by simpa using hx)
   simpa using this
  ·simpa using List.all_eq_true.1 k3 x hx
theorem zHZ {acc:Array Nat}{i:Nat}:∀ {l:List Edge} {s:Nat},(l.foldl (fun s e=>if Region.binds .any e then s ||| 2 ^ e.on ||| acc.getD e.on 0 else s) s).testBit i=true->
  s.testBit i=true∨∃e∈l,Region.binds .any e=true/\(e.on=i∨(acc.getD e.on 0).testBit i=true)
 |[],s,h=>.inl h
 |e::l,s,h=>by
  rcases zHZ (l:=l) h with h|⟨e',h1,h2⟩
  ·dsimp only at h
   by_cases hb:Region.binds .any e=true
   ·rw[if_pos hb,Nat.testBit_or,Nat.testBit_or,Nat.testBit_two_pow,Bool.or_eq_true,Bool.or_eq_true] at h
    rcases h with(h|h)|h
    ·exact .inl h
    ·exact .inr ⟨e,rL ..,hb,.inl (by simpa using h)⟩
    ·exact .inr ⟨e,rL ..,hb,.inr h⟩
   ·rw[if_neg hb] at h;exact .inl h
  ·exact .inr ⟨e',rE _ h1,h2⟩
def vE (acc:Array Nat) (o:Oper):Array Nat:=acc.push (o.after.foldl (fun s e=>if Region.binds .any e then s ||| 2 ^ e.on ||| acc.getD e.on 0 else s) 0)
theorem zDU:∀ {l:List Oper} {acc:Array Nat} {k:Nat},k<acc.size->(l.foldl vE acc)[k]? =acc[k]?
 |[],_,_,_=>rfl
 |o::l,acc,k,h=>by
  rw[List.foldl_cons,zDU (by simp[vE];omega)];simp only[vE];rw[rC,if_neg (by omega)]
theorem zGT:∀ {l:List Oper} {acc:Array Nat} {j i:Nat} {o:Oper},l[j]? =some o->((l.foldl vE acc).getD (acc.size+j) 0).testBit i=true->
  ∃e∈o.after,Region.binds .any e=true/\(e.on=i∨((l.foldl vE acc).getD e.on 0).testBit i=true)
 |[],acc,j,i,o,hj,h=>by simp at hj
 |x::l,acc,0,i,o,hj,h=>by
  simp at hj;subst hj;have hsz:acc.size<(vE acc x).size:=by simp[vE]
  have e1:(List.foldl vE acc (x::l)).getD (acc.size+0) 0=x.after.foldl (fun s e=>if Region.binds .any e then s ||| 2 ^ e.on ||| acc.getD e.on 0 else s) 0:=by
   rw[rK,Nat.add_zero,List.foldl_cons,zDU hsz];simp[vE]
  rw[e1,<-Array.foldl_toList] at h;rcases zHZ h with h|⟨e,h1,h2,h3⟩
  ·simp at h
  ·refine⟨e,by simpa using h1,h2,h3.elim Or.inl fun h3=>Or.inr ?_⟩
   rw[rK] at h3 ⊢;by_cases hlt:e.on<acc.size
   ·rw[List.foldl_cons,zDU (by omega)]
    simp only[vE];rw[rC,if_neg (by omega)];exact h3
   ·rw[rM (by omega)] at h3
    simp at h3
 |x::l,acc,j+1,i,o,hj,h=>by
  have hs:(vE acc x).size=acc.size+1:=by simp[vE]
  have:=zGT (l:=l) (acc:=vE acc x) (j:=j) (i:=i) (o:=o) (by simpa using hj) (by
   rw[hs,Nat.add_assoc,Nat.add_comm 1 j];exact h)
  exact this
theorem zOb {j i:Nat} (hj:ops[j]? =some o) (h:anc (masks ops) j i=true):∃e∈o.after,Region.binds .any e=true/\(e.on=i∨anc (masks ops) e.on i=true):=by
 have e:masks ops=ops.toList.foldl vE #[]:=by
  unfold masks Region.before;rw[<-Array.foldl_toList];rfl
 unfold anc at h ⊢;rw[e] at h ⊢;exact zGT (acc:= #[]) (by simpa using hj) (by simpa using h)
theorem zGh {D:Nat->Prop} (hback:∀(i:Nat) (o:Oper),ops[i]? =some o->∀e∈o.after,Region.binds .any e=true->e.on<i)
  (hD:∀x o,D x->ops[x]? =some o->∀e∈o.after,Region.binds .any e=true->D e.on):∀(j:Nat) {i:Nat} {o:Oper},ops[j]? =some o->(∀e∈o.after,Region.binds .any e=true->D e.on)->anc (masks ops) j i=true->D i:=by
 intro j;induction j using Nat.strongRecOn with
 |_ j ih=>
  intro i o hj hp h;obtain⟨e,h1,h2,h3⟩:=zOb hj h;rcases h3 with h3|h3
  ·rw[<-h3];exact hp e h1 h2
  ·have hlt:=hback j o hj e h1 h2
   have hd:=hp e h1 h2;have hsz:=z8 hj;have he:ops[e.on]? =some ops[e.on]:=Array.getElem?_eq_getElem (by omega);exact ih e.on hlt he (fun e' h4 h5=>hD _ _ hd he e' h4 h5) h3
