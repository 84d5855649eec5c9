/- A run in pieces. -/
import Derived.Test.YtckdgniecdfedaaGreatDoorAmG
section
namespace Go.AM
noncomputable section
structure Snap where
 blks:List (Nat×Blk)
 next:Nat
 tmps:List (Nat×AV)
 n:Nat
 ng:Nat
def takeC:Nat→Code→Code
 |0,_=>.skip
 |n+1,c=>match c with
  | .seq a b=>.seq a (takeC n b)
  |c=>c
def dropC:Nat→Code→Code
 |0,c=>c
 |n+1,c=>match c with
  | .seq _ b=>dropC n b
  |_=>.skip
def logK (l:List (Nat×AV)) (f:Log→R):R:=List.rec (motive:=fun _=>(Log→R)→R) (fun f=>f .nil) (fun x _ ih f=>ih fun l=>f (.cons x.1 x.2 l)) l f
def sameT (l:List (Nat×AV)) (fr:Fr) (r:R):R:=List.rec (motive:=fun _=>R) r (fun x _ ih=>fr.getK x.1 fun v=>ifB 0 (eqB 6 v x.2) ih) l
def sameB (l:List (Nat×Blk)) (m:Mem) (r:R):R:=List.rec (motive:=fun _=>R) r (fun x _ ih=>blkK m x.1 fun y=>ifB 0 (blkEqB y x.2) ih) l
def snapK (s:Snap) (fr:Fr) (m:Mem):R:=ifB 0 (Nat.beq fr.n s.n) (ifB 0 (Nat.beq fr.ng s.ng) (ifB 0 (Nat.beq m.next s.next) (sameT s.tmps fr (sameB s.blks m .ok))))
def cutK (s:Snap) (_:G) (_:Func):KX:=fun e fr m=>X.rec (motive:=fun _=>R) (snapK s fr m) (fun _=>.bad 0) (.bad 0) e
def lastK (g:G) (fn:Func):KX:=fun e fr m=>X.rec (motive:=fun _=>R) (resK g fn.results.toList fr m isTrue) (fun _=>.bad 0) (resK g fn.results.toList fr m isTrue) e
def pieceK (p:Program) (flat:List TypeId) (orders:List (Nat×List (Nat×(Nat×List DStep)))) (fuel depth:Nat) (f:FuncId) (c:Code→Code) (s:Snap) (k:G→Func→KX):R:=
 tablesK p flat fun g=>tblK orders fun tbl=>globK s.blks fun t=>logK s.tmps fun log=>g.ft.getK f fun fn=>optK 0 fn.body fun b=>forceN (funcMask fn) fun mask=>
  exK (c b) ⟨g,fuel,mask,callK g fuel (drawT g tbl) depth,rangeCallK g (callK g fuel (drawT g tbl) depth) mask f,drawT g tbl (callK g fuel (drawT g tbl) depth) f⟩ ⟨log,.nil 8,s.n,s.ng⟩ ⟨s.next,t⟩ (k g fn)
end
end Go.AM
end
section
namespace Go.AM
section
variable {P:Program} {ι ι0:Inj} {m m0:Mem} {w w0:World} {mask:Nat} {a:Act} {fr:Fr}
theorem nil_find {α:Type} {d p k:Nat}:(T.nil d:T α).find p k=none:=rfl
theorem ofListK_ok {α:Type}:∀ {l:List α} {n:Nat} {t:T α} {f:T α→R},ofListK l n t f=.ok→∃t',f t'=.ok∧∀k x,t'.find k k=some x→(n≤k∧l[k - n]? =some x)∨t.find k k=some x
 |[],n,t,f,h=>⟨t,h,fun _ _ h=>.inr h⟩
 |v::l,n,t,f,h=>by
  have h:t.setK n v (fun t=>forceN (Nat.succ n) fun n=>ofListK l n t f)=.ok:=h
  obtain⟨t1,h1,h2⟩:=T.setK_ok h
  rw[forceN_eq] at h1
  obtain⟨t2,h3,h4⟩:=ofListK_ok h1
  refine⟨t2,h3,fun k x hx=>?_⟩
  rcases h4 k x hx with⟨h5,h6⟩|h5
  ·left
   have e:k - n=(k - (n+1))+1:=by omega
   exact⟨by omega,by rw[e];simpa using h6⟩
  ·rcases h2 k x h5 with⟨rfl,rfl⟩|⟨_,h6⟩
   ·left;simp
   ·exact .inr h6
theorem tableK_ok {α:Type}:∀ {l:List (Nat×α)} {t:T α} {f:T α→R},List.rec (motive:=fun _=>T α→(T α→R)→R) (fun t f=>f t) (fun x _ ih t f=>t.setK x.1 x.2 fun t=>ih t f) l t f=.ok→
  ∃t',f t'=.ok∧∀k x,t'.find k k=some x→(k,x)∈l∨t.find k k=some x
 |[],t,f,h=>⟨t,h,fun _ _ h=>.inr h⟩
 |v::l,t,f,h=>by
  obtain⟨t1,h1,h2⟩:=T.setK_ok (t:=t) (k:=v.1) (a:=v.2) h
  obtain⟨t2,h3,h4⟩:=tableK_ok h1
  refine⟨t2,h3,fun k x hx=>?_⟩
  rcases h4 k x hx with h5|h5
  ·exact .inl (List.mem_cons_of_mem _ h5)
  ·rcases h2 k x h5 with⟨rfl,rfl⟩|⟨_,h6⟩
   ·exact .inl (List.mem_cons_self ..)
   ·exact .inr h6
theorem globK_ok {l:List (Nat×Blk)} {f:T Blk→R} (h:globK l f=.ok):∃t,f t=.ok∧∀b x,t.find b b=some x→(b,x)∈l:=by
 obtain⟨t,h1,h2⟩:=tableK_ok (h:List.rec (motive:=fun _=>T Blk→(T Blk→R)→R) (fun t f=>f t) (fun x _ ih t f=>t.setK x.1 x.2 fun t=>ih t f) l (T.nil 16) f=.ok)
 exact⟨t,h1,fun b x hx=>(h2 b x hx).resolve_right fun h=>by rw[nil_find] at h;cases h⟩
theorem tblK_ok {l:List (Nat×List (Nat×(Nat×List DStep)))} {f:Tbl→R} (h:tblK l f=.ok):∃t:Tbl,f t=.ok∧∀b x,t.find b b=some x→(b,x)∈l:=by
 obtain⟨t,h1,h2⟩:=tableK_ok (h:List.rec (motive:=fun _=>Tbl→(Tbl→R)→R) (fun t f=>f t) (fun x _ ih t f=>t.setK x.1 x.2 fun t=>ih t f) l (T.nil 11) f=.ok)
 exact⟨t,h1,fun b x hx=>(h2 b x hx).resolve_right fun h=>by rw[nil_find] at h;cases h⟩
theorem logK_ok {l:List (Nat×AV)}:∀ {f:Log→R},logK l f=.ok→∃log,f log=.ok∧∀k x,log.find k=some x→(k,x)∈l:=by
 induction l with
 |nil=>intro f h;exact⟨.nil,h,fun k x hx=>by simp[Log.find] at hx⟩
 |cons v l ih=>
  intro f h
  obtain⟨log,h1,h2⟩:=ih (f:=fun l=>f (.cons v.1 v.2 l)) h
  refine⟨_,h1,fun k x hx=>?_⟩
  simp only[Log.find] at hx
  split at hx
  ·rename_i e
   injection hx with hx
   subst e hx
   exact List.mem_cons_self ..
  ·exact List.mem_cons_of_mem _ (h2 k x hx)
theorem tablesK_ok {flat:List TypeId} {f:G→R} (hnum:∀(f:FuncId) (fn:Func),P.funcs[f]? =some fn→fn.name≠ "runtime.NumGoroutine") (hmixed:P.follows .mixedOrders=true) (h:tablesK P flat f=.ok):∃g,GOk P g∧g.flat=flat∧f g=.ok:=by
 obtain⟨ft,h1,h2⟩:=ofListK_ok (h:ofListK P.funcs.toList 0 (.nil 11) (fun ft=>ofListK P.types.toList 0 (.nil 11) fun tt=>f ⟨ft,tt,flat,P.globals.size⟩)=.ok)
 obtain⟨tt,h3,h4⟩:=ofListK_ok h1
 refine⟨_,⟨fun k x hx=>?_,fun k x hx=>?_,Nat.le_refl _,hnum,hmixed⟩,rfl,h3⟩
 ·rcases h2 k x hx with⟨_,h5⟩|h5
  ·simpa using h5
  ·rw[nil_find] at h5;cases h5
 ·rcases h4 k x hx with⟨_,h5⟩|h5
  ·have:P.types[k]? =some x:=by simpa using h5
   show(if k<P.types.size then P.types[k]? else _)=_
   rw[if_pos (lt_of_get this)];exact this
  ·rw[nil_find] at h5;cases h5
theorem isFlat_mem {g:G} {t:TypeId} (h:g.isFlat t=true):t∈g.flat:=by
 unfold G.isFlat at h
 generalize g.flat=l at h
 induction l with
 |nil=>cases h
 |cons u l ih=>
  have h:iteB (Nat.beq t u) true (List.rec (motive:=fun _=>Bool) false (fun u _ ih=>iteB (Nat.beq t u) true ih) l)=true:=h
  rw[iteB_eq] at h
  split at h
  ·rename_i e;rw[Nat.eq_of_beq_eq_true e];exact List.mem_cons_self ..
  ·exact List.mem_cons_of_mem _ (ih h)
def SnapSt (P:Program) (mask:Nat) (ι0:Inj) (m0:Mem) (w0:World) (s:Snap) (ι:Inj) (a:Act) (w:World):Prop:=
 ∀log t,(∀k x,Log.find log k=some x→(k,x)∈s.tmps)→(∀b x,T.find t b b=some x→(b,x)∈s.blks)→St P mask ι0 m0 w0 ι ⟨log,.nil 8,s.n,s.ng⟩ ⟨s.next,t⟩ a w
theorem sameT_ok {r:R}:∀ {l:List (Nat×AV)},sameT l fr r=.ok→r=.ok∧∀k x,(k,x)∈l→fr.find k=some x
 |[],h=>⟨h,fun _ _ h=>by cases h⟩
 |v::l,h=>by
  obtain⟨y,h1,h2⟩:=Fr.getK_ok (h:fr.getK v.1 (fun u=>ifB 0 (eqB 6 u v.2) (sameT l fr r))=.ok)
  obtain⟨h3,h4⟩:=ifB_ok h2
  obtain⟨h5,h6⟩:=sameT_ok h4
  refine⟨h5,fun k x hx=>?_⟩
  rcases List.mem_cons.1 hx with e|hx
  ·subst e;rw[h1,eqB_ok 6 _ _ h3]
  ·exact h6 k x hx
theorem sameB_ok {r:R}:∀ {l:List (Nat×Blk)},sameB l m r=.ok→r=.ok∧∀k x,(k,x)∈l→m.t.find k k=some x
 |[],h=>⟨h,fun _ _ h=>by cases h⟩
 |v::l,h=>by
  obtain⟨y,h1,h2⟩:=T.getK_ok (h:m.t.getK v.1 (fun u=>ifB 0 (blkEqB u v.2) (sameB l m r))=.ok)
  obtain⟨h3,h4⟩:=ifB_ok h2
  obtain⟨h5,h6⟩:=sameB_ok h4
  refine⟨h5,fun k x hx=>?_⟩
  rcases List.mem_cons.1 hx with e|hx
  ·subst e;rw[h1,blkEqB_ok h3]
  ·exact h6 k x hx
theorem snap_ok {s:Snap} (hs:St P mask ι0 m0 w0 ι fr m a w) (h:snapK s fr m=.ok):SnapSt P mask ι0 m0 w0 s ι a w:=by
 obtain⟨h1,h2⟩:=ifB_ok h
 obtain⟨h3,h4⟩:=ifB_ok h2
 obtain⟨h5,h6⟩:=ifB_ok h4
 obtain⟨h7,h8⟩:=sameT_ok h6
 obtain⟨_,h9⟩:=sameB_ok h7
 intro log t hl ht
 have e1:=Nat.eq_of_beq_eq_true h1
 have e2:=Nat.eq_of_beq_eq_true h3
 have e3:=Nat.eq_of_beq_eq_true h5
 have hf:=Step.forget hs.step.rel (t':=t) fun b x hx=>h9 b x (ht b x hx)
 rw[e3] at hf
 refine⟨hs.step.trans hf,⟨by rw[hs.fr.size,e1],by rw[←e2];exact hs.fr.ng,fun k x hx=>by simp[T.find] at hx,fun k x hx=>?_⟩,hs.defs.step hf⟩
 simp only[Fr.find,T.find,Option.or_none] at hx
 exact hs.fr.val k x (h8 k x (hl k x hx))
def rowB:Nat→Code→Bool
 |0,_=>true
 |n+1,c=>match c with
  | .seq _ b=>rowB n b
  |_=>false
variable {F:Fence} {n':Nat} {Q:Exit→Act→World→Prop}
theorem take_ok {me:FuncId} {ax:Ax} (hax:AxOk P F me ax) {k:KX} (hx:∀id fr m,k (.x id) fr m≠.ok) (hr:∀fr m,k .r fr m≠.ok):∀ {n:Nat} {c:Code},rowB n c=true→DrawsIn P me c→∀ {ι:Inj} {fr:Fr} {m:Mem} {a:Act} {w:World},
  St P ax.mask ι0 m0 w0 ι fr m a w→exK (takeC n c) ax fr m k=.ok→(∀ι fr m a w,k .n fr m=.ok→St P ax.mask ι0 m0 w0 ι fr m a w→(dropC n c).wpIn F n' P Q a w)→c.wpIn F n' P Q a w
 |0,c,_,_,ι,fr,m,a,w,hs,h,hQ=>hQ _ _ _ _ _ h hs
 |n+1,.seq x y,hrow,hD,ι,fr,m,a,w,hs,h,hQ=>by
  have h':exK x ax fr m (fun e fr m=>seqX e fr m (fun a fr m k=>exK (takeC n y) a fr m k) ax k)=.ok:=h
  refine wpIn_seq (exK_ok x hax (DrawsIn.left hD rfl).1 hs h' fun e a w ⟨x',ι',fr',m',hxe,hk,hs'⟩=>?_)
  cases e<;>cases x'<;>simp only[exitIs] at hxe<;>try exact hxe.elim
  ·exact take_ok hax hx hr (n:=n) hrow (DrawsIn.left hD rfl).2 hs' hk hQ
  ·exact absurd hk (hx _ _ _)
  ·exact absurd hk (hr _ _)
theorem draws_drop {me:FuncId}:∀ {n:Nat} {c:Code},rowB n c=true→DrawsIn P me c→DrawsIn P me (dropC n c)
 |0,_,_,hD=>hD
 |n+1,.seq _ _,hrow,hD=>draws_drop (n:=n) hrow (DrawsIn.left hD rfl).2
theorem piece_open {flat:List TypeId} {orders:List (Nat×List (Nat×(Nat×List DStep)))} {fuel depth:Nat} {f:FuncId} {c:Code→Code} {s:Snap} {k:G→Func→KX} {fn:Func} {b:Code}
  (hnum:∀(f:FuncId) (fn:Func),P.funcs[f]? =some fn→fn.name≠ "runtime.NumGoroutine") (hmixed:P.follows .mixedOrders=true) (hflat:∀t∈flat,Flat P t)
  (hord:∀f l id e ops fn b,(f,l)∈orders→(id,e)∈l→P.funcs[f]? =some fn→fn.body=some b→(id,ops)∈drawsOf b→ordOk ops e.2=true)
  (hf:P.funcs[f]? =some fn) (hb:fn.body=some b) (hs:SnapSt P (funcMask fn) ι0 m0 w0 s ι a w) (h:pieceK P flat orders fuel depth f c s k=.ok):
  ∃ax fr m,GOk P ax.g∧ax.mask=funcMask fn∧AxOk P Fence.wide f ax∧St P (funcMask fn) ι0 m0 w0 ι fr m a w∧exK (c b) ax fr m (k ax.g fn)=.ok:=by
 obtain⟨g,hg,hfl,h1⟩:=tablesK_ok hnum hmixed h
 obtain⟨tbl,h2,h3⟩:=tblK_ok h1
 obtain⟨t,h4,h5⟩:=globK_ok h2
 obtain⟨log,h6,h7⟩:=logK_ok h4
 obtain⟨fn',h8,h9⟩:=T.getK_ok h6
 have e:=hg.ft _ _ h8
 rw[hf] at e;injection e with e;subst e
 obtain⟨b',e,h10⟩:=optK_ok h9
 rw[hb] at e;injection e with e;subst e
 rw[forceN_eq] at h10
 have hflat':∀t,g.isFlat t=true→Flat P t:=fun t ht=>hflat t (by rw[←hfl];exact isFlat_mem ht)
 have htbl:TblOk P tbl:=fun f l id e ops fn b k1 k2 k3 k4 k5=>hord f l id e ops fn b (h3 f l k1) k2 k3 k4 k5
 have hcall:=callK_ok hg hflat' (fuel:=fuel) (draw:=drawT g tbl) (fun call hcall f F mask hF=>drawT_ok hg hflat' htbl hcall f F mask hF) depth
 exact⟨_,_,_,hg,rfl,⟨hg,hflat',hcall,.inl rfl,rangeCallK_ok hg hcall f,drawT_ok hg hflat' htbl hcall f _ _ (.inl rfl)⟩,hs log t h7 h5,h10⟩
end
end Go.AM
end
section
namespace Go.AM
theorem drop_skip:∀n,dropC n .skip=.skip
 |0=>rfl
 |_+1=>rfl
theorem drop_drop:∀(m n:Nat) (c:Code),dropC n (dropC m c)=dropC (m+n) c
 |0,n,c=>by rw[Nat.zero_add];rfl
 |m+1,n,c=>by
  rw[show m+1+n=(m+n)+1 by omega]
  cases c<;>first|exact drop_drop m n _|exact drop_skip n
section
variable {P:Program} {ι ι0:Inj} {m m0:Mem} {w w0:World} {a:Act}
variable {flat:List TypeId} {orders:List (Nat×List (Nat×(Nat×List DStep)))} {fuel depth:Nat} {f:FuncId} {fn:Func} {b:Code}
structure PieceOk (P:Program) (flat:List TypeId) (orders:List (Nat×List (Nat×(Nat×List DStep)))):Prop where
 num:∀(f:FuncId) (fn:Func),P.funcs[f]? =some fn→fn.name≠ "runtime.NumGoroutine"
 mixed:P.follows .mixedOrders=true
 flat:∀t∈flat,Flat P t
 ord:∀f l id e ops fn b,(f,l)∈orders→(id,e)∈l→P.funcs[f]? =some fn→fn.body=some b→(id,ops)∈drawsOf b→ordOk ops e.2=true
variable (hP:PieceOk P flat orders) (hf:P.funcs[f]? =some fn) (hb:fn.body=some b)
include hP hf hb
theorem cut_step {start len:Nat} {s s':Snap} {n:Nat} {Q:Exit→Act→World→Prop} (hrow:rowB (start+len) b=true) (h:pieceK P flat orders fuel depth f (fun b=>takeC len (dropC start b)) s (cutK s')=.ok)
  (hs:SnapSt P (funcMask fn) ι0 m0 w0 s ι a w) (next:∀ι a w,SnapSt P (funcMask fn) ι0 m0 w0 s' ι a w→(dropC (start+len) b).wpIn Fence.wide n P Q a w):(dropC start b).wpIn Fence.wide n P Q a w:=by
 obtain⟨ax,fr,m,_,hm,hax,hst,h1⟩:=piece_open hP.num hP.mixed hP.flat hP.ord hf hb hs h
 have row1:∀(p q:Nat) (c:Code),rowB (p+q) c=true→rowB p c=true∧rowB q (dropC p c)=true:=by
  intro p
  induction p with
  |zero=>intro q c h;exact⟨rfl,by simpa[dropC] using h⟩
  |succ p ih=>
   intro q c h
   rw[show p+1+q=(p+q)+1 by omega] at h
   cases c<;>first|(cases h;done)|exact ih q _ h
 obtain⟨r1,r2⟩:=row1 _ _ _ hrow
 have hD:DrawsIn P f (dropC start b):=draws_drop r1 fun r hr=>⟨fn,b,hf,hb,hr⟩
 rw[←hm] at hst
 refine take_ok hax (k:=cutK s' ax.g fn) (fun id fr m h=>by cases h) (fun fr m h=>by cases h) r2 hD hst h1 fun ι fr m a w hk hst'=>?_
 rw[drop_drop]
 rw[hm] at hst'
 exact next ι a w (snap_ok hst' hk)
theorem last_step {start:Nat} {s:Snap} {n:Nat} (hrow:rowB start b=true) (h:pieceK P flat orders fuel depth f (fun b=>dropC start b) s lastK=.ok) (hs:SnapSt P (funcMask fn) ι0 m0 w0 s ι a w):
  (dropC start b).wpIn Fence.wide n P (bodyPostM Fence.wide n P fn (Ret P ι0 m0 w0 (fun v _=>isTrue v))) a w:=by
 obtain⟨ax,fr,m,hg,hm,hax,hst,h1⟩:=piece_open hP.num hP.mixed hP.flat hP.ord hf hb hs h
 have hD:DrawsIn P f (dropC start b):=draws_drop hrow fun r hr=>⟨fn,b,hf,hb,hr⟩
 rw[←hm] at hst
 refine exK_ok _ hax hD hst h1 fun e a w' ⟨x,ι',fr,m',hx,hk,hs⟩=>?_
 have fin:resK ax.g fn.results.toList fr m' isTrue=.ok→LeavesInM Fence.wide n P fn a.tmps (Ret P ι0 m0 w0 (fun v _=>isTrue v)) a.defers .returning w':=fun h0=>by
  refine leaves_ok (ι0:=ι0) (m0:=m0) (w0:=w0) (ι:=ι') (m:=m') (fun w2 hs2=>?_) hs.step hs.defs
  obtain⟨v,V,r1,r2,r3⟩:=resK_ok (w:=w2) hg hs2.rel hs.fr h0
  exact⟨V,r3,V,rfl,v,ι',m',r1,hs2,r2⟩
 cases e<;>cases x<;>simp only[exitIs] at hx<;>first|exact hx.elim|skip
 ·exact fin hk
 ·cases hk
 ·exact fin hk
end
end Go.AM
namespace Go.AM
def ordsB (P:Program) (l:List (Nat×List (Nat×(Nat×List DStep)))):Bool:=l.all fun x=>match P.funcs[x.1]? with
 |some fn=>(match fn.body with
  |some b=>(drawsOf b).all fun d=>x.2.all fun e=>!(Nat.beq e.1 d.1)||ordOk d.2 e.2.2
  |none=>true)
 |none=>true
theorem ordsB_ok {P:Program} {l:List (Nat×List (Nat×(Nat×List DStep)))} (h:ordsB P l=true):∀f r id e ops fn b,(f,r)∈l→(id,e)∈r→P.funcs[f]? =some fn→fn.body=some b→(id,ops)∈drawsOf b→ordOk ops e.2=true:=fun f r id e ops fn b h1 h2 h3 h4 h5=>by
 have k1:=List.all_eq_true.1 h _ h1
 simp only[h3,h4] at k1
 have k2:=List.all_eq_true.1 (List.all_eq_true.1 k1 _ h5) _ h2
 simpa using k2
end Go.AM
end
