/- When an abstract memory stands for a part of a world; how both go on t -/
import Derived.Test.YtmabhhngoklncaaGreatDoorA
import Derived.Laws.IdiomCopy
import Derived.LaidEql
import Derived.ChangeKeysEq
import Derived.MapKept
set_option maxRecDepth 100000
set_option maxHeartbeats 40000000
set_option linter.all false
open Option renaming map_eq_some_iff->rA,bind_eq_some_iff->rM
open Go renaming run_underlying->rB
open Nat renaming le_of_ble_eq_true->rD,eq_of_beq_eq_true->rI,le_refl->rJ,lt_of_lt_of_le->rL,add_mul->rO,le_trans->rP
open Go.Sem renaming run_pure->rE,run_bind->rG
open Go.Result renaming andThen_ok->rF
open List renaming append_assoc->rH,replicate->rQ,cons_append->rR,nil_append->rS
open Go.Instr renaming checkKey->rK
open Bool renaming false_eq_true->rN
open Go
namespace Go.AM
variable {P:Program}{ι:Inj}{w w':World}{m:Mem}{p:Pl}{x:Blk}{t':T Blk}{b:Nat}
def Blk.writable:Blk->Bool
 | .cells _ _ _ 3=>false
 |_=>true
def zRZ (z size known:Nat) (fz:Nat×Nat):Prop:=
 (z=0->fz=(0,0))/\(z=1->fz=(0,0)∨fz=(size,size+1))/\(z=2->fz.2<=known)
def zTB:LoopState->Nat
 | .ready=>0
 | .busy=>1
 | .done=>2
 | .exhausted=>3
structure xI (P:Program) (ι:Inj) (fr:Fr) (mask:Nat) (tmps:Array Value):Prop where
 size:tmps.size=fr.n
 ng:fr.ng<=P.globals.size
 masked:fr.masked mask
 val:∀k x,fr.find k=some x->∃V,conc ι x=some V/\tmps[k]? =some V
theorem xI.mono {ι':Inj} (h:ι.le ι'){fr:Fr}{mask:Nat}{tmps:Array Value} (hr:xI P ι fr mask tmps):xI P ι' fr mask tmps:=
 ⟨hr.size,hr.ng,hr.masked,fun k x hx=>let⟨V,h1,h2⟩:=hr.val k x hx;⟨V,qN h h1,h2⟩⟩
def zGM (ι:Inj) (e:Ent) (E:MapEntry):Prop:=conc ι e.key=some E.key/\conc ι e.val=some E.val/\e.born=E.born
def yN (ι:Inj):List Ent->List MapEntry->Prop
 |[],[]=>True
 |e::es,E::Es=>zGM ι e E/\yN ι es Es
 |_,_=>False
theorem yN.mono {ι ι':Inj} (h:ι.le ι'):∀ {es:List Ent} {Es:List MapEntry},yN ι es Es->yN ι' es Es
 |[],[],_=>trivial
 |[],_::_,hr=>hr.elim
 |_::_,[],hr=>hr.elim
 |_::_,_::_,hr=>⟨⟨qN h hr.1.1,qN h hr.1.2.1,hr.1.2.2⟩,hr.2.mono h⟩
def qE:Code->List (Nat×Array Oper)
 | .region id ops true=>[(id,ops)]
 | .seq a b| .cond _ a b| .rangeFunc _ _ a b=>qE a++qE b
 | .block _ c| .loop c| .scope c=>qE c
 |_=>[]
def yU (P:Program) (f:FuncId) (c:Code):Prop:=∀r∈qE c,∃fn b,P.funcs[f]? =some fn/\fn.body=some b/\r∈qE b
theorem yU.left {f:FuncId}{a b:Code}{l:List (Nat×Array Oper)} (h:∀r∈l,∃fn b,P.funcs[f]? =some fn/\fn.body=some b/\r∈qE b) (e:l=qE a++qE b):yU P f a/\yU P f b:=
 ⟨fun r hr=>h r (by rw[e];exact List.mem_append_left _ hr),fun r hr=>h r (by rw[e];exact List.mem_append_right _ hr)⟩
def xX (P:Program) (ι:Inj) (p:Pl) (x:Blk) (w:World):Prop:=
 match x with
 | .cells c e g z=>∃(C:Array Value) (e':TypeId) (fz:Nat×Nat) (L:List Value),w.heap[p.blk]? =some (.cells C e' fz)/\concL ι c=some L/\
   (∀i,i<L.length->C[p.delta+i]? =L[i]?)/\(g=true->p.sz=P.cellsOf e/\1<=p.sz)/\
   (z≠3->e'=e/\(g=false->p.delta=0/\C.size=c.length)/\(g=true->C.size=p.delta+p.ncap*p.sz)/\zRZ z C.size (p.delta+c.length) fz)
 | .map es clock=>∃E:Array MapEntry,w.heap[p.blk]? =some (.map E clock)/\yN ι es E.toList/\p.delta=0
 | .iter mb since seen stepped=>p.delta=0/\∃m':Option Nat,w.heap[p.blk]? =some (.mapIter m' since seen.toArray stepped)/\
   (match mb with|none=>m'=none|some b=>∃q,ι b=some q/\m'=some q.blk)
 | .loop st pend fr mask self params assign body=>p.delta=0/\(yU P self assign/\yU P self body)/\∃L:Loop,w.heap[p.blk]? =some (.loop L)/\zTB L.state=st/\L.pending=pend/\L.params=params.toArray/\L.assign=assign/\L.body=body/\
   xI P ι fr mask L.tmps
theorem xX.mono {P:Program} {ι ι':Inj} (h:ι.le ι') {p:Pl} {x:Blk} {w:World} (hr:xX P ι p x w):xX P ι' p x w:=by
 cases x with
 |cells c e g z=>
  obtain⟨C,e',fz,L,h1,h2,h3,h4,h5⟩:=hr;exact⟨C,e',fz,L,h1,vU h h2,h3,h4,h5⟩
 |map es clock=>
  obtain⟨E,h1,h2,h3⟩:=hr;exact⟨E,h1,h2.mono h,h3⟩
 |iter mb since seen stepped=>
  obtain⟨h0,m',h1,h2⟩:=hr;refine⟨h0,m',h1,?_⟩;cases mb with
  |none=>exact h2
  |some b=>obtain⟨q,hq,e⟩:=h2;exact⟨q,h _ _ hq,e⟩
 |loop st pend fr mask fn params assign body=>
  obtain⟨h0,hd,L,h1,h2,h3,h5,h6,h7,h8⟩:=hr;exact⟨h0,hd,L,h1,h2,h3,h5,h6,h7,h8.mono h⟩
theorem xX.at {P:Program} {ι:Inj} {p:Pl} {x:Blk} {w w':World} (he:w'.heap[p.blk]? =w.heap[p.blk]?) (hr:xX P ι p x w):xX P ι p x w':=by
 cases x<;>simp only[xX,he] at hr ⊢ <;>exact hr
structure Rel (P:Program) (ι:Inj) (m:Mem) (w:World):Prop where
 fresh:∀b,m.next<=b->ι b=none
 low:∀g,g<P.globals.size->∃p,ι g=some p/\p.blk=g/\p.delta=0
 blk:∀b x,m.t.find b b=some x->∃p,ι b=some p/\xX P ι p x w
 apart:∀b c x y p q,m.t.find b b=some x->m.t.find c c=some y->ι b=some p->ι c=some q->p.blk=q.blk->x.writable=true->b=c
def wr (ι:Inj) (m:Mem) (k:Nat):Prop:=∃b x p,m.t.find b b=some x/\x.writable=true/\ι b=some p/\p.blk=k
def occ (ι:Inj) (m:Mem) (k:Nat):Prop:=∃b x p,m.t.find b b=some x/\ι b=some p/\p.blk=k
structure Step (P:Program) (ι:Inj) (m:Mem) (w:World) (ι':Inj) (m':Mem) (w':World):Prop where
 le:ι.le ι'
 rel:Rel P ι' m' w'
 size:w.heap.size<=w'.heap.size
 old:∀k,k<w.heap.size->¬wr ι m k->w'.heap[k]? =w.heap[k]?
 wrs:∀k,k<w.heap.size->wr ι' m' k->wr ι m k
 os:w'.os=w.os
 tape:w'.tape=w.tape
 output:w'.output=w.output
 next:m.next<=m'.next
 names:∀b,b<m.next->ι b=none->ι' b=none
 occs:∀k,k<w.heap.size->occ ι' m' k->occ ι m k
theorem Step.refl {P:Program} {ι:Inj} {m:Mem} {w:World} (h:Rel P ι m w):Step P ι m w ι m w:=
 ⟨.refl _,h,rJ _,fun _ _ _=>rfl,fun _ _ h=>h,rfl,rfl,rfl,rJ _,fun _ _ h=>h,fun _ _ h=>h⟩
theorem Step.trans {P:Program} {ι ι' ι'':Inj} {m m' m'':Mem} {w w' w'':World} (h:Step P ι m w ι' m' w') (k:Step P ι' m' w' ι'' m'' w''):Step P ι m w ι'' m'' w'':=
 ⟨h.le.trans k.le,k.rel,rP h.size k.size,
  fun i hi hn=>(k.old i (rL hi h.size) fun hw=>hn (h.wrs i hi hw)).trans (h.old i hi hn),
  fun i hi hw=>h.wrs i hi (k.wrs i (rL hi h.size) hw),k.os.trans h.os,k.tape.trans h.tape,k.output.trans h.output,
  rP h.next k.next,fun b hb hn=>k.names b (rL hb h.next) (h.names b hb hn),fun i hi ho=>h.occs i hi (k.occs i (rL hi h.size) ho)⟩
theorem Rel.heap (he:w'.heap=w.heap) (h:Rel P ι m w):Rel P ι m w':=
 ⟨h.fresh,h.low,fun b x hx=>let⟨p,h1,h2⟩:=h.blk b x hx;⟨p,h1,h2.at (by rw[he])⟩,h.apart⟩
theorem Step.drew (h:Rel P ι m w) (n:Nat):Step P ι m w ι m {w with drawn:=n}:=
 ⟨.refl _,Rel.heap (w:=w) rfl h,rJ _,fun _ _ _=>rfl,fun _ _ h=>h,rfl,rfl,rfl,rJ _,fun _ _ h=>h,fun _ _ h=>h⟩
theorem zBB (h:xX P ι p x w):p.blk<w.heap.size:=by
 have:(w.heap[p.blk]?).isSome:=by
  cases x with
  |cells c e g z=>obtain⟨C,e',fz,L,h1,_⟩:=h;simp[h1]
  |map es clock=>obtain⟨E,h1,_⟩:=h;simp[h1]
  |iter mb since seen stepped=>obtain⟨_,m',h1,_⟩:=h;simp[h1]
  |loop st pend fr mask fn params assign body=>obtain⟨_,_,L,h1,_⟩:=h;simp[h1]
 rcases Nat.lt_or_ge p.blk w.heap.size with h'|h'
 ·exact h'
 ·simp[Array.getElem?_eq_none h'] at this
def Inj.set (ι:Inj) (b:Nat) (p:Pl):Inj:=fun c=>if c=b then some p else ι c
theorem Inj.le_set (h:ι b=none):ι.le (ι.set b p):=fun c q hq=>by
 simp only[Inj.set];split
 ·rename_i e;rw[e,h] at hq;cases hq
 ·exact hq
theorem Step.name (h:Rel P ι m w) (p:Pl) (n':Nat) (hn:n'=m.next+1):Step P ι m w (ι.set m.next p) ⟨n',m.t⟩ w:=by
 have hle:ι.le (ι.set m.next p):=Inj.le_set (h.fresh _ (rJ _));have hb:∀b x,m.t.find b b=some x->∀q,(ι.set m.next p) b=some q->ι b=some q:=fun b x hx q hq=>by
  obtain⟨p',h1,_⟩:=h.blk b x hx;rw[hle _ _ h1] at hq;rw[h1,hq]
 refine⟨hle,⟨fun b hb'=>?_,fun g hg=>let⟨q,h1,h2⟩:=h.low g hg;⟨q,hle _ _ h1,h2⟩,fun b x hx=>let⟨q,h1,h2⟩:=h.blk b x hx;⟨q,hle _ _ h1,h2.mono hle⟩,
  fun b c x y q r hx hy hq hr=>h.apart b c x y q r hx hy (hb b x hx q hq) (hb c y hy r hr)⟩,rJ _,fun _ _ _=>rfl,?_,rfl,rfl,rfl,by simp[hn],?_,?_⟩
 ·simp only[Inj.set]
  rw[if_neg (by simp at hb';omega)];exact h.fresh b (by simp at hb';omega)
 ·rintro k _ ⟨b,x,q,hx,hw,hq,e⟩
  exact⟨b,x,q,hx,hw,hb b x hx q hq,e⟩
 ·intro b hb' hn'
  simp only[Inj.set];rw[if_neg (by omega)];exact hn'
 ·rintro k _ ⟨b,x,q,hx,hq,e⟩
  exact⟨b,x,q,hx,hb b x hx q hq,e⟩
theorem Step.new (h:Rel P ι m w) (ht:t'.sub m.t m.next x) (hp:p.blk=w.heap.size){o:Obj}
  (hw:w'.heap=w.heap.push o) (hos:w'.os=w.os) (htp:w'.tape=w.tape) (hout:w'.output=w.output) (hx:xX P (ι.set m.next p) p x w'):
  Step P ι m w (ι.set m.next p) ⟨m.next+1,t'⟩ w':=by
 have hle:ι.le (ι.set m.next p):=Inj.le_set (h.fresh _ (rJ _));have hkeep:∀k,k<w.heap.size->w'.heap[k]? =w.heap[k]? :=fun k hk=>by rw[hw,Array.getElem?_push,if_neg (by omega)]
 have hne:∀b x,m.t.find b b=some x->b≠m.next:=fun b x hx e=>by
  obtain⟨q,h1,_⟩:=h.blk b x hx;rw[e,h.fresh _ (rJ _)] at h1;cases h1
 have hb:∀b x,m.t.find b b=some x->∀q,(ι.set m.next p) b=some q->ι b=some q:=fun b x hx q hq=>by
  simp only[Inj.set,if_neg (hne b x hx)] at hq;exact hq
 have hself:(ι.set m.next p) m.next=some p:=by simp[Inj.set]
 refine⟨hle,⟨fun b hb'=>?_,fun g hg=>let⟨q,h1,h2⟩:=h.low g hg;⟨q,hle _ _ h1,h2⟩,fun b y hy=>?_,fun b c y z q r hy hz hq hr he hwr=>?_⟩,by rw[hw];simp,fun k hk _=>hkeep k hk,?_,hos,htp,hout,Nat.le_succ _,?_,?_⟩
 ·simp only[Inj.set]
  rw[if_neg (by simp at hb';omega)];exact h.fresh b (by simp at hb';omega)
 ·rcases ht b y hy with⟨rfl,rfl⟩|⟨_,hy'⟩
  ·exact⟨p,hself,hx⟩
  ·obtain⟨q,h1,h2⟩:=h.blk b y hy'
   exact⟨q,hle _ _ h1,(h2.mono hle).at (hkeep _ (zBB h2))⟩
 ·rcases ht b y hy with⟨rfl,rfl⟩|⟨hb1,hy'⟩<;>rcases ht c z hz with⟨rfl,rfl⟩|⟨hc1,hz'⟩
  ·rfl
  ·rw[hself] at hq;injection hq with hq;subst hq
   obtain⟨r',h1,h2⟩:=h.blk c z hz';have:=hb c z hz' r hr;rw[h1] at this;injection this with this;subst this
   have:=zBB h2;omega
  ·rw[hself] at hr;injection hr with hr;subst hr
   obtain⟨r',h1,h2⟩:=h.blk b y hy';have:=hb b y hy' q hq;rw[h1] at this;injection this with this;subst this
   have:=zBB h2;omega
  ·exact h.apart b c y z q r hy' hz' (hb b y hy' q hq) (hb c z hz' r hr) he hwr
 ·rintro k hk ⟨b,y,q,hy,hwr,hq,e⟩
  rcases ht b y hy with⟨rfl,rfl⟩|⟨hb1,hy'⟩
  ·rw[hself] at hq;injection hq with hq;subst hq;omega
  ·exact⟨b,y,q,hy',hwr,hb b y hy' q hq,e⟩
 ·intro b hb' hn'
  simp only[Inj.set];rw[if_neg (by omega)];exact hn'
 ·rintro k hk ⟨b,y,q,hy,hq,e⟩
  rcases ht b y hy with⟨rfl,rfl⟩|⟨hb1,hy'⟩
  ·rw[hself] at hq;injection hq with hq;subst hq;omega
  ·exact⟨b,y,q,hy',hb b y hy' q hq,e⟩
theorem Step.put (h:Rel P ι m w){x':Blk} (hb:m.t.find b b=some x) (hwx:x.writable=true) (hp:ι b=some p)
  (ht:t'.sub m.t b x') (hs:w'.heap.size=w.heap.size) (hw:∀k,k≠p.blk->w'.heap[k]? =w.heap[k]?) (hos:w'.os=w.os) (htp:w'.tape=w.tape) (hout:w'.output=w.output) (hx:xX P ι p x' w'):
  Step P ι m w ι ⟨m.next,t'⟩ w':=by
 have hother:∀c y,m.t.find c c=some y->c≠b->∀q,ι c=some q->q.blk≠p.blk:=fun c y hy hc q hq e=>hc (h.apart b c x y p q hb hy hp hq e.symm hwx).symm
 refine⟨.refl _,⟨h.fresh,h.low,fun c y hy=>?_,fun c d y z q r hy hz hq hr he hwr=>?_⟩,by omega,fun k hk hn=>hw k fun e=>hn ⟨b,x,p,hb,hwx,hp,e.symm⟩,?_,hos,htp,hout,rJ _,fun _ _ h=>h,?_⟩
 ·rcases ht c y hy with⟨rfl,rfl⟩|⟨hc,hy'⟩
  ·exact⟨p,hp,hx⟩
  ·obtain⟨q,h1,h2⟩:=h.blk c y hy'
   exact⟨q,h1,h2.at (hw _ (hother c y hy' hc q h1))⟩
 ·rcases ht c y hy with⟨rfl,rfl⟩|⟨hc,hy'⟩<;>rcases ht d z hz with⟨rfl,rfl⟩|⟨hd,hz'⟩
  ·rfl
  ·rw[hp] at hq;injection hq with hq;subst hq
   exact absurd he.symm (hother d z hz' hd r hr)
  ·rw[hp] at hr;injection hr with hr;subst hr
   exact absurd he (hother c y hy' hc q hq)
  ·exact h.apart c d y z q r hy' hz' hq hr he hwr
 ·rintro k hk ⟨c,y,q,hy,hwr,hq,e⟩
  rcases ht c y hy with⟨rfl,rfl⟩|⟨hc,hy'⟩
  ·rw[hp] at hq;injection hq with hq;subst hq
   exact⟨_,x,p,hb,hwx,hp,e⟩
  ·exact⟨c,y,q,hy',hwr,hq,e⟩
 ·rintro k hk ⟨c,y,q,hy,hq,e⟩
  rcases ht c y hy with⟨rfl,rfl⟩|⟨hc,hy'⟩
  ·rw[hp] at hq;injection hq with hq;subst hq
   exact⟨_,x,p,hb,hp,e⟩
  ·exact⟨c,y,q,hy',hq,e⟩
theorem Step.drop (h:Rel P ι m w) (hb:m.t.find b b=some x) (hwx:x.writable=true) (hp:ι b=some p)
  (ht:∀c y,t'.find c c=some y->c≠b/\m.t.find c c=some y) (hs:w'.heap.size=w.heap.size) (hw:∀k,k≠p.blk->w'.heap[k]? =w.heap[k]?) (hos:w'.os=w.os) (htp:w'.tape=w.tape) (hout:w'.output=w.output):
  Step P ι m w ι ⟨m.next,t'⟩ w':=by
 have hother:∀c y,m.t.find c c=some y->c≠b->∀q,ι c=some q->q.blk≠p.blk:=fun c y hy hc q hq e=>hc (h.apart b c x y p q hb hy hp hq e.symm hwx).symm
 refine⟨.refl _,⟨h.fresh,h.low,fun c y hy=>?_,fun c d y z q r hy hz=>h.apart c d y z q r (ht c y hy).2 (ht d z hz).2⟩,by omega,fun k hk hn=>hw k fun e=>hn ⟨b,x,p,hb,hwx,hp,e.symm⟩,
  fun k _ ⟨c,y,q,hy,r⟩=>⟨c,y,q,(ht c y hy).2,r⟩,hos,htp,hout,rJ _,fun _ _ h=>h,fun k _ ⟨c,y,q,hy,r⟩=>⟨c,y,q,(ht c y hy).2,r⟩⟩
 obtain⟨hc,hy'⟩:=ht c y hy;obtain⟨q,h1,h2⟩:=h.blk c y hy';exact⟨q,h1,h2.at (hw _ (hother c y hy' hc q h1))⟩
theorem Step.forget (h:Rel P ι m w) (ht:∀b x,t'.find b b=some x->m.t.find b b=some x):Step P ι m w ι ⟨m.next,t'⟩ w:=
 ⟨.refl _,⟨h.fresh,h.low,fun b x hx=>h.blk b x (ht b x hx),fun b c x y p q hx hy=>h.apart b c x y p q (ht b x hx) (ht c y hy)⟩,rJ _,fun _ _ _=>rfl,
  fun _ _ ⟨b,x,p,hx,r⟩=>⟨b,x,p,ht b x hx,r⟩,rfl,rfl,rfl,rJ _,fun _ _ h=>h,fun _ _ ⟨b,x,p,hx,r⟩=>⟨b,x,p,ht b x hx,r⟩⟩
structure GOk (P:Program) (g:G):Prop where
 ft:∀f fn,g.ft.find f f=some fn->P.funcs[f]? =some fn
 tt:∀t i,g.tt.find t t=some i->P.info? t=some i
 nglob:g.nglob<=P.globals.size
 num:∀(f:FuncId) (fn:Func),P.funcs[f]? =some fn->fn.name≠ "runtime.NumGoroutine"
 mixed:P.follows .mixedOrders=true
theorem zHL {P:Program} {t:TypeId} {i:TypeInfo} (h:P.info? t=some i):P.underlying t=match i.desc with| .named _ u=>(P.info? u).map (·.desc)|d=>some d:=by
 obtain⟨d,_⟩:=i;cases d<;>simp[Program.underlying,h]
section
variable {P:Program} {g:G} (hg:GOk P g)
include hg
theorem GOk.info {t:TypeId} {i:TypeInfo} (h:g.info t=some i):P.info? t=some i:=hg.tt t i (by rw[<-T.get_eq];exact h)
theorem GOk.desc {t:TypeId} {d:TypeDesc} (h:g.desc t=d) (hd:d≠.invalid):P.underlying t=some d:=by
 unfold G.desc at h;split at h
 ·rename_i i hi
  rw[zHL (hg.info hi)];split at h
  ·rename_i nm u hu
   split at h
   ·rename_i j hj
    have hj':=hg.info hj;simp[hu,hj',h]
   ·exact absurd h.symm hd
  ·rename_i hn
   split
   ·rename_i nm u hu;exact absurd hu (hn nm u)
   ·rw[h]
 ·exact absurd h.symm hd
theorem GOk.size {t:TypeId} {s:Nat} (h:g.size t=some s):∃i,P.info? t=some i/\i.size=s:=by
 unfold G.size at h;split at h
 ·rename_i i hi
  split at h
  ·cases h
  ·exact⟨i,hg.info hi,by simpa using h⟩
 ·cases h
omit hg in
theorem G.size_desc {t:TypeId} {s:Nat} (h:g.size t=some s):g.desc t≠.invalid:=by
 unfold G.size at h;split at h
 ·split at h
  ·cases h
  ·assumption
 ·cases h
theorem GOk.cellsOf {t:TypeId} {s:Nat} (h:g.size t=some s):P.cellsOf t=s:=by
 obtain⟨i,h1,h2⟩:=hg.size h;simp[Program.cellsOf,h1,h2]
theorem GOk.run_size {t:TypeId} {s:Nat} (h:g.size t=some s) (w:World):(sizeOf t).run P w=.ok s w:=by
 obtain⟨i,h1,h2⟩:=hg.size h;simp[sizeOf,typeInfo,h1,h2]
theorem GOk.run_desc {t:TypeId} {d:TypeDesc} (h:g.desc t=d) (hd:d≠.invalid) (w:World):(underlying t).run P w=.ok d w:=rB (hg.desc h hd) w
theorem GOk.run_agg {t:TypeId} (hv:g.desc t≠.invalid) (w:World):(isAgg t).run P w=.ok (g.agg t) w:=by
 have hd:=hg.run_desc (d:=g.desc t) rfl hv w;simp only[isAgg,rG,hd,rF,G.agg];cases g.desc t<;>rfl
end
theorem zMP {ι:Inj} {v:Value} {a:AV} (h:zPy v=some a):conc ι a=some v:=by
 unfold zPy at h;split at h<;>first|(cases h;done)|(injection h with h;subst h;simp[conc])
theorem zGF {ι:Inj}:∀ {vs:List Value} {as:List AV},zHd vs=some as->concL ι as=some vs
 |[],as,h=>by simp[zHd] at h;subst h;rfl
 |v::vs,as,h=>by
  simp only[zHd] at h;split at h
  ·rename_i a l h1 h2
   injection h with h;subst h
   simp[concL,zMP h1,zGF h2]
  ·cases h
theorem zIm {ι:Inj} {v:Value} {a:AV} (h:zOU v=some a):conc ι a=some v:=by
 unfold zOU at h;split at h
 ·split at h
  ·rename_i l hl;injection h with h;subst h;simp[conc,zGF hl]
  ·cases h
 ·split at h
  ·rename_i l hl;injection h with h;subst h;simp[conc,zGF hl]
  ·cases h
 ·split at h
  ·rename_i f first cap hc
   injection h with h;subst h
   simp at hc;simp[conc,zAB,concL,hc.1,hc.2]
  ·cases h
 ·exact zMP h
theorem G.zero_ok {P:Program} {g:G} (hg:GOk P g) {ι:Inj} {t:TypeId} {a:AV} (h:g.zero t=some a) (w:World):∃z,(zeroValue t).run P w=.ok z w/\conc ι a=some z:=by
 unfold G.zero at h;split at h
 ·rename_i i hi
  split at h
  ·rename_i z hz
   exact⟨z,by simp[zeroValue,typeInfo,hg.info hi,hz],zIm h⟩
  ·cases h
 ·cases h
section
variable {P:Program} {ι:Inj} {m:Mem} {w:World} {fr:Fr} {mask:Nat} {A:Act} (hr:Rel P ι m w) (hf:xI P ι fr mask A.tmps)
include hr hf
theorem zCa {x:Operand} {f:AV->R} (h:ev x fr f=.ok):∃v,f v=.ok/\conc ι v=some (A.eval x):=by
 cases x with
 |tmp t=>
  obtain⟨v,h1,h2⟩:=Fr.getK_ok (h:fr.getK t f=.ok);obtain⟨V,h3,h4⟩:=hf.val t v h1;exact⟨v,h2,by simp[Act.eval,h3,h4]⟩
 |const v=>
  obtain⟨a,h1,h2⟩:=zF h;exact⟨a,h2,zIm h1⟩
 |global g=>
  obtain⟨h1,h2⟩:=zB h;obtain⟨p,h3,h4,h5⟩:=hr.low g (rL (rD h1) hf.ng);exact⟨_,h2,by simp[conc,h3,h4,h5,Act.eval]⟩
 |func i=>exact⟨_,h,by simp[conc,zAB,concL,Act.eval]⟩
theorem zIj:∀ {xs:List Operand} {f:List AV->R},evs xs fr f=.ok->∃vs,f vs=.ok/\concL ι vs=some (xs.map A.eval)
 |[],f,h=>⟨[],h,rfl⟩
 |x::xs,f,h=>by
  obtain⟨v,h1,h2⟩:=zCa hr hf (x:=x) (h:ev x fr (fun v=>evs xs fr fun l=>f (v::l))=.ok);obtain⟨vs,h3,h4⟩:=zIj h1;exact⟨v::vs,h3,by simp[concL,h2,h4]⟩
theorem zI6 {x:Option Operand} {f:Option AV->R} (h:evo x fr f=.ok):∃v,f v=.ok/\(match v with|none=>x=none|some v=>∃y,x=some y/\conc ι v=some (A.eval y)):=by
 cases x with
 |none=>exact⟨none,h,rfl⟩
 |some x=>
  obtain⟨v,h1,h2⟩:=zCa hr hf (h:ev x fr (fun v=>f (some v))=.ok);exact⟨some v,h1,x,rfl,h2⟩
end
theorem zHj {v:AV} {f:Int->R} (h:zD3 v f=.ok):∃k n,v=.int k n/\f n=.ok:=by
 cases v<;>first|(cases h;done)|exact⟨_,_,rfl,h⟩
theorem zBn {n:Int} {f:Nat->R} (h:zGx n f=.ok):∃m:Nat,n=m/\f m=.ok:=by
 cases n with
 |ofNat m=>exact⟨m,rfl,h⟩
 |negSucc m=>cases h
theorem vB {v:AV} {f:Nat->R} (h:p8 v f=.ok):∃(k:IntKind) (n:Nat),v=.int k n/\f n=.ok:=by
 cases v<;>first|(cases h;done)|skip
 rename_i k n;obtain⟨m,rfl,h2⟩:=zBn (h:zGx n f=.ok);exact⟨k,m,rfl,h2⟩
theorem zFr {v:AV} {f:Bool->R} (h:zBj v f=.ok):∃b,v=.bool b/\f b=.ok:=by
 cases v<;>first|(cases h;done)|exact⟨_,rfl,h⟩
theorem zA3 {b:Bool} {f:AV->R}:zCz b f=f (.bool b):=by cases b<;>rfl
theorem zAk {n:Int} (h1: -9223372036854775808<=n) (h2:n<=9223372036854775807):IntKind.i64.wrap n=n:=by
 have e:IntKind.i64.wrap n=if(decide (n % 18446744073709551616≥9223372036854775808))=true then n % 18446744073709551616 - 18446744073709551616 else n % 18446744073709551616:=rfl
 rw[e];split<;>rename_i h<;>simp only[decide_eq_true_iff] at h<;>omega
theorem zLc {n:Int} (h:zOA n=true):IntKind.i64.wrap n=n:=by
 cases n with
 |ofNat m=>
  have:=rD (h:Nat.ble m 9223372036854775807=true);exact zAk (by rw[Int.ofNat_eq_natCast];omega) (by rw[Int.ofNat_eq_natCast];omega)
 |negSucc m=>
  have:=rD (h:Nat.ble m 9223372036854775807=true);exact zAk (by rw[Int.negSucc_eq];omega) (by rw[Int.negSucc_eq];omega)
theorem zBC {k:IntKind} {n:Int} {f:AV->R} (h:zEQ k n f=.ok):f (.int k (k.wrap n))=.ok:=by
 cases k<;>first
  |(have h':iteB (zOA n) (f (.int .i64 n)) (vW (IntKind.i64.wrap n) fun n=>f (.int .i64 n))=.ok:=h
    rw[zV,qR] at h';split at h'
    ·rw[zLc ‹_›];exact h'
    ·exact h')
  |exact(qR _ _).symm.trans h
theorem zB0 {a b:IntKind} (h:zC0 a b=true):a=b:=by
 cases a<;>cases b<;>first|rfl|cases h
theorem intEq_ok (a b:Int):intEq a b=(a==b):=by
 cases a with
 |ofNat m=>cases b with
  |ofNat n=>
   show Nat.beq m n=_;by_cases e:m=n
   ·simp[e]
   ·have:Nat.beq m n=false:=by cases h:Nat.beq m n with|false=>rfl|true=>exact absurd (rI h) e
    rw[this];symm;simp;omega
  |negSucc n=>symm;simp[intEq]
 |negSucc m=>cases b with
  |ofNat n=>symm;simp[intEq]
  |negSucc n=>
   show Nat.beq m n=_;by_cases e:m=n
   ·simp[e]
   ·have:Nat.beq m n=false:=by cases h:Nat.beq m n with|false=>rfl|true=>exact absurd (rI h) e
    rw[this];symm;simp;omega
theorem zCQ (a b:Int):zAZ a b=decide (a<b):=by
 cases a with
 |ofNat m=>cases b with
  |ofNat n=>
   show Nat.ble (Nat.succ m) n=_;rw[Bool.eq_iff_iff,Nat.ble_eq];simp;omega
  |negSucc n=>symm;simp[zAZ];try omega
 |negSucc m=>cases b with
  |ofNat n=>symm;simp[zAZ];try omega
  |negSucc n=>
   show Nat.ble (Nat.succ n) m=_;rw[Bool.eq_iff_iff,Nat.ble_eq];simp;omega
theorem zMM {h:IntKind->Int->Int->(AV->R)->R} {a b:AV} {f:AV->R} (hh:zAF h a b f=.ok):∃k x y,a=.int k x/\b=.int k y/\h k x y f=.ok:=by
 cases a<;>first|(cases hh;done)|skip
 cases b<;>first|(cases hh;done)|skip
 obtain⟨h1,h2⟩:=zB hh;have:=zB0 h1;subst this;exact⟨_,_,_,rfl,rfl,h2⟩
theorem zPB {h:IntKind->Int->Int->(AV->R)->R} {a b:AV} {f:AV->R} (hh:zHk h a b f=.ok):∃k x j y,a=.int k x/\b=.int j y/\h k x y f=.ok:=by
 cases a<;>first|(cases hh;done)|skip
 cases b<;>first|(cases hh;done)|skip
 exact⟨_,_,_,_,rfl,rfl,hh⟩
theorem zAw (a b:List UInt8):zAn a b=(a==b):=by
 induction a generalizing b with
 |nil=>cases b<;>rfl
 |cons x a ih=>
  cases b with
  |nil=>rfl
  |cons y b=>
   show iteB (Nat.beq x.toNat y.toNat) (zAn a b) false=_;rw[zV,ih];by_cases e:x=y
   ·subst e;simp
   ·have:¬(Nat.beq x.toNat y.toNat=true):=fun h=>e (UInt8.toNat_inj.1 (rI h))
    rw[if_neg this];symm;simp[e]
theorem zBb (a b:List UInt8):zCF a b=Op.bytesLess a b:=by
 induction a generalizing b with
 |nil=>cases b<;>rfl
 |cons x a ih=>
  cases b with
  |nil=>rfl
  |cons y b=>
   show iteB (Nat.beq x.toNat y.toNat) (zCF a b) (Nat.ble (Nat.succ x.toNat) y.toNat)=_;rw[zV,ih];simp only[Op.bytesLess];by_cases e:x=y
   ·subst e;simp
   ·have:¬(Nat.beq x.toNat y.toNat=true):=fun h=>e (UInt8.toNat_inj.1 (rI h))
    rw[if_neg this];rw[Bool.eq_iff_iff,Nat.ble_eq];simp[e,UInt8.lt_iff_toNat_lt];omega
def yD (_P:Program) (ι:Inj) (w:World) (f:AV->R) (r:Result Value):Prop:=∃v V,f v=.ok/\conc ι v=some V/\r=.ok V w
section
variable {P:Program} {ι:Inj} {w:World} {f:AV->R} {a b:AV} {A B:Value}
theorem z7 {k:IntKind} {n:Int} (h:conc ι (.int k n)=some A):A=.int k n:=by simp only[conc,Option.some.injEq] at h;exact h.symm
theorem yR {s:List UInt8} (h:conc ι (.str s)=some A):A=.string ⟨s.toArray⟩:=by simp only[conc,Option.some.injEq] at h;exact h.symm
theorem xL {s:Bool} (h:conc ι (.bool s)=some A):A=.bool s:=by simp only[conc,Option.some.injEq] at h;exact h.symm
theorem zJb (k:IntKind):kbits k=k.bits:=by cases k<;>rfl
theorem zBv {k:IntKind} {n:Nat} (h:n<=kmax k):k.wrap n=n:=by
 cases k<;>simp only[kmax] at h
 case i64=>exact zAk (by omega) (by omega)
 all_goals
  simp only[IntKind.wrap,IntKind.bits,IntKind.signed,Bool.true_and,Bool.false_and,rN,if_false];try rw[if_neg (by simp;omega)]
  omega
theorem zMA (k:IntKind):kmax k<2 ^ k.bits:=by cases k<;>decide
theorem zIC {k:IntKind} {x y:Nat} (hx:x<=kmax k) (hy:y<=kmax k):(x ||| y)<=kmax k/\(x ^^^ y)<=kmax k:=by
 have h:∃j,kmax k+1=2 ^ j:=by cases k<;>first|exact⟨7,rfl⟩|exact⟨15,rfl⟩|exact⟨31,rfl⟩|exact⟨63,rfl⟩|exact⟨8,rfl⟩|exact⟨16,rfl⟩|exact⟨32,rfl⟩|exact⟨64,rfl⟩
 obtain⟨j,hj⟩:=h;have h1:=Nat.or_lt_two_pow (x:=x) (y:=y) (n:=j) (by omega) (by omega);have h2:=Nat.xor_lt_two_pow (x:=x) (y:=y) (n:=j) (by omega) (by omega);omega
theorem vP {k:IntKind} {x:Nat} (hx:x<=kmax k):(BitVec.ofInt k.bits (x:Int)).toNat=x:=by
 have:=zMA k;rw[BitVec.ofInt_natCast,BitVec.toNat_ofNat];exact Nat.mod_eq_of_lt (by omega)
theorem zJG {k:IntKind} {x y:Nat} (hx:x<=kmax k) (hy:y<=kmax k):(Op.intBits .and k x y).run P w=.ok (.int k (Nat.land x y:Nat)) w:=by
 have h:(x &&& y)<=kmax k:=rP Nat.and_le_left hx;simp only[Op.intBits,rE,BitVec.toNat_and,vP hx,vP hy];rw[zBv h];rfl
theorem zL7 {k:IntKind} {x y:Nat} (hx:x<=kmax k) (hy:y<=kmax k):(Op.intBits .or k x y).run P w=.ok (.int k (Nat.lor x y:Nat)) w:=by
 simp only[Op.intBits,rE,BitVec.toNat_or,vP hx,vP hy];rw[zBv (zIC hx hy).1];rfl
theorem zJV {k:IntKind} {x y:Nat} (hx:x<=kmax k) (hy:y<=kmax k):(Op.intBits .xor k x y).run P w=.ok (.int k (Nat.xor x y:Nat)) w:=by
 simp only[Op.intBits,rE,BitVec.toNat_xor,vP hx,vP hy];rw[zBv (zIC hx hy).2];rfl
theorem zFv {k:IntKind} {x y:Nat} (hx:x<=kmax k) (hy:y<=kmax k):(Op.intBits .andNot k x y).run P w=.ok (.int k (Nat.xor x (Nat.land x y):Nat)) w:=by
 have h0:(BitVec.ofInt k.bits (x:Int) &&& ~~~ BitVec.ofInt k.bits (y:Int)).toNat=x ^^^ (x &&& y):=by
  have hk:=zMA k;apply Nat.eq_of_testBit_eq;intro i;rw[BitVec.toNat_and,BitVec.toNat_not,vP hx,vP hy];rw[Nat.testBit_and,Nat.testBit_xor,Nat.testBit_and];by_cases hi:i<k.bits
  ·rw[show 2 ^ k.bits - 1 - y=2 ^ k.bits - (y+1) by omega,Nat.testBit_two_pow_sub_succ (by omega)]
   cases x.testBit i<;>cases y.testBit i<;>simp[hi]
  ·have:x.testBit i=false:=Nat.testBit_lt_two_pow (rL (by omega:x<2 ^ k.bits) (Nat.pow_le_pow_right (by omega) (by omega)))
   simp[this]
 simp only[Op.intBits,rE,h0];rw[zBv (zIC hx (rP Nat.and_le_left hx)).2];rfl
theorem zEC {h:Nat->Nat->Nat} {k:IntKind} {x y:Int} (hh:zJC h k x y f=.ok):∃a b:Nat,x=a/\y=b/\a<=kmax k/\b<=kmax k/\f (.int k (h a b:Nat))=.ok:=by
 obtain⟨a,rfl,h1⟩:=zBn hh;obtain⟨b,rfl,h2⟩:=zBn h1;obtain⟨h3,h4⟩:=zB h2;obtain⟨h5,h6⟩:=zB h4;rw[zN] at h6;exact⟨a,b,rfl,rfl,rD h3,rD h5,h6⟩
end
def zeroAV (P:Program) (t:TypeId):Option AV:=match P.info? t with
 |some i=>(match i.zero with|some z=>zOU z|none=>none)
 |none=>none
theorem GOk.zero {P:Program} {g:G} (hg:GOk P g) {t:TypeId} {z:AV} (h:g.zero t=some z):zeroAV P t=some z:=by
 unfold G.zero at h;split at h
 ·rename_i i hi
  have:=hg.info hi;unfold zeroAV;rw[this];exact h
 ·cases h
structure Flat (P:Program) (t:TypeId):Prop where
 guard:P.eqGuardType P.depth t=false
 eq:∀(ι:Inj) (xs ys:List AV) (X Y:List Value) (f:Bool->R) (w:World) (z:AV),zeroAV P t=some z->concL ι xs=some X->concL ι ys=some Y->fitsB xs z.cells=true->fitsB ys z.cells=true->cellsEq xs ys f=.ok->
  ∃b,f b=.ok/\(Op.equal t (.agg X.toArray) (.agg Y.toArray)).run P w=.ok b w
 key:∀(e:Bool) (ι:Inj) (xs:List AV) (X:List Value) (w:World) (z:AV),zeroAV P t=some z->concL ι xs=some X->fitsB xs z.cells=true->(rK e 10000 t (.agg X.toArray)).run P w=.ok () w
theorem zC3 {P:Program} {w:World} {t:TypeId} {x y:Value} {r:Result Bool} (h:∀d:Nat,(Op.equalIn (d+1) t x y).run P w=r):(Op.equal t x y).run P w=r:=h 9999
section
variable {P:Program} {g:G} {ι:Inj} {m:Mem} {w:World} (hg:GOk P g) (hr:Rel P ι m w)
include hg hr
theorem zOs {t e:TypeId} {b o c p:Nat} {A B:Value} {f:Bool->R} (ht:P.underlying t=some (.pointer e)) (ha:conc ι (.ptr b o)=some A) (hb:conc ι (.ptr c p)=some B) (h:zQU g e m b o c p f=.ok):
  ∃r,f r=.ok/\(Op.equal t A B).run P w=.ok r w:=by
 obtain⟨s,h1,h2⟩:=zF h;obtain⟨h3,h4⟩:=zB h2;obtain⟨x,h5,h6⟩:=T.getK_ok (h4:m.t.getK b _=.ok);obtain⟨y,h7,h8⟩:=T.getK_ok (h6:m.t.getK c _=.ok);simp only[conc,rA] at ha hb;obtain⟨pa,hpa,rfl⟩:=ha;obtain⟨pb,hpb,rfl⟩:=hb;obtain⟨pa',hpa',hxa⟩:=hr.blk b x h5;obtain⟨pb',hpb',hyb⟩:=hr.blk c y h7;rw[hpa] at hpa';injection hpa' with hpa';subst hpa'
 rw[hpb] at hpb';injection hpb' with hpb';subst hpb'
 split at h8<;>first|(cases h8;done)|skip
 rename_i ca ea ga cb eb gb;obtain⟨C,e',fz,L,k1,k2,k3,k4,k5⟩:=hxa;obtain⟨C',e'',fz',L',j1,j2,j3,j4,j5⟩:=hyb;obtain⟨_,_,_,k6⟩:=k5 (by decide);obtain⟨_,_,_,j6⟩:=j5 (by decide);have kz:=k6.1 rfl;have jz:=j6.1 rfl;have hs:=hg.run_size h1 w;have hs0:s≠0:=by have:=rD h3;omega
 rw[zV] at h8;have red:∀(x y:Addr),(Op.equal t (.pointer (some x)) (.pointer (some y))).run P w=(sameAddr x y).run P w:=fun x y=>zC3 fun d=>by
  simp[Op.equalIn,rB ht,hs,hs0]
 rw[red];by_cases hbc:b=c
 ·subst hbc
  rw[if_pos (by simp)] at h8;rw[hpa] at hpb;injection hpb with hpb;subst hpb
  refine⟨_,h8,?_⟩;by_cases hop:o=p
  ·subst hop;rw[run_sameAddr_same];simp
  ·have:Nat.beq o p=false:=by cases h:Nat.beq o p with|false=>rfl|true=>exact absurd (rI h) hop
   rw[this,run_sameAddr_other w (by simp;exact hop) (by rw[kz] at k1;exact k1) (by rw[kz] at k1;exact k1)]
 ·have hne:Nat.beq b c=false:=by cases h:Nat.beq b c with|false=>rfl|true=>exact absurd (rI h) hbc
  rw[hne] at h8;simp only[rN,if_false] at h8;have hblk:pa.blk≠pb.blk:=fun e=>hbc (hr.apart b c _ _ pa pb h5 h7 hpa hpb e rfl)
  refine⟨_,h8,?_⟩;rw[run_sameAddr_other w (by simp;exact fun h=>absurd h hblk) (by rw[kz] at k1;exact k1) (by rw[jz] at j1;exact j1)]
theorem zNu {t e:TypeId} {a b:AV} {A B:Value} {f:Bool->R} (ht:P.underlying t=some (.pointer e)) (ha:conc ι a=some A) (hb:conc ι b=some B) (h:zLv g e m a b f=.ok):
  ∃r,f r=.ok/\(Op.equal t A B).run P w=.ok r w:=by
 unfold zLv at h;split at h
 ·simp only[conc,Option.some.injEq] at ha hb
  subst ha hb;exact⟨true,h,zC3 fun d=>by simp[Op.equalIn,rB ht]⟩
 ·simp only[conc,Option.some.injEq,rA] at ha hb
  obtain⟨p,_,rfl⟩:=hb;subst ha;exact⟨false,h,zC3 fun d=>by simp[Op.equalIn,rB ht]⟩
 ·simp only[conc,Option.some.injEq,rA] at ha hb
  obtain⟨p,_,rfl⟩:=ha;subst hb;exact⟨false,h,zC3 fun d=>by simp[Op.equalIn,rB ht]⟩
 ·exact zOs hg hr ht ha hb h
 ·cases h
end
def zDH (p:Pl) (o:Nat):Option Nat->Nat
 |some c=>c
 |none=>p.ncap - o / p.sz
section
variable {P:Program} {ι:Inj} {w:World} {A B:Value}
theorem yB (h:conc ι .nils=some A):A=.slice none 0 0:=by simp only[conc,Option.some.injEq] at h;exact h.symm
theorem vA (h:conc ι .nilm=some A):A=.map none:=by simp only[conc,Option.some.injEq] at h;exact h.symm
theorem pI (h:conc ι .nilf=some A):A=.nilFunc:=by simp only[conc,Option.some.injEq] at h;exact h.symm
theorem pF (h:conc ι .nili=some A):A=.nilIface:=by simp only[conc,Option.some.injEq] at h;exact h.symm
theorem zAd (h:conc ι .nilp=some A):A=.pointer none:=by simp only[conc,Option.some.injEq] at h;exact h.symm
theorem zB4 {b o n:Nat} {c:Option Nat} (h:conc ι (.sl b o n c)=some A):∃p,ι b=some p/\A=.slice (some ⟨p.blk,p.delta+o,none⟩) n (zDH p o c)/\(c=none->n+o / p.sz<=p.ncap):=by
 cases c with
 |some c=>simp only[conc,rA] at h;obtain⟨p,h1,rfl⟩:=h;exact⟨p,h1,rfl,by simp⟩
 |none=>
  simp only[conc,rM] at h;obtain⟨p,h1,h⟩:=h;split at h
  ·rename_i hle
   injection h with h;subst h;exact⟨p,h1,rfl,fun _=>hle⟩
  ·cases h
theorem xU {b o n:Nat} {c:Option Nat} (h:conc ι (.sl b o n c)=some A):∃p,ι b=some p/\A=.slice (some ⟨p.blk,p.delta+o,none⟩) n (zDH p o c):=by
 obtain⟨p,h1,h2,_⟩:=zB4 h;exact⟨p,h1,h2⟩
theorem zDs {ι:Inj} {b o n:Nat} {p:Pl} (h:ι b=some p) (hle:n+o / p.sz<=p.ncap):conc ι (.sl b o n none)=some (.slice (some ⟨p.blk,p.delta+o,none⟩) n (p.ncap - o / p.sz)):=by
 simp[conc,h,hle]
theorem zHs {b o l d:Nat} (h:conc ι (.dead b o l d)=some A):∃p,ι b=some p/\A=.slice (some (if p.ncap - o / p.sz=l then⟨p.blk,p.delta+o,none⟩ else⟨p.blk,p.delta+(o+d),none⟩)) 0 (p.ncap - o / p.sz - l):=by
 simp only[conc,rA] at h;obtain⟨p,h1,rfl⟩:=h;exact⟨p,h1,rfl⟩
theorem vG {b o l d:Nat} (h:conc ι (.dead b o l d)=some A):∃b d c,A=.slice (some ⟨b,d,none⟩) 0 c:=by
 obtain⟨p,_,rfl⟩:=zHs h;split<;>exact⟨_,_,_,rfl⟩
theorem zAK {b:Nat} (h:conc ι (.mp b)=some A):∃p,ι b=some p/\A=.map (some p.blk):=by
 simp only[conc,rA] at h;obtain⟨p,h1,rfl⟩:=h;exact⟨p,h1,rfl⟩
theorem yK {b o:Nat} (h:conc ι (.ptr b o)=some A):∃p,ι b=some p/\A=.pointer (some ⟨p.blk,p.delta+o,none⟩):=by
 simp only[conc,rA] at h;obtain⟨p,h1,rfl⟩:=h;exact⟨p,h1,rfl⟩
theorem zA5 {f:Fn} {a c:List AV} (h:conc ι (.fn f a c)=some A):∃f' a' c',zAB ι f=some f'/\concL ι a=some a'/\concL ι c=some c'/\A=.func f' a'.toArray c'.toArray:=by
 simp only[conc,rM,rA] at h;obtain⟨f',h1,a',h2,c',h3,rfl⟩:=h;exact⟨f',a',c',h1,h2,h3,rfl⟩
theorem zAS {t:TypeId} {v:AV} (h:conc ι (.ifc t v)=some A):∃V,conc ι v=some V/\A=.iface t V:=by
 simp only[conc,rA] at h;obtain⟨p,h1,rfl⟩:=h;exact⟨p,h1,rfl⟩
theorem vD {cs:List AV} (h:conc ι (.agg cs)=some A):∃L,concL ι cs=some L/\A=.agg L.toArray:=by
 simp only[conc,rA] at h;obtain⟨p,h1,rfl⟩:=h;exact⟨p,h1,rfl⟩
theorem zC1 {cs:List AV} (h:conc ι (.tup cs)=some A):∃L,concL ι cs=some L/\A=.tuple L.toArray:=by
 simp only[conc,rA] at h;obtain⟨p,h1,rfl⟩:=h;exact⟨p,h1,rfl⟩
def zLe (P:Program) (t:TypeId) (lit:Bool) (A B:Value) (w:World) (f:Bool->R):Prop:=
 ∃r,f r=.ok/\(Op.equal t A B).run P w=.ok r w/\(A=.nilIface->B=.nilIface->lit=true)/\((∃X Y,A=.agg X/\B=.agg Y)->P.eqGuardType P.depth t=false)
theorem zLe.mk' {t:TypeId} {lit:Bool} {f:Bool->R} {r:Bool} (h:f r=.ok) (he:∀d:Nat,(Op.equalIn (d+1) t A B).run P w=.ok r w) (h1:A=.nilIface->B=.nilIface->lit=true)
  (h2:∀X,A≠.agg X):zLe P t lit A B w f:=⟨r,h,zC3 he,h1,fun⟨X,_,e,_⟩=>absurd e (h2 X)⟩
theorem zNj {t:TypeId} {d:TypeDesc} {lit:Bool} {a b:AV} {f:Bool->R} (ht:P.underlying t=some d) (ha:conc ι a=some A) (hb:conc ι b=some B) (h:zOq d a b f=.ok):zLe P t lit A B w f:=by
 unfold zOq at h;split at h
 ·obtain⟨_,_,rfl⟩:=zAS ha
  rw[pF hb];exact .mk' h (fun d=>by simp[Op.equalIn,rB ht]) (by simp) (by simp)
 ·cases h
theorem zEl {g:G} (hg:GOk P g) (hflat:∀t,g.isFlat t=true->Flat P t) {t:TypeId} {xs ys:List AV} {X Y:List Value} {f:Bool->R} (hX:concL ι xs=some X) (hY:concL ι ys=some Y) (h:zD5 g t xs ys f=.ok):
  ∃b,f b=.ok/\(Op.equal t (.agg X.toArray) (.agg Y.toArray)).run P w=.ok b w/\Flat P t:=by
 obtain⟨h1,h2⟩:=zB h;obtain⟨z,h3,h4⟩:=zF h2;obtain⟨h5,h6⟩:=zB h4;obtain⟨h7,h8⟩:=zB h6;have hF:=hflat t h1;obtain⟨r,k1,k2⟩:=hF.eq ι xs ys X Y f w z (hg.zero h3) hX hY h5 h7 h8;exact⟨r,k1,k2,hF⟩
theorem zPW {g:G} {m:Mem} (hg:GOk P g) (hflat:∀t,g.isFlat t=true->Flat P t) (hr:Rel P ι m w) {t:TypeId} {lit:Bool} {a b:AV} {f:Bool->R} (ha:conc ι a=some A) (hb:conc ι b=some B)
  (h:eqK g t lit m a b f=.ok):zLe P t lit A B w f:=by
 unfold eqK at h;split at h
 ·rename_i hd
  have ht:=hg.desc hd (by simp);split at h
  ·rw[xL ha,xL hb]
   rename_i x y;refine .mk' h (fun d=>?_) (by simp) (by simp);simp[Op.equalIn,rB ht];cases x<;>cases y<;>rfl
  ·cases h
 ·rename_i e hd
  have ht:=hg.desc hd (by simp);obtain⟨r,h1,h2⟩:=zNu hg hr ht ha hb h;have:(∀X,A≠.agg X)/\A≠.nilIface:=by
   unfold zLv at h;split at h
   ·rw[zAd ha];simp
   ·rw[zAd ha];simp
   ·obtain⟨_,_,rfl⟩:=yK ha;simp
   ·obtain⟨_,_,rfl⟩:=yK ha;simp
   ·cases h
  exact⟨r,h1,h2,fun e=>absurd e this.2,fun⟨X,_,e,_⟩=>absurd e (this.1 X)⟩
 ·by_cases hd:g.desc t=.invalid
  ·rw[hd] at h;cases h
  ·exact zNj (hg.desc rfl hd) ha hb h
theorem yD.mk' {f:AV->R} {v:AV} {V:Value} {r:Result Value} (h:f v=.ok) (hc:conc ι v=some V) (hr:r=.ok V w):yD P ι w f r:=⟨v,V,h,hc,hr⟩
def zHw (t:TypeId) (x y:Operand) (A B:Value):Sem Unit:=
 match A,B with
 | .nilIface,.nilIface=>do
  if(x matches .const _)||(y matches .const _) then return
  if<-Op.eqGuardIn Op.maxDepth t A B then unsupported (.noEntry "binop/eql: two nil values of an interface type with methods, neither of them the literal nil")
 | .agg _,.agg _=>do
  if !(<- program).eqGuardType (<- program).depth t then return
  if<-Op.eqGuardIn Op.maxDepth t A B then unsupported (.noEntry "binop/eql: two nil values of an interface type with methods, in a part of a struct or an array")
 |_,_=>pure ()
theorem zHJ {t:TypeId} {x y:Operand} (h1:A=.nilIface->B=.nilIface->(zDG x=true∨zDG y=true)) (h2:(∃X Y,A=.agg X/\B=.agg Y)->P.eqGuardType P.depth t=false):
  (zHw t x y A B).run P w=.ok () w:=by
 unfold zHw;split
 ·have h:=h1 rfl rfl
  cases x<;>cases y<;>first|rfl|(simp[zDG] at h)
 ·have h:=h2 ⟨_,_,rfl,rfl⟩
  simp[h]
 ·rfl
theorem zKD {op:BinOp} {t:TypeId} {x y:Operand} (h1:A=.nilIface->B=.nilIface->(zDG x=true∨zDG y=true)) (h2:(∃X Y,A=.agg X/\B=.agg Y)->P.eqGuardType P.depth t=false):
  (eqGuard op t x y A B).run P w=.ok () w:=by
 have key:=zHJ (w:=w) h1 h2;cases op<;>first|rfl|exact key
end
def q7 (P:Program) (rec:TypeId->Option (List Nat)):List Field->Nat->Option (List Nat)
 |[],_=>some []
 |fd::fs,off=>match rec fd.type with
  |some l=>if fd.name≠ "_" /\fd.offset=off/\P.cellsOf fd.type=l.length then(q7 P rec fs (off+l.length)).map (l++ ·) else none
  |none=>none
def leaves (P:Program):Nat->TypeId->Option (List Nat)
 |0,_=>none
 |d+1,t=>match P.underlying t with
  |some .bool=>some [0]
  |some (.int _)=>some [1]
  |some .string=>some [2]
  |some (.struct fs)=>if P.stoodInHeld t then none else q7 P (leaves P d) fs.toList 0
  |some (.array n e)=>match leaves P d e with
   |some l=>if P.cellsOf e=l.length/\(P.info? e).isSome then some (rQ n l).flatten else none
   |none=>none
  |_=>none
def clsOf:AV->Nat
 | .bool _=>0
 | .int _ _=>1
 | .str _=>2
 |_=>3
def qL (P:Program) (t:TypeId):Bool:=match P.underlying t with
 |some (.struct _)=>true
 |some (.array _ _)=>true
 |_=>false
def qK (P:Program) (t:TypeId) (X:List Value):Value:=if qL P t then .agg X.toArray else X.headD default
theorem zLT {x z:AV} (h:sameCls x z=true):clsOf x=clsOf z:=by
 unfold sameCls at h;split at h<;>first|rfl|cases h
theorem zEK:∀ {xs zs:List AV},fitsB xs zs=true->xs.map clsOf=zs.map clsOf
 |[],[],_=>rfl
 |[],_::_,h=>by cases (show false=true from h)
 |x::xs,[],h=>by cases (show false=true from h)
 |x::xs,z::zs,h=>by
  have h':iteB (sameCls x z) (fitsB xs zs) false=true:=h;rw[zV] at h';split at h'
  ·rename_i hs
   simp[zLT hs,zEK h']
  ·cases h'
theorem zCY:∀ {xs ys xs' ys':List AV} {f:Bool->R},xs.length=ys.length->
  cellsEq (xs++xs') (ys++ys') f=cellsEq xs ys (fun b=>Bool.rec (motive:=fun _=>R) (f false) (cellsEq xs' ys' f) b)
 |[],[],_,_,_,_=>rfl
 |[],_::_,_,_,_,h=>by simp at h
 |_::_,[],_,_,_,h=>by simp at h
 |x::xs,y::ys,xs',ys',f,h=>by
  show cellEq x y (fun b=>Bool.rec (motive:=fun _=>R) (f false) (cellsEq (xs++xs') (ys++ys') f) b)=cellEq x y (fun b=>Bool.rec (motive:=fun _=>R) (f false) (cellsEq xs ys _) b);rw[zCY (by simpa using h)]
section
variable {P:Program}
def EqL (P:Program) (dd:Nat) (t:TypeId) (ls:List Nat):Prop:=
 ∀(w:World) (ι:Inj) (xs ys:List AV) (X Y:List Value) (f:Bool->R),xs.map clsOf=ls->ys.map clsOf=ls->concL ι xs=some X->concL ι ys=some Y->cellsEq xs ys f=.ok->
  ∃b,f b=.ok/\(Op.equalIn dd t (qK P t X) (qK P t Y)).run P w=.ok b w
theorem zAR {ι:Inj}:∀ {xs xs':List AV} {X:List Value},concL ι (xs++xs')=some X->∃A B,X=A++B/\concL ι xs=some A/\concL ι xs'=some B
 |[],xs',X,h=>⟨[],X,rfl,rfl,h⟩
 |x::xs,xs',X,h=>by
  simp only[rR,concL,rM,rA] at h;obtain⟨a,ha,l,hl,rfl⟩:=h;obtain⟨A,B,rfl,h1,h2⟩:=zAR hl;exact⟨a::A,B,rfl,by simp[concL,ha,h1],h2⟩
theorem zBT {β:Type} {g:AV->β}:∀ {l l':List β} {xs:List AV},xs.map g=l++l'->∃a b,xs=a++b/\a.map g=l/\b.map g=l'
 |[],l',xs,h=>⟨[],xs,rfl,rfl,h⟩
 |c::l,l',[],h=>by simp at h
 |c::l,l',x::xs,h=>by
  simp only[List.map_cons,rR,List.cons.injEq] at h;obtain⟨a,b,rfl,h1,h2⟩:=zBT h.2;exact⟨x::a,b,rfl,by simp[h.1,h1],h2⟩
theorem vN {t:TypeId} {A B C:List Value} {off:Nat} {w:World} {ls:List Nat} {m:Nat} (hl:leaves P m t=some ls) (hs:P.cellsOf t=ls.length) (hB:B.length=ls.length) (ho:A.length=off):
  (part t (A++B++C).toArray off).run P w=.ok (qK P t B) w:=by
 cases m with
 |zero=>simp[leaves] at hl
 |succ m=>
  cases hu:P.underlying t with
  |none=>simp[leaves,hu] at hl
  |some d=>
   obtain⟨i,hi⟩:=info_of_underlying hu;have agg:qL P t=true->(isAgg t).run P w=.ok true w->(part t (A++B++C).toArray off).run P w=.ok (qK P t B) w:=fun h1 h2=>by
    simp only[part,rG,h2,rF,if_true,run_sizeOf w hi,rE,qK,h1];congr 2;apply Array.toList_inj.1;rw[Array.toList_extract];simp only[List.extract,hs,<-hB,<-ho];simp
   have plain:∀c,ls=[c]->qL P t=false->(isAgg t).run P w=.ok false w->(part t (A++B++C).toArray off).run P w=.ok (qK P t B) w:=fun c hc h1 h2=>by
    subst hc
    match B,hB with
    |[v],_=>
     have:(A++[v]++C).toArray[off]? =some v:=by
      subst ho;simp
     simp only[part,rG,h2,rF,rN,if_false,this,rE,qK,h1];rfl
   cases d
   case bool=>exact plain 0 (by simpa[leaves,hu] using hl.symm) (by simp[qL,hu]) (by simp[isAgg,rB hu])
   case int q=>exact plain 1 (by simpa[leaves,hu] using hl.symm) (by simp[qL,hu]) (by simp[isAgg,rB hu])
   case string=>exact plain 2 (by simpa[leaves,hu] using hl.symm) (by simp[qL,hu]) (by simp[isAgg,rB hu])
   case struct fs=>exact agg (by simp[qL,hu]) (by simp[isAgg,rB hu])
   case array n e=>exact agg (by simp[qL,hu]) (by simp[isAgg,rB hu])
   all_goals (simp[leaves,hu] at hl;done)
theorem zG9 {dd m:Nat} (ih:∀t ls,leaves P m t=some ls->EqL P dd t ls):∀(fs:List Field) (off:Nat) (ls:List Nat),q7 P (leaves P m) fs off=some ls->
  ∀(w:World) (ι:Inj) (xs ys:List AV) (X Y A B:List Value) (f:Bool->R),A.length=off->B.length=off->xs.map clsOf=ls->ys.map clsOf=ls->concL ι xs=some X->concL ι ys=some Y->cellsEq xs ys f=.ok->
   ∃b,f b=.ok/\(Op.eqFields dd (A++X).toArray (B++Y).toArray fs).run P w=.ok b w
 |[],off,ls,hl,w,ι,xs,ys,X,Y,A,B,f,hA,hB,hx,hy,hX,hY,h=>by
  simp[q7] at hl;subst hl;simp at hx hy;subst hx;subst hy;exact⟨true,h,by simp[Op.eqFields]⟩
 |fd::fs,off,ls,hl,w,ι,xs,ys,X,Y,A,B,f,hA,hB,hx,hy,hX,hY,h=>by
  unfold q7 at hl;split at hl
  ·rename_i l hl1
   split at hl
   ·rename_i hc
    obtain⟨hn,ho,hs⟩:=hc;obtain⟨l',hl2,rfl⟩:=rA.1 hl;obtain⟨x1,x2,rfl,hx1,hx2⟩:=zBT hx;obtain⟨y1,y2,rfl,hy1,hy2⟩:=zBT hy;obtain⟨X1,X2,rfl,hX1,hX2⟩:=zAR hX;obtain⟨Y1,Y2,rfl,hY1,hY2⟩:=zAR hY;have lx:x1.length=l.length:=by simpa using congrArg List.length hx1
    have ly:y1.length=l.length:=by simpa using congrArg List.length hy1
    have lX:X1.length=l.length:=by rw[zG hX1,lx]
    have lY:Y1.length=l.length:=by rw[zG hY1,ly]
    rw[zCY (by rw[lx,ly])] at h;obtain⟨b,h1,h2⟩:=ih _ _ hl1 w ι x1 y1 X1 Y1 _ hx1 hy1 hX1 hY1 h;have p1:=vN (A:=A) (B:=X1) (C:=X2) (off:=fd.offset) (w:=w) hl1 hs lX (by rw[hA,ho]);have p2:=vN (A:=B) (B:=Y1) (C:=Y2) (off:=fd.offset) (w:=w) hl1 hs lY (by rw[hB,ho]);rw[rH] at p1 p2;simp only[Op.eqFields,hn,ne_eq,not_false_eq_true,if_true,rG,p1,p2,h2,rF];cases b with
    |false=>exact⟨false,h1,by simp⟩
    |true=>
     obtain⟨b',h3,h4⟩:=zG9 ih fs _ _ hl2 w ι x2 y2 X2 Y2 (A++X1) (B++Y1) f (by simp[hA,lX]) (by simp[hB,lY]) hx2 hy2 hX2 hY2 h1;refine⟨b',h3,?_⟩
     simpa[rH] using h4
   ·cases hl
  ·cases hl
theorem zHh {dd:Nat} {e:TypeId} {l:List Nat} {m:Nat} (hl:leaves P m e=some l) (hs:P.cellsOf e=l.length) (ih:EqL P dd e l):∀(n i:Nat),
  ∀(w:World) (ι:Inj) (xs ys:List AV) (X Y A B:List Value) (f:Bool->R),A.length=i*l.length->B.length=i*l.length->xs.map clsOf=(rQ n l).flatten->ys.map clsOf=(rQ n l).flatten->concL ι xs=some X->concL ι ys=some Y->cellsEq xs ys f=.ok->
   ∃b,f b=.ok/\(Op.eqItems dd e (P.cellsOf e) (A++X).toArray (B++Y).toArray (List.range' i n)).run P w=.ok b w
 |0,i,w,ι,xs,ys,X,Y,A,B,f,hA,hB,hx,hy,hX,hY,h=>by
  simp at hx hy;subst hx;subst hy;exact⟨true,h,by simp[Op.eqItems]⟩
 |n+1,i,w,ι,xs,ys,X,Y,A,B,f,hA,hB,hx,hy,hX,hY,h=>by
  rw[List.replicate_succ,List.flatten_cons] at hx hy;obtain⟨x1,x2,rfl,hx1,hx2⟩:=zBT hx;obtain⟨y1,y2,rfl,hy1,hy2⟩:=zBT hy;obtain⟨X1,X2,rfl,hX1,hX2⟩:=zAR hX;obtain⟨Y1,Y2,rfl,hY1,hY2⟩:=zAR hY;have lx:x1.length=l.length:=by simpa using congrArg List.length hx1
  have ly:y1.length=l.length:=by simpa using congrArg List.length hy1
  have lX:X1.length=l.length:=by rw[zG hX1,lx]
  have lY:Y1.length=l.length:=by rw[zG hY1,ly]
  rw[zCY (by rw[lx,ly])] at h;obtain⟨b,h1,h2⟩:=ih w ι x1 y1 X1 Y1 _ hx1 hy1 hX1 hY1 h;have p1:=vN (A:=A) (B:=X1) (C:=X2) (off:=i*P.cellsOf e) (w:=w) hl hs lX (by rw[hA,hs]);have p2:=vN (A:=B) (B:=Y1) (C:=Y2) (off:=i*P.cellsOf e) (w:=w) hl hs lY (by rw[hB,hs]);rw[rH] at p1 p2;simp only[List.range'_succ,Op.eqItems,rG,p1,p2,h2,rF];cases b with
  |false=>exact⟨false,h1,by simp⟩
  |true=>
   obtain⟨b',h3,h4⟩:=zHh hl hs ih n (i+1) w ι x2 y2 X2 Y2 (A++X1) (B++Y1) f (by simp[hA,lX,rO]) (by simp[hB,lY,rO]) hx2 hy2 hX2 hY2 h1;refine⟨b',h3,?_⟩
   simpa[rH] using h4
theorem zIZ (w:World) (d:Nat) {t:TypeId} {fs:Array Field} (xs ys:Array Value) (hu:P.underlying t=some (.struct fs)) (hst:P.stoodInHeld t=false):
  (Op.equalIn (d+1) t (.agg xs) (.agg ys)).run P w=(Op.eqFields d xs ys fs.toList).run P w:=by
 have hfs:P.fieldsOf t=fs:=by simp[Program.fieldsOf,hu]
 have:=run_equalIn_struct w d t xs ys (by rw[hfs];exact hu) hst;rw[hfs] at this;exact this
theorem zE3 {ι:Inj} {xs:List AV} {X:List Value} {c:Nat} (h:xs.map clsOf=[c]) (hX:concL ι xs=some X):∃x V,xs=[x]/\clsOf x=c/\conc ι x=some V/\X=[V]:=by
 match xs,h with
 |[x],h=>
  simp only[concL,rM,rA] at hX;obtain⟨V,hV,l,hl,rfl⟩:=hX;cases hl;exact⟨x,V,rfl,by simpa using h,hV,rfl⟩
theorem zKM {a:AV} (h:clsOf a=0):∃b,a=.bool b:=by cases a<;>simp[clsOf] at h ⊢
theorem zMO {a:AV} (h:clsOf a=1):∃k n,a=.int k n:=by cases a<;>simp[clsOf] at h ⊢
theorem zMF {a:AV} (h:clsOf a=2):∃s,a=.str s:=by cases a<;>simp[clsOf] at h ⊢
theorem zRt (d:Nat):∀(m:Nat) (t:TypeId) (ls:List Nat),leaves P m t=some ls->EqL P (d+m) t ls
 |0,t,ls,h=>by simp[leaves] at h
 |m+1,t,ls,hl=>by
  intro w ι xs ys X Y f hx hy hX hY h;have hl0:=hl;cases hu:P.underlying t with
  |none=>simp[leaves,hu] at hl
  |some k=>
   have hd:d+(m+1)=(d+m)+1:=rfl;cases k
   case bool=>
    simp[leaves,hu] at hl;subst hl;obtain⟨x,V,rfl,hc,hV,rfl⟩:=zE3 hx hX;obtain⟨y,V',rfl,hc',hV',rfl⟩:=zE3 hy hY;obtain⟨a,rfl⟩:=zKM hc;obtain⟨b,rfl⟩:=zKM hc';simp[conc] at hV hV';subst hV;subst hV';refine⟨a==b,?_,by simp[qK,qL,hu,Op.equalIn,rB hu]⟩;have h':f (iteB a b (Bool.not b))=.ok∨True:=.inr trivial;revert h;show cellEq (.bool a) (.bool b) (fun r=>Bool.rec (motive:=fun _=>R) (f false) (f true) r)=.ok->_;cases a<;>cases b<;>exact id
   case int q=>
    simp[leaves,hu] at hl;subst hl;obtain⟨x,V,rfl,hc,hV,rfl⟩:=zE3 hx hX;obtain⟨y,V',rfl,hc',hV',rfl⟩:=zE3 hy hY;obtain⟨a,n,rfl⟩:=zMO hc;obtain⟨b,n',rfl⟩:=zMO hc';simp[conc] at hV hV';subst hV;subst hV';obtain⟨h1,h2⟩:=zB (h:ifB 0 (zC0 a b) (Bool.rec (motive:=fun _=>R) (f false) (f true) (intEq n n'))=.ok);obtain rfl:=zB0 h1;refine⟨n==n',?_,by simp[qK,qL,hu,Op.equalIn,rB hu]⟩;rw[intEq_ok] at h2;cases hb:n==n'<;>rw[hb] at h2<;>exact h2
   case string=>
    simp[leaves,hu] at hl;subst hl;obtain⟨x,V,rfl,hc,hV,rfl⟩:=zE3 hx hX;obtain⟨y,V',rfl,hc',hV',rfl⟩:=zE3 hy hY;obtain⟨a,rfl⟩:=zMF hc;obtain⟨b,rfl⟩:=zMF hc';simp[conc] at hV hV';subst hV;subst hV';have h2:(Bool.rec (motive:=fun _=>R) (f false) (f true) (zAn a b))=.ok:=h;rw[zAw] at h2;refine⟨a==b,?_,?_⟩
    ·cases hb:a==b<;>rw[hb] at h2<;>exact h2
    ·simp only[qK,qL,hu,Op.equalIn,rG,rB hu,rF,List.headD_cons,rN,if_false,rE]
     congr 1;by_cases hab:a=b
     ·subst hab
      rw[show(a==a)=true from beq_self_eq_true a];exact(MapKept.bytes_beq _ _).2 rfl
     ·have h1:¬((⟨a.toArray⟩:ByteArray)==⟨b.toArray⟩)=true:=fun h=>hab (by have:=(MapKept.bytes_beq _ _).1 h;injection this with h;exact List.toArray_inj h)
      rw[beq_eq_false_iff_ne.2 hab];exact Bool.eq_false_iff.2 h1
   case struct fs=>
    simp only[leaves,hu] at hl;split at hl
    ·cases hl
    ·rename_i hst
     have hst':P.stoodInHeld t=false:=by simpa using hst
     obtain⟨b,h1,h2⟩:=zG9 (zRt d m) fs.toList 0 ls hl w ι xs ys X Y [] [] f rfl rfl hx hy hX hY h;refine⟨b,h1,?_⟩;simp only[qK,qL,hu,if_true];rw[hd,zIZ w (d+m) _ _ hu hst'];exact h2
   case array n e=>
    simp only[leaves,hu] at hl;split at hl
    ·rename_i l hl1
     split at hl
     ·rename_i hc
      obtain⟨i,hi⟩:=Option.isSome_iff_exists.1 hc.2;injection hl with hl;subst hl
      obtain⟨b,h1,h2⟩:=zHh hl1 hc.1 (zRt d m e l hl1) n 0 w ι xs ys X Y [] [] f (by simp) (by simp) hx hy hX hY h;refine⟨b,h1,?_⟩;simp only[qK,qL,hu,if_true];rw[hd,run_equalIn_array w (d+m) _ _ hu hi,List.range_eq_range'];exact h2
     ·cases hl
    ·cases hl
   all_goals (simp[leaves,hu] at hl;done)
def zRb (P:Program) (em:Bool) (dd:Nat) (t:TypeId) (n:Nat):Prop:=∀(w:World) (X:List Value),X.length=n->(rK em dd t (qK P t X)).run P w=.ok () w
theorem zEz {em:Bool} {dd m:Nat} (ih:∀t ls,leaves P m t=some ls->zRb P em dd t ls.length) (w:World):∀(fs:List Field) (off:Nat) (ls:List Nat),q7 P (leaves P m) fs off=some ls->
  ∀(A X:List Value),A.length=off->X.length=ls.length->
   (forIn fs PUnit.unit (fun f _=>(do
     if f.name≠ "_" then rK em dd f.type (<- part f.type (A++X).toArray f.offset)
     pure (ForInStep.yield PUnit.unit):Sem (ForInStep PUnit)))).run P w=.ok PUnit.unit w
 |[],off,ls,hl,A,X,hA,hX=>by simp
 |fd::fs,off,ls,hl,A,X,hA,hX=>by
  unfold q7 at hl;split at hl
  ·rename_i l hl1
   split at hl
   ·rename_i hc
    obtain⟨hn,ho,hs⟩:=hc;obtain⟨l',hl2,rfl⟩:=rA.1 hl;have hX':(X.take l.length).length=l.length:=by simp at hX ⊢;omega
    have p1:=vN (A:=A) (B:=X.take l.length) (C:=X.drop l.length) (off:=fd.offset) (w:=w) hl1 hs hX' (by rw[hA,ho]);rw[rH,List.take_append_drop] at p1;have p2:=ih _ _ hl1 w _ hX';simp only[List.forIn_cons,rG,hn,ne_eq,not_false_eq_true,if_true,rF,p1,p2,rE];have:=zEz ih w fs _ _ hl2 (A++X.take l.length) (X.drop l.length) (by simp[hA] at hX' ⊢;omega) (by simp at hX ⊢;omega);rw[rH,List.take_append_drop] at this
    simpa using this
   ·cases hl
  ·cases hl
theorem zFy {em:Bool} {dd m:Nat} {e:TypeId} {l:List Nat} {i:TypeInfo} (hi:P.info? e=some i) (hl:leaves P m e=some l) (hs:P.cellsOf e=l.length) (ih:zRb P em dd e l.length) (w:World):∀(n j:Nat)
  (A X:List Value),A.length=j*l.length->X.length=n*l.length->
   (forIn (List.range' j n) PUnit.unit (fun i _=>(do
     rK em dd e (<- part e (A++X).toArray (i*(<- sizeOf e)))
     pure (ForInStep.yield PUnit.unit):Sem (ForInStep PUnit)))).run P w=.ok PUnit.unit w
 |0,j,A,X,hA,hX=>by simp
 |n+1,j,A,X,hA,hX=>by
  have hX':(X.take l.length).length=l.length:=by simp[rO] at hX ⊢;omega
  have p1:=vN (A:=A) (B:=X.take l.length) (C:=X.drop l.length) (off:=j*P.cellsOf e) (w:=w) hl hs hX' (by rw[hA,hs]);rw[rH,List.take_append_drop] at p1;have p2:=ih w _ hX';simp only[List.range'_succ,List.forIn_cons,rG,rF,run_sizeOf w hi,p1,p2,rE];have:=zFy hi hl hs ih w n (j+1) (A++X.take l.length) (X.drop l.length) (by simp[hA,rO] at hX' ⊢;omega) (by simp[rO] at hX ⊢;omega);rw[rH,List.take_append_drop] at this
  simpa using this
theorem Result.andThen_of {r:Result PUnit} {w:World} (h:r=.ok PUnit.unit w):(r.andThen fun _ w'=>(pure ():Sem Unit).run P w')=.ok () w:=by
 subst h;rfl
theorem zO0 (em:Bool) (d:Nat):∀(m:Nat) (t:TypeId) (ls:List Nat),leaves P m t=some ls->zRb P em (d+m) t ls.length
 |0,t,ls,h=>by simp[leaves] at h
 |m+1,t,ls,hl=>by
  intro w X hX;cases hu:P.underlying t with
  |none=>simp[leaves,hu] at hl
  |some k=>
   have hd:d+(m+1)=(d+m)+1:=rfl;cases k
   case bool=>simp[rK,rB hu]
   case int q=>simp[rK,rB hu]
   case string=>simp[rK,rB hu]
   case struct fs=>
    simp only[leaves,hu] at hl;split at hl
    ·cases hl
    ·have:=zEz (em:=em) (dd:=d+m) (zO0 em d m) w fs.toList 0 ls hl [] X rfl hX
     simp only[qK,qL,hu,if_true,rK,rG,rB hu,rF];rw[<-Array.forIn_toList];simp only[rS] at this;exact Result.andThen_of this
   case array n e=>
    simp only[leaves,hu] at hl;split at hl
    ·rename_i l hl1
     split at hl
     ·rename_i hc
      obtain⟨i,hi⟩:=Option.isSome_iff_exists.1 hc.2;injection hl with hl;subst hl
      have:=zFy (em:=em) (dd:=d+m) hi hl1 hc.1 (zO0 em d m e l hl1) w n 0 [] X (by simp) (by simpa using hX);simp only[qK,qL,hu,if_true,rK,rG,rB hu,rF];simp only[Std.Legacy.Range.forIn_eq_forIn_range',Std.Legacy.Range.size,Nat.sub_zero,Nat.add_one_sub_one,Nat.div_one];simp only[rS] at this;exact Result.andThen_of this
     ·cases hl
    ·cases hl
   all_goals (simp[leaves,hu] at hl;done)
theorem flat_of {t:TypeId} {ls:List Nat} (hg:P.eqGuardType P.depth t=false) (hl:leaves P 8 t=some ls) (ha:qL P t=true) (hz:(zeroAV P t).map (fun z=>z.cells.map clsOf)=some ls):Flat P t:=by
 have hz':∀z,zeroAV P t=some z->z.cells.map clsOf=ls:=fun z h=>by rw[h] at hz;simpa using hz
 have hs:∀X,qK P t X=.agg X.toArray:=fun X=>by simp[qK,ha]
 refine⟨hg,fun ι xs ys X Y f w z h1 hX hY hx hy h=>?_,fun e ι xs X w z h1 hX hx=>?_⟩
 ·have:=zRt (P:=P) 9992 8 t ls hl w ι xs ys X Y f (by rw[zEK hx,hz' z h1]) (by rw[zEK hy,hz' z h1]) hX hY h
  rw[hs,hs] at this;exact this
 ·have:=zO0 (P:=P) e 9992 8 t ls hl w X (by rw[zG hX,<-hz' z h1,<-zEK hx];simp)
  rw[hs] at this;exact this
end
section
variable {P:Program} {ι:Inj} {w:World} {A B:Value} {f:AV->R} {a b:AV} {t:TypeId}
theorem zCN (s:List UInt8):(ByteArray.mk s.toArray).size=s.length:=by simp[ByteArray.size]
theorem yD.mkInt {k:IntKind} {n n':Int} {r:Result Value} (h:f (.int k n)=.ok) (hr:r=.ok (.int k n') w) (e:n'=n:=by first|rfl|(simp;done)):yD P ι w f r:=by
 subst e;exact .mk' h (by simp[conc]) hr
theorem qZ {h:IntKind->Int->Int->(AV->R)->R} {op:BinOp} (ha:conc ι a=some A) (hb:conc ι b=some B) (hh:zAF h a b f=.ok)
  (hk:∀k x y,h k x y f=.ok->yD P ι w f ((binOp op t (.int k x) (.int k y)).run P w)):yD P ι w f ((binOp op t A B).run P w):=by
 obtain⟨k,x,y,rfl,rfl,h3⟩:=zMM hh;rw[z7 ha,z7 hb];exact hk k x y h3
theorem zH8 {h:IntKind->Int->Int->(AV->R)->R} {op:BinOp} (ha:conc ι a=some A) (hb:conc ι b=some B) (hh:zHk h a b f=.ok)
  (hk:∀k x j y,h k x y f=.ok->yD P ι w f ((binOp op t (.int k x) (.int j y)).run P w)):yD P ι w f ((binOp op t A B).run P w):=by
 obtain⟨k,x,j,y,rfl,rfl,h3⟩:=zPB hh;rw[z7 ha,z7 hb];exact hk k x j y h3
theorem zH4 {h:IntKind->Int->Int->(AV->R)->R} {Q:Prop} (ha:conc ι a=some A) (hb:conc ι b=some B) (hh:zAF h a b f=.ok)
  (hk:∀k x y,A=.int k x->B=.int k y->h k x y f=.ok->Q):Q:=by
 obtain⟨k,x,y,rfl,rfl,h3⟩:=zMM hh;exact hk k x y (z7 ha) (z7 hb) h3
theorem zDE (x y:Int):(!decide (y<x))=decide (x<=y):=by
 by_cases h:y<x
 ·simp[h]
 ·simp[h];omega
theorem zAU:∀(a b:List UInt8),(Op.bytesLess a b||a==b)=!Op.bytesLess b a
 |[],[]=>rfl
 |[],_::_=>rfl
 |_::_,[]=>rfl
 |x::a,y::b=>by
  have ih:=zAU a b;simp only[Op.bytesLess];by_cases e:x=y
  ·subst e
   have:¬x<x:=UInt8.lt_irrefl x;simp only[this,decide_false,Bool.false_or,beq_self_eq_true,Bool.true_and,<-ih];congr 1;rw[Bool.eq_iff_iff];simp
  ·have e':¬y=x:=fun h=>e h.symm
   have h1:(x==y)=false:=by simp[e]
   have h2:(y==x)=false:=by simp[e']
   have h3:(x::a==y::b)=false:=by simp[e]
   rw[h1,h2,h3];simp only[Bool.false_and,Bool.or_false];rw[Bool.eq_iff_iff];simp only[decide_eq_true_iff,Bool.not_eq_true',decide_eq_false_iff_not,UInt8.lt_iff_toNat_lt];have:x.toNat≠y.toNat:=fun h=>e (UInt8.toNat_inj.1 h)
   omega
theorem zMu (ha:conc ι a=some A) (h1:∀k n,a≠.int k n) (h2:∀s,a≠.str s):binOp .eql t A B=(do pure (.bool (<- Op.equal t A B)):Sem Value):=by
 cases a<;>first|(exact absurd rfl (h1 _ _))|(exact absurd rfl (h2 _))|skip
 case bool=>rw[xL ha];cases B<;>rfl
 case ptr=>obtain⟨_,_,rfl⟩:=yK ha;cases B<;>rfl
 case nilp=>rw[zAd ha];cases B<;>rfl
 case sl=>obtain⟨_,_,rfl⟩:=xU ha;cases B<;>rfl
 case nils=>rw[yB ha];cases B<;>rfl
 case mp=>obtain⟨_,_,rfl⟩:=zAK ha;cases B<;>rfl
 case nilm=>rw[vA ha];cases B<;>rfl
 case fn=>obtain⟨_,_,_,_,_,_,rfl⟩:=zA5 ha;cases B<;>rfl
 case nilf=>rw[pI ha];cases B<;>rfl
 case ifc=>obtain⟨_,_,rfl⟩:=zAS ha;cases B<;>rfl
 case nili=>rw[pF ha];cases B<;>rfl
 case agg=>obtain⟨_,_,rfl⟩:=vD ha;cases B<;>rfl
 case tup=>obtain⟨_,_,rfl⟩:=zC1 ha;cases B<;>rfl
 case dead=>obtain⟨_,_,_,rfl⟩:=vG ha;cases B<;>rfl
theorem zMy (ha:conc ι a=some A) (h1:∀k n,a≠.int k n) (h2:∀s,a≠.str s):binOp .neq t A B=(do pure (.bool (!(<- Op.equal t A B))):Sem Value):=by
 cases a<;>first|(exact absurd rfl (h1 _ _))|(exact absurd rfl (h2 _))|skip
 case bool=>rw[xL ha];cases B<;>rfl
 case ptr=>obtain⟨_,_,rfl⟩:=yK ha;cases B<;>rfl
 case nilp=>rw[zAd ha];cases B<;>rfl
 case sl=>obtain⟨_,_,rfl⟩:=xU ha;cases B<;>rfl
 case nils=>rw[yB ha];cases B<;>rfl
 case mp=>obtain⟨_,_,rfl⟩:=zAK ha;cases B<;>rfl
 case nilm=>rw[vA ha];cases B<;>rfl
 case fn=>obtain⟨_,_,_,_,_,_,rfl⟩:=zA5 ha;cases B<;>rfl
 case nilf=>rw[pI ha];cases B<;>rfl
 case ifc=>obtain⟨_,_,rfl⟩:=zAS ha;cases B<;>rfl
 case nili=>rw[pF ha];cases B<;>rfl
 case agg=>obtain⟨_,_,rfl⟩:=vD ha;cases B<;>rfl
 case tup=>obtain⟨_,_,rfl⟩:=zC1 ha;cases B<;>rfl
 case dead=>obtain⟨_,_,_,rfl⟩:=vG ha;cases B<;>rfl
theorem zPH {h:List UInt8->List UInt8->Bool} {op:BinOp} {s:List UInt8} (ha:conc ι (.str s)=some A) (hb:conc ι b=some B) (hh:zLO h s b f=.ok)
  (hk:∀s',(Op.stringOp op ⟨s.toArray⟩ ⟨List.toArray s'⟩).run P w=.ok (.bool (h s s')) w) (hop:op≠.shl) (hop':op≠.shr):yD P ι w f ((binOp op t A B).run P w):=by
 cases b<;>first|(cases hh;done)|skip
 rename_i s';have h2:zCz (h s s') f=.ok:=hh;rw[zA3] at h2;rw[yR ha,yR hb];refine .mk' h2 (V:=.bool (h s s')) (by simp[conc]) ?_;have:binOp op t (.string ⟨s.toArray⟩) (.string ⟨s'.toArray⟩)=Op.stringOp op ⟨s.toArray⟩ ⟨s'.toArray⟩:=by cases op<;>rfl
 rw[this];exact hk s'
theorem zNb (ha:conc ι a=some A) (hb:conc ι b=some B) (h:zS3 a b f=.ok):yD P ι w f ((binOp .add t A B).run P w):=by
 cases a<;>first|(cases h;done)|skip
 ·rename_i k n
  refine qZ ha hb (show zAF zTM (.int k n) b f=.ok from h) fun k x y h3=>?_
  have h4:=zBC ((qR _ _).symm.trans h3);exact .mkInt h4 (by simp[binOp,Op.intArith];rfl)
theorem zDl {h:Int->Int->Bool} {hs:List UInt8->List UInt8->Bool} {op:BinOp} (ha:conc ι a=some A) (hb:conc ι b=some B) (hh:zIG h hs a b f=.ok)
  (hk:∀x y,(Op.intCmp op x y).run P w=.ok (.bool (h x y)) w) (hks:∀s s',(Op.stringOp op ⟨List.toArray s⟩ ⟨List.toArray s'⟩).run P w=.ok (.bool (hs s s')) w)
  (hop:op=.lss∨op=.leq∨op=.gtr∨op=.geq):yD P ι w f ((binOp op t A B).run P w):=by
 cases a<;>first|(cases hh;done)|skip
 ·rename_i k n
  refine qZ ha hb (show zAF (fun _ x y f=>zCz (h x y) f) (.int k n) b f=.ok from hh) fun k x y h3=>?_
  rw[zA3] at h3;refine .mk' h3 (V:=.bool (h x y)) (by simp[conc]) ?_;have:binOp op t (.int k x) (.int k y)=Op.intCmp op x y:=by rcases hop with rfl|rfl|rfl|rfl<;>simp[binOp]
  rw[this];exact hk x y
 ·rename_i s
  exact zPH ha hb (hh:zLO hs s b f=.ok) (hks _) (by rcases hop with rfl|rfl|rfl|rfl<;>simp) (by rcases hop with rfl|rfl|rfl|rfl<;>simp)
variable {g:G} {m:Mem} (hg:GOk P g) (hflat:∀t,g.isFlat t=true->Flat P t) (hr:Rel P ι m w)
include hg hflat hr
theorem zQD {op:BinOp} {lit:Bool} (x y:Operand) (hl:lit=true->zDG x=true∨zDG y=true) (ha:conc ι a=some A) (hb:conc ι b=some B) (h:zTC op g t lit m a b f=.ok):
  yD P ι w f ((do eqGuard op t x y A B;binOp op t A B:Sem Value).run P w):=by
 have plain:∀ {op:BinOp},(op≠.eql)->(op≠.neq)->yD P ι w f ((binOp op t A B).run P w)->yD P ι w f ((do eqGuard op t x y A B;binOp op t A B:Sem Value).run P w):=fun {op} h1 h2 h=>by
  have:(do eqGuard op t x y A B;binOp op t A B:Sem Value)=binOp op t A B:=by
   cases op<;>first|rfl|(exact absurd rfl h1)|(exact absurd rfl h2)
  rw[this];exact h
 have guarded:∀ {op:BinOp} (v:Bool),f (.bool v)=.ok->((A=.nilIface->B=.nilIface->lit=true)/\((∃X Y,A=.agg X/\B=.agg Y)->P.eqGuardType P.depth t=false))->
   (binOp op t A B).run P w=.ok (.bool v) w->yD P ι w f ((do eqGuard op t x y A B;binOp op t A B:Sem Value).run P w):=fun {op} v h1 h2 h3=>by
  refine .mk' h1 (V:=.bool v) (by simp[conc]) ?_;rw[rG,zKD (fun e1 e2=>hl (h2.1 e1 e2)) h2.2];exact h3
 cases op
 case add=>exact plain (by simp) (by simp) (zNb ha hb h)
 case sub=>
  refine plain (by simp) (by simp) (qZ ha hb (show zAF zTQ a b f=.ok from h) fun k x y h3=>?_);have h4:=zBC ((qR _ _).symm.trans h3);exact .mkInt h4 (by simp[binOp,Op.intArith];rfl)
 case mul=>
  refine plain (by simp) (by simp) (qZ ha hb (show zAF zTL a b f=.ok from h) fun k x y h3=>?_);have h4:=zBC ((qR _ _).symm.trans h3);exact .mkInt h4 (by simp[binOp,Op.intArith];rfl)
 case quo=>
  refine plain (by simp) (by simp) (qZ ha hb (show zAF zSN a b f=.ok from h) fun k x y h3=>?_);have h3':iteB (intEq y 0) (.bad 0) (vW (Int.tdiv x y) fun n=>zEQ k n f)=.ok:=h3;rw[zV,intEq_ok] at h3';split at h3'
  ·cases h3'
  ·rename_i hy
   have h4:=zBC ((qR _ _).symm.trans h3');exact .mkInt h4 (by simp at hy;simp[binOp,Op.intDiv,hy];rfl)
 case rem=>
  refine plain (by simp) (by simp) (qZ ha hb (show zAF zTJ a b f=.ok from h) fun k x y h3=>?_);have h3':iteB (intEq y 0) (.bad 0) (vW (Int.tmod x y) fun n=>f (.int k n))=.ok:=h3;rw[zV,intEq_ok] at h3';split at h3'
  ·cases h3'
  ·rename_i hy
   have h4:=(qR _ _).symm.trans h3';exact .mkInt h4 (by simp at hy;simp[binOp,Op.intDiv,hy];rfl)
 case and=>
  refine plain (by simp) (by simp) (qZ ha hb (show zAF zSv a b f=.ok from h) fun k x y h3=>?_);obtain⟨x,y,rfl,rfl,hx,hy,h4⟩:=zEC h3;exact .mkInt h4 (by simp[binOp,zJG hx hy];rfl)
 case or=>
  refine plain (by simp) (by simp) (qZ ha hb (show zAF orH a b f=.ok from h) fun k x y h3=>?_);obtain⟨x,y,rfl,rfl,hx,hy,h4⟩:=zEC h3;exact .mkInt h4 (by simp[binOp,zL7 hx hy];rfl)
 case xor=>
  refine plain (by simp) (by simp) (qZ ha hb (show zAF zSX a b f=.ok from h) fun k x y h3=>?_);obtain⟨x,y,rfl,rfl,hx,hy,h4⟩:=zEC h3;exact .mkInt h4 (by simp[binOp,zJV hx hy];rfl)
 case andNot=>
  refine plain (by simp) (by simp) (qZ ha hb (show zAF zLz a b f=.ok from h) fun k x y h3=>?_);obtain⟨x,y,rfl,rfl,hx,hy,h4⟩:=zEC h3;exact .mkInt h4 (by simp[binOp,zFv hx hy];rfl)
 case shl=>
  refine plain (by simp) (by simp) (zH8 ha hb (show zHk zS1 a b f=.ok from h) fun k x j y h3=>?_);obtain⟨y,rfl,h4⟩:=zBn h3;obtain⟨h5,h6⟩:=zB h4;have h7:=zBC ((qR _ _).symm.trans h6);have hy:=rD h5;rw[zJb] at hy;have:¬((y:Int)<0):=by omega
  refine .mkInt h7 (n':=k.wrap (x*2 ^ y)) (by simp only[binOp,Op.shift,this,if_false,Int.toNat_natCast,Nat.min_eq_left hy,rE]) ?_;show k.wrap (x*2 ^ y)=k.wrap (x*((2 ^ y:Nat):Int));rw[Int.natCast_pow];rfl
 case shr=>
  refine plain (by simp) (by simp) (zH8 ha hb (show zHk zSs a b f=.ok from h) fun k x j y h3=>?_);obtain⟨x,rfl,h3'⟩:=zBn h3;obtain⟨y,rfl,h4⟩:=zBn h3';obtain⟨h5,h6⟩:=zB h4;have h7:=(zN _ _).symm.trans h6;have hy:=rD h5;rw[zJb] at hy;have:¬((y:Int)<0):=by omega
  refine .mkInt h7 (n':=(x:Int).fdiv (2 ^ y)) (by simp only[binOp,Op.shift,this,if_false,Int.toNat_natCast,Nat.min_eq_left hy,rE]) ?_;rw[Int.fdiv_eq_ediv_of_nonneg _ (by exact_mod_cast Nat.zero_le (2 ^ y))];show(x:Int) / 2 ^ y=((x / 2 ^ y:Nat):Int);rw[Int.natCast_ediv,Int.natCast_pow];rfl
 case lss=>
  refine plain (by simp) (by simp) (zDl ha hb (h:zIG zAZ zCF a b f=.ok) (fun x y=>?_) (fun s s'=>?_) (by simp))
  ·simp[Op.intCmp,zCQ]
  ·simp[Op.stringOp,zBb]
 case leq=>
  refine plain (by simp) (by simp) (zDl ha hb (h:zIG (fun x y=>Bool.not (zAZ y x)) (fun x y=>Bool.not (zCF y x)) a b f=.ok) (fun x y=>?_) (fun s s'=>?_) (by simp))
  ·simp only[Op.intCmp,zCQ,rE,zDE]
  ·simp only[Op.stringOp,ByteArray.toList_mk,zBb,rE,zAU]
 case gtr=>
  refine plain (by simp) (by simp) (zDl ha hb (h:zIG (fun x y=>zAZ y x) (fun x y=>zCF y x) a b f=.ok) (fun x y=>?_) (fun s s'=>?_) (by simp))
  ·simp[Op.intCmp,zCQ]
  ·simp only[Op.stringOp,ByteArray.toList_mk,zBb,rE,zAU,Bool.not_not]
 case geq=>
  refine plain (by simp) (by simp) (zDl ha hb (h:zIG (fun x y=>Bool.not (zAZ x y)) (fun x y=>Bool.not (zCF x y)) a b f=.ok) (fun x y=>?_) (fun s s'=>?_) (by simp))
  ·simp only[Op.intCmp,zCQ,rE,zDE,ge_iff_le]
  ·simp[Op.stringOp,zBb]
 case eql=>
  have other:vX g t lit m a b f=.ok->(∀k n,a≠.int k n)->(∀s,a≠.str s)->yD P ι w f ((do eqGuard .eql t x y A B;binOp .eql t A B:Sem Value).run P w):=fun h0 n1 n2=>by
   obtain⟨r,h1,h2,h3,h4⟩:=zPW hg hflat hr ha hb (h0:eqK g t lit m a b (fun r=>zCz r f)=.ok);replace h1:f (.bool r)=.ok:=zA3.symm.trans h1;refine guarded r h1 ⟨h3,h4⟩ ?_;have e:binOp .eql t A B=(do pure (.bool (<- Op.equal t A B)):Sem Value):=zMu ha n1 n2;rw[e,rG,h2];rfl
  cases a<;>first|(exact other h (by simp) (by simp))|skip
  ·rename_i k n
   refine zH4 ha hb (show zAF (fun _ x y f=>zCz (intEq x y) f) (.int k n) b f=.ok from h) fun k x y e1 e2 h3=>?_
   rw[zA3,intEq_ok] at h3;subst e1 e2;exact guarded _ h3 ⟨by simp,by simp⟩ (by simp[binOp,Op.intCmp])
  ·rename_i s
   have h0:zLO zAn s b f=.ok:=h;cases b<;>first|(cases h0;done)|skip
   rename_i s';have h1:zCz (zAn s s') f=.ok:=h0;rw[zA3,zAw] at h1;have e1:=yR ha;have e2:=yR hb;subst e1 e2;exact guarded _ h1 ⟨by simp,by simp⟩ (by simp[binOp,Op.stringOp])
 case neq=>
  have other:vV g t lit m a b f=.ok->(∀k n,a≠.int k n)->(∀s,a≠.str s)->yD P ι w f ((do eqGuard .neq t x y A B;binOp .neq t A B:Sem Value).run P w):=fun h0 n1 n2=>by
   obtain⟨r,h1,h2,h3,h4⟩:=zPW hg hflat hr ha hb (h0:eqK g t lit m a b (fun r=>zCz (Bool.not r) f)=.ok);replace h1:f (.bool (!r))=.ok:=zA3.symm.trans h1;refine guarded (!r) h1 ⟨h3,h4⟩ ?_;have e:binOp .neq t A B=(do pure (.bool (!(<- Op.equal t A B))):Sem Value):=zMy ha n1 n2;rw[e,rG,h2];rfl
  cases a<;>first|(exact other h (by simp) (by simp))|skip
  ·rename_i k n
   refine zH4 ha hb (show zAF (fun _ x y f=>zCz (Bool.not (intEq x y)) f) (.int k n) b f=.ok from h) fun k x y e1 e2 h3=>?_
   rw[zA3,intEq_ok] at h3;subst e1 e2;exact guarded _ h3 ⟨by simp,by simp⟩ (by simp[binOp,Op.intCmp];rfl)
  ·rename_i s
   have h0:zLO (fun x y=>Bool.not (zAn x y)) s b f=.ok:=h;cases b<;>first|(cases h0;done)|skip
   rename_i s';have h1:zCz (Bool.not (zAn s s')) f=.ok:=h0;rw[zA3,zAw] at h1;have e1:=yR ha;have e2:=yR hb;subst e1 e2;exact guarded _ h1 ⟨by simp,by simp⟩ (by simp[binOp,Op.stringOp])
end
